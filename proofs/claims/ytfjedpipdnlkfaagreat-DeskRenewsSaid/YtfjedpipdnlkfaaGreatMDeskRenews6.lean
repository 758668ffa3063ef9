/-
  Texts of this claim, part 6 of 7: an abstract machine over the model; what functions come to; plain laws.
-/
import Derived.Test.YtfjedpipdnlkfaaGreatMDeskRenews5
set_option maxRecDepth 100000
set_option linter.unusedVariables false
set_option linter.unusedSimpArgs false
namespace Go.Proofs.YtfjedpipdnlkfaaGreat.AM
open Go Go.Proofs.YtfjedpipdnlkfaaGreat
attribute [local irreducible] ACalls funT codeT codeQ LoopTo
attribute [local irreducible] cmpSt
def renewE (x:Entry) (now:Int):Entry:=⟨x.card,max x.seen now⟩
def cancelE (x:Entry) (s:Stamp) (now:Int):Entry:=⟨{ x.card with gone:=true,stamp:=s },now⟩
def overE (x:Entry) (o:Int) (s:Stamp):Entry:=⟨{ x.card with over:=o,stamp:=s },x.seen⟩
def regE (old:Entry) (inn:Bool) (c:Card) (now:Int):Entry:=⟨{ c with over:=if inn=true∧old.card.gone=false then old.card.over else 0,gone:=false },now⟩
def maxS (a b:Stamp):Stamp:=if cmpSt b a < 0 then a else b
def nextS (a:Stamp) (now nd:Int):Stamp:=⟨max a.t now,nd,if a.n < 9223372036854775807 then IntKind.i64.wrap (a.n+1) else a.n⟩
def lrenew_ann:Ann:={ fin:=some 0 }
@[simp] abbrev Ya_1 (v1_:Entry):Heap:=[⟨0,10,[[(AV.str ⟨#[]⟩),(AV.str ⟨#[]⟩),(AV.int .i64 0),(AV.int .i64 0),(AV.int .i64 0),(AV.int .i64 0),(AV.int .i64 0),(AV.int .i64 0),(AV.bool false),(AV.int .i64 0)]],none⟩,⟨0,10,[(Entry.row v1_)],none⟩]
theorem lrenew_spec (x : Entry) (now : Int) (hg : x.card.gone = false) : ACalls Tryz.prog 109 [(.agg (Entry.row x)), (.int .i64 now)] ([] : Heap) ((AV.tup [(.agg (Entry.row (renewE x now))), (.bool true)]), ([] : Heap)) :=
  specO (fn := Tryz.f109) (ann := lrenew_ann) (Has.o Tryz.func109) (.r (.g (.r (.h' (Ya_1 x) (.y 2 (AV.bool x.card.gone) (AV.bool false) (Yes.bool (hg)) (.g (.no (.r (.y 3 (.int .i64 (if now > x.seen then now else x.seen)) (AV.int .i64 (max x.seen now)) (Yes.int (by split <;> omega)) (.g (.r (.g (.h' ([] : Heap) (.f 0 (AV.tup [(AV.agg [(AV.str x.card.key.app), (AV.str x.card.key.id), (AV.int .i64 x.card.status), (AV.int .i64 x.card.over), (AV.int .i64 x.card.lease), (AV.int .i64 x.card.stamp.t), (AV.int .i64 x.card.stamp.node), (AV.int .i64 x.card.stamp.n), (AV.bool x.card.gone), (AV.int .i64 (max x.seen now))]), (AV.bool true)]) (.e (AV.tup [(AV.agg [(AV.str x.card.key.app), (AV.str x.card.key.id), (AV.int .i64 x.card.status), (AV.int .i64 x.card.over), (AV.int .i64 x.card.lease), (AV.int .i64 x.card.stamp.t), (AV.int .i64 x.card.stamp.node), (AV.int .i64 x.card.stamp.n), (AV.bool x.card.gone), (AV.int .i64 (max x.seen now))]), (AV.bool true)]) (by
        try delta Ya_1
        unfold renewE
        rfl))))))))))))))))
theorem lrenew_at (x:Entry) (now:Int) (hg:x.card.gone=false) (H:Heap):ACalls Tryz.prog 109 [(.agg (Entry.row x)),(.int .i64 now)] H ((AV.tup [(.agg (Entry.row (renewE x now))),(.bool true)]),H):=(lrenew_spec x now hg).lift kr kr H
def lcancel_ann:Ann:={ refs:=[4],fin:=some 0 }
theorem lcancel_spec (x:Entry) (s:Stamp) (now:Int) (hg:x.card.gone=false):ACalls Tryz.prog 64 [(.agg (Entry.row x)),(.agg (Stamp.row s)),(.int .i64 now)] ([]:Heap) ((AV.tup [(.agg (Entry.row (cancelE x s now))),(.bool true)]),([]:Heap)) :=
 specO (fn:=Tryz.f64) (ann:=lcancel_ann) (Has.o Tryz.func64) (.r (.g (.r (.h' (Ya_1 x) (.y 2 (AV.bool x.card.gone) (AV.bool false) (Yes.bool (hg)) (.g (.no (.r (.g (.r (.g (.h' ([]:Heap) (.f 0 (AV.tup [(AV.agg [(AV.str x.card.key.app),(AV.str x.card.key.id),(AV.int .i64 x.card.status),(AV.int .i64 x.card.over),(AV.int .i64 x.card.lease),(AV.int .i64 s.t),(AV.int .i64 s.node),(AV.int .i64 s.n),(AV.bool true),(AV.int .i64 now)]),(AV.bool true)]) (.e (AV.tup [(AV.agg [(AV.str x.card.key.app),(AV.str x.card.key.id),(AV.int .i64 x.card.status),(AV.int .i64 x.card.over),(AV.int .i64 x.card.lease),(AV.int .i64 s.t),(AV.int .i64 s.node),(AV.int .i64 s.n),(AV.bool true),(AV.int .i64 now)]),(AV.bool true)])))))))))))))))
theorem lcancel_at (x:Entry) (s:Stamp) (now:Int) (hg:x.card.gone=false) (H:Heap):ACalls Tryz.prog 64 [(.agg (Entry.row x)),(.agg (Stamp.row s)),(.int .i64 now)] H ((AV.tup [(.agg (Entry.row (cancelE x s now))),(.bool true)]),H):=(lcancel_spec x s now hg).lift kr kr H
def lover_ann:Ann:={ refs:=[5],fin:=some 0 }
theorem lover_spec (x : Entry) (o : Int) (s : Stamp) (hg : x.card.gone = false) (h0 : 0 ≤ o) (h3 : o ≤ 3) : ACalls Tryz.prog 111 [(.agg (Entry.row x)), (.int .i64 o), (.agg (Stamp.row s))] ([] : Heap) ((AV.tup [(.agg (Entry.row (overE x o s))), (.bool true)]), ([] : Heap)) :=
  specO (fn := Tryz.f111) (ann := lover_ann) (Has.o Tryz.func111) (.r (.g (.r (.two x.card.gone (fun h1 h1' => (.yes (.yes (.yes (.g (.yes (.r (.g (.f 0 (AV.tup [(AV.agg [(AV.str ⟨#[]⟩), (AV.str ⟨#[]⟩), (AV.int .i64 0), (AV.int .i64 0), (AV.int .i64 0), (AV.int .i64 0), (AV.int .i64 0), (AV.int .i64 0), (AV.bool false), (AV.int .i64 0)]), (AV.bool false)]) (.e (AV.tup [(AV.agg [(AV.str ⟨#[]⟩), (AV.str ⟨#[]⟩), (AV.int .i64 0), (AV.int .i64 0), (AV.int .i64 0), (AV.int .i64 0), (AV.int .i64 0), (AV.int .i64 0), (AV.bool false), (AV.int .i64 0)]), (AV.bool false)]) (by
        first | rfl | (exfalso; simp only [hg, decide_eq_true_eq, Bool.false_eq_true] at * <;> omega)))))))))))) (fun h1 h1' => (.no (.two (decide (o < 0)) (fun h2 h2' => (.yes (.g (.yes (.r (.g (.f 0 (AV.tup [(AV.agg [(AV.str ⟨#[]⟩), (AV.str ⟨#[]⟩), (AV.int .i64 0), (AV.int .i64 0), (AV.int .i64 0), (AV.int .i64 0), (AV.int .i64 0), (AV.int .i64 0), (AV.bool false), (AV.int .i64 0)]), (AV.bool false)]) (.e (AV.tup [(AV.agg [(AV.str ⟨#[]⟩), (AV.str ⟨#[]⟩), (AV.int .i64 0), (AV.int .i64 0), (AV.int .i64 0), (AV.int .i64 0), (AV.int .i64 0), (AV.int .i64 0), (AV.bool false), (AV.int .i64 0)]), (AV.bool false)]) (by
        first | rfl | (exfalso; simp only [hg, decide_eq_true_eq, Bool.false_eq_true] at * <;> omega)))))))))) (fun h2 h2' => (.no (.g (.two (decide (o > 3)) (fun h3 h3' => (.r (.g (.f 0 (AV.tup [(AV.agg [(AV.str ⟨#[]⟩), (AV.str ⟨#[]⟩), (AV.int .i64 0), (AV.int .i64 0), (AV.int .i64 0), (AV.int .i64 0), (AV.int .i64 0), (AV.int .i64 0), (AV.bool false), (AV.int .i64 0)]), (AV.bool false)]) (.e (AV.tup [(AV.agg [(AV.str ⟨#[]⟩), (AV.str ⟨#[]⟩), (AV.int .i64 0), (AV.int .i64 0), (AV.int .i64 0), (AV.int .i64 0), (AV.int .i64 0), (AV.int .i64 0), (AV.bool false), (AV.int .i64 0)]), (AV.bool false)]) (by
        first | rfl | (exfalso; simp only [hg, decide_eq_true_eq, Bool.false_eq_true] at * <;> omega))))))) (fun h3 h3' => (.r (.g (.r (.g (.f 0 (AV.tup [(AV.agg [(AV.str x.card.key.app), (AV.str x.card.key.id), (AV.int .i64 x.card.status), (AV.int .i64 o), (AV.int .i64 x.card.lease), (AV.int .i64 s.t), (AV.int .i64 s.node), (AV.int .i64 s.n), (AV.bool x.card.gone), (AV.int .i64 x.seen)]), (AV.bool true)]) (.e (AV.tup [(AV.agg [(AV.str x.card.key.app), (AV.str x.card.key.id), (AV.int .i64 x.card.status), (AV.int .i64 o), (AV.int .i64 x.card.lease), (AV.int .i64 s.t), (AV.int .i64 s.node), (AV.int .i64 s.n), (AV.bool x.card.gone), (AV.int .i64 x.seen)]), (AV.bool true)]) (by
        first | rfl | (exfalso; simp only [hg, decide_eq_true_eq, Bool.false_eq_true] at * <;> omega))))))))))))))))))))
theorem lover_at (x:Entry) (o:Int) (s:Stamp) (hg:x.card.gone=false) (h0:0≤o) (h3:o≤3) (H:Heap):ACalls Tryz.prog 111 [(.agg (Entry.row x)),(.int .i64 o),(.agg (Stamp.row s))] H ((AV.tup [(.agg (Entry.row (overE x o s))),(.bool true)]),H):=(lover_spec x o s hg h0 h3).lift kr kr H
def lreg_ann:Ann:={ refs:=[4],fin:=some 0 }
theorem lreg_spec (old : Entry) (inn : Bool) (c : Card) (now : Int)  : ACalls Tryz.prog 175 [(.agg (Entry.row old)), (.bool inn), (.agg (Card.row c)), (.int .i64 now)] ([] : Heap) ((AV.agg (Entry.row (regE old inn c now))), ([] : Heap)) :=
  specO (fn := Tryz.f175) (ann := lreg_ann) (Has.o Tryz.func175) (.r (.g (.r (.g (.r (.two inn (fun h1 h1' => (.yes (.yes (.yes (.g (.two (!old.card.gone) (fun h2 h2' => (.r (.g (.r (.g (.f 0 (AV.agg [(AV.str c.key.app), (AV.str c.key.id), (AV.int .i64 c.status), (AV.int .i64 old.card.over), (AV.int .i64 c.lease), (AV.int .i64 c.stamp.t), (AV.int .i64 c.stamp.node), (AV.int .i64 c.stamp.n), (AV.bool false), (AV.int .i64 now)]) (.e (AV.agg [(AV.str c.key.app), (AV.str c.key.id), (AV.int .i64 c.status), (AV.int .i64 old.card.over), (AV.int .i64 c.lease), (AV.int .i64 c.stamp.t), (AV.int .i64 c.stamp.node), (AV.int .i64 c.stamp.n), (AV.bool false), (AV.int .i64 now)]) (by
        unfold regE
        rw [if_pos ⟨h1, by simpa using h2⟩]
        rfl)))))))) (fun h2 h2' => (.r (.g (.f 0 (AV.agg [(AV.str c.key.app), (AV.str c.key.id), (AV.int .i64 c.status), (AV.int .i64 0), (AV.int .i64 c.lease), (AV.int .i64 c.stamp.t), (AV.int .i64 c.stamp.node), (AV.int .i64 c.stamp.n), (AV.bool false), (AV.int .i64 now)]) (.e (AV.agg [(AV.str c.key.app), (AV.str c.key.id), (AV.int .i64 c.status), (AV.int .i64 0), (AV.int .i64 c.lease), (AV.int .i64 c.stamp.t), (AV.int .i64 c.stamp.node), (AV.int .i64 c.stamp.n), (AV.bool false), (AV.int .i64 now)]) (by
        unfold regE
        rw [if_neg (fun q => by rw [q.2] at h2; simp at h2)]
        rfl)))))))))))) (fun h1 h1' => (.no (.no (.no (.g (.no (.r (.g (.f 0 (AV.agg [(AV.str c.key.app), (AV.str c.key.id), (AV.int .i64 c.status), (AV.int .i64 0), (AV.int .i64 c.lease), (AV.int .i64 c.stamp.t), (AV.int .i64 c.stamp.node), (AV.int .i64 c.stamp.n), (AV.bool false), (AV.int .i64 now)]) (.e (AV.agg [(AV.str c.key.app), (AV.str c.key.id), (AV.int .i64 c.status), (AV.int .i64 0), (AV.int .i64 c.lease), (AV.int .i64 c.stamp.t), (AV.int .i64 c.stamp.node), (AV.int .i64 c.stamp.n), (AV.bool false), (AV.int .i64 now)]) (by
        unfold regE
        rw [if_neg (fun q => by rw [q.1] at h1; simp at h1)]
        rfl)))))))))))))))))
theorem lreg_at (old:Entry) (inn:Bool) (c:Card) (now:Int)  (H:Heap):ACalls Tryz.prog 175 [(.agg (Entry.row old)),(.bool inn),(.agg (Card.row c)),(.int .i64 now)] H ((AV.agg (Entry.row (regE old inn c now))),H):=(lreg_spec old inn c now ).lift kr kr H
def snext_ann:Ann:={ refs:=[3],fin:=some 0 }
@[simp] abbrev Ya_2 :Heap:=[⟨0,3,[[(AV.int .i64 0),(AV.int .i64 0),(AV.int .i64 0)]],none⟩]
theorem snext_spec (a : Stamp) (now nd : Int)  : ACalls Tryz.prog 124 [(.agg (Stamp.row a)), (.int .i64 now), (.int .i64 nd)] ([] : Heap) ((AV.agg (Stamp.row (nextS a now nd))), ([] : Heap)) :=
  specO (fn := Tryz.f124) (ann := snext_ann) (Has.o Tryz.func124) (.r (.g (.r (.g (.r (.g (.two (decide (a.n < 9223372036854775807)) (fun h1 h1' => (.r (.g (.r (.h' Ya_2 (.y 3 (.int .i64 (if now > a.t then now else a.t)) (AV.int .i64 (max a.t now)) (Yes.int (by split <;> omega)) (.g (.h' ([] : Heap) (.f 0 (AV.agg [(AV.int .i64 (max a.t now)), (AV.int .i64 nd), (AV.int .i64 (IntKind.i64.wrap (a.n + 1)))]) (.e (AV.agg [(AV.int .i64 (max a.t now)), (AV.int .i64 nd), (AV.int .i64 (IntKind.i64.wrap (a.n + 1)))]) (by
        try delta Ya_2
        unfold nextS
        rw [if_pos (of_decide_eq_true h1)]
        first | done | rfl))))))))))) (fun h1 h1' => (.r (.h' Ya_2 (.y 3 (.int .i64 (if now > a.t then now else a.t)) (AV.int .i64 (max a.t now)) (Yes.int (by split <;> omega)) (.g (.h' ([] : Heap) (.f 0 (AV.agg [(AV.int .i64 (max a.t now)), (AV.int .i64 nd), (AV.int .i64 a.n)]) (.e (AV.agg [(AV.int .i64 (max a.t now)), (AV.int .i64 nd), (AV.int .i64 a.n)]) (by
        try delta Ya_2
        unfold nextS
        rw [if_neg (of_decide_eq_false h1)]
        first | done | rfl))))))))))))))))
theorem snext_at (a:Stamp) (now nd:Int)  (H:Heap):ACalls Tryz.prog 124 [(.agg (Stamp.row a)),(.int .i64 now),(.int .i64 nd)] H ((AV.agg (Stamp.row (nextS a now nd))),H):=(snext_spec a now nd ).lift kr kr H
theorem stamp_eq_of_eqb {a b:Stamp} (h:Stamp.eqb a b=true):a=b:=by
 cases a; cases b
 simp [Stamp.eqb] at h
 simp [h]
def smax_ann:Ann:={ refs:=[2,3],fin:=some 0 }
theorem smax_spec (a b : Stamp)  : ACalls Tryz.prog 125 [(.agg (Stamp.row a)), (.agg (Stamp.row b))] ([] : Heap) ((AV.agg (Stamp.row (maxS a b))), ([] : Heap)) :=
  specO (fn := Tryz.f125) (ann := smax_ann) (Has.o Tryz.func125) (.r (.g (.r (.c 2 (stLess_at b a  Ya_2) (.g (.two (decide (cmpSt b a < 0)) (fun h1 h1' => (.r (.g (.f 0 (AV.agg (Stamp.row a)) (.e (AV.agg (Stamp.row a)) (by
        try delta Ya_2
        unfold maxS
        rw [if_pos (of_decide_eq_true h1)])))))) (fun h1 h1' => (.r (.g (.two (Stamp.eqb a b) (fun h2 h2' => (.r (.g (.f 0 (AV.agg (Stamp.row a)) (.e (AV.agg (Stamp.row a)) (by
        try delta Ya_2
        unfold maxS
        rw [if_neg (of_decide_eq_false h1)]
        obtain rfl := stamp_eq_of_eqb h2
        first | done | rfl)))))) (fun h2 h2' => (.r (.g (.f 0 (AV.agg (Stamp.row b)) (.e (AV.agg (Stamp.row b)) (by
        try delta Ya_2
        unfold maxS
        rw [if_neg (of_decide_eq_false h1)]
        first | done | rfl))))))))))))))))
theorem smax_at (a b:Stamp)  (H:Heap):ACalls Tryz.prog 125 [(.agg (Stamp.row a)),(.agg (Stamp.row b))] H ((AV.agg (Stamp.row (maxS a b))),H):=(smax_spec a b ).lift kr kr H
def grenew_ann:Ann:={ base:=1,fin:=some 1 }
@[simp] abbrev Ya_3 (v1_:Int) (v2_:Int) (v3_:Int):Heap:=[⟨0,3,[[(AV.int .i64 v1_),(AV.int .i64 v2_),(AV.int .i64 v3_)]],none⟩]
@[simp] abbrev Ya_4 (v1_:Int) (v2_:Int) (v3_:Int):Heap:=[⟨0,3,[[(AV.int .i64 v1_),(AV.int .i64 v2_),(AV.int .i64 (min (v3_+1) 1048576))]],none⟩]
theorem grenew_spec (a b c : Int) (h1 : 0 ≤ c) (h2 : c < 4611686018427387904) : ACalls Tryz.prog 110 [(.obj 0 0 0 0)] (Ya_3 a b c) ((AV.tup []), (Ya_4 a b c)) :=
  specO (fn := Tryz.f110) (ann := grenew_ann) (Has.o Tryz.func110) (.r (.y 5 (.int .i64 (IntKind.i64.wrap (c + 1))) (AV.int .i64 (c + 1)) (Yes.add ow ow rfl) (.y 6 (.int .i64 (if 1048576 < (c + 1) then 1048576 else (c + 1))) (AV.int .i64 (min (c + 1) 1048576)) (Yes.int (by split <;> omega)) (.g (.h' (Ya_4 a b c) (.f 1 (AV.tup []) (.e (AV.tup []) (by
        try delta Ya_3 Ya_4
        first | rfl | (simp [Int.min_comm]; done)))))))))
end Go.Proofs.YtfjedpipdnlkfaaGreat.AM

set_option maxRecDepth 100000
set_option linter.unusedVariables false
set_option linter.unusedSimpArgs false
namespace Go.Proofs.YtfjedpipdnlkfaaGreat.AM
open Go Go.Proofs.YtfjedpipdnlkfaaGreat
attribute [local irreducible] ACalls funT codeT codeQ LoopTo
attribute [local irreducible] cmpSt maxS nextS setA setG putE putL putG
def dnext_ann:Ann:={ refs:=[4],base:=6,fin:=some 6 }
@[simp] abbrev Yb_o1 (v1_:Nat) (v2_:List Entry):Ob:=⟨0,2,[[(AV.int .i64 (capM 32)),(AV.osl 1 v1_ 10 0 (List.length v2_))]],none⟩
@[simp] abbrev Yb_o2 (v1_:Int) (v2_:Int) (v3_:Int):Ob:=⟨0,3,[[(AV.int .i64 v1_),(AV.int .i64 v2_),(AV.int .i64 v3_)]],none⟩
@[simp] abbrev Yb_o3 (v1_:List Key) (v2_:Nat):Ob:=⟨0,2,[[(AV.int .i64 (((List.length v1_):Nat):Int)),(AV.osl 4 v2_ 2 0 (List.length (recL v1_)))]],none⟩
@[simp] abbrev Yb_o4 (v1_:Int) (v2_:Stamp):Ob:=⟨0,7,[[(AV.int .i64 v1_),(AV.int .i64 v2_.t),(AV.int .i64 v2_.node),(AV.int .i64 v2_.n),(AV.obj 0 0 0 0),(AV.obj 2 0 0 0),(AV.obj 3 0 0 0)]],none⟩
@[simp] abbrev Yb_1 (v1_:Nat) (v2_:List Entry) (v3_:Int) (v4_:Int) (v5_:Int) (v6_:List Key) (v7_:Nat) (v8_:Int) (v9_:Stamp):Heap:=[Yb_o1 v1_ v2_,⟨v1_,10,(List.map Entry.row v2_),none⟩,Yb_o2 v3_ v4_ v5_,Yb_o3 v6_ v7_,⟨v7_,2,(List.map Key.row (recL v6_)),none⟩,Yb_o4 v8_ v9_]
@[simp] abbrev Yb_2 (v1_:Nat) (v2_:List Entry) (v3_:Int) (v4_:Int) (v5_:Int) (v6_:List Key) (v7_:Nat) (v8_:Int) (v9_:Stamp):Heap:=[Yb_o1 v1_ v2_,⟨v1_,10,(List.map Entry.row v2_),none⟩,Yb_o2 v3_ v4_ v5_,Yb_o3 v6_ v7_,⟨v7_,2,(List.map Key.row (recL v6_)),none⟩,Yb_o4 v8_ v9_,⟨0,3,[[(AV.int .i64 0),(AV.int .i64 0),(AV.int .i64 0)]],none⟩]
theorem dnext_spec (l:List Entry) (g:Nat) (al:List Key) (ga:Nat) (gf gl gt nd:Int) (st:Stamp) (c:Card) (now:Int) :ACalls Tryz.prog 65 [(.obj 5 0 0 0),(.agg (Card.row c)),(.int .i64 now)] (Yb_1 g l gf gl gt al ga nd st) ((AV.agg (Stamp.row (nextS (maxS st c.stamp) now nd))),(Yb_1 g l gf gl gt al ga nd st)) :=
 specO (fn:=Tryz.f65) (ann:=dnext_ann) (Has.o Tryz.func65) (.r (.g (.r (.c 6 (ACalls.pre (args:=[(AV.agg (Stamp.row st)),(AV.agg (Stamp.row c.stamp))]) (args':=[(AV.agg [(AV.int .i64 st.t),(AV.int .i64 st.node),(AV.int .i64 st.n)]),(AV.agg (Stamp.row c.stamp))]) (smax_at st c.stamp  (Yb_2 g l gf gl gt al ga nd st)) ⟨AV.wk_refl_any _,AV.wk_refl_any _,trivial⟩) (.c 12 (snext_at (maxS st c.stamp) now nd  (Yb_2 g l gf gl gt al ga nd st)) (.rd (AV.int .i64 nd) (Yb_2 g l gf gl gt al ga nd st) (.g (.f 6 (AV.agg (Stamp.row (nextS (maxS st c.stamp) now nd))) (.e (AV.agg (Stamp.row (nextS (maxS st c.stamp) now nd))))))))))))
def givC (l:List Entry) (x:Entry):List Card:=if (putE (capM 32) l x == 0)=true then [x.card] else []
def givS (l:List Entry) (x:Entry) (st:Stamp):Stamp:=if (putE (capM 32) l x == 0)=true then x.card.stamp else st
def dgiveY_ann:Ann:={ refs:=[3],gha:=[(3,.any 4 9),(5,.any 4 9)],base:=6,fin:=some 6 }
@[simp] abbrev Yb_o5 (v1_:List Entry) (v2_:Entry) (v3_:Nat):Ob:=⟨0,2,[[(AV.int .i64 (capM 32)),(AV.osl 1 (putG (capM 32) v1_ v2_ v3_) 10 0 (List.length (putL (capM 32) v1_ v2_)))]],none⟩
@[simp] abbrev Yb_o6 (v1_:List Entry) (v2_:Entry) (v3_:Nat):Ob:=⟨(putG (capM 32) v1_ v2_ v3_),10,(List.map Entry.row (putL (capM 32) v1_ v2_)),none⟩
@[simp] abbrev Yb_o7 (v1_:List Entry) (v2_:Entry) (v3_:List Key) (v4_:Nat):Ob:=⟨0,2,[[(AV.int .i64 (((List.length (setA v1_ v2_ v3_)):Nat):Int)),(AV.osl 4 (setG v1_ v2_ v4_) 2 0 (List.length (recL (setA v1_ v2_ v3_))))]],none⟩
@[simp] abbrev Yb_o8 (v1_:List Entry) (v2_:Entry) (v3_:Nat) (v4_:List Key):Ob:=⟨(setG v1_ v2_ v3_),2,(List.map Key.row (recL (setA v1_ v2_ v4_))),none⟩
@[simp] abbrev Yb_3 (v1_:List Entry) (v2_:Entry) (v3_:Nat) (v4_:Int) (v5_:Int) (v6_:Int) (v7_:List Key) (v8_:Nat) (v9_:Int):Heap:=[Yb_o5 v1_ v2_ v3_,Yb_o6 v1_ v2_ v3_,Yb_o2 v4_ v5_ v6_,Yb_o7 v1_ v2_ v7_ v8_,Yb_o8 v1_ v2_ v8_ v7_,⟨0,7,[[(AV.int .i64 v9_),(AV.int .i64 v2_.card.stamp.t),(AV.int .i64 v2_.card.stamp.node),(AV.int .i64 v2_.card.stamp.n),(AV.obj 0 0 0 0),(AV.obj 2 0 0 0),(AV.obj 3 0 0 0)]],none⟩]
@[simp] abbrev Yb_4 (v1_:List Entry) (v2_:Entry) (v3_:Nat) (v4_:Int) (v5_:Int) (v6_:Int) (v7_:List Key) (v8_:Nat) (v9_:Int) (v10_:Stamp):Heap:=[Yb_o5 v1_ v2_ v3_,Yb_o6 v1_ v2_ v3_,Yb_o2 v4_ v5_ v6_,Yb_o7 v1_ v2_ v7_ v8_,Yb_o8 v1_ v2_ v8_ v7_,Yb_o4 v9_ v10_]
theorem dgiveY_spec (l:List Entry) (g:Nat) (al:List Key) (ga:Nat) (gf gl gt nd:Int) (st:Stamp) (x:Entry) (hl:l.length < 1000) (ha:al.length < 100000) (h:((putE (capM 32) l x) == 0)=true):ACalls Tryz.prog 66 [(.obj 5 0 0 0),(.agg (Entry.row x))] (Yb_1 g l gf gl gt al ga nd st) ((AV.tup [(.sl .any 9 (List.map Card.row [x.card])),(.int .i64 0)]),(Yb_3 l x g gf gl gt al ga nd)) :=
 specO (fn:=Tryz.f66) (ann:=dgiveY_ann) (Has.o Tryz.func66) (.r (.g (.r (.ch 2 (Yb_4 l x g gf gl gt al ga nd st) (dset_at l g al ga gf gl gt nd st.t st.node st.n x oa oa ([]:Heap)) (.g (.r (.y 1 (AV.bool ((putE (capM 32) l x) != 0)) (AV.bool false) (Yes.bool (by have q:=eq_of_beq h; rw [q]; rfl)) (.g (.no (.r (.g (.r (.g (.h' (Yb_3 l x g gf gl gt al ga nd) (.f 6 (AV.tup [(AV.sl .any 9 [(Card.row x.card)]),(AV.int .i64 0)]) (.e (AV.tup [(AV.sl .any 9 [(Card.row x.card)]),(AV.int .i64 0)])))))))))))))))))
def dgiveN_ann:Ann:={ refs:=[3],gha:=[(3,.any 4 9),(5,.any 4 9)],base:=6,fin:=some 6 }
theorem dgiveN_spec (l:List Entry) (g:Nat) (al:List Key) (ga:Nat) (gf gl gt nd:Int) (st:Stamp) (x:Entry) (hl:l.length < 1000) (ha:al.length < 100000) (h:((putE (capM 32) l x) == 0)=false):ACalls Tryz.prog 66 [(.obj 5 0 0 0),(.agg (Entry.row x))] (Yb_1 g l gf gl gt al ga nd st) ((AV.tup [(.sl .any 9 (List.map Card.row ([]:List Card))),(.int .i64 (putE (capM 32) l x))]),(Yb_4 l x g gf gl gt al ga nd st)) :=
 specO (fn:=Tryz.f66) (ann:=dgiveN_ann) (Has.o Tryz.func66) (.r (.g (.r (.ch 2 (Yb_4 l x g gf gl gt al ga nd st) (dset_at l g al ga gf gl gt nd st.t st.node st.n x oa oa ([]:Heap)) (.g (.r (.y 1 (AV.bool ((putE (capM 32) l x) != 0)) (AV.bool true) (Yes.bool (by rw [bne,h]; rfl)) (.g (.yes (.r (.g (.f 6 (AV.tup [(AV.sl .any 9 []),(AV.int .i64 (putE (capM 32) l x))]) (.e (AV.tup [(AV.sl .any 9 []),(AV.int .i64 (putE (capM 32) l x))]))))))))))))))
theorem dgive_spec (l:List Entry) (g:Nat) (al:List Key) (ga:Nat) (gf gl gt nd:Int) (st:Stamp) (x:Entry) (hl:l.length < 1000) (ha:al.length < 100000):ACalls Tryz.prog 66 [(.obj 5 0 0 0),(.agg (Entry.row x))] ([⟨0,2,[[(.int .i64 (capM 32)),(.osl 1 g 10 0 (List.length l))]],none⟩,⟨g,10,(List.map Entry.row l),none⟩,⟨0,3,[[(.int .i64 gf),(.int .i64 gl),(.int .i64 gt)]],none⟩,⟨0,2,[[(.int .i64 (((List.length al):Nat):Int)),(.osl 4 ga 2 0 (List.length (recL al)))]],none⟩,⟨ga,2,(List.map Key.row (recL al)),none⟩,⟨0,7,[[(.int .i64 nd),(.int .i64 st.t),(.int .i64 st.node),(.int .i64 st.n),(.obj 0 0 0 0),(.obj 2 0 0 0),(.obj 3 0 0 0)]],none⟩]:Heap) ((AV.tup [(.sl .any 9 (List.map Card.row (givC l x))),(.int .i64 (putE (capM 32) l x))]),([⟨0,2,[[(.int .i64 (capM 32)),(.osl 1 (putG (capM 32) l x g) 10 0 (List.length (putL (capM 32) l x)))]],none⟩,⟨(putG (capM 32) l x g),10,(List.map Entry.row (putL (capM 32) l x)),none⟩,⟨0,3,[[(.int .i64 gf),(.int .i64 gl),(.int .i64 gt)]],none⟩,⟨0,2,[[(.int .i64 (((List.length (setA l x al)):Nat):Int)),(.osl 4 (setG l x ga) 2 0 (List.length (recL (setA l x al))))]],none⟩,⟨(setG l x ga),2,(List.map Key.row (recL (setA l x al))),none⟩,⟨0,7,[[(.int .i64 nd),(.int .i64 (givS l x st).t),(.int .i64 (givS l x st).node),(.int .i64 (givS l x st).n),(.obj 0 0 0 0),(.obj 2 0 0 0),(.obj 3 0 0 0)]],none⟩]:Heap)):=by
 unfold givC givS
 cases h:(putE (capM 32) l x == 0) with
 | true=>rw [if_pos rfl,if_pos rfl,eq_of_beq h]; exact dgiveY_spec l g al ga gf gl gt nd st x hl ha h
 | false=>rw [if_neg (by simp),if_neg (by simp)]; exact dgiveN_spec l g al ga gf gl gt nd st x hl ha h
theorem dgive_at (l:List Entry) (g:Nat) (al:List Key) (ga:Nat) (gf gl gt nd:Int) (st:Stamp) (x:Entry) (hl:l.length < 1000) (ha:al.length < 100000) (H:Heap):ACalls Tryz.prog 66 [(.obj 5 0 0 0),(.agg (Entry.row x))] ((Yb_1 g l gf gl gt al ga nd st)++H) ((AV.tup [(.sl .any 9 (List.map Card.row (givC l x))),(.int .i64 (putE (capM 32) l x))]),([⟨0,2,[[(.int .i64 (capM 32)),(.osl 1 (putG (capM 32) l x g) 10 0 (List.length (putL (capM 32) l x)))]],none⟩,⟨(putG (capM 32) l x g),10,(List.map Entry.row (putL (capM 32) l x)),none⟩,⟨0,3,[[(.int .i64 gf),(.int .i64 gl),(.int .i64 gt)]],none⟩,⟨0,2,[[(.int .i64 (((List.length (setA l x al)):Nat):Int)),(.osl 4 (setG l x ga) 2 0 (List.length (recL (setA l x al))))]],none⟩,⟨(setG l x ga),2,(List.map Key.row (recL (setA l x al))),none⟩,⟨0,7,[[(.int .i64 nd),(.int .i64 (givS l x st).t),(.int .i64 (givS l x st).node),(.int .i64 (givS l x st).n),(.obj 0 0 0 0),(.obj 2 0 0 0),(.obj 3 0 0 0)]],none⟩]:Heap)++H):=(dgive_spec l g al ga gf gl gt nd st x hl ha).ext kr kr ob ob kr H
def regX (q:Msg) (old:Entry) (inn:Bool) (st:Stamp) (now nd:Int):Entry:=regE old inn ⟨q.key,q.status,0,q.n,nextS (maxS st old.card.stamp) now nd,false⟩ now
def regQ (q:Msg):Prop:=1≤q.n∧q.n≤1048576∧(q.status=1∨q.status=2)
instance (q:Msg):Decidable (regQ q):=by unfold regQ; infer_instance
def dregN_ann:Ann:={ refs:=[6,7],gha:=[(2,.any 10 9)],base:=6,fin:=some 6 }
theorem dregN_spec (l:List Entry) (g:Nat) (al:List Key) (ga:Nat) (gf gl gt nd:Int) (st:Stamp) (q:Msg) (old:Entry) (inn:Bool) (now:Int) (r:¬ regQ q):ACalls Tryz.prog 108 [(.obj 5 0 0 0),(.agg (Msg.row q)),(.agg (Entry.row old)),(.bool inn),(.int .i64 now)] (Yb_1 g l gf gl gt al ga nd st) ((AV.tup [(.sl .any 9 (List.map Card.row ([]:List Card))),(.int .i64 1)]),(Yb_1 g l gf gl gt al ga nd st)) :=
 specO (fn:=Tryz.f108) (ann:=dregN_ann) (Has.o Tryz.func108) (.r (.g (.r (.two (decide (q.n < 1)) (fun h1 h1'=>(.yes (.yes (.yes (.yes (.yes (.yes (.yes (.g (.yes (.r (.g (.f 6 (AV.tup [(AV.sl .any 9 []),(AV.int .i64 1)]) (.e (AV.tup [(AV.sl .any 9 []),(AV.int .i64 1)]))))))))))))))) (fun h1 h1'=>(.no (.no (.two (decide (q.n > 1048576)) (fun h2 h2'=>(.yes (.yes (.yes (.yes (.g (.yes (.r (.g (.f 6 (AV.tup [(AV.sl .any 9 []),(AV.int .i64 1)]) (.e (AV.tup [(AV.sl .any 9 []),(AV.int .i64 1)])))))))))))) (fun h2 h2'=>(.no (.no (.y 11 (AV.bool (q.status != 1)) (AV.bool true) (Yes.bool (bne_iff_ne.2 (fun z=>r ⟨by have a:=of_decide_eq_false h1; omega,by have a:=of_decide_eq_false h2; omega,.inl z⟩))) (.no (.yes (.yes (.yes (.y 15 (AV.bool (q.status != 2)) (AV.bool true) (Yes.bool (bne_iff_ne.2 (fun z=>r ⟨by have a:=of_decide_eq_false h1; omega,by have a:=of_decide_eq_false h2; omega,.inr z⟩))) (.no (.g (.yes (.r (.g (.f 6 (AV.tup [(AV.sl .any 9 []),(AV.int .i64 1)]) (.e (AV.tup [(AV.sl .any 9 []),(AV.int .i64 1)])))))))))))))))))))))))))
def dregY_ann:Ann:={ refs:=[6,7],base:=6,fin:=some 6 }
@[simp] abbrev Yb_5 (v1_:Nat) (v2_:List Entry) (v3_:Int) (v4_:Int) (v5_:Int) (v6_:List Key) (v7_:Nat) (v8_:Int) (v9_:Stamp):Heap:=[Yb_o1 v1_ v2_,⟨v1_,10,(List.map Entry.row v2_),none⟩,Yb_o2 v3_ v4_ v5_,Yb_o3 v6_ v7_,⟨v7_,2,(List.map Key.row (recL v6_)),none⟩,Yb_o4 v8_ v9_,⟨0,9,[[(AV.str ⟨#[]⟩),(AV.str ⟨#[]⟩),(AV.int .i64 0),(AV.int .i64 0),(AV.int .i64 0),(AV.int .i64 0),(AV.int .i64 0),(AV.int .i64 0),(AV.bool false)]],none⟩]
@[simp] abbrev Yb_o9 (v1_:Msg) (v2_:Stamp) (v3_:Entry) (v4_:Int) (v5_:Int):Ob:=⟨0,9,[[(AV.str v1_.key.app),(AV.str v1_.key.id),(AV.int .i64 v1_.status),(AV.int .i64 0),(AV.int .i64 v1_.n),(AV.int .i64 (nextS (maxS v2_ v3_.card.stamp) v4_ v5_).t),(AV.int .i64 (nextS (maxS v2_ v3_.card.stamp) v4_ v5_).node),(AV.int .i64 (nextS (maxS v2_ v3_.card.stamp) v4_ v5_).n),(AV.bool false)]],none⟩
@[simp] abbrev Yb_6 (v1_:Nat) (v2_:List Entry) (v3_:Int) (v4_:Int) (v5_:Int) (v6_:List Key) (v7_:Nat) (v8_:Int) (v9_:Stamp) (v10_:Msg) (v11_:Entry) (v12_:Int):Heap:=[Yb_o1 v1_ v2_,⟨v1_,10,(List.map Entry.row v2_),none⟩,Yb_o2 v3_ v4_ v5_,Yb_o3 v6_ v7_,⟨v7_,2,(List.map Key.row (recL v6_)),none⟩,Yb_o4 v8_ v9_,Yb_o9 v10_ v9_ v11_ v12_ v8_]
@[simp] abbrev Yb_o10 (v1_:List Entry) (v2_:Entry) (v3_:Bool) (v4_:Msg) (v5_:Stamp) (v6_:Int) (v7_:Int) (v8_:Nat):Ob:=⟨0,2,[[(AV.int .i64 (capM 32)),(AV.osl 1 (putG (capM 32) v1_ (regE v2_ v3_ (Card.mk v4_.key v4_.status 0 v4_.n (nextS (maxS v5_ v2_.card.stamp) v6_ v7_) false) v6_) v8_) 10 0 (List.length (putL (capM 32) v1_ (regE v2_ v3_ (Card.mk v4_.key v4_.status 0 v4_.n (nextS (maxS v5_ v2_.card.stamp) v6_ v7_) false) v6_))))]],none⟩
@[simp] abbrev Yb_o11 (v1_:List Entry) (v2_:Entry) (v3_:Bool) (v4_:Msg) (v5_:Stamp) (v6_:Int) (v7_:Int) (v8_:Nat):Ob:=⟨(putG (capM 32) v1_ (regE v2_ v3_ (Card.mk v4_.key v4_.status 0 v4_.n (nextS (maxS v5_ v2_.card.stamp) v6_ v7_) false) v6_) v8_),10,(List.map Entry.row (putL (capM 32) v1_ (regE v2_ v3_ (Card.mk v4_.key v4_.status 0 v4_.n (nextS (maxS v5_ v2_.card.stamp) v6_ v7_) false) v6_))),none⟩
@[simp] abbrev Yb_o12 (v1_:List Entry) (v2_:Entry) (v3_:Bool) (v4_:Msg) (v5_:Stamp) (v6_:Int) (v7_:Int) (v8_:List Key) (v9_:Nat):Ob:=⟨0,2,[[(AV.int .i64 (((List.length (setA v1_ (regE v2_ v3_ (Card.mk v4_.key v4_.status 0 v4_.n (nextS (maxS v5_ v2_.card.stamp) v6_ v7_) false) v6_) v8_)):Nat):Int)),(AV.osl 4 (setG v1_ (regE v2_ v3_ (Card.mk v4_.key v4_.status 0 v4_.n (nextS (maxS v5_ v2_.card.stamp) v6_ v7_) false) v6_) v9_) 2 0 (List.length (recL (setA v1_ (regE v2_ v3_ (Card.mk v4_.key v4_.status 0 v4_.n (nextS (maxS v5_ v2_.card.stamp) v6_ v7_) false) v6_) v8_))))]],none⟩
@[simp] abbrev Yb_o13 (v1_:List Entry) (v2_:Entry) (v3_:Bool) (v4_:Msg) (v5_:Stamp) (v6_:Int) (v7_:Int) (v8_:Nat) (v9_:List Key):Ob:=⟨(setG v1_ (regE v2_ v3_ (Card.mk v4_.key v4_.status 0 v4_.n (nextS (maxS v5_ v2_.card.stamp) v6_ v7_) false) v6_) v8_),2,(List.map Key.row (recL (setA v1_ (regE v2_ v3_ (Card.mk v4_.key v4_.status 0 v4_.n (nextS (maxS v5_ v2_.card.stamp) v6_ v7_) false) v6_) v9_))),none⟩
@[simp] abbrev Yb_o14 (v1_:Int) (v2_:List Entry) (v3_:Entry) (v4_:Bool) (v5_:Msg) (v6_:Stamp) (v7_:Int):Ob:=⟨0,7,[[(AV.int .i64 v1_),(AV.int .i64 (givS v2_ (regE v3_ v4_ (Card.mk v5_.key v5_.status 0 v5_.n (nextS (maxS v6_ v3_.card.stamp) v7_ v1_) false) v7_) v6_).t),(AV.int .i64 (givS v2_ (regE v3_ v4_ (Card.mk v5_.key v5_.status 0 v5_.n (nextS (maxS v6_ v3_.card.stamp) v7_ v1_) false) v7_) v6_).node),(AV.int .i64 (givS v2_ (regE v3_ v4_ (Card.mk v5_.key v5_.status 0 v5_.n (nextS (maxS v6_ v3_.card.stamp) v7_ v1_) false) v7_) v6_).n),(AV.obj 0 0 0 0),(AV.obj 2 0 0 0),(AV.obj 3 0 0 0)]],none⟩
@[simp] abbrev Yb_7 (v1_:List Entry) (v2_:Entry) (v3_:Bool) (v4_:Msg) (v5_:Stamp) (v6_:Int) (v7_:Int) (v8_:Nat) (v9_:Int) (v10_:Int) (v11_:Int) (v12_:List Key) (v13_:Nat):Heap:=[Yb_o10 v1_ v2_ v3_ v4_ v5_ v6_ v7_ v8_,Yb_o11 v1_ v2_ v3_ v4_ v5_ v6_ v7_ v8_,Yb_o2 v9_ v10_ v11_,Yb_o12 v1_ v2_ v3_ v4_ v5_ v6_ v7_ v12_ v13_,Yb_o13 v1_ v2_ v3_ v4_ v5_ v6_ v7_ v13_ v12_,Yb_o14 v7_ v1_ v2_ v3_ v4_ v5_ v6_,Yb_o9 v4_ v5_ v2_ v6_ v7_]
@[simp] abbrev Yb_8 (v1_:Msg) (v2_:Stamp) (v3_:Entry) (v4_:Int) (v5_:Int):Heap:=[Yb_o9 v1_ v2_ v3_ v4_ v5_]
@[simp] abbrev Yb_9 (v1_:List Entry) (v2_:Entry) (v3_:Bool) (v4_:Msg) (v5_:Stamp) (v6_:Int) (v7_:Int) (v8_:Nat) (v9_:Int) (v10_:Int) (v11_:Int) (v12_:List Key) (v13_:Nat):Heap:=[Yb_o10 v1_ v2_ v3_ v4_ v5_ v6_ v7_ v8_,Yb_o11 v1_ v2_ v3_ v4_ v5_ v6_ v7_ v8_,Yb_o2 v9_ v10_ v11_,Yb_o12 v1_ v2_ v3_ v4_ v5_ v6_ v7_ v12_ v13_,Yb_o13 v1_ v2_ v3_ v4_ v5_ v6_ v7_ v13_ v12_,Yb_o14 v7_ v1_ v2_ v3_ v4_ v5_ v6_]
theorem dregY_spec (l:List Entry) (g:Nat) (al:List Key) (ga:Nat) (gf gl gt nd:Int) (st:Stamp) (q:Msg) (old:Entry) (inn:Bool) (now:Int) (hl:l.length < 1000) (ha:al.length < 100000) (r:regQ q):ACalls Tryz.prog 108 [(.obj 5 0 0 0),(.agg (Msg.row q)),(.agg (Entry.row old)),(.bool inn),(.int .i64 now)] (Yb_1 g l gf gl gt al ga nd st) ((AV.tup [(.sl .any 9 (List.map Card.row (givC l (regX q old inn st now nd)))),(.int .i64 (putE (capM 32) l (regX q old inn st now nd)))]),([⟨0,2,[[(.int .i64 (capM 32)),(.osl 1 (putG (capM 32) l (regX q old inn st now nd) g) 10 0 (List.length (putL (capM 32) l (regX q old inn st now nd))))]],none⟩,⟨(putG (capM 32) l (regX q old inn st now nd) g),10,(List.map Entry.row (putL (capM 32) l (regX q old inn st now nd))),none⟩,⟨0,3,[[(.int .i64 gf),(.int .i64 gl),(.int .i64 gt)]],none⟩,⟨0,2,[[(.int .i64 (((List.length (setA l (regX q old inn st now nd) al)):Nat):Int)),(.osl 4 (setG l (regX q old inn st now nd) ga) 2 0 (List.length (recL (setA l (regX q old inn st now nd) al))))]],none⟩,⟨(setG l (regX q old inn st now nd) ga),2,(List.map Key.row (recL (setA l (regX q old inn st now nd) al))),none⟩,⟨0,7,[[(.int .i64 nd),(.int .i64 (givS l (regX q old inn st now nd) st).t),(.int .i64 (givS l (regX q old inn st now nd) st).node),(.int .i64 (givS l (regX q old inn st now nd) st).n),(.obj 0 0 0 0),(.obj 2 0 0 0),(.obj 3 0 0 0)]],none⟩]:Heap)):=by
 obtain ⟨r1,r2,r3⟩:=r
 exact specO (fn:=Tryz.f108) (ann:=dregY_ann) (Has.o Tryz.func108) (.r (.g (.r (.y 2 (AV.bool (decide (q.n < 1))) (AV.bool false) (Yes.bool (decide_eq_false ow)) (.no (.no (.no (.y 6 (AV.bool (decide (q.n > 1048576))) (AV.bool false) (Yes.bool (decide_eq_false ow)) (.no (.no (.no (.no (.two (q.status != 1) (fun h1 h1'=>(.yes (.yes (.y 15 (AV.bool (q.status != 2)) (AV.bool false) (Yes.bool (by rcases r3 with r | r; (rw [r] at h1; simp at h1); (rw [r]; rfl))) (.no (.g (.no (.r (.c 10 (ACalls.put2 [0,1,2,3,4,5] (Yb_5 g l gf gl gt al ga nd st) (AV.agg (Stamp.row (nextS (maxS st old.card.stamp) now nd))) (Yb_5 g l gf gl gt al ga nd st) (dnext_spec l g al ga gf gl gt nd st old.card now ) (⟨rfl,⟨Ob.ren0 (Entry.rows_bdd 0 _),⟨rfl,⟨rfl,⟨Ob.ren0 (Key.rows_bdd 0 _),⟨rfl,trivial⟩⟩⟩⟩⟩⟩) (⟨rfl,⟨Ob.ren0 (Entry.rows_bdd 0 _),⟨rfl,⟨rfl,⟨Ob.ren0 (Key.rows_bdd 0 _),⟨rfl,trivial⟩⟩⟩⟩⟩⟩)) (.g (.r (.c 5 (ACalls.pre (args:=[(AV.agg (Entry.row old)),(AV.bool inn),(AV.agg (Card.row (Card.mk q.key q.status 0 q.n (nextS (maxS st old.card.stamp) now nd) false))),(AV.int .i64 now)]) (args':=[(AV.agg (Entry.row old)),(AV.bool inn),(AV.agg [(AV.str q.key.app),(AV.str q.key.id),(AV.int .i64 q.status),(AV.int .i64 0),(AV.int .i64 q.n),(AV.int .i64 (nextS (maxS st old.card.stamp) now nd).t),(AV.int .i64 (nextS (maxS st old.card.stamp) now nd).node),(AV.int .i64 (nextS (maxS st old.card.stamp) now nd).n),(AV.bool false)]),(AV.int .i64 now)]) (lreg_at old inn (Card.mk q.key q.status 0 q.n (nextS (maxS st old.card.stamp) now nd) false) now  (Yb_6 g l gf gl gt al ga nd st q old now)) ⟨AV.wk_refl_any _,AV.wk_refl_any _,AV.wk_refl_any _,AV.wk_refl_any _,trivial⟩) (.ch 6 (Yb_7 l old inn q st now nd g gf gl gt al ga) (dgive_at l g al ga gf gl gt nd st (regE old inn (Card.mk q.key q.status 0 q.n (nextS (maxS st old.card.stamp) now nd) false) now) oa oa (Yb_8 q st old now nd)) (.g (.h' (Yb_9 l old inn q st now nd g gf gl gt al ga) (.f 6 (AV.tup [(AV.sl .any 9 (List.map Card.row (givC l (regE old inn (Card.mk q.key q.status 0 q.n (nextS (maxS st old.card.stamp) now nd) false) now)))),(AV.int .i64 (putE (capM 32) l (regE old inn (Card.mk q.key q.status 0 q.n (nextS (maxS st old.card.stamp) now nd) false) now)))]) (.e (AV.tup [(AV.sl .any 9 (List.map Card.row (givC l (regE old inn (Card.mk q.key q.status 0 q.n (nextS (maxS st old.card.stamp) now nd) false) now)))),(AV.int .i64 (putE (capM 32) l (regE old inn (Card.mk q.key q.status 0 q.n (nextS (maxS st old.card.stamp) now nd) false) now)))])))))))))))))))))) (fun h1 h1'=>(.no (.no (.no (.g (.no (.r (.c 10 (ACalls.put2 [0,1,2,3,4,5] (Yb_5 g l gf gl gt al ga nd st) (AV.agg (Stamp.row (nextS (maxS st old.card.stamp) now nd))) (Yb_5 g l gf gl gt al ga nd st) (dnext_spec l g al ga gf gl gt nd st old.card now ) (⟨rfl,⟨Ob.ren0 (Entry.rows_bdd 0 _),⟨rfl,⟨rfl,⟨Ob.ren0 (Key.rows_bdd 0 _),⟨rfl,trivial⟩⟩⟩⟩⟩⟩) (⟨rfl,⟨Ob.ren0 (Entry.rows_bdd 0 _),⟨rfl,⟨rfl,⟨Ob.ren0 (Key.rows_bdd 0 _),⟨rfl,trivial⟩⟩⟩⟩⟩⟩)) (.g (.r (.c 5 (ACalls.pre (args:=[(AV.agg (Entry.row old)),(AV.bool inn),(AV.agg (Card.row (Card.mk q.key q.status 0 q.n (nextS (maxS st old.card.stamp) now nd) false))),(AV.int .i64 now)]) (args':=[(AV.agg (Entry.row old)),(AV.bool inn),(AV.agg [(AV.str q.key.app),(AV.str q.key.id),(AV.int .i64 q.status),(AV.int .i64 0),(AV.int .i64 q.n),(AV.int .i64 (nextS (maxS st old.card.stamp) now nd).t),(AV.int .i64 (nextS (maxS st old.card.stamp) now nd).node),(AV.int .i64 (nextS (maxS st old.card.stamp) now nd).n),(AV.bool false)]),(AV.int .i64 now)]) (lreg_at old inn (Card.mk q.key q.status 0 q.n (nextS (maxS st old.card.stamp) now nd) false) now  (Yb_6 g l gf gl gt al ga nd st q old now)) ⟨AV.wk_refl_any _,AV.wk_refl_any _,AV.wk_refl_any _,AV.wk_refl_any _,trivial⟩) (.ch 6 (Yb_7 l old inn q st now nd g gf gl gt al ga) (dgive_at l g al ga gf gl gt nd st (regE old inn (Card.mk q.key q.status 0 q.n (nextS (maxS st old.card.stamp) now nd) false) now) oa oa (Yb_8 q st old now nd)) (.g (.h' (Yb_9 l old inn q st now nd g gf gl gt al ga) (.f 6 (AV.tup [(AV.sl .any 9 (List.map Card.row (givC l (regE old inn (Card.mk q.key q.status 0 q.n (nextS (maxS st old.card.stamp) now nd) false) now)))),(AV.int .i64 (putE (capM 32) l (regE old inn (Card.mk q.key q.status 0 q.n (nextS (maxS st old.card.stamp) now nd) false) now)))]) (.e (AV.tup [(AV.sl .any 9 (List.map Card.row (givC l (regE old inn (Card.mk q.key q.status 0 q.n (nextS (maxS st old.card.stamp) now nd) false) now)))),(AV.int .i64 (putE (capM 32) l (regE old inn (Card.mk q.key q.status 0 q.n (nextS (maxS st old.card.stamp) now nd) false) now)))]))))))))))))))))))))))))))))))
def regC (l:List Entry) (q:Msg) (x:Entry):List Card:=if regQ q then givC l x else []
def regR (l:List Entry) (q:Msg) (x:Entry):Int:=if regQ q then putE (capM 32) l x else 1
def regL (l:List Entry) (q:Msg) (x:Entry):List Entry:=if regQ q then putL (capM 32) l x else l
def regG (l:List Entry) (q:Msg) (x:Entry) (g:Nat):Nat:=if regQ q then putG (capM 32) l x g else g
def regA (l:List Entry) (q:Msg) (x:Entry) (al:List Key):List Key:=if regQ q then setA l x al else al
def regGa (l:List Entry) (q:Msg) (x:Entry) (ga:Nat):Nat:=if regQ q then setG l x ga else ga
def regS (l:List Entry) (q:Msg) (x:Entry) (st:Stamp):Stamp:=if regQ q then givS l x st else st
theorem dreg_spec (l:List Entry) (g:Nat) (al:List Key) (ga:Nat) (gf gl gt nd:Int) (st:Stamp) (q:Msg) (old:Entry) (inn:Bool) (now:Int) (hl:l.length < 1000) (ha:al.length < 100000):ACalls Tryz.prog 108 [(.obj 5 0 0 0),(.agg (Msg.row q)),(.agg (Entry.row old)),(.bool inn),(.int .i64 now)] ([⟨0,2,[[(.int .i64 (capM 32)),(.osl 1 g 10 0 (List.length l))]],none⟩,⟨g,10,(List.map Entry.row l),none⟩,⟨0,3,[[(.int .i64 gf),(.int .i64 gl),(.int .i64 gt)]],none⟩,⟨0,2,[[(.int .i64 (((List.length al):Nat):Int)),(.osl 4 ga 2 0 (List.length (recL al)))]],none⟩,⟨ga,2,(List.map Key.row (recL al)),none⟩,⟨0,7,[[(.int .i64 nd),(.int .i64 st.t),(.int .i64 st.node),(.int .i64 st.n),(.obj 0 0 0 0),(.obj 2 0 0 0),(.obj 3 0 0 0)]],none⟩]:Heap) ((AV.tup [(.sl .any 9 (List.map Card.row (regC l q (regX q old inn st now nd)))),(.int .i64 (regR l q (regX q old inn st now nd)))]),([⟨0,2,[[(.int .i64 (capM 32)),(.osl 1 (regG l q (regX q old inn st now nd) g) 10 0 (List.length (regL l q (regX q old inn st now nd))))]],none⟩,⟨(regG l q (regX q old inn st now nd) g),10,(List.map Entry.row (regL l q (regX q old inn st now nd))),none⟩,⟨0,3,[[(.int .i64 gf),(.int .i64 gl),(.int .i64 gt)]],none⟩,⟨0,2,[[(.int .i64 (((List.length (regA l q (regX q old inn st now nd) al)):Nat):Int)),(.osl 4 (regGa l q (regX q old inn st now nd) ga) 2 0 (List.length (recL (regA l q (regX q old inn st now nd) al))))]],none⟩,⟨(regGa l q (regX q old inn st now nd) ga),2,(List.map Key.row (recL (regA l q (regX q old inn st now nd) al))),none⟩,⟨0,7,[[(.int .i64 nd),(.int .i64 (regS l q (regX q old inn st now nd) st).t),(.int .i64 (regS l q (regX q old inn st now nd) st).node),(.int .i64 (regS l q (regX q old inn st now nd) st).n),(.obj 0 0 0 0),(.obj 2 0 0 0),(.obj 3 0 0 0)]],none⟩]:Heap)):=by
 unfold regC regR regL regG regA regGa regS
 by_cases r:regQ q
 · rw [if_pos r,if_pos r,if_pos r,if_pos r,if_pos r,if_pos r,if_pos r]
   exact dregY_spec l g al ga gf gl gt nd st q old inn now hl ha r
 · rw [if_neg r,if_neg r,if_neg r,if_neg r,if_neg r,if_neg r,if_neg r]
   exact dregN_spec l g al ga gf gl gt nd st q old inn now r
theorem dreg_at (l:List Entry) (g:Nat) (al:List Key) (ga:Nat) (gf gl gt nd:Int) (st:Stamp) (q:Msg) (old:Entry) (inn:Bool) (now:Int) (hl:l.length < 1000) (ha:al.length < 100000) (H:Heap):ACalls Tryz.prog 108 [(.obj 5 0 0 0),(.agg (Msg.row q)),(.agg (Entry.row old)),(.bool inn),(.int .i64 now)] ((Yb_1 g l gf gl gt al ga nd st)++H) ((AV.tup [(.sl .any 9 (List.map Card.row (regC l q (regX q old inn st now nd)))),(.int .i64 (regR l q (regX q old inn st now nd)))]),([⟨0,2,[[(.int .i64 (capM 32)),(.osl 1 (regG l q (regX q old inn st now nd) g) 10 0 (List.length (regL l q (regX q old inn st now nd))))]],none⟩,⟨(regG l q (regX q old inn st now nd) g),10,(List.map Entry.row (regL l q (regX q old inn st now nd))),none⟩,⟨0,3,[[(.int .i64 gf),(.int .i64 gl),(.int .i64 gt)]],none⟩,⟨0,2,[[(.int .i64 (((List.length (regA l q (regX q old inn st now nd) al)):Nat):Int)),(.osl 4 (regGa l q (regX q old inn st now nd) ga) 2 0 (List.length (recL (regA l q (regX q old inn st now nd) al))))]],none⟩,⟨(regGa l q (regX q old inn st now nd) ga),2,(List.map Key.row (recL (regA l q (regX q old inn st now nd) al))),none⟩,⟨0,7,[[(.int .i64 nd),(.int .i64 (regS l q (regX q old inn st now nd) st).t),(.int .i64 (regS l q (regX q old inn st now nd) st).node),(.int .i64 (regS l q (regX q old inn st now nd) st).n),(.obj 0 0 0 0),(.obj 2 0 0 0),(.obj 3 0 0 0)]],none⟩]:Heap)++H):=(dreg_spec l g al ga gf gl gt nd st q old inn now hl ha).ext kr kr ob ob kr H
end Go.Proofs.YtfjedpipdnlkfaaGreat.AM

set_option maxRecDepth 100000
set_option linter.unusedVariables false
set_option linter.unusedSimpArgs false
namespace Go.Proofs.YtfjedpipdnlkfaaGreat.AM
open Go Go.Proofs.YtfjedpipdnlkfaaGreat
attribute [local irreducible] ACalls funT codeT codeQ LoopTo
attribute [local irreducible] cmpSt maxS nextS setA setG putE putL putG getE findB regE renewE cancelE overE givC givS regQ regC regR regL regG regA regGa regS
def tu4N_ann:Ann:={ refs:=[4],gha:=[(6,.any 6 9),(8,.any 6 9),(12,.any 6 9)],base:=6,fin:=some 6 }
@[simp] abbrev Yc_o1 (v1_:Nat) (v2_:List Entry):Ob:=⟨0,2,[[(AV.int .i64 (capM 32)),(AV.osl 1 v1_ 10 0 (List.length v2_))]],none⟩
@[simp] abbrev Yc_o2 (v1_:Int) (v2_:Int) (v3_:Int):Ob:=⟨0,3,[[(AV.int .i64 v1_),(AV.int .i64 v2_),(AV.int .i64 v3_)]],none⟩
@[simp] abbrev Yc_o3 (v1_:List Key) (v2_:Nat):Ob:=⟨0,2,[[(AV.int .i64 (((List.length v1_):Nat):Int)),(AV.osl 4 v2_ 2 0 (List.length (recL v1_)))]],none⟩
@[simp] abbrev Yc_o4 (v1_:Int) (v2_:Stamp):Ob:=⟨0,7,[[(AV.int .i64 v1_),(AV.int .i64 v2_.t),(AV.int .i64 v2_.node),(AV.int .i64 v2_.n),(AV.obj 0 0 0 0),(AV.obj 2 0 0 0),(AV.obj 3 0 0 0)]],none⟩
@[simp] abbrev Yc_1 (v1_:Nat) (v2_:List Entry) (v3_:Int) (v4_:Int) (v5_:Int) (v6_:List Key) (v7_:Nat) (v8_:Int) (v9_:Stamp):Heap:=[Yc_o1 v1_ v2_,⟨v1_,10,(List.map Entry.row v2_),none⟩,Yc_o2 v3_ v4_ v5_,Yc_o3 v6_ v7_,⟨v7_,2,(List.map Key.row (recL v6_)),none⟩,Yc_o4 v8_ v9_]
@[simp] abbrev Yc_o5 :Ob:=⟨0,10,[[(AV.str ⟨#[]⟩),(AV.str ⟨#[]⟩),(AV.int .i64 0),(AV.int .i64 0),(AV.int .i64 0),(AV.int .i64 0),(AV.int .i64 0),(AV.int .i64 0),(AV.bool false),(AV.int .i64 0)]],none⟩
@[simp] abbrev Yc_2 (v1_:Int) (v2_:Int) (v3_:Int) (v4_:List Key) (v5_:Nat) (v6_:Int) (v7_:Stamp):Heap:=[Yc_o2 v1_ v2_ v3_,Yc_o3 v4_ v5_,⟨v5_,2,(List.map Key.row (recL v4_)),none⟩,Yc_o4 v6_ v7_,Yc_o5]
@[simp] abbrev Yc_3 (v1_:Nat) (v2_:List Entry) (v3_:Int) (v4_:Int) (v5_:Int) (v6_:List Key) (v7_:Nat) (v8_:Int) (v9_:Stamp) (v10_:Msg):Heap:=[Yc_o1 v1_ v2_,⟨v1_,10,(List.map Entry.row v2_),none⟩,Yc_o2 v3_ v4_ v5_,Yc_o3 v6_ v7_,⟨v7_,2,(List.map Key.row (recL v6_)),none⟩,Yc_o4 v8_ v9_,⟨0,10,[(Entry.row (getE v2_ v10_.key))],none⟩]
theorem tu4N_spec (l:List Entry) (g:Nat) (al:List Key) (ga:Nat) (gf gl gt nd:Int) (st:Stamp) (q:Msg) (now:Int) (hl:l.length < 1000) (ha:al.length < 100000) (hgt:0≤gt∧gt < 4611686018427387904) (ho:q.op=4) (hs:3 < q.status):ACalls Tryz.prog 55 [(.obj 5 0 0 0),(.agg (Msg.row q)),(.int .i64 now)] (Yc_1 g l gf gl gt al ga nd st) ((AV.tup [(.sl .any 9 (List.map Card.row ([]:List Card))),(.int .i64 1)]),(Yc_1 g l gf gl gt al ga nd st)) :=
 specO (fn:=Tryz.f55) (ann:=tu4N_ann) (Has.o Tryz.func55) (.r (.g (.r (.c 6 (get_at (capM 32) l q.key g (List.length l) oa oa (Yc_2 gf gl gt al ga nd st)) (.g (.r (.two (findB l q.key) (fun h1 h1'=>(.yes (.yes (.yes (.g (.r (.h' (Yc_3 g l gf gl gt al ga nd st q) (.y 2 (AV.bool (q.op == 1)) (AV.bool false) (Yes.bool (by rw [ho]; rfl)) (.g (.no (.r (.y 2 (AV.bool (q.op == 4)) (AV.bool true) (Yes.bool (by rw [ho]; rfl)) (.yes (.yes (.yes (.y 6 (AV.bool (decide (q.status > 3))) (AV.bool true) (Yes.bool (decide_eq_true ow)) (.g (.yes (.r (.g (.h' (Yc_1 g l gf gl gt al ga nd st) (.f 6 (AV.tup [(AV.sl .any 9 []),(AV.int .i64 1)]) (.e (AV.tup [(AV.sl .any 9 []),(AV.int .i64 1)])))))))))))))))))))))))) (fun h1 h1'=>(.no (.no (.no (.g (.r (.h' (Yc_3 g l gf gl gt al ga nd st q) (.y 2 (AV.bool (q.op == 1)) (AV.bool false) (Yes.bool (by rw [ho]; rfl)) (.g (.no (.r (.y 2 (AV.bool (q.op == 4)) (AV.bool true) (Yes.bool (by rw [ho]; rfl)) (.yes (.yes (.yes (.y 6 (AV.bool (decide (q.status > 3))) (AV.bool true) (Yes.bool (decide_eq_true ow)) (.g (.yes (.r (.g (.h' (Yc_1 g l gf gl gt al ga nd st) (.f 6 (AV.tup [(AV.sl .any 9 []),(AV.int .i64 1)]) (.e (AV.tup [(AV.sl .any 9 []),(AV.int .i64 1)])))))))))))))))))))))))))))))))
def tu3_ann:Ann:={ refs:=[4],gha:=[(6,.any 6 9),(8,.any 6 9),(12,.any 6 9)],base:=6,fin:=some 6 }
@[simp] abbrev Yc_4 (v1_:List Entry) (v2_:Msg) (v3_:Stamp) (v4_:Int) (v5_:Int) (v6_:Nat) (v7_:Int) (v8_:Int) (v9_:Int) (v10_:List Key) (v11_:Nat):Heap:=[⟨0,2,[[(AV.int .i64 (capM 32)),(AV.osl 1 (putG (capM 32) v1_ (cancelE (getE v1_ v2_.key) (nextS (maxS v3_ (getE v1_ v2_.key).card.stamp) v4_ v5_) v4_) v6_) 10 0 (List.length (putL (capM 32) v1_ (cancelE (getE v1_ v2_.key) (nextS (maxS v3_ (getE v1_ v2_.key).card.stamp) v4_ v5_) v4_))))]],none⟩,⟨(putG (capM 32) v1_ (cancelE (getE v1_ v2_.key) (nextS (maxS v3_ (getE v1_ v2_.key).card.stamp) v4_ v5_) v4_) v6_),10,(List.map Entry.row (putL (capM 32) v1_ (cancelE (getE v1_ v2_.key) (nextS (maxS v3_ (getE v1_ v2_.key).card.stamp) v4_ v5_) v4_))),none⟩,Yc_o2 v7_ v8_ v9_,⟨0,2,[[(AV.int .i64 (((List.length (setA v1_ (cancelE (getE v1_ v2_.key) (nextS (maxS v3_ (getE v1_ v2_.key).card.stamp) v4_ v5_) v4_) v10_)):Nat):Int)),(AV.osl 4 (setG v1_ (cancelE (getE v1_ v2_.key) (nextS (maxS v3_ (getE v1_ v2_.key).card.stamp) v4_ v5_) v4_) v11_) 2 0 (List.length (recL (setA v1_ (cancelE (getE v1_ v2_.key) (nextS (maxS v3_ (getE v1_ v2_.key).card.stamp) v4_ v5_) v4_) v10_))))]],none⟩,⟨(setG v1_ (cancelE (getE v1_ v2_.key) (nextS (maxS v3_ (getE v1_ v2_.key).card.stamp) v4_ v5_) v4_) v11_),2,(List.map Key.row (recL (setA v1_ (cancelE (getE v1_ v2_.key) (nextS (maxS v3_ (getE v1_ v2_.key).card.stamp) v4_ v5_) v4_) v10_))),none⟩,⟨0,7,[[(AV.int .i64 v5_),(AV.int .i64 (givS v1_ (cancelE (getE v1_ v2_.key) (nextS (maxS v3_ (getE v1_ v2_.key).card.stamp) v4_ v5_) v4_) v3_).t),(AV.int .i64 (givS v1_ (cancelE (getE v1_ v2_.key) (nextS (maxS v3_ (getE v1_ v2_.key).card.stamp) v4_ v5_) v4_) v3_).node),(AV.int .i64 (givS v1_ (cancelE (getE v1_ v2_.key) (nextS (maxS v3_ (getE v1_ v2_.key).card.stamp) v4_ v5_) v4_) v3_).n),(AV.obj 0 0 0 0),(AV.obj 2 0 0 0),(AV.obj 3 0 0 0)]],none⟩]
@[simp] abbrev Yc_5 (v1_:Nat) (v2_:List Entry) (v3_:Int) (v4_:Int) (v5_:Int) (v6_:List Key) (v7_:Nat) (v8_:Int) (v9_:Stamp) (v10_:Msg):Heap:=[Yc_o1 v1_ v2_,⟨v1_,10,(List.map Entry.row v2_),none⟩,Yc_o2 v3_ v4_ v5_,Yc_o3 v6_ v7_,⟨v7_,2,(List.map Key.row (recL v6_)),none⟩,Yc_o4 v8_ v9_,⟨0,10,[(Entry.row (getE v2_ v10_.key))],none⟩,Yc_o5]
@[simp] abbrev Yc_6 (v1_:Nat) (v2_:List Entry) (v3_:Int) (v4_:Int) (v5_:Int) (v6_:List Key) (v7_:Nat) (v8_:Int) (v9_:Stamp) (v10_:Msg) (v11_:Int):Heap:=[Yc_o1 v1_ v2_,⟨v1_,10,(List.map Entry.row v2_),none⟩,Yc_o2 v3_ v4_ v5_,Yc_o3 v6_ v7_,⟨v7_,2,(List.map Key.row (recL v6_)),none⟩,Yc_o4 v8_ v9_,⟨0,10,[(Entry.row (getE v2_ v10_.key))],none⟩,⟨0,10,[(Entry.row (cancelE (getE v2_ v10_.key) (nextS (maxS v9_ (getE v2_ v10_.key).card.stamp) v11_ v8_) v11_))],none⟩]
theorem tu3_spec (l:List Entry) (g:Nat) (al:List Key) (ga:Nat) (gf gl gt nd:Int) (st:Stamp) (q:Msg) (now:Int) (hl:l.length < 1000) (ha:al.length < 100000) (hgt:0≤gt∧gt < 4611686018427387904) (ho:q.op=3) (hf:findB l q.key=true) (hg:(getE l q.key).card.gone=false):ACalls Tryz.prog 55 [(.obj 5 0 0 0),(.agg (Msg.row q)),(.int .i64 now)] (Yc_1 g l gf gl gt al ga nd st) ((AV.tup [(.sl .any 9 (List.map Card.row (givC l (cancelE (getE l q.key) (nextS (maxS st (getE l q.key).card.stamp) now nd) now)))),(.int .i64 (putE (capM 32) l (cancelE (getE l q.key) (nextS (maxS st (getE l q.key).card.stamp) now nd) now)))]),(Yc_4 l q st now nd g gf gl gt al ga)) :=
 specO (fn:=Tryz.f55) (ann:=tu3_ann) (Has.o Tryz.func55) (.r (.g (.r (.c 6 (get_at (capM 32) l q.key g (List.length l) oa oa (Yc_2 gf gl gt al ga nd st)) (.g (.r (.h' (Yc_3 g l gf gl gt al ga nd st q) (.y 0 (AV.bool (findB l q.key)) (AV.bool true) (Yes.bool (hf)) (.yes (.yes (.yes (.y 4 (AV.bool (getE l q.key).card.gone) (AV.bool false) (Yes.bool (hg)) (.yes (.g (.r (.y 2 (AV.bool (q.op == 1)) (AV.bool false) (Yes.bool (by rw [ho]; rfl)) (.g (.no (.r (.y 2 (AV.bool (q.op == 4)) (AV.bool false) (Yes.bool (by rw [ho]; rfl)) (.no (.no (.no (.g (.no (.r (.g (.no (.r (.y 2 (AV.bool (q.op == 2)) (AV.bool false) (Yes.bool (by rw [ho]; rfl)) (.g (.no (.r (.c 5 (ACalls.put2 [0,1,2,3,4,5] (Yc_5 g l gf gl gt al ga nd st q) (AV.agg (Stamp.row (nextS (maxS st (getE l q.key).card.stamp) now nd))) (Yc_5 g l gf gl gt al ga nd st q) (dnext_spec l g al ga gf gl gt nd st (getE l q.key).card now ) (⟨rfl,⟨Ob.ren0 (Entry.rows_bdd 0 _),⟨rfl,⟨rfl,⟨Ob.ren0 (Key.rows_bdd 0 _),⟨rfl,trivial⟩⟩⟩⟩⟩⟩) (⟨rfl,⟨Ob.ren0 (Entry.rows_bdd 0 _),⟨rfl,⟨rfl,⟨Ob.ren0 (Key.rows_bdd 0 _),⟨rfl,trivial⟩⟩⟩⟩⟩⟩)) (.c 7 (lcancel_at (getE l q.key) (nextS (maxS st (getE l q.key).card.stamp) now nd) now oa (Yc_5 g l gf gl gt al ga nd st q)) (.rd (AV.agg (Entry.row (getE l q.key))) (Yc_5 g l gf gl gt al ga nd st q) (.g (.r (.h' (Yc_6 g l gf gl gt al ga nd st q now) (.y 2 (AV.bool (q.op == 4)) (AV.bool false) (Yes.bool (by rw [ho]; rfl)) (.g (.no (.r (.ch 2 ([⟨0,2,[[(AV.int .i64 (capM 32)),(AV.osl 1 (putG (capM 32) l (cancelE (getE l q.key) (nextS (maxS st (getE l q.key).card.stamp) now nd) now) g) 10 0 (List.length (putL (capM 32) l (cancelE (getE l q.key) (nextS (maxS st (getE l q.key).card.stamp) now nd) now))))]],none⟩,⟨(putG (capM 32) l (cancelE (getE l q.key) (nextS (maxS st (getE l q.key).card.stamp) now nd) now) g),10,(List.map Entry.row (putL (capM 32) l (cancelE (getE l q.key) (nextS (maxS st (getE l q.key).card.stamp) now nd) now))),none⟩,⟨0,3,[[(AV.int .i64 gf),(AV.int .i64 gl),(AV.int .i64 gt)]],none⟩,⟨0,2,[[(AV.int .i64 (((List.length (setA l (cancelE (getE l q.key) (nextS (maxS st (getE l q.key).card.stamp) now nd) now) al)):Nat):Int)),(AV.osl 4 (setG l (cancelE (getE l q.key) (nextS (maxS st (getE l q.key).card.stamp) now nd) now) ga) 2 0 (List.length (recL (setA l (cancelE (getE l q.key) (nextS (maxS st (getE l q.key).card.stamp) now nd) now) al))))]],none⟩,⟨(setG l (cancelE (getE l q.key) (nextS (maxS st (getE l q.key).card.stamp) now nd) now) ga),2,(List.map Key.row (recL (setA l (cancelE (getE l q.key) (nextS (maxS st (getE l q.key).card.stamp) now nd) now) al))),none⟩,⟨0,7,[[(AV.int .i64 nd),(AV.int .i64 (givS l (cancelE (getE l q.key) (nextS (maxS st (getE l q.key).card.stamp) now nd) now) st).t),(AV.int .i64 (givS l (cancelE (getE l q.key) (nextS (maxS st (getE l q.key).card.stamp) now nd) now) st).node),(AV.int .i64 (givS l (cancelE (getE l q.key) (nextS (maxS st (getE l q.key).card.stamp) now nd) now) st).n),(AV.obj 0 0 0 0),(AV.obj 2 0 0 0),(AV.obj 3 0 0 0)]],none⟩,⟨0,10,[(Entry.row (getE l q.key))],none⟩,⟨0,10,[(Entry.row (cancelE (getE l q.key) (nextS (maxS st (getE l q.key).card.stamp) now nd) now))],none⟩]:Heap) (dgive_at l g al ga gf gl gt nd st (cancelE (getE l q.key) (nextS (maxS st (getE l q.key).card.stamp) now nd) now) oa oa ([⟨0,10,[(Entry.row (getE l q.key))],none⟩,⟨0,10,[(Entry.row (cancelE (getE l q.key) (nextS (maxS st (getE l q.key).card.stamp) now nd) now))],none⟩]:Heap)) (.g (.h' (Yc_4 l q st now nd g gf gl gt al ga) (.f 6 (AV.tup [(AV.sl .any 9 (List.map Card.row (givC l (cancelE (getE l q.key) (nextS (maxS st (getE l q.key).card.stamp) now nd) now)))),(AV.int .i64 (putE (capM 32) l (cancelE (getE l q.key) (nextS (maxS st (getE l q.key).card.stamp) now nd) now)))]) (.e (AV.tup [(AV.sl .any 9 (List.map Card.row (givC l (cancelE (getE l q.key) (nextS (maxS st (getE l q.key).card.stamp) now nd) now)))),(AV.int .i64 (putE (capM 32) l (cancelE (getE l q.key) (nextS (maxS st (getE l q.key).card.stamp) now nd) now)))])))))))))))))))))))))))))))))))))))))))))))))))))
def tu4_ann:Ann:={ refs:=[4],gha:=[(6,.any 6 9),(8,.any 6 9),(12,.any 6 9)],base:=6,fin:=some 6 }
@[simp] abbrev Yc_7 (v1_:List Entry) (v2_:Msg) (v3_:Stamp) (v4_:Int) (v5_:Int) (v6_:Nat) (v7_:Int) (v8_:Int) (v9_:Int) (v10_:List Key) (v11_:Nat):Heap:=[⟨0,2,[[(AV.int .i64 (capM 32)),(AV.osl 1 (putG (capM 32) v1_ (overE (getE v1_ v2_.key) v2_.status (nextS (maxS v3_ (getE v1_ v2_.key).card.stamp) v4_ v5_)) v6_) 10 0 (List.length (putL (capM 32) v1_ (overE (getE v1_ v2_.key) v2_.status (nextS (maxS v3_ (getE v1_ v2_.key).card.stamp) v4_ v5_)))))]],none⟩,⟨(putG (capM 32) v1_ (overE (getE v1_ v2_.key) v2_.status (nextS (maxS v3_ (getE v1_ v2_.key).card.stamp) v4_ v5_)) v6_),10,(List.map Entry.row (putL (capM 32) v1_ (overE (getE v1_ v2_.key) v2_.status (nextS (maxS v3_ (getE v1_ v2_.key).card.stamp) v4_ v5_)))),none⟩,Yc_o2 v7_ v8_ v9_,⟨0,2,[[(AV.int .i64 (((List.length (setA v1_ (overE (getE v1_ v2_.key) v2_.status (nextS (maxS v3_ (getE v1_ v2_.key).card.stamp) v4_ v5_)) v10_)):Nat):Int)),(AV.osl 4 (setG v1_ (overE (getE v1_ v2_.key) v2_.status (nextS (maxS v3_ (getE v1_ v2_.key).card.stamp) v4_ v5_)) v11_) 2 0 (List.length (recL (setA v1_ (overE (getE v1_ v2_.key) v2_.status (nextS (maxS v3_ (getE v1_ v2_.key).card.stamp) v4_ v5_)) v10_))))]],none⟩,⟨(setG v1_ (overE (getE v1_ v2_.key) v2_.status (nextS (maxS v3_ (getE v1_ v2_.key).card.stamp) v4_ v5_)) v11_),2,(List.map Key.row (recL (setA v1_ (overE (getE v1_ v2_.key) v2_.status (nextS (maxS v3_ (getE v1_ v2_.key).card.stamp) v4_ v5_)) v10_))),none⟩,⟨0,7,[[(AV.int .i64 v5_),(AV.int .i64 (givS v1_ (overE (getE v1_ v2_.key) v2_.status (nextS (maxS v3_ (getE v1_ v2_.key).card.stamp) v4_ v5_)) v3_).t),(AV.int .i64 (givS v1_ (overE (getE v1_ v2_.key) v2_.status (nextS (maxS v3_ (getE v1_ v2_.key).card.stamp) v4_ v5_)) v3_).node),(AV.int .i64 (givS v1_ (overE (getE v1_ v2_.key) v2_.status (nextS (maxS v3_ (getE v1_ v2_.key).card.stamp) v4_ v5_)) v3_).n),(AV.obj 0 0 0 0),(AV.obj 2 0 0 0),(AV.obj 3 0 0 0)]],none⟩]
theorem tu4_spec (l:List Entry) (g:Nat) (al:List Key) (ga:Nat) (gf gl gt nd:Int) (st:Stamp) (q:Msg) (now:Int) (hl:l.length < 1000) (ha:al.length < 100000) (hgt:0≤gt∧gt < 4611686018427387904) (ho:q.op=4) (hs:q.status≤3) (hs0:0≤q.status) (hf:findB l q.key=true) (hg:(getE l q.key).card.gone=false):ACalls Tryz.prog 55 [(.obj 5 0 0 0),(.agg (Msg.row q)),(.int .i64 now)] (Yc_1 g l gf gl gt al ga nd st) ((AV.tup [(.sl .any 9 (List.map Card.row (givC l (overE (getE l q.key) q.status (nextS (maxS st (getE l q.key).card.stamp) now nd))))),(.int .i64 (putE (capM 32) l (overE (getE l q.key) q.status (nextS (maxS st (getE l q.key).card.stamp) now nd))))]),(Yc_7 l q st now nd g gf gl gt al ga)) :=
 specO (fn:=Tryz.f55) (ann:=tu4_ann) (Has.o Tryz.func55) (.r (.g (.r (.c 6 (get_at (capM 32) l q.key g (List.length l) oa oa (Yc_2 gf gl gt al ga nd st)) (.g (.r (.h' (Yc_3 g l gf gl gt al ga nd st q) (.y 0 (AV.bool (findB l q.key)) (AV.bool true) (Yes.bool (hf)) (.yes (.yes (.yes (.y 4 (AV.bool (getE l q.key).card.gone) (AV.bool false) (Yes.bool (hg)) (.yes (.g (.r (.y 2 (AV.bool (q.op == 1)) (AV.bool false) (Yes.bool (by rw [ho]; rfl)) (.g (.no (.r (.y 2 (AV.bool (q.op == 4)) (AV.bool true) (Yes.bool (by rw [ho]; rfl)) (.yes (.yes (.yes (.y 6 (AV.bool (decide (q.status > 3))) (AV.bool false) (Yes.bool (decide_eq_false ow)) (.g (.no (.r (.g (.no (.r (.y 2 (AV.bool (q.op == 2)) (AV.bool false) (Yes.bool (by rw [ho]; rfl)) (.g (.no (.r (.c 5 (ACalls.put2 [0,1,2,3,4,5] (Yc_5 g l gf gl gt al ga nd st q) (AV.agg (Stamp.row (nextS (maxS st (getE l q.key).card.stamp) now nd))) (Yc_5 g l gf gl gt al ga nd st q) (dnext_spec l g al ga gf gl gt nd st (getE l q.key).card now ) (⟨rfl,⟨Ob.ren0 (Entry.rows_bdd 0 _),⟨rfl,⟨rfl,⟨Ob.ren0 (Key.rows_bdd 0 _),⟨rfl,trivial⟩⟩⟩⟩⟩⟩) (⟨rfl,⟨Ob.ren0 (Entry.rows_bdd 0 _),⟨rfl,⟨rfl,⟨Ob.ren0 (Key.rows_bdd 0 _),⟨rfl,trivial⟩⟩⟩⟩⟩⟩)) (.c 7 (lcancel_at (getE l q.key) (nextS (maxS st (getE l q.key).card.stamp) now nd) now oa (Yc_5 g l gf gl gt al ga nd st q)) (.rd (AV.agg (Entry.row (getE l q.key))) (Yc_5 g l gf gl gt al ga nd st q) (.g (.r (.h' (Yc_6 g l gf gl gt al ga nd st q now) (.y 2 (AV.bool (q.op == 4)) (AV.bool true) (Yes.bool (by rw [ho]; rfl)) (.g (.yes (.r (.c 7 (ACalls.put2 [0,1,2,3,4,5] (Yc_6 g l gf gl gt al ga nd st q now) (AV.agg (Stamp.row (nextS (maxS st (getE l q.key).card.stamp) now nd))) (Yc_6 g l gf gl gt al ga nd st q now) (dnext_spec l g al ga gf gl gt nd st (getE l q.key).card now ) (⟨rfl,⟨Ob.ren0 (Entry.rows_bdd 0 _),⟨rfl,⟨rfl,⟨Ob.ren0 (Key.rows_bdd 0 _),⟨rfl,trivial⟩⟩⟩⟩⟩⟩) (⟨rfl,⟨Ob.ren0 (Entry.rows_bdd 0 _),⟨rfl,⟨rfl,⟨Ob.ren0 (Key.rows_bdd 0 _),⟨rfl,trivial⟩⟩⟩⟩⟩⟩)) (.c 8 (lover_at (getE l q.key) q.status (nextS (maxS st (getE l q.key).card.stamp) now nd) oa oa oa (Yc_6 g l gf gl gt al ga nd st q now)) (.rd (AV.agg (Entry.row (getE l q.key))) (Yc_6 g l gf gl gt al ga nd st q now) (.g (.r (.ch 2 ([⟨0,2,[[(AV.int .i64 (capM 32)),(AV.osl 1 (putG (capM 32) l (overE (getE l q.key) q.status (nextS (maxS st (getE l q.key).card.stamp) now nd)) g) 10 0 (List.length (putL (capM 32) l (overE (getE l q.key) q.status (nextS (maxS st (getE l q.key).card.stamp) now nd)))))]],none⟩,⟨(putG (capM 32) l (overE (getE l q.key) q.status (nextS (maxS st (getE l q.key).card.stamp) now nd)) g),10,(List.map Entry.row (putL (capM 32) l (overE (getE l q.key) q.status (nextS (maxS st (getE l q.key).card.stamp) now nd)))),none⟩,⟨0,3,[[(AV.int .i64 gf),(AV.int .i64 gl),(AV.int .i64 gt)]],none⟩,⟨0,2,[[(AV.int .i64 (((List.length (setA l (overE (getE l q.key) q.status (nextS (maxS st (getE l q.key).card.stamp) now nd)) al)):Nat):Int)),(AV.osl 4 (setG l (overE (getE l q.key) q.status (nextS (maxS st (getE l q.key).card.stamp) now nd)) ga) 2 0 (List.length (recL (setA l (overE (getE l q.key) q.status (nextS (maxS st (getE l q.key).card.stamp) now nd)) al))))]],none⟩,⟨(setG l (overE (getE l q.key) q.status (nextS (maxS st (getE l q.key).card.stamp) now nd)) ga),2,(List.map Key.row (recL (setA l (overE (getE l q.key) q.status (nextS (maxS st (getE l q.key).card.stamp) now nd)) al))),none⟩,⟨0,7,[[(AV.int .i64 nd),(AV.int .i64 (givS l (overE (getE l q.key) q.status (nextS (maxS st (getE l q.key).card.stamp) now nd)) st).t),(AV.int .i64 (givS l (overE (getE l q.key) q.status (nextS (maxS st (getE l q.key).card.stamp) now nd)) st).node),(AV.int .i64 (givS l (overE (getE l q.key) q.status (nextS (maxS st (getE l q.key).card.stamp) now nd)) st).n),(AV.obj 0 0 0 0),(AV.obj 2 0 0 0),(AV.obj 3 0 0 0)]],none⟩,⟨0,10,[(Entry.row (getE l q.key))],none⟩,⟨0,10,[(Entry.row (overE (getE l q.key) q.status (nextS (maxS st (getE l q.key).card.stamp) now nd)))],none⟩]:Heap) (dgive_at l g al ga gf gl gt nd st (overE (getE l q.key) q.status (nextS (maxS st (getE l q.key).card.stamp) now nd)) oa oa ([⟨0,10,[(Entry.row (getE l q.key))],none⟩,⟨0,10,[(Entry.row (overE (getE l q.key) q.status (nextS (maxS st (getE l q.key).card.stamp) now nd)))],none⟩]:Heap)) (.g (.h' (Yc_7 l q st now nd g gf gl gt al ga) (.f 6 (AV.tup [(AV.sl .any 9 (List.map Card.row (givC l (overE (getE l q.key) q.status (nextS (maxS st (getE l q.key).card.stamp) now nd))))),(AV.int .i64 (putE (capM 32) l (overE (getE l q.key) q.status (nextS (maxS st (getE l q.key).card.stamp) now nd))))]) (.e (AV.tup [(AV.sl .any 9 (List.map Card.row (givC l (overE (getE l q.key) q.status (nextS (maxS st (getE l q.key).card.stamp) now nd))))),(AV.int .i64 (putE (capM 32) l (overE (getE l q.key) q.status (nextS (maxS st (getE l q.key).card.stamp) now nd))))])))))))))))))))))))))))))))))))))))))))))))))))))))))))
def tu2_ann:Ann:={ refs:=[4],gha:=[(6,.any 6 9),(8,.any 6 9),(12,.any 6 9)],base:=6,fin:=some 6 }
@[simp] abbrev Yc_o6 (v1_:Int) (v2_:Int) (v3_:Int):Ob:=⟨0,3,[[(AV.int .i64 v1_),(AV.int .i64 v2_),(AV.int .i64 (min (v3_+1) 1048576))]],none⟩
@[simp] abbrev Yc_8 (v1_:List Entry) (v2_:Msg) (v3_:Int) (v4_:Nat) (v5_:Int) (v6_:Int) (v7_:Int) (v8_:List Key) (v9_:Nat) (v10_:Int) (v11_:Stamp):Heap:=[⟨0,2,[[(AV.int .i64 (capM 32)),(AV.osl 1 (putG (capM 32) v1_ (renewE (getE v1_ v2_.key) v3_) v4_) 10 0 (List.length (putL (capM 32) v1_ (renewE (getE v1_ v2_.key) v3_))))]],none⟩,⟨(putG (capM 32) v1_ (renewE (getE v1_ v2_.key) v3_) v4_),10,(List.map Entry.row (putL (capM 32) v1_ (renewE (getE v1_ v2_.key) v3_))),none⟩,Yc_o6 v5_ v6_ v7_,Yc_o3 v8_ v9_,⟨v9_,2,(List.map Key.row (recL v8_)),none⟩,Yc_o4 v10_ v11_]
@[simp] abbrev Yc_9 (v1_:Nat) (v2_:List Entry) (v3_:Int) (v4_:Int) (v5_:Int) (v6_:List Key) (v7_:Nat) (v8_:Int) (v9_:Stamp) (v10_:Msg) (v11_:Int):Heap:=[Yc_o1 v1_ v2_,⟨v1_,10,(List.map Entry.row v2_),none⟩,Yc_o6 v3_ v4_ v5_,Yc_o3 v6_ v7_,⟨v7_,2,(List.map Key.row (recL v6_)),none⟩,Yc_o4 v8_ v9_,⟨0,10,[(Entry.row (getE v2_ v10_.key))],none⟩,⟨0,10,[(Entry.row (renewE (getE v2_ v10_.key) v11_))],none⟩]
theorem tu2_spec (l:List Entry) (g:Nat) (al:List Key) (ga:Nat) (gf gl gt nd:Int) (st:Stamp) (q:Msg) (now:Int) (hl:l.length < 1000) (ha:al.length < 100000) (hgt:0≤gt∧gt < 4611686018427387904) (ho:q.op=2) (hf:findB l q.key=true) (hg:(getE l q.key).card.gone=false):ACalls Tryz.prog 55 [(.obj 5 0 0 0),(.agg (Msg.row q)),(.int .i64 now)] (Yc_1 g l gf gl gt al ga nd st) ((AV.tup [(.sl .any 9 (List.map Card.row ([]:List Card))),(.int .i64 (putE (capM 32) l (renewE (getE l q.key) now)))]),(Yc_8 l q now g gf gl gt al ga nd st)) :=
 specO (fn:=Tryz.f55) (ann:=tu2_ann) (Has.o Tryz.func55) (.r (.g (.r (.c 6 (get_at (capM 32) l q.key g (List.length l) oa oa (Yc_2 gf gl gt al ga nd st)) (.g (.r (.h' (Yc_3 g l gf gl gt al ga nd st q) (.y 0 (AV.bool (findB l q.key)) (AV.bool true) (Yes.bool (hf)) (.yes (.yes (.yes (.y 4 (AV.bool (getE l q.key).card.gone) (AV.bool false) (Yes.bool (hg)) (.yes (.g (.r (.y 2 (AV.bool (q.op == 1)) (AV.bool false) (Yes.bool (by rw [ho]; rfl)) (.g (.no (.r (.y 2 (AV.bool (q.op == 4)) (AV.bool false) (Yes.bool (by rw [ho]; rfl)) (.no (.no (.no (.g (.no (.r (.g (.no (.r (.y 2 (AV.bool (q.op == 2)) (AV.bool true) (Yes.bool (by rw [ho]; rfl)) (.g (.yes (.r (.c 2 (lrenew_at (getE l q.key) now oa (Yc_5 g l gf gl gt al ga nd st q)) (.g (.r (.ch 4 (Yc_9 g l gf gl gt al ga nd st q now) (ACalls.pre (args:=[(AV.obj 2 0 0 0)]) (args':=[(AV.obj 2 0 0 0)]) (ACalls.put2 [2] ([⟨0,2,[[(AV.int .i64 (capM 32)),(AV.osl 1 g 10 0 (List.length l))]],none⟩,⟨g,10,(List.map Entry.row l),none⟩,⟨0,3,[[(AV.int .i64 gf),(AV.int .i64 gl),(AV.int .i64 gt)]],none⟩,⟨0,2,[[(AV.int .i64 (((List.length al):Nat):Int)),(AV.osl 4 ga 2 0 (List.length (recL al)))]],none⟩,⟨ga,2,(List.map Key.row (recL al)),none⟩,⟨0,7,[[(AV.int .i64 nd),(AV.int .i64 st.t),(AV.int .i64 st.node),(AV.int .i64 st.n),(AV.obj 0 0 0 0),(AV.obj 2 0 0 0),(AV.obj 3 0 0 0)]],none⟩,⟨0,10,[(Entry.row (getE l q.key))],none⟩,⟨0,10,[(Entry.row (renewE (getE l q.key) now))],none⟩]:Heap) (AV.tup []) (Yc_9 g l gf gl gt al ga nd st q now) (grenew_spec gf gl gt oa oa) (⟨rfl,trivial⟩) (⟨rfl,trivial⟩)) ⟨AV.wk_refl_any _,trivial⟩) (.g (.r (.ch 5 ([⟨0,2,[[(AV.int .i64 (capM 32)),(AV.osl 1 (putG (capM 32) l (renewE (getE l q.key) now) g) 10 0 (List.length (putL (capM 32) l (renewE (getE l q.key) now))))]],none⟩,⟨(putG (capM 32) l (renewE (getE l q.key) now) g),10,(List.map Entry.row (putL (capM 32) l (renewE (getE l q.key) now))),none⟩,⟨0,3,[[(AV.int .i64 gf),(AV.int .i64 gl),(AV.int .i64 (min (gt+1) 1048576))]],none⟩,⟨0,2,[[(AV.int .i64 (((List.length al):Nat):Int)),(AV.osl 4 ga 2 0 (List.length (recL al)))]],none⟩,⟨ga,2,(List.map Key.row (recL al)),none⟩,⟨0,7,[[(AV.int .i64 nd),(AV.int .i64 st.t),(AV.int .i64 st.node),(AV.int .i64 st.n),(AV.obj 0 0 0 0),(AV.obj 2 0 0 0),(AV.obj 3 0 0 0)]],none⟩,⟨0,10,[(Entry.row (getE l q.key))],none⟩,⟨0,10,[(Entry.row (renewE (getE l q.key) now))],none⟩]:Heap) (put_at (capM 32) l (renewE (getE l q.key) now) g (List.length l) oa oa ([⟨0,3,[[(AV.int .i64 gf),(AV.int .i64 gl),(AV.int .i64 (min (gt+1) 1048576))]],none⟩,⟨0,2,[[(AV.int .i64 (((List.length al):Nat):Int)),(AV.osl 4 ga 2 0 (List.length (recL al)))]],none⟩,⟨ga,2,(List.map Key.row (recL al)),none⟩,⟨0,7,[[(AV.int .i64 nd),(AV.int .i64 st.t),(AV.int .i64 st.node),(AV.int .i64 st.n),(AV.obj 0 0 0 0),(AV.obj 2 0 0 0),(AV.obj 3 0 0 0)]],none⟩,⟨0,10,[(Entry.row (getE l q.key))],none⟩,⟨0,10,[(Entry.row (renewE (getE l q.key) now))],none⟩]:Heap)) (.g (.h' (Yc_8 l q now g gf gl gt al ga nd st) (.f 6 (AV.tup [(AV.sl .any 9 []),(AV.int .i64 (putE (capM 32) l (renewE (getE l q.key) now)))]) (.e (AV.tup [(AV.sl .any 9 []),(AV.int .i64 (putE (capM 32) l (renewE (getE l q.key) now)))])))))))))))))))))))))))))))))))))))))))))))))
def tu1_ann:Ann:={ refs:=[4],gha:=[(6,.any 6 9),(8,.any 6 9),(12,.any 6 9)],base:=6,fin:=some 6 }
@[simp] abbrev Yc_o7 (v1_:List Entry) (v2_:Msg) (v3_:Stamp) (v4_:Int) (v5_:Int) (v6_:Nat):Ob:=⟨0,2,[[(AV.int .i64 (capM 32)),(AV.osl 1 (regG v1_ v2_ (regX v2_ (getE v1_ v2_.key) (findB v1_ v2_.key) v3_ v4_ v5_) v6_) 10 0 (List.length (regL v1_ v2_ (regX v2_ (getE v1_ v2_.key) (findB v1_ v2_.key) v3_ v4_ v5_))))]],none⟩
@[simp] abbrev Yc_o8 (v1_:List Entry) (v2_:Msg) (v3_:Stamp) (v4_:Int) (v5_:Int) (v6_:Nat):Ob:=⟨(regG v1_ v2_ (regX v2_ (getE v1_ v2_.key) (findB v1_ v2_.key) v3_ v4_ v5_) v6_),10,(List.map Entry.row (regL v1_ v2_ (regX v2_ (getE v1_ v2_.key) (findB v1_ v2_.key) v3_ v4_ v5_))),none⟩
@[simp] abbrev Yc_o9 (v1_:List Entry) (v2_:Msg) (v3_:Stamp) (v4_:Int) (v5_:Int) (v6_:List Key) (v7_:Nat):Ob:=⟨0,2,[[(AV.int .i64 (((List.length (regA v1_ v2_ (regX v2_ (getE v1_ v2_.key) (findB v1_ v2_.key) v3_ v4_ v5_) v6_)):Nat):Int)),(AV.osl 4 (regGa v1_ v2_ (regX v2_ (getE v1_ v2_.key) (findB v1_ v2_.key) v3_ v4_ v5_) v7_) 2 0 (List.length (recL (regA v1_ v2_ (regX v2_ (getE v1_ v2_.key) (findB v1_ v2_.key) v3_ v4_ v5_) v6_))))]],none⟩
@[simp] abbrev Yc_o10 (v1_:List Entry) (v2_:Msg) (v3_:Stamp) (v4_:Int) (v5_:Int) (v6_:Nat) (v7_:List Key):Ob:=⟨(regGa v1_ v2_ (regX v2_ (getE v1_ v2_.key) (findB v1_ v2_.key) v3_ v4_ v5_) v6_),2,(List.map Key.row (recL (regA v1_ v2_ (regX v2_ (getE v1_ v2_.key) (findB v1_ v2_.key) v3_ v4_ v5_) v7_))),none⟩
@[simp] abbrev Yc_o11 (v1_:Int) (v2_:List Entry) (v3_:Msg) (v4_:Stamp) (v5_:Int):Ob:=⟨0,7,[[(AV.int .i64 v1_),(AV.int .i64 (regS v2_ v3_ (regX v3_ (getE v2_ v3_.key) (findB v2_ v3_.key) v4_ v5_ v1_) v4_).t),(AV.int .i64 (regS v2_ v3_ (regX v3_ (getE v2_ v3_.key) (findB v2_ v3_.key) v4_ v5_ v1_) v4_).node),(AV.int .i64 (regS v2_ v3_ (regX v3_ (getE v2_ v3_.key) (findB v2_ v3_.key) v4_ v5_ v1_) v4_).n),(AV.obj 0 0 0 0),(AV.obj 2 0 0 0),(AV.obj 3 0 0 0)]],none⟩
@[simp] abbrev Yc_10 (v1_:List Entry) (v2_:Msg) (v3_:Stamp) (v4_:Int) (v5_:Int) (v6_:Nat) (v7_:Int) (v8_:Int) (v9_:Int) (v10_:List Key) (v11_:Nat):Heap:=[Yc_o7 v1_ v2_ v3_ v4_ v5_ v6_,Yc_o8 v1_ v2_ v3_ v4_ v5_ v6_,Yc_o2 v7_ v8_ v9_,Yc_o9 v1_ v2_ v3_ v4_ v5_ v10_ v11_,Yc_o10 v1_ v2_ v3_ v4_ v5_ v11_ v10_,Yc_o11 v5_ v1_ v2_ v3_ v4_]
@[simp] abbrev Yc_11 (v1_:List Entry) (v2_:Msg) (v3_:Stamp) (v4_:Int) (v5_:Int) (v6_:Nat) (v7_:Int) (v8_:Int) (v9_:Int) (v10_:List Key) (v11_:Nat):Heap:=[Yc_o7 v1_ v2_ v3_ v4_ v5_ v6_,Yc_o8 v1_ v2_ v3_ v4_ v5_ v6_,Yc_o2 v7_ v8_ v9_,Yc_o9 v1_ v2_ v3_ v4_ v5_ v10_ v11_,Yc_o10 v1_ v2_ v3_ v4_ v5_ v11_ v10_,Yc_o11 v5_ v1_ v2_ v3_ v4_,⟨0,10,[(Entry.row (getE v1_ v2_.key))],none⟩]
theorem tu1_spec (l:List Entry) (g:Nat) (al:List Key) (ga:Nat) (gf gl gt nd:Int) (st:Stamp) (q:Msg) (now:Int) (hl:l.length < 1000) (ha:al.length < 100000) (hgt:0≤gt∧gt < 4611686018427387904) (ho:q.op=1):ACalls Tryz.prog 55 [(.obj 5 0 0 0),(.agg (Msg.row q)),(.int .i64 now)] (Yc_1 g l gf gl gt al ga nd st) ((AV.tup [(.sl .any 9 (List.map Card.row (regC l q (regX q (getE l q.key) (findB l q.key) st now nd)))),(.int .i64 (regR l q (regX q (getE l q.key) (findB l q.key) st now nd)))]),(Yc_10 l q st now nd g gf gl gt al ga)) :=
 specO (fn:=Tryz.f55) (ann:=tu1_ann) (Has.o Tryz.func55) (.r (.g (.r (.c 6 (get_at (capM 32) l q.key g (List.length l) oa oa (Yc_2 gf gl gt al ga nd st)) (.g (.r (.two (findB l q.key) (fun h1 h1'=>(.yes (.yes (.yes (.g (.r (.h' (Yc_3 g l gf gl gt al ga nd st q) (.y 2 (AV.bool (q.op == 1)) (AV.bool true) (Yes.bool (by rw [ho]; rfl)) (.g (.yes (.r (.ch 5 (Yc_11 l q st now nd g gf gl gt al ga) (dreg_at l g al ga gf gl gt nd st q (getE l q.key) (findB l q.key) now oa oa ([⟨0,10,[(Entry.row (getE l q.key))],none⟩]:Heap)) (.g (.h' (Yc_10 l q st now nd g gf gl gt al ga) (.f 6 (AV.tup [(AV.sl .any 9 (List.map Card.row (regC l q (regX q (getE l q.key) (findB l q.key) st now nd)))),(AV.int .i64 (regR l q (regX q (getE l q.key) (findB l q.key) st now nd)))]) (.e (AV.tup [(AV.sl .any 9 (List.map Card.row (regC l q (regX q (getE l q.key) (findB l q.key) st now nd)))),(AV.int .i64 (regR l q (regX q (getE l q.key) (findB l q.key) st now nd)))]))))))))))))))))) (fun h1 h1'=>(.no (.no (.no (.g (.r (.h' (Yc_3 g l gf gl gt al ga nd st q) (.y 2 (AV.bool (q.op == 1)) (AV.bool true) (Yes.bool (by rw [ho]; rfl)) (.g (.yes (.r (.ch 5 (Yc_11 l q st now nd g gf gl gt al ga) (dreg_at l g al ga gf gl gt nd st q (getE l q.key) (findB l q.key) now oa oa ([⟨0,10,[(Entry.row (getE l q.key))],none⟩]:Heap)) (.g (.h' (Yc_10 l q st now nd g gf gl gt al ga) (.f 6 (AV.tup [(AV.sl .any 9 (List.map Card.row (regC l q (regX q (getE l q.key) (findB l q.key) st now nd)))),(AV.int .i64 (regR l q (regX q (getE l q.key) (findB l q.key) st now nd)))]) (.e (AV.tup [(AV.sl .any 9 (List.map Card.row (regC l q (regX q (getE l q.key) (findB l q.key) st now nd)))),(AV.int .i64 (regR l q (regX q (getE l q.key) (findB l q.key) st now nd)))]))))))))))))))))))))))))
def tuN_ann:Ann:={ refs:=[4],gha:=[(6,.any 6 9),(8,.any 6 9),(12,.any 6 9)],base:=6,fin:=some 6 }
theorem tuN_spec (l:List Entry) (g:Nat) (al:List Key) (ga:Nat) (gf gl gt nd:Int) (st:Stamp) (q:Msg) (now:Int) (hl:l.length < 1000) (ha:al.length < 100000) (hgt:0≤gt∧gt < 4611686018427387904) (h1:¬ q.op=1) (h4:¬ (q.op=4∧3 < q.status)) (hf:findB l q.key=false):ACalls Tryz.prog 55 [(.obj 5 0 0 0),(.agg (Msg.row q)),(.int .i64 now)] (Yc_1 g l gf gl gt al ga nd st) ((AV.tup [(.sl .any 9 (List.map Card.row ([]:List Card))),(.int .i64 22)]),(Yc_1 g l gf gl gt al ga nd st)) :=
 specO (fn:=Tryz.f55) (ann:=tuN_ann) (Has.o Tryz.func55) (.r (.g (.r (.c 6 (get_at (capM 32) l q.key g (List.length l) oa oa (Yc_2 gf gl gt al ga nd st)) (.g (.r (.h' (Yc_3 g l gf gl gt al ga nd st q) (.y 0 (AV.bool (findB l q.key)) (AV.bool false) (Yes.bool (hf)) (.no (.no (.no (.no (.g (.r (.y 2 (AV.bool (q.op == 1)) (AV.bool false) (Yes.bool (by simpa using h1)) (.g (.no (.r (.two (q.op == 4) (fun h1 h1'=>(.yes (.yes (.y 6 (AV.bool (decide (q.status > 3))) (AV.bool false) (Yes.bool (decide_eq_false (fun z=>h4 ⟨eq_of_beq (by assumption),z⟩))) (.g (.no (.r (.g (.yes (.r (.g (.h' (Yc_1 g l gf gl gt al ga nd st) (.f 6 (AV.tup [(AV.sl .any 9 []),(AV.int .i64 22)]) (.e (AV.tup [(AV.sl .any 9 []),(AV.int .i64 22)]))))))))))))))) (fun h1 h1'=>(.no (.no (.g (.no (.r (.g (.yes (.r (.g (.h' (Yc_1 g l gf gl gt al ga nd st) (.f 6 (AV.tup [(AV.sl .any 9 []),(AV.int .i64 22)]) (.e (AV.tup [(AV.sl .any 9 []),(AV.int .i64 22)])))))))))))))))))))))))))))))))))
def tuG_ann:Ann:={ refs:=[4],gha:=[(6,.any 6 9),(8,.any 6 9),(12,.any 6 9)],base:=6,fin:=some 6 }
theorem tuG_spec (l:List Entry) (g:Nat) (al:List Key) (ga:Nat) (gf gl gt nd:Int) (st:Stamp) (q:Msg) (now:Int) (hl:l.length < 1000) (ha:al.length < 100000) (hgt:0≤gt∧gt < 4611686018427387904) (h1:¬ q.op=1) (h4:¬ (q.op=4∧3 < q.status)) (hf:findB l q.key=true) (hg:(getE l q.key).card.gone=true):ACalls Tryz.prog 55 [(.obj 5 0 0 0),(.agg (Msg.row q)),(.int .i64 now)] (Yc_1 g l gf gl gt al ga nd st) ((AV.tup [(.sl .any 9 (List.map Card.row ([]:List Card))),(.int .i64 22)]),(Yc_1 g l gf gl gt al ga nd st)) :=
 specO (fn:=Tryz.f55) (ann:=tuG_ann) (Has.o Tryz.func55) (.r (.g (.r (.c 6 (get_at (capM 32) l q.key g (List.length l) oa oa (Yc_2 gf gl gt al ga nd st)) (.g (.r (.h' (Yc_3 g l gf gl gt al ga nd st q) (.y 0 (AV.bool (findB l q.key)) (AV.bool true) (Yes.bool (hf)) (.yes (.yes (.yes (.y 4 (AV.bool (getE l q.key).card.gone) (AV.bool true) (Yes.bool (hg)) (.yes (.g (.r (.y 2 (AV.bool (q.op == 1)) (AV.bool false) (Yes.bool (by simpa using h1)) (.g (.no (.r (.two (q.op == 4) (fun h1 h1'=>(.yes (.yes (.y 6 (AV.bool (decide (q.status > 3))) (AV.bool false) (Yes.bool (decide_eq_false (fun z=>h4 ⟨eq_of_beq (by assumption),z⟩))) (.g (.no (.r (.g (.yes (.r (.g (.h' (Yc_1 g l gf gl gt al ga nd st) (.f 6 (AV.tup [(AV.sl .any 9 []),(AV.int .i64 22)]) (.e (AV.tup [(AV.sl .any 9 []),(AV.int .i64 22)]))))))))))))))) (fun h1 h1'=>(.no (.no (.g (.no (.r (.g (.yes (.r (.g (.h' (Yc_1 g l gf gl gt al ga nd st) (.f 6 (AV.tup [(AV.sl .any 9 []),(AV.int .i64 22)]) (.e (AV.tup [(AV.sl .any 9 []),(AV.int .i64 22)]))))))))))))))))))))))))))))))))))
structure TuR where
 c:List Card
 code:Int
 l:List Entry
 g:Nat
 al:List Key
 ga:Nat
 st:Stamp
 gt:Int
def tuPut (l:List Entry) (g:Nat) (al:List Key) (ga:Nat) (gt:Int) (st:Stamp) (x:Entry):TuR:=⟨givC l x,putE (capM 32) l x,putL (capM 32) l x,putG (capM 32) l x g,setA l x al,setG l x ga,givS l x st,gt⟩
def tuR (l:List Entry) (g:Nat) (al:List Key) (ga:Nat) (gt nd:Int) (st:Stamp) (q:Msg) (now:Int):TuR :=
 if q.op=1 then ⟨regC l q (regX q (getE l q.key) (findB l q.key) st now nd),regR l q (regX q (getE l q.key) (findB l q.key) st now nd),regL l q (regX q (getE l q.key) (findB l q.key) st now nd),regG l q (regX q (getE l q.key) (findB l q.key) st now nd) g,regA l q (regX q (getE l q.key) (findB l q.key) st now nd) al,regGa l q (regX q (getE l q.key) (findB l q.key) st now nd) ga,regS l q (regX q (getE l q.key) (findB l q.key) st now nd) st,gt⟩
 else if q.op=4∧3 < q.status then ⟨[],1,l,g,al,ga,st,gt⟩
 else if findB l q.key=true∧(getE l q.key).card.gone=false then
  (if q.op=2 then ⟨[],putE (capM 32) l (renewE (getE l q.key) now),putL (capM 32) l (renewE (getE l q.key) now),putG (capM 32) l (renewE (getE l q.key) now) g,al,ga,st,min (gt+1) 1048576⟩
   else if q.op=4 then tuPut l g al ga gt st (overE (getE l q.key) q.status (nextS (maxS st (getE l q.key).card.stamp) now nd)) else tuPut l g al ga gt st (cancelE (getE l q.key) (nextS (maxS st (getE l q.key).card.stamp) now nd) now))
 else ⟨[],22,l,g,al,ga,st,gt⟩
theorem turn_spec (l:List Entry) (g:Nat) (al:List Key) (ga:Nat) (gf gl gt nd:Int) (st:Stamp) (q:Msg) (now:Int) (hl:l.length < 1000) (ha:al.length < 100000) (hgt:0≤gt∧gt < 4611686018427387904) (ho1:1≤q.op) (ho5:q.op < 5) (hs0:0≤q.status):ACalls Tryz.prog 55 [(.obj 5 0 0 0),(.agg (Msg.row q)),(.int .i64 now)] ([⟨0,2,[[(.int .i64 (capM 32)),(.osl 1 g 10 0 (List.length l))]],none⟩,⟨g,10,(List.map Entry.row l),none⟩,⟨0,3,[[(.int .i64 gf),(.int .i64 gl),(.int .i64 gt)]],none⟩,⟨0,2,[[(.int .i64 (((List.length al):Nat):Int)),(.osl 4 ga 2 0 (List.length (recL al)))]],none⟩,⟨ga,2,(List.map Key.row (recL al)),none⟩,⟨0,7,[[(.int .i64 nd),(.int .i64 st.t),(.int .i64 st.node),(.int .i64 st.n),(.obj 0 0 0 0),(.obj 2 0 0 0),(.obj 3 0 0 0)]],none⟩]:Heap) ((AV.tup [(.sl .any 9 (List.map Card.row (tuR l g al ga gt nd st q now).c)),(.int .i64 (tuR l g al ga gt nd st q now).code)]),([⟨0,2,[[(.int .i64 (capM 32)),(.osl 1 (tuR l g al ga gt nd st q now).g 10 0 (List.length (tuR l g al ga gt nd st q now).l))]],none⟩,⟨(tuR l g al ga gt nd st q now).g,10,(List.map Entry.row (tuR l g al ga gt nd st q now).l),none⟩,⟨0,3,[[(.int .i64 gf),(.int .i64 gl),(.int .i64 (tuR l g al ga gt nd st q now).gt)]],none⟩,⟨0,2,[[(.int .i64 (((List.length (tuR l g al ga gt nd st q now).al):Nat):Int)),(.osl 4 (tuR l g al ga gt nd st q now).ga 2 0 (List.length (recL (tuR l g al ga gt nd st q now).al)))]],none⟩,⟨(tuR l g al ga gt nd st q now).ga,2,(List.map Key.row (recL (tuR l g al ga gt nd st q now).al)),none⟩,⟨0,7,[[(.int .i64 nd),(.int .i64 (tuR l g al ga gt nd st q now).st.t),(.int .i64 (tuR l g al ga gt nd st q now).st.node),(.int .i64 (tuR l g al ga gt nd st q now).st.n),(.obj 0 0 0 0),(.obj 2 0 0 0),(.obj 3 0 0 0)]],none⟩]:Heap)):=by
 unfold tuR tuPut
 by_cases o1:q.op=1
 · rw [if_pos o1]
   exact tu1_spec l g al ga gf gl gt nd st q now hl ha hgt o1
 rw [if_neg o1]
 by_cases o4:q.op=4∧3 < q.status
 · rw [if_pos o4]
   exact tu4N_spec l g al ga gf gl gt nd st q now hl ha hgt o4.1 o4.2
 rw [if_neg o4]
 by_cases lv:findB l q.key=true∧(getE l q.key).card.gone=false
 · rw [if_pos lv]
   by_cases o2:q.op=2
   · rw [if_pos o2]
     exact tu2_spec l g al ga gf gl gt nd st q now hl ha hgt o2 lv.1 lv.2
   rw [if_neg o2]
   by_cases o3:q.op=4
   · rw [if_pos o3]
     exact tu4_spec l g al ga gf gl gt nd st q now hl ha hgt o3 (Int.not_lt.1 fun z=>o4 ⟨o3,z⟩) hs0 lv.1 lv.2
   · rw [if_neg o3]
     exact tu3_spec l g al ga gf gl gt nd st q now hl ha hgt ow lv.1 lv.2
 · rw [if_neg lv]
   cases hf:findB l q.key with
   | false=>exact tuN_spec l g al ga gf gl gt nd st q now hl ha hgt o1 o4 hf
   | true=>exact tuG_spec l g al ga gf gl gt nd st q now hl ha hgt o1 o4 hf (by
    rcases Bool.eq_false_or_eq_true (getE l q.key).card.gone with z | z
    · exact z
    · exact absurd ⟨hf,z⟩ lv)
theorem turn_at (l:List Entry) (g:Nat) (al:List Key) (ga:Nat) (gf gl gt nd:Int) (st:Stamp) (q:Msg) (now:Int) (hl:l.length < 1000) (ha:al.length < 100000) (hgt:0≤gt∧gt < 4611686018427387904) (ho1:1≤q.op) (ho5:q.op < 5) (hs0:0≤q.status) (H:Heap):ACalls Tryz.prog 55 [(.obj 5 0 0 0),(.agg (Msg.row q)),(.int .i64 now)] ((Yc_1 g l gf gl gt al ga nd st)++H) ((AV.tup [(.sl .any 9 (List.map Card.row (tuR l g al ga gt nd st q now).c)),(.int .i64 (tuR l g al ga gt nd st q now).code)]),([⟨0,2,[[(.int .i64 (capM 32)),(.osl 1 (tuR l g al ga gt nd st q now).g 10 0 (List.length (tuR l g al ga gt nd st q now).l))]],none⟩,⟨(tuR l g al ga gt nd st q now).g,10,(List.map Entry.row (tuR l g al ga gt nd st q now).l),none⟩,⟨0,3,[[(.int .i64 gf),(.int .i64 gl),(.int .i64 (tuR l g al ga gt nd st q now).gt)]],none⟩,⟨0,2,[[(.int .i64 (((List.length (tuR l g al ga gt nd st q now).al):Nat):Int)),(.osl 4 (tuR l g al ga gt nd st q now).ga 2 0 (List.length (recL (tuR l g al ga gt nd st q now).al)))]],none⟩,⟨(tuR l g al ga gt nd st q now).ga,2,(List.map Key.row (recL (tuR l g al ga gt nd st q now).al)),none⟩,⟨0,7,[[(.int .i64 nd),(.int .i64 (tuR l g al ga gt nd st q now).st.t),(.int .i64 (tuR l g al ga gt nd st q now).st.node),(.int .i64 (tuR l g al ga gt nd st q now).st.n),(.obj 0 0 0 0),(.obj 2 0 0 0),(.obj 3 0 0 0)]],none⟩]:Heap)++H):=(turn_spec l g al ga gf gl gt nd st q now hl ha hgt ho1 ho5 hs0).ext kr kr ob ob kr H
end Go.Proofs.YtfjedpipdnlkfaaGreat.AM

set_option maxRecDepth 100000
set_option linter.unusedVariables false
set_option linter.unusedSimpArgs false
namespace Go.Proofs.YtfjedpipdnlkfaaGreat.AM
open Go Go.Proofs.YtfjedpipdnlkfaaGreat
attribute [local irreducible] ACalls funT codeT codeQ LoopTo
attribute [local irreducible] cmpSt maxS nextS setA setG putE putL putG getE findB tuR msgR zeroM opM withB namesK
def hdM (q:Msg) (code:Int):Msg:=⟨2,q.op,0,code,q.tag,0,0,q.key,false,0,[],[]⟩
def hdA_ann:Ann:={ refs:=[4],gha:=[(10,.frzf 6 11 9),(10,.frzf 6 12 2)],base:=6,fin:=some 6 }
@[simp] abbrev Yd_o1 (v1_:Nat) (v2_:List Entry):Ob:=⟨0,2,[[(AV.int .i64 (capM 32)),(AV.osl 1 v1_ 10 0 (List.length v2_))]],none⟩
@[simp] abbrev Yd_o2 (v1_:Int) (v2_:Int) (v3_:Int):Ob:=⟨0,3,[[(AV.int .i64 v1_),(AV.int .i64 v2_),(AV.int .i64 v3_)]],none⟩
@[simp] abbrev Yd_o3 (v1_:List Key) (v2_:Nat):Ob:=⟨0,2,[[(AV.int .i64 (((List.length v1_):Nat):Int)),(AV.osl 4 v2_ 2 0 (List.length (recL v1_)))]],none⟩
@[simp] abbrev Yd_o4 (v1_:Int) (v2_:Stamp):Ob:=⟨0,7,[[(AV.int .i64 v1_),(AV.int .i64 v2_.t),(AV.int .i64 v2_.node),(AV.int .i64 v2_.n),(AV.obj 0 0 0 0),(AV.obj 2 0 0 0),(AV.obj 3 0 0 0)]],none⟩
@[simp] abbrev Yd_1 (v1_:Nat) (v2_:List Entry) (v3_:Int) (v4_:Int) (v5_:Int) (v6_:List Key) (v7_:Nat) (v8_:Int) (v9_:Stamp):Heap:=[Yd_o1 v1_ v2_,⟨v1_,10,(List.map Entry.row v2_),none⟩,Yd_o2 v3_ v4_ v5_,Yd_o3 v6_ v7_,⟨v7_,2,(List.map Key.row (recL v6_)),none⟩,Yd_o4 v8_ v9_]
@[simp] abbrev Yd_2 (v1_:List Entry) (v2_:Nat) (v3_:List Key) (v4_:Nat) (v5_:Int) (v6_:Int) (v7_:Stamp) (v8_:Msg) (v9_:Int) (v10_:Int) (v11_:Int):Heap:=[⟨0,2,[[(AV.int .i64 (capM 32)),(AV.osl 1 (tuR v1_ v2_ v3_ v4_ v5_ v6_ v7_ v8_ (hold40 v9_)).g 10 0 (List.length (tuR v1_ v2_ v3_ v4_ v5_ v6_ v7_ v8_ (hold40 v9_)).l))]],none⟩,⟨(tuR v1_ v2_ v3_ v4_ v5_ v6_ v7_ v8_ (hold40 v9_)).g,10,(List.map Entry.row (tuR v1_ v2_ v3_ v4_ v5_ v6_ v7_ v8_ (hold40 v9_)).l),none⟩,⟨0,3,[[(AV.int .i64 v10_),(AV.int .i64 v11_),(AV.int .i64 (tuR v1_ v2_ v3_ v4_ v5_ v6_ v7_ v8_ (hold40 v9_)).gt)]],none⟩,⟨0,2,[[(AV.int .i64 (((List.length (tuR v1_ v2_ v3_ v4_ v5_ v6_ v7_ v8_ (hold40 v9_)).al):Nat):Int)),(AV.osl 4 (tuR v1_ v2_ v3_ v4_ v5_ v6_ v7_ v8_ (hold40 v9_)).ga 2 0 (List.length (recL (tuR v1_ v2_ v3_ v4_ v5_ v6_ v7_ v8_ (hold40 v9_)).al)))]],none⟩,⟨(tuR v1_ v2_ v3_ v4_ v5_ v6_ v7_ v8_ (hold40 v9_)).ga,2,(List.map Key.row (recL (tuR v1_ v2_ v3_ v4_ v5_ v6_ v7_ v8_ (hold40 v9_)).al)),none⟩,⟨0,7,[[(AV.int .i64 v6_),(AV.int .i64 (tuR v1_ v2_ v3_ v4_ v5_ v6_ v7_ v8_ (hold40 v9_)).st.t),(AV.int .i64 (tuR v1_ v2_ v3_ v4_ v5_ v6_ v7_ v8_ (hold40 v9_)).st.node),(AV.int .i64 (tuR v1_ v2_ v3_ v4_ v5_ v6_ v7_ v8_ (hold40 v9_)).st.n),(AV.obj 0 0 0 0),(AV.obj 2 0 0 0),(AV.obj 3 0 0 0)]],none⟩]
@[simp] abbrev Yd_o5 :Ob:=⟨0,13,[[(AV.int .i64 0),(AV.int .i64 0),(AV.int .i64 0),(AV.int .i64 0),(AV.int .i64 0),(AV.int .i64 0),(AV.int .i64 0),(AV.str ⟨#[]⟩),(AV.str ⟨#[]⟩),(AV.bool false),(AV.int .u32 0),(AV.sl .nil 0 []),(AV.sl .nil 0 [])]],none⟩
@[simp] abbrev Yd_3 (v1_:Nat) (v2_:List Entry) (v3_:Int) (v4_:Int) (v5_:Int) (v6_:List Key) (v7_:Nat) (v8_:Int) (v9_:Stamp):Heap:=[Yd_o1 v1_ v2_,⟨v1_,10,(List.map Entry.row v2_),none⟩,Yd_o2 v3_ v4_ v5_,Yd_o3 v6_ v7_,⟨v7_,2,(List.map Key.row (recL v6_)),none⟩,Yd_o4 v8_ v9_,Yd_o5]
@[simp] abbrev Yd_4 (v1_:Nat) (v2_:List Entry) (v3_:Int) (v4_:Int) (v5_:Int) (v6_:List Key) (v7_:Nat) (v8_:Int) (v9_:Stamp) (v10_:Msg):Heap:=[Yd_o1 v1_ v2_,⟨v1_,10,(List.map Entry.row v2_),none⟩,Yd_o2 v3_ v4_ v5_,Yd_o3 v6_ v7_,⟨v7_,2,(List.map Key.row (recL v6_)),none⟩,Yd_o4 v8_ v9_,Yd_o5,⟨0,13,[[(AV.int .i64 2),(AV.int .i64 v10_.op),(AV.int .i64 0),(AV.int .i64 0),(AV.int .i64 v10_.tag),(AV.int .i64 0),(AV.int .i64 0),(AV.str v10_.key.app),(AV.str v10_.key.id),(AV.bool false),(AV.int .u32 0),(AV.sl .nil 0 []),(AV.sl .nil 0 [])]],none⟩]
theorem hdA_spec (l:List Entry) (g:Nat) (al:List Key) (ga:Nat) (gf gl gt nd:Int) (st:Stamp) (q:Msg) (now:Int) (hl:l.length < 1000) (ha:al.length < 100000) (hgt:0≤gt∧gt < 4611686018427387904) (ho1:1≤q.op) (ho5:q.op < 5) (hs0:0≤q.status) (hk:q.kind=1) (hr:msgR q=true):ACalls Tryz.prog 18 [(.obj 5 0 0 0),(.agg (Msg.row q)),(.int .i64 now)] (Yd_1 g l gf gl gt al ga nd st) ((AV.tup [(.agg (Msg.row (hdM q (tuR l g al ga gt nd st q (hold40 now)).code))),(.sl .any 9 (List.map Card.row (tuR l g al ga gt nd st q (hold40 now)).c))]),(Yd_2 l g al ga gt nd st q now gf gl)) :=
 specO (fn:=Tryz.f18) (ann:=hdA_ann) (Has.o Tryz.func18) (.r (.g (.r (.c 1 (dheld_at now  (Yd_3 g l gf gl gt al ga nd st)) (.g (.r (.g (.r (.h' (Yd_4 g l gf gl gt al ga nd st q) (.y 2 (AV.bool (q.kind != 1)) (AV.bool false) (Yes.bool (by rw [hk]; rfl)) (.no (.no (.c 5 (mrightG_at q oa (Yd_4 g l gf gl gt al ga nd st q)) (.no (.g (.no (.r (.y 2 (AV.bool (q.op == 5)) (AV.bool false) (Yes.bool (by have z:¬ q.op=5:=ow; simpa using z)) (.g (.no (.r (.ch 3 ([⟨0,2,[[(AV.int .i64 (capM 32)),(AV.osl 1 (tuR l g al ga gt nd st q (hold40 now)).g 10 0 (List.length (tuR l g al ga gt nd st q (hold40 now)).l))]],none⟩,⟨(tuR l g al ga gt nd st q (hold40 now)).g,10,(List.map Entry.row (tuR l g al ga gt nd st q (hold40 now)).l),none⟩,⟨0,3,[[(AV.int .i64 gf),(AV.int .i64 gl),(AV.int .i64 (tuR l g al ga gt nd st q (hold40 now)).gt)]],none⟩,⟨0,2,[[(AV.int .i64 (((List.length (tuR l g al ga gt nd st q (hold40 now)).al):Nat):Int)),(AV.osl 4 (tuR l g al ga gt nd st q (hold40 now)).ga 2 0 (List.length (recL (tuR l g al ga gt nd st q (hold40 now)).al)))]],none⟩,⟨(tuR l g al ga gt nd st q (hold40 now)).ga,2,(List.map Key.row (recL (tuR l g al ga gt nd st q (hold40 now)).al)),none⟩,⟨0,7,[[(AV.int .i64 nd),(AV.int .i64 (tuR l g al ga gt nd st q (hold40 now)).st.t),(AV.int .i64 (tuR l g al ga gt nd st q (hold40 now)).st.node),(AV.int .i64 (tuR l g al ga gt nd st q (hold40 now)).st.n),(AV.obj 0 0 0 0),(AV.obj 2 0 0 0),(AV.obj 3 0 0 0)]],none⟩,⟨0,13,[[(AV.int .i64 0),(AV.int .i64 0),(AV.int .i64 0),(AV.int .i64 0),(AV.int .i64 0),(AV.int .i64 0),(AV.int .i64 0),(AV.str ⟨#[]⟩),(AV.str ⟨#[]⟩),(AV.bool false),(AV.int .u32 0),(AV.sl .nil 0 []),(AV.sl .nil 0 [])]],none⟩,⟨0,13,[[(AV.int .i64 2),(AV.int .i64 q.op),(AV.int .i64 0),(AV.int .i64 0),(AV.int .i64 q.tag),(AV.int .i64 0),(AV.int .i64 0),(AV.str q.key.app),(AV.str q.key.id),(AV.bool false),(AV.int .u32 0),(AV.sl .nil 0 []),(AV.sl .nil 0 [])]],none⟩]:Heap) (turn_at l g al ga gf gl gt nd st q (hold40 now) oa oa oa oa oa oa ([⟨0,13,[[(AV.int .i64 0),(AV.int .i64 0),(AV.int .i64 0),(AV.int .i64 0),(AV.int .i64 0),(AV.int .i64 0),(AV.int .i64 0),(AV.str ⟨#[]⟩),(AV.str ⟨#[]⟩),(AV.bool false),(AV.int .u32 0),(AV.sl .nil 0 []),(AV.sl .nil 0 [])]],none⟩,⟨0,13,[[(AV.int .i64 2),(AV.int .i64 q.op),(AV.int .i64 0),(AV.int .i64 0),(AV.int .i64 q.tag),(AV.int .i64 0),(AV.int .i64 0),(AV.str q.key.app),(AV.str q.key.id),(AV.bool false),(AV.int .u32 0),(AV.sl .nil 0 []),(AV.sl .nil 0 [])]],none⟩]:Heap)) (.g (.r (.g (.r (.o (rfl:0=0) (.o (rfl:0=0) (.g (.h' (Yd_2 l g al ga gt nd st q now gf gl) (.f 6 (AV.tup [(AV.agg [(AV.int .i64 2),(AV.int .i64 q.op),(AV.int .i64 0),(AV.int .i64 (tuR l g al ga gt nd st q (hold40 now)).code),(AV.int .i64 q.tag),(AV.int .i64 0),(AV.int .i64 0),(AV.str q.key.app),(AV.str q.key.id),(AV.bool false),(AV.int .u32 0),(AV.sl .any 9 (List.map Card.row [])),(AV.sl .any 2 (List.map Key.row []))]),(AV.sl .any 9 (List.map Card.row (tuR l g al ga gt nd st q (hold40 now)).c))]) (.e (AV.tup [(AV.agg [(AV.int .i64 2),(AV.int .i64 q.op),(AV.int .i64 0),(AV.int .i64 (tuR l g al ga gt nd st q (hold40 now)).code),(AV.int .i64 q.tag),(AV.int .i64 0),(AV.int .i64 0),(AV.str q.key.app),(AV.str q.key.id),(AV.bool false),(AV.int .u32 0),(AV.sl .any 9 (List.map Card.row [])),(AV.sl .any 2 (List.map Key.row []))]),(AV.sl .any 9 (List.map Card.row (tuR l g al ga gt nd st q (hold40 now)).c))])))))))))))))))))))))))))))))))))
def fnew_ann:Ann:={ refs:=[11],fin:=some 0 }
theorem fnew_spec (tx:ByteArray) (code:Int) (h:¬ code=0):ACalls Tryz.prog 96 [(.str tx),(.int .i64 code)] ([]:Heap) ((AV.iface 222 (AV.ref [(.str tx),(.iface 42 (AV.int .i64 code))] 0)),([]:Heap)) :=
 specO (fn:=Tryz.f96) (ann:=fnew_ann) (Has.o Tryz.func96) (.r (.g (.r (.y 1 (AV.bool (code == 0)) (AV.bool false) (Yes.bool (by simpa using h)) (.g (.no (.r (.g (.f 0 (AV.iface 222 (AV.ref [(AV.str tx),(AV.iface 42 (AV.int .i64 code))] 0)) (.e (AV.iface 222 (AV.ref [(AV.str tx),(AV.iface 42 (AV.int .i64 code))] 0))))))))))))
theorem fnew_at (tx:ByteArray) (code:Int) (h:¬ code=0) (H:Heap):ACalls Tryz.prog 96 [(.str tx),(.int .i64 code)] H ((AV.iface 222 (AV.ref [(.str tx),(.iface 42 (AV.int .i64 code))] 0)),H):=(fnew_spec tx code h).lift kr kr H
theorem zero_ask {q:Msg} (hk:q.kind=1) (h:zeroM q=true):q.code=0∧q.full=false∧q.sum=0∧q.cards=[]∧q.keys=[]:=by
 with_unfolding_all
  unfold zeroM at h
  rw [if_pos hk] at h
  simp only [sameZ,Bool.and_eq_true,decide_eq_true_eq,beq_iff_eq,List.length_eq_zero_iff] at h
  obtain ⟨h1,h2,_,_,_,h3,_,_,_,_,h4,h5⟩:=h
  exact ⟨h3,h4,h5,h1,h2⟩
def errB (b:List UInt8) (code:Int):AV:=.ref [.str (ByteArray.mk b.toArray),.iface 42 (.int .i64 code)] 0
def errA (q:Msg):AV:=if zeroM q=false then errB [122,101,114,111] 12 else if opM q=false then errB [111,112] 12 else errB [110,117,109,98,101,114] 1
@[simp] theorem errA_bdd (n:Nat) (q:Msg):AV.bdd n (errA q)=true:=by unfold errA errB; split <;> (try split) <;> simp [AV.bdd,AV.bdds]
def mrZ_ann:Ann:={ refs:=[1],fin:=some 0 }
theorem mrZ_spec (q:Msg) (hk:q.kind=1) (hz:zeroM q=false):ACalls Tryz.prog 53 [(.agg (Msg.row q))] ([]:Heap) ((AV.iface 222 (AV.ref [(.str (ByteArray.mk #[122,101,114,111])),(.iface 42 (AV.int .i64 12))] 0)),([]:Heap)) :=
 specO (fn:=Tryz.f53) (ann:=mrZ_ann) (Has.o Tryz.func53) (.r (.g (.r (.y 2 (AV.bool (decide (q.kind < 1))) (AV.bool false) (Yes.bool (by rw [hk]; rfl)) (.no (.no (.no (.y 6 (AV.bool (decide (q.kind > 5))) (AV.bool false) (Yes.bool (by rw [hk]; rfl)) (.g (.no (.r (.c 1 (mzero_at q  ([]:Heap)) (.y 2 (AV.bool (!(zeroM q))) (AV.bool true) (Yes.bool (by rw [hz]; rfl)) (.g (.yes (.r (.c 0 (fnew_at (ByteArray.mk #[122,101,114,111]) 12 oa ([]:Heap)) (.g (.f 0 (AV.iface 222 (AV.ref [(AV.str (ByteArray.mk #[122,101,114,111])),(AV.iface 42 (AV.int .i64 12))] 0)) (.e (AV.iface 222 (AV.ref [(AV.str (ByteArray.mk #[122,101,114,111])),(AV.iface 42 (AV.int .i64 12))] 0))))))))))))))))))))))
def mrO_ann:Ann:={ refs:=[1],fin:=some 0 }
theorem mrO_spec (q:Msg) (hk:q.kind=1) (hz:zeroM q=true) (ho:opM q=false):ACalls Tryz.prog 53 [(.agg (Msg.row q))] ([]:Heap) ((AV.iface 222 (AV.ref [(.str (ByteArray.mk #[111,112])),(.iface 42 (AV.int .i64 12))] 0)),([]:Heap)) :=
 specO (fn:=Tryz.f53) (ann:=mrO_ann) (Has.o Tryz.func53) (.r (.g (.r (.y 2 (AV.bool (decide (q.kind < 1))) (AV.bool false) (Yes.bool (by rw [hk]; rfl)) (.no (.no (.no (.y 6 (AV.bool (decide (q.kind > 5))) (AV.bool false) (Yes.bool (by rw [hk]; rfl)) (.g (.no (.r (.c 1 (mzero_at q  ([]:Heap)) (.y 2 (AV.bool (!(zeroM q))) (AV.bool false) (Yes.bool (by rw [hz]; rfl)) (.g (.no (.r (.c 1 (mop_at q  ([]:Heap)) (.y 2 (AV.bool (!(opM q))) (AV.bool true) (Yes.bool (by rw [ho]; rfl)) (.g (.yes (.r (.c 0 (fnew_at (ByteArray.mk #[111,112]) 12 oa ([]:Heap)) (.g (.f 0 (AV.iface 222 (AV.ref [(AV.str (ByteArray.mk #[111,112])),(AV.iface 42 (AV.int .i64 12))] 0)) (.e (AV.iface 222 (AV.ref [(AV.str (ByteArray.mk #[111,112])),(AV.iface 42 (AV.int .i64 12))] 0)))))))))))))))))))))))))))
def mrN1_ann:Ann:={ refs:=[1],fin:=some 0 }
theorem mrN1_spec (q:Msg) (hk:q.kind=1) (hz:zeroM q=true) (ho:opM q=true) (hn:withB q.status=false):ACalls Tryz.prog 53 [(.agg (Msg.row q))] ([]:Heap) ((AV.iface 222 (AV.ref [(.str (ByteArray.mk #[110,117,109,98,101,114])),(.iface 42 (AV.int .i64 1))] 0)),([]:Heap)) :=
 specO (fn:=Tryz.f53) (ann:=mrN1_ann) (Has.o Tryz.func53) (.r (.g (.r (.y 2 (AV.bool (decide (q.kind < 1))) (AV.bool false) (Yes.bool (by rw [hk]; rfl)) (.no (.no (.no (.y 6 (AV.bool (decide (q.kind > 5))) (AV.bool false) (Yes.bool (by rw [hk]; rfl)) (.g (.no (.r (.c 1 (mzero_at q  ([]:Heap)) (.y 2 (AV.bool (!(zeroM q))) (AV.bool false) (Yes.bool (by rw [hz]; rfl)) (.g (.no (.r (.c 1 (mop_at q  ([]:Heap)) (.y 2 (AV.bool (!(opM q))) (AV.bool false) (Yes.bool (by rw [ho]; rfl)) (.g (.no (.r (.c 2 (mwithin_at q.code  ([]:Heap)) (.y 3 (AV.bool (!(withB q.code))) (AV.bool false) (Yes.bool (by rw [(zero_ask hk hz).1]; with_unfolding_all rfl)) (.no (.no (.no (.c 7 (mwithin_at q.status  ([]:Heap)) (.no (.y 8 (AV.bool (!(withB q.status))) (AV.bool true) (Yes.bool (by rw [hn]; rfl)) (.yes (.yes (.yes (.g (.yes (.r (.c 0 (fnew_at (ByteArray.mk #[110,117,109,98,101,114]) 1 oa ([]:Heap)) (.g (.f 0 (AV.iface 222 (AV.ref [(AV.str (ByteArray.mk #[110,117,109,98,101,114])),(AV.iface 42 (AV.int .i64 1))] 0)) (.e (AV.iface 222 (AV.ref [(AV.str (ByteArray.mk #[110,117,109,98,101,114])),(AV.iface 42 (AV.int .i64 1))] 0)))))))))))))))))))))))))))))))))))))))))
def mrN2_ann:Ann:={ refs:=[1],fin:=some 0 }
theorem mrN2_spec (q:Msg) (hk:q.kind=1) (hz:zeroM q=true) (ho:opM q=true) (hn:withB q.status=true) (hs:q.seq < -1):ACalls Tryz.prog 53 [(.agg (Msg.row q))] ([]:Heap) ((AV.iface 222 (AV.ref [(.str (ByteArray.mk #[110,117,109,98,101,114])),(.iface 42 (AV.int .i64 1))] 0)),([]:Heap)) :=
 specO (fn:=Tryz.f53) (ann:=mrN2_ann) (Has.o Tryz.func53) (.r (.g (.r (.y 2 (AV.bool (decide (q.kind < 1))) (AV.bool false) (Yes.bool (by rw [hk]; rfl)) (.no (.no (.no (.y 6 (AV.bool (decide (q.kind > 5))) (AV.bool false) (Yes.bool (by rw [hk]; rfl)) (.g (.no (.r (.c 1 (mzero_at q  ([]:Heap)) (.y 2 (AV.bool (!(zeroM q))) (AV.bool false) (Yes.bool (by rw [hz]; rfl)) (.g (.no (.r (.c 1 (mop_at q  ([]:Heap)) (.y 2 (AV.bool (!(opM q))) (AV.bool false) (Yes.bool (by rw [ho]; rfl)) (.g (.no (.r (.c 2 (mwithin_at q.code  ([]:Heap)) (.y 3 (AV.bool (!(withB q.code))) (AV.bool false) (Yes.bool (by rw [(zero_ask hk hz).1]; with_unfolding_all rfl)) (.no (.no (.no (.c 7 (mwithin_at q.status  ([]:Heap)) (.no (.y 8 (AV.bool (!(withB q.status))) (AV.bool false) (Yes.bool (by rw [hn]; rfl)) (.no (.no (.no (.y 13 (AV.bool (decide (q.seq < (-1)))) (AV.bool true) (Yes.bool (decide_eq_true hs)) (.g (.yes (.r (.c 0 (fnew_at (ByteArray.mk #[110,117,109,98,101,114]) 1 oa ([]:Heap)) (.g (.f 0 (AV.iface 222 (AV.ref [(AV.str (ByteArray.mk #[110,117,109,98,101,114])),(AV.iface 42 (AV.int .i64 1))] 0)) (.e (AV.iface 222 (AV.ref [(AV.str (ByteArray.mk #[110,117,109,98,101,114])),(AV.iface 42 (AV.int .i64 1))] 0))))))))))))))))))))))))))))))))))))))))))
theorem mrB_spec (q : Msg) (hk : q.kind = 1) (hr : msgR q = false) : ACalls Tryz.prog 53 [(.agg (Msg.row q))] ([] : Heap) ((AV.iface 222 (errA q)), ([] : Heap)) := by
  cases hz : zeroM q with
  | false => have e : errA q = errB [122, 101, 114, 111] 12 := by unfold errA; rw [if_pos hz]
             rw [e]; exact mrZ_spec q hk hz
  | true =>
    cases ho : opM q with
    | false => have e : errA q = errB [111, 112] 12 := by unfold errA; rw [if_neg (by rw [hz]; simp), if_pos ho]
               rw [e]; exact mrO_spec q hk hz ho
    | true =>
      have e : errA q = errB [110, 117, 109, 98, 101, 114] 1 := by unfold errA; rw [if_neg (by rw [hz]; simp), if_neg (by rw [ho]; simp)]
      rw [e]
      cases hn : withB q.status with
      | false => exact mrN1_spec q hk hz ho hn
      | true =>
        refine mrN2_spec q hk hz ho hn ?_
        obtain ⟨c1, c2, c3, c4, c5⟩ := zero_ask hk hz
        have hw : withB 0 = true := by with_unfolding_all rfl
        by_cases h : q.seq < -1
        · exact h
        · have : msgR q = true := by
            with_unfolding_all
              unfold msgR
              rw [hz, ho, c1, hw, hn, c4, c5, hk, decide_eq_true (show -1 ≤ q.seq by omega)]
              rfl
          rw [this] at hr; simp at hr
theorem mrB_at (q:Msg) (hk:q.kind=1) (hr:msgR q=false) (H:Heap):ACalls Tryz.prog 53 [(.agg (Msg.row q))] H ((AV.iface 222 (errA q)),H):=(mrB_spec q hk hr).lift kr (by simp [AV.bdd,AV.bdds]) H
attribute [local irreducible] errA
def hdK_ann:Ann:={ refs:=[4],gha:=[(5,.frzf 6 11 9),(5,.frzf 6 12 2),(5,.any 7 9)],base:=6,fin:=some 6 }
theorem hdK_spec (l:List Entry) (g:Nat) (al:List Key) (ga:Nat) (gf gl gt nd:Int) (st:Stamp) (q:Msg) (now:Int) (hk:¬ q.kind=1):ACalls Tryz.prog 18 [(.obj 5 0 0 0),(.agg (Msg.row q)),(.int .i64 now)] (Yd_1 g l gf gl gt al ga nd st) ((AV.tup [(.agg (Msg.row (hdM q 1))),(.sl .any 9 (List.map Card.row ([]:List Card)))]),(Yd_1 g l gf gl gt al ga nd st)) :=
 specO (fn:=Tryz.f18) (ann:=hdK_ann) (Has.o Tryz.func18) (.r (.g (.r (.c 1 (dheld_at now  (Yd_3 g l gf gl gt al ga nd st)) (.g (.r (.g (.r (.h' (Yd_4 g l gf gl gt al ga nd st q) (.y 2 (AV.bool (q.kind != 1)) (AV.bool true) (Yes.bool (by simpa using hk)) (.yes (.yes (.yes (.g (.yes (.r (.g (.r (.o (rfl:0=0) (.o (rfl:0=0) (.g (.h' (Yd_1 g l gf gl gt al ga nd st) (.f 6 (AV.tup [(AV.agg [(AV.int .i64 2),(AV.int .i64 q.op),(AV.int .i64 0),(AV.int .i64 1),(AV.int .i64 q.tag),(AV.int .i64 0),(AV.int .i64 0),(AV.str q.key.app),(AV.str q.key.id),(AV.bool false),(AV.int .u32 0),(AV.sl .any 9 (List.map Card.row [])),(AV.sl .any 2 (List.map Key.row []))]),(AV.sl .any 9 [])]) (.e (AV.tup [(AV.agg [(AV.int .i64 2),(AV.int .i64 q.op),(AV.int .i64 0),(AV.int .i64 1),(AV.int .i64 q.tag),(AV.int .i64 0),(AV.int .i64 0),(AV.str q.key.app),(AV.str q.key.id),(AV.bool false),(AV.int .u32 0),(AV.sl .any 9 (List.map Card.row [])),(AV.sl .any 2 (List.map Key.row []))]),(AV.sl .any 9 [])])))))))))))))))))))))))))
def hdB_ann:Ann:={ refs:=[4],gha:=[(5,.frzf 6 11 9),(5,.frzf 6 12 2),(5,.any 7 9)],base:=6,fin:=some 6 }
theorem hdB_spec (l:List Entry) (g:Nat) (al:List Key) (ga:Nat) (gf gl gt nd:Int) (st:Stamp) (q:Msg) (now:Int) (hk:q.kind=1) (hr:msgR q=false):ACalls Tryz.prog 18 [(.obj 5 0 0 0),(.agg (Msg.row q)),(.int .i64 now)] (Yd_1 g l gf gl gt al ga nd st) ((AV.tup [(.agg (Msg.row (hdM q 1))),(.sl .any 9 (List.map Card.row ([]:List Card)))]),(Yd_1 g l gf gl gt al ga nd st)) :=
 specO (fn:=Tryz.f18) (ann:=hdB_ann) (Has.o Tryz.func18) (.r (.g (.r (.c 1 (dheld_at now  (Yd_3 g l gf gl gt al ga nd st)) (.g (.r (.g (.r (.h' (Yd_4 g l gf gl gt al ga nd st q) (.y 2 (AV.bool (q.kind != 1)) (AV.bool false) (Yes.bool (by rw [hk]; rfl)) (.no (.no (.c 5 (mrB_at q oa oa (Yd_4 g l gf gl gt al ga nd st q)) (.no (.g (.yes (.r (.g (.r (.o (rfl:0=0) (.o (rfl:0=0) (.g (.h' (Yd_1 g l gf gl gt al ga nd st) (.f 6 (AV.tup [(AV.agg [(AV.int .i64 2),(AV.int .i64 q.op),(AV.int .i64 0),(AV.int .i64 1),(AV.int .i64 q.tag),(AV.int .i64 0),(AV.int .i64 0),(AV.str q.key.app),(AV.str q.key.id),(AV.bool false),(AV.int .u32 0),(AV.sl .any 9 (List.map Card.row [])),(AV.sl .any 2 (List.map Key.row []))]),(AV.sl .any 9 [])]) (.e (AV.tup [(AV.agg [(AV.int .i64 2),(AV.int .i64 q.op),(AV.int .i64 0),(AV.int .i64 1),(AV.int .i64 q.tag),(AV.int .i64 0),(AV.int .i64 0),(AV.str q.key.app),(AV.str q.key.id),(AV.bool false),(AV.int .u32 0),(AV.sl .any 9 (List.map Card.row [])),(AV.sl .any 2 (List.map Key.row []))]),(AV.sl .any 9 [])]))))))))))))))))))))))))))
end Go.Proofs.YtfjedpipdnlkfaaGreat.AM

set_option maxRecDepth 100000
set_option linter.unusedVariables false
set_option linter.unusedSimpArgs false
namespace Go.Proofs.YtfjedpipdnlkfaaGreat.AM
open Go Go.Proofs.YtfjedpipdnlkfaaGreat
attribute [local irreducible] ACalls funT codeT codeQ LoopTo
attribute [local irreducible] hasK lastsK recL okS sinceK findP findB putL putE putG getE liveL capM seenK sealB ofB sortP hereL atC
def begunX_ann:Ann:={ base:=4,fin:=some 4 }
@[simp] abbrev Ye_o1 (v1_:Int) (v2_:Nat) (v3_:Nat):Ob:=⟨0,2,[[(AV.int .i64 v1_),(AV.osl 1 v2_ 10 0 v3_)]],none⟩
@[simp] abbrev Ye_o2 (v1_:List Key) (v2_:Nat):Ob:=⟨0,2,[[(AV.int .i64 (((List.length v1_):Nat):Int)),(AV.osl 3 v2_ 2 0 (List.length (recL v1_)))]],none⟩
@[simp] abbrev Ye_1 (v1_:Int) (v2_:Nat) (v3_:Nat) (v4_:List Entry) (v5_:List Key) (v6_:Nat):Heap:=[Ye_o1 v1_ v2_ v3_,⟨v2_,10,(List.map Entry.row v4_),none⟩,Ye_o2 v5_ v6_,⟨v6_,2,(List.map Key.row (recL v5_)),none⟩]
@[simp] abbrev Ye_o3 :Ob:=⟨0,13,[[(AV.int .i64 0),(AV.int .i64 0),(AV.int .i64 0),(AV.int .i64 0),(AV.int .i64 0),(AV.int .i64 0),(AV.int .i64 0),(AV.str ⟨#[]⟩),(AV.str ⟨#[]⟩),(AV.bool false),(AV.int .u32 0),(AV.sl .nil 0 []),(AV.sl .nil 0 [])]],none⟩
@[simp] abbrev Ye_2 (v1_:Int) (v2_:Nat) (v3_:Nat) (v4_:List Entry) (v5_:List Key) (v6_:Nat):Heap:=[Ye_o1 v1_ v2_ v3_,⟨v2_,10,(List.map Entry.row v4_),none⟩,Ye_o2 v5_ v6_,⟨v6_,2,(List.map Key.row (recL v5_)),none⟩,Ye_o3]
theorem begunX_spec (most:Int) (l:List Entry) (g n:Nat) (al:List Key) (ga:Nat) (hn:n=l.length) (hl:l.length < 1000) (ha:al.length < 1000000):ACalls Tryz.prog 172 [(.obj 0 0 0 0),(.obj 2 0 0 0)] (Ye_1 most g n l al ga) ((AV.agg [(.int .i64 2),(.int .i64 5),(.int .i64 0),(.int .i64 0),(.int .i64 0),(.int .i64 0),(.int .i64 ((al.length:Nat):Int)),(.str ⟨#[]⟩),(.str ⟨#[]⟩),(.bool false),(.int .u32 (ofB (List.map Entry.card l))),(.sl .nil 0 []),(.sl .nil 0 [])]),(Ye_1 most g n l al ga)):=by
 have hm:(List.map Entry.card l).length=l.length:=List.length_map _
 exact specO (fn:=Tryz.f172) (ann:=begunX_ann) (Has.o Tryz.func172) (.r (.g (.r (.c 1 (ACalls.pre (args:=[(AV.obj 2 0 0 0)]) (args':=[(AV.obj 2 0 0 0)]) (ACalls.put2 [2,3] (Ye_2 most g n l al ga) (AV.int .i64 ((al.length:Nat):Int)) (Ye_2 most g n l al ga) (seq_spec al ga ) (⟨rfl,⟨Ob.ren0 (Key.rows_bdd 0 _),trivial⟩⟩) (⟨rfl,⟨Ob.ren0 (Key.rows_bdd 0 _),trivial⟩⟩)) ⟨AV.wk_refl_any _,trivial⟩) (.c 3 (scards_at most l g n oa oa ([⟨0,2,[[(AV.int .i64 (((List.length al):Nat):Int)),(AV.osl 3 ga 2 0 (List.length (recL al)))]],none⟩,⟨ga,2,(List.map Key.row (recL al)),none⟩,⟨0,13,[[(AV.int .i64 0),(AV.int .i64 0),(AV.int .i64 0),(AV.int .i64 0),(AV.int .i64 0),(AV.int .i64 0),(AV.int .i64 0),(AV.str ⟨#[]⟩),(AV.str ⟨#[]⟩),(AV.bool false),(AV.int .u32 0),(AV.sl .nil 0 []),(AV.sl .nil 0 [])]],none⟩]:Heap)) (.c 4 (sealOfX_at (l.map (·.card)) oa (Ye_2 most g n l al ga)) (.g (.f 4 (AV.agg [(AV.int .i64 2),(AV.int .i64 5),(AV.int .i64 0),(AV.int .i64 0),(AV.int .i64 0),(AV.int .i64 0),(AV.int .i64 ((al.length:Nat):Int)),(AV.str ⟨#[]⟩),(AV.str ⟨#[]⟩),(AV.bool false),(AV.int .u32 (ofB (l.map (·.card)))),(AV.sl .nil 0 []),(AV.sl .nil 0 [])]) (.e (AV.agg [(AV.int .i64 2),(AV.int .i64 5),(AV.int .i64 0),(AV.int .i64 0),(AV.int .i64 0),(AV.int .i64 0),(AV.int .i64 ((al.length:Nat):Int)),(AV.str ⟨#[]⟩),(AV.str ⟨#[]⟩),(AV.bool false),(AV.int .u32 (ofB (l.map (·.card)))),(AV.sl .nil 0 []),(AV.sl .nil 0 [])]))))))))))
theorem begunX_at (most:Int) (l:List Entry) (g n:Nat) (al:List Key) (ga:Nat) (hn:n=l.length) (hl:l.length < 1000) (ha:al.length < 1000000) (H:Heap):ACalls Tryz.prog 172 [(.obj 0 0 0 0),(.obj 2 0 0 0)] ((Ye_1 most g n l al ga)++H) ((AV.agg [(.int .i64 2),(.int .i64 5),(.int .i64 0),(.int .i64 0),(.int .i64 0),(.int .i64 0),(.int .i64 ((al.length:Nat):Int)),(.str ⟨#[]⟩),(.str ⟨#[]⟩),(.bool false),(.int .u32 (ofB (List.map Entry.card l))),(.sl .nil 0 []),(.sl .nil 0 [])]),(Ye_1 most g n l al ga)++H):=(begunX_spec most l g n al ga hn hl ha).ext kr kr ob ob kr H
def ffullX_ann:Ann:={ base:=4,fin:=some 4 }
@[simp] abbrev Ye_3 :Heap:=[Ye_o3,Ye_o3]
theorem ffullX_spec (most:Int) (l:List Entry) (g n:Nat) (al:List Key) (ga:Nat) (hn:n=l.length) (hl:l.length < 1000) (ha:al.length < 1000000):ACalls Tryz.prog 106 [(.obj 0 0 0 0),(.obj 2 0 0 0)] (Ye_1 most g n l al ga) ((AV.agg [(.int .i64 2),(.int .i64 5),(.int .i64 0),(.int .i64 0),(.int .i64 0),(.int .i64 0),(.int .i64 ((al.length:Nat):Int)),(.str ⟨#[]⟩),(.str ⟨#[]⟩),(.bool true),(.int .u32 (ofB (List.map Entry.card l))),(.sl .any 9 (List.map Card.row (seenK (List.map Entry.card l)))),(.sl .nil 0 [])]),(Ye_1 most g n l al ga)):=by
 have hm:(List.map Entry.card l).length=l.length:=List.length_map _
 exact specO (fn:=Tryz.f106) (ann:=ffullX_ann) (Has.o Tryz.func106) (.r (.g (.r (.no (.no (.g (.no (.r (.c 2 (begunX_at most l g n al ga oa oa oa Ye_3) (.g (.r (.c 1 (scards_at most l g n oa oa ([⟨0,2,[[(AV.int .i64 (((List.length al):Nat):Int)),(AV.osl 3 ga 2 0 (List.length (recL al)))]],none⟩,⟨ga,2,(List.map Key.row (recL al)),none⟩,⟨0,13,[[(AV.int .i64 0),(AV.int .i64 0),(AV.int .i64 0),(AV.int .i64 0),(AV.int .i64 0),(AV.int .i64 0),(AV.int .i64 0),(AV.str ⟨#[]⟩),(AV.str ⟨#[]⟩),(AV.bool false),(AV.int .u32 0),(AV.sl .nil 0 []),(AV.sl .nil 0 [])]],none⟩,⟨0,13,[[(AV.int .i64 2),(AV.int .i64 5),(AV.int .i64 0),(AV.int .i64 0),(AV.int .i64 0),(AV.int .i64 0),(AV.int .i64 ((al.length:Nat):Int)),(AV.str ⟨#[]⟩),(AV.str ⟨#[]⟩),(AV.bool false),(AV.int .u32 (ofB (List.map Entry.card l))),(AV.sl .nil 0 []),(AV.sl .nil 0 [])]],none⟩]:Heap)) (.c 2 (seenX_at (l.map (·.card)) oa ([⟨0,2,[[(AV.int .i64 most),(AV.osl 1 g 10 0 n)]],none⟩,⟨g,10,(List.map Entry.row l),none⟩,⟨0,2,[[(AV.int .i64 (((List.length al):Nat):Int)),(AV.osl 3 ga 2 0 (List.length (recL al)))]],none⟩,⟨ga,2,(List.map Key.row (recL al)),none⟩,⟨0,13,[[(AV.int .i64 0),(AV.int .i64 0),(AV.int .i64 0),(AV.int .i64 0),(AV.int .i64 0),(AV.int .i64 0),(AV.int .i64 0),(AV.str ⟨#[]⟩),(AV.str ⟨#[]⟩),(AV.bool false),(AV.int .u32 0),(AV.sl .nil 0 []),(AV.sl .nil 0 [])]],none⟩,⟨0,13,[[(AV.int .i64 2),(AV.int .i64 5),(AV.int .i64 0),(AV.int .i64 0),(AV.int .i64 0),(AV.int .i64 0),(AV.int .i64 ((al.length:Nat):Int)),(AV.str ⟨#[]⟩),(AV.str ⟨#[]⟩),(AV.bool false),(AV.int .u32 (ofB (List.map Entry.card l))),(AV.sl .nil 0 []),(AV.sl .nil 0 [])]],none⟩]:Heap)) (.g (.r (.g (.f 4 (AV.agg [(AV.int .i64 2),(AV.int .i64 5),(AV.int .i64 0),(AV.int .i64 0),(AV.int .i64 0),(AV.int .i64 0),(AV.int .i64 ((al.length:Nat):Int)),(AV.str ⟨#[]⟩),(AV.str ⟨#[]⟩),(AV.bool true),(AV.int .u32 (ofB (List.map Entry.card l))),(AV.sl .any 9 (List.map Card.row (seenK (l.map (·.card))))),(AV.sl .nil 0 [])]) (.e (AV.agg [(AV.int .i64 2),(AV.int .i64 5),(AV.int .i64 0),(AV.int .i64 0),(AV.int .i64 0),(AV.int .i64 0),(AV.int .i64 ((al.length:Nat):Int)),(AV.str ⟨#[]⟩),(AV.str ⟨#[]⟩),(AV.bool true),(AV.int .u32 (ofB (List.map Entry.card l))),(AV.sl .any 9 (List.map Card.row (seenK (l.map (·.card))))),(AV.sl .nil 0 [])])))))))))))))))))))
theorem ffullX_at (most:Int) (l:List Entry) (g n:Nat) (al:List Key) (ga:Nat) (hn:n=l.length) (hl:l.length < 1000) (ha:al.length < 1000000) (H:Heap):ACalls Tryz.prog 106 [(.obj 0 0 0 0),(.obj 2 0 0 0)] ((Ye_1 most g n l al ga)++H) ((AV.agg [(.int .i64 2),(.int .i64 5),(.int .i64 0),(.int .i64 0),(.int .i64 0),(.int .i64 0),(.int .i64 ((al.length:Nat):Int)),(.str ⟨#[]⟩),(.str ⟨#[]⟩),(.bool true),(.int .u32 (ofB (List.map Entry.card l))),(.sl .any 9 (List.map Card.row (seenK (List.map Entry.card l)))),(.sl .nil 0 [])]),(Ye_1 most g n l al ga)++H):=(ffullX_spec most l g n al ga hn hl ha).ext kr kr ob ob kr H
def deltaX_ann:Ann:={ gh:=[(16,.frzf 9 11 9)],gha:=[(6,.virf 9 11 9),(15,.cut 7)],base:=4,fin:=some 4,live:=[(8,[0,6,9,36,37,38])],out:=[(8,[0,6,9,36,37,38])] }
@[simp] abbrev Ye_4 (v1_:List Key) (v2_:Nat):Fr:=(mkF 61 [(0,(AV.obj 0 0 0 0)),(6,(AV.obj 4 0 0 0)),(9,(AV.obj 5 0 0 0)),(36,(AV.sl .any 2 (List.map Key.row v1_))),(37,(AV.int .i64 ((v1_.length:Nat):Int))),(38,(AV.int .i64 ((v2_+1:Nat):Int)))])
@[simp] abbrev Ye_o4 (v1_:List Key) (v2_:List Entry) (v3_:Nat) (v4_:Nat):Ob:=⟨0,13,[[(AV.int .i64 2),(AV.int .i64 5),(AV.int .i64 0),(AV.int .i64 0),(AV.int .i64 0),(AV.int .i64 0),(AV.int .i64 ((v1_.length:Nat):Int)),(AV.str ⟨#[]⟩),(AV.str ⟨#[]⟩),(AV.bool false),(AV.int .u32 (ofB (List.map Entry.card v2_))),(AV.osl 6 (v3_+1) 9 0 (v4_+1)),(AV.sl .nil 0 [])]],none⟩
@[simp] abbrev Ye_5 (v1_:Int) (v2_:Nat) (v3_:Nat) (v4_:List Entry) (v5_:List Key) (v6_:Nat) (v7_:Nat) (v8_:Nat) (v9_:List Card) (v10_:List Key) (v11_:Nat):Heap:=[Ye_o1 v1_ v2_ v3_,⟨v2_,10,(List.map Entry.row v4_),none⟩,Ye_o2 v5_ v6_,⟨v6_,2,(List.map Key.row (recL v5_)),none⟩,Ye_o3,Ye_o4 v5_ v4_ v7_ v8_,⟨(v7_+1),9,(List.map Card.row (v9_++[(getE v4_ (nth v10_ v11_)).card])),none⟩]
@[simp] abbrev Ye_6 (v1_:Int) (v2_:Nat) (v3_:Nat) (v4_:List Entry) (v5_:List Key) (v6_:Nat) (v7_:Nat) (v8_:Nat) (v9_:List Card) (v10_:List Key) (v11_:Nat):Heap:=[Ye_o1 v1_ v2_ v3_,⟨v2_,10,(List.map Entry.row v4_),none⟩,Ye_o2 v5_ v6_,⟨v6_,2,(List.map Key.row (recL v5_)),none⟩,Ye_o3,Ye_o4 v5_ v4_ v7_ v8_,⟨(v7_+1),9,(List.map Card.row (v9_++[(Card.mk (nth v10_ v11_) 2 0 1 (Stamp.mk 0 0 0) true)])),none⟩]
@[simp] abbrev Ye_7 (v1_:List Key) (v2_:Nat):Fr:=(mkF 61 [(0,(AV.obj 0 0 0 0)),(6,(AV.obj 4 0 0 0)),(9,(AV.obj 5 0 0 0)),(36,(AV.sl .any 2 (List.map Key.row v1_))),(37,(AV.int .i64 ((v1_.length:Nat):Int))),(38,(AV.int .i64 ((v2_:Nat):Int)))])
@[simp] abbrev Ye_8 (v1_:Int) (v2_:Nat) (v3_:Nat) (v4_:List Entry) (v5_:List Key) (v6_:Nat) (v7_:Nat) (v8_:Nat) (v9_:List Card):Heap:=[Ye_o1 v1_ v2_ v3_,⟨v2_,10,(List.map Entry.row v4_),none⟩,Ye_o2 v5_ v6_,⟨v6_,2,(List.map Key.row (recL v5_)),none⟩,Ye_o3,⟨0,13,[[(AV.int .i64 2),(AV.int .i64 5),(AV.int .i64 0),(AV.int .i64 0),(AV.int .i64 0),(AV.int .i64 0),(AV.int .i64 ((v5_.length:Nat):Int)),(AV.str ⟨#[]⟩),(AV.str ⟨#[]⟩),(AV.bool false),(AV.int .u32 (ofB (List.map Entry.card v4_))),(AV.osl 6 v7_ 9 0 v8_),(AV.sl .nil 0 [])]],none⟩,⟨v7_,9,(List.map Card.row v9_),none⟩]
theorem deltaX_step (most:Int) (l:List Entry) (g:Nat) (n:Nat) (al:List Key) (ga:Nat) (ks:List Key) (out:List Card) (k:Nat) (gc:Nat) (i:Nat) (hn:n=l.length) (hl:l.length < 1000) (ha:al.length < 1000000) (hk:ks.length < 1000000) (hko:k=out.length) (hki:k≤i) (hle_:i≤ks.length) {eX:Ex} {FX:Fr} {HX:Heap} (k1:(decide (((i:Nat):Int) < ((ks.length:Nat):Int)))=true→(findB l (nth ks i))=true→LoopTo (codeQ Tryz.prog (X deltaX_ann) (loopOf Tryz.f107 0)) (some [0,6,9,36,37,38]) (some [0,6,9,36,37,38]) (Ye_4 ks i) (Ye_5 most g n l al ga gc k out ks i) eX FX HX) (k2:(decide (((i:Nat):Int) < ((ks.length:Nat):Int)))=true→(findB l (nth ks i))=false→LoopTo (codeQ Tryz.prog (X deltaX_ann) (loopOf Tryz.f107 0)) (some [0,6,9,36,37,38]) (some [0,6,9,36,37,38]) (Ye_4 ks i) (Ye_6 most g n l al ga gc k out ks i) eX FX HX) (k3:(decide (((i:Nat):Int) < ((ks.length:Nat):Int)))=false→((.exit 0:Ex),(Ye_7 ks i),(Ye_8 most g n l al ga gc k out))=(eX,FX,HX)):LoopTo (codeQ Tryz.prog (X deltaX_ann) (loopOf Tryz.f107 0)) (some [0,6,9,36,37,38]) (some [0,6,9,36,37,38]) (Ye_7 ks i) (Ye_8 most g n l al ga gc k out) eX FX HX :=
 stepO (.r (.g (.two (decide (((i:Nat):Int) < ((ks.length:Nat):Int))) (fun h1 h1'=>(.r (.h' ([⟨0,2,[[(AV.int .i64 most),(AV.osl 1 g 10 0 n)]],none⟩,⟨g,10,(List.map Entry.row l),none⟩,⟨0,2,[[(AV.int .i64 (((List.length al):Nat):Int)),(AV.osl 3 ga 2 0 (List.length (recL al)))]],none⟩,⟨ga,2,(List.map Key.row (recL al)),none⟩,⟨0,13,[[(AV.int .i64 0),(AV.int .i64 0),(AV.int .i64 0),(AV.int .i64 0),(AV.int .i64 0),(AV.int .i64 0),(AV.int .i64 0),(AV.str ⟨#[]⟩),(AV.str ⟨#[]⟩),(AV.bool false),(AV.int .u32 0),(AV.sl .nil 0 []),(AV.sl .nil 0 [])]],none⟩,⟨0,13,[[(AV.int .i64 2),(AV.int .i64 5),(AV.int .i64 0),(AV.int .i64 0),(AV.int .i64 0),(AV.int .i64 0),(AV.int .i64 ((al.length:Nat):Int)),(AV.str ⟨#[]⟩),(AV.str ⟨#[]⟩),(AV.bool false),(AV.int .u32 (ofB (List.map Entry.card l))),(AV.osl 6 gc 9 0 k),(AV.sl .nil 0 [])]],none⟩,⟨gc,9,(List.map Card.row out),none⟩,⟨0,2,[[(AV.str ⟨#[]⟩),(AV.str ⟨#[]⟩)]],none⟩]:Heap) (.is 0 2 2 (List.map Key.row ks) ((i:Nat):Int) (Key.row (nth ks i)) (IdxSl.mk _ ow ow) (.g (.r (.g (.r (.c 2 (get_at most l (nth ks i) g n oa oa ([⟨0,2,[[(AV.int .i64 (((List.length al):Nat):Int)),(AV.osl 3 ga 2 0 (List.length (recL al)))]],none⟩,⟨ga,2,(List.map Key.row (recL al)),none⟩,⟨0,13,[[(AV.int .i64 0),(AV.int .i64 0),(AV.int .i64 0),(AV.int .i64 0),(AV.int .i64 0),(AV.int .i64 0),(AV.int .i64 0),(AV.str ⟨#[]⟩),(AV.str ⟨#[]⟩),(AV.bool false),(AV.int .u32 0),(AV.sl .nil 0 []),(AV.sl .nil 0 [])]],none⟩,⟨0,13,[[(AV.int .i64 2),(AV.int .i64 5),(AV.int .i64 0),(AV.int .i64 0),(AV.int .i64 0),(AV.int .i64 0),(AV.int .i64 ((al.length:Nat):Int)),(AV.str ⟨#[]⟩),(AV.str ⟨#[]⟩),(AV.bool false),(AV.int .u32 (ofB (List.map Entry.card l))),(AV.osl 6 gc 9 0 k),(AV.sl .nil 0 [])]],none⟩,⟨gc,9,(List.map Card.row out),none⟩,⟨0,2,[(Key.row (nth ks i))],none⟩,⟨0,9,[[(AV.str (nth ks i).app),(AV.str (nth ks i).id),(AV.int .i64 2),(AV.int .i64 0),(AV.int .i64 1),(AV.int .i64 0),(AV.int .i64 0),(AV.int .i64 0),(AV.bool true)]],none⟩,⟨0,10,[[(AV.str ⟨#[]⟩),(AV.str ⟨#[]⟩),(AV.int .i64 0),(AV.int .i64 0),(AV.int .i64 0),(AV.int .i64 0),(AV.int .i64 0),(AV.int .i64 0),(AV.bool false),(AV.int .i64 0)]],none⟩]:Heap)) (.g (.r (.g (.two (findB l (nth ks i)) (fun h2 h2'=>(.r (.g (.r (.h' ([⟨0,2,[[(AV.int .i64 most),(AV.osl 1 g 10 0 n)]],none⟩,⟨g,10,(List.map Entry.row l),none⟩,⟨0,2,[[(AV.int .i64 (((List.length al):Nat):Int)),(AV.osl 3 ga 2 0 (List.length (recL al)))]],none⟩,⟨ga,2,(List.map Key.row (recL al)),none⟩,⟨0,13,[[(AV.int .i64 0),(AV.int .i64 0),(AV.int .i64 0),(AV.int .i64 0),(AV.int .i64 0),(AV.int .i64 0),(AV.int .i64 0),(AV.str ⟨#[]⟩),(AV.str ⟨#[]⟩),(AV.bool false),(AV.int .u32 0),(AV.sl .nil 0 []),(AV.sl .nil 0 [])]],none⟩,⟨0,13,[[(AV.int .i64 2),(AV.int .i64 5),(AV.int .i64 0),(AV.int .i64 0),(AV.int .i64 0),(AV.int .i64 0),(AV.int .i64 ((al.length:Nat):Int)),(AV.str ⟨#[]⟩),(AV.str ⟨#[]⟩),(AV.bool false),(AV.int .u32 (ofB (List.map Entry.card l))),(AV.osl 6 gc 9 0 k),(AV.sl .nil 0 [])]],none⟩,⟨gc,9,(List.map Card.row out),none⟩,⟨0,2,[(Key.row (nth ks i))],none⟩,⟨0,9,[(Card.row (getE l (nth ks i)).card)],none⟩,⟨0,10,[(Entry.row (getE l (nth ks i)))],none⟩]:Heap) (.ap 4 32 (AV.osl 6 gc 9 0 k) (AV.sl .clip 9 [(Card.row (getE l (nth ks i)).card)]) (AV.osl 6 (gc+1) 9 0 (k+1)) ([⟨0,2,[[(AV.int .i64 most),(AV.osl 1 g 10 0 n)]],none⟩,⟨g,10,(List.map Entry.row l),none⟩,⟨0,2,[[(AV.int .i64 (((List.length al):Nat):Int)),(AV.osl 3 ga 2 0 (List.length (recL al)))]],none⟩,⟨ga,2,(List.map Key.row (recL al)),none⟩,⟨0,13,[[(AV.int .i64 0),(AV.int .i64 0),(AV.int .i64 0),(AV.int .i64 0),(AV.int .i64 0),(AV.int .i64 0),(AV.int .i64 0),(AV.str ⟨#[]⟩),(AV.str ⟨#[]⟩),(AV.bool false),(AV.int .u32 0),(AV.sl .nil 0 []),(AV.sl .nil 0 [])]],none⟩,⟨0,13,[[(AV.int .i64 2),(AV.int .i64 5),(AV.int .i64 0),(AV.int .i64 0),(AV.int .i64 0),(AV.int .i64 0),(AV.int .i64 ((al.length:Nat):Int)),(AV.str ⟨#[]⟩),(AV.str ⟨#[]⟩),(AV.bool false),(AV.int .u32 (ofB (List.map Entry.card l))),(AV.osl 6 gc 9 0 k),(AV.sl .nil 0 [])]],none⟩,⟨(gc+1),9,(List.map Card.row (out++[(getE l (nth ks i)).card])),none⟩,⟨0,2,[(Key.row (nth ks i))],none⟩,⟨0,9,[(Card.row (getE l (nth ks i)).card)],none⟩,⟨0,10,[(Entry.row (getE l (nth ks i)))],none⟩]:Heap) (evAppend_one (row:=Card.row) (l:=out) (x:=(getE l (nth ks i)).card) (T:=tt) (e:=39) (te:={ d:=.struct [(30,0),(3,2),(3,3),(2,4),(37,5),(4,8)],size:=9,bytes:=88,zero:=[.str ⟨#[]⟩,.str ⟨#[]⟩,.int .i64 0,.int .i64 0,.int .i64 0,.int .i64 0,.int .i64 0,.int .i64 0,.bool false] }) (z:=1) (b:=24) (y:=[.sl .nil 0 []]) kr kr rfl (by decide) (by decide) kr (by first | assumption | omega | (simp; done) | (simp; omega)) rfl rfl (by first | omega | (show _ * 88≤_; omega) | (simp; omega))) (.g (.r (.h' ([⟨0,2,[[(AV.int .i64 most),(AV.osl 1 g 10 0 n)]],none⟩,⟨g,10,(List.map Entry.row l),none⟩,⟨0,2,[[(AV.int .i64 (((List.length al):Nat):Int)),(AV.osl 3 ga 2 0 (List.length (recL al)))]],none⟩,⟨ga,2,(List.map Key.row (recL al)),none⟩,⟨0,13,[[(AV.int .i64 0),(AV.int .i64 0),(AV.int .i64 0),(AV.int .i64 0),(AV.int .i64 0),(AV.int .i64 0),(AV.int .i64 0),(AV.str ⟨#[]⟩),(AV.str ⟨#[]⟩),(AV.bool false),(AV.int .u32 0),(AV.sl .nil 0 []),(AV.sl .nil 0 [])]],none⟩,⟨0,13,[[(AV.int .i64 2),(AV.int .i64 5),(AV.int .i64 0),(AV.int .i64 0),(AV.int .i64 0),(AV.int .i64 0),(AV.int .i64 ((al.length:Nat):Int)),(AV.str ⟨#[]⟩),(AV.str ⟨#[]⟩),(AV.bool false),(AV.int .u32 (ofB (List.map Entry.card l))),(AV.osl 6 (gc+1) 9 0 (k+1)),(AV.sl .nil 0 [])]],none⟩,⟨(gc+1),9,(List.map Card.row (out++[(getE l (nth ks i)).card])),none⟩,⟨0,2,[(Key.row (nth ks i))],none⟩,⟨0,9,[(Card.row (getE l (nth ks i)).card)],none⟩,⟨0,10,[(Entry.row (getE l (nth ks i)))],none⟩]:Heap) (.y 0 (.int .i64 (IntKind.i64.wrap (((i:Nat):Int)+1))) (AV.int .i64 ((i+1:Nat):Int)) (Yes.add ow ow ow) (.h' (Ye_5 most g n l al ga gc k out ks i) (.b 7 (.g (.l (k1 h1 h2))))))))))))))) (fun h2 h2'=>(.r (.h' ([⟨0,2,[[(AV.int .i64 most),(AV.osl 1 g 10 0 n)]],none⟩,⟨g,10,(List.map Entry.row l),none⟩,⟨0,2,[[(AV.int .i64 (((List.length al):Nat):Int)),(AV.osl 3 ga 2 0 (List.length (recL al)))]],none⟩,⟨ga,2,(List.map Key.row (recL al)),none⟩,⟨0,13,[[(AV.int .i64 0),(AV.int .i64 0),(AV.int .i64 0),(AV.int .i64 0),(AV.int .i64 0),(AV.int .i64 0),(AV.int .i64 0),(AV.str ⟨#[]⟩),(AV.str ⟨#[]⟩),(AV.bool false),(AV.int .u32 0),(AV.sl .nil 0 []),(AV.sl .nil 0 [])]],none⟩,⟨0,13,[[(AV.int .i64 2),(AV.int .i64 5),(AV.int .i64 0),(AV.int .i64 0),(AV.int .i64 0),(AV.int .i64 0),(AV.int .i64 ((al.length:Nat):Int)),(AV.str ⟨#[]⟩),(AV.str ⟨#[]⟩),(AV.bool false),(AV.int .u32 (ofB (List.map Entry.card l))),(AV.osl 6 gc 9 0 k),(AV.sl .nil 0 [])]],none⟩,⟨gc,9,(List.map Card.row out),none⟩,⟨0,2,[(Key.row (nth ks i))],none⟩,⟨0,9,[[(AV.str (nth ks i).app),(AV.str (nth ks i).id),(AV.int .i64 2),(AV.int .i64 0),(AV.int .i64 1),(AV.int .i64 0),(AV.int .i64 0),(AV.int .i64 0),(AV.bool true)]],none⟩,⟨0,10,[(Entry.row (getE l (nth ks i)))],none⟩]:Heap) (.ap 4 32 (AV.osl 6 gc 9 0 k) (AV.sl .clip 9 [[(AV.str (nth ks i).app),(AV.str (nth ks i).id),(AV.int .i64 2),(AV.int .i64 0),(AV.int .i64 1),(AV.int .i64 0),(AV.int .i64 0),(AV.int .i64 0),(AV.bool true)]]) (AV.osl 6 (gc+1) 9 0 (k+1)) ([⟨0,2,[[(AV.int .i64 most),(AV.osl 1 g 10 0 n)]],none⟩,⟨g,10,(List.map Entry.row l),none⟩,⟨0,2,[[(AV.int .i64 (((List.length al):Nat):Int)),(AV.osl 3 ga 2 0 (List.length (recL al)))]],none⟩,⟨ga,2,(List.map Key.row (recL al)),none⟩,⟨0,13,[[(AV.int .i64 0),(AV.int .i64 0),(AV.int .i64 0),(AV.int .i64 0),(AV.int .i64 0),(AV.int .i64 0),(AV.int .i64 0),(AV.str ⟨#[]⟩),(AV.str ⟨#[]⟩),(AV.bool false),(AV.int .u32 0),(AV.sl .nil 0 []),(AV.sl .nil 0 [])]],none⟩,⟨0,13,[[(AV.int .i64 2),(AV.int .i64 5),(AV.int .i64 0),(AV.int .i64 0),(AV.int .i64 0),(AV.int .i64 0),(AV.int .i64 ((al.length:Nat):Int)),(AV.str ⟨#[]⟩),(AV.str ⟨#[]⟩),(AV.bool false),(AV.int .u32 (ofB (List.map Entry.card l))),(AV.osl 6 gc 9 0 k),(AV.sl .nil 0 [])]],none⟩,⟨(gc+1),9,(List.map Card.row (out++[(Card.mk (nth ks i) 2 0 1 (Stamp.mk 0 0 0) true)])),none⟩,⟨0,2,[(Key.row (nth ks i))],none⟩,⟨0,9,[[(AV.str (nth ks i).app),(AV.str (nth ks i).id),(AV.int .i64 2),(AV.int .i64 0),(AV.int .i64 1),(AV.int .i64 0),(AV.int .i64 0),(AV.int .i64 0),(AV.bool true)]],none⟩,⟨0,10,[(Entry.row (getE l (nth ks i)))],none⟩]:Heap) (evAppend_one (row:=Card.row) (l:=out) (x:=(Card.mk (nth ks i) 2 0 1 (Stamp.mk 0 0 0) true)) (T:=tt) (e:=39) (te:={ d:=.struct [(30,0),(3,2),(3,3),(2,4),(37,5),(4,8)],size:=9,bytes:=88,zero:=[.str ⟨#[]⟩,.str ⟨#[]⟩,.int .i64 0,.int .i64 0,.int .i64 0,.int .i64 0,.int .i64 0,.int .i64 0,.bool false] }) (z:=1) (b:=24) (y:=[.sl .nil 0 []]) kr kr rfl (by decide) (by decide) kr (by first | assumption | omega | (simp; done) | (simp; omega)) rfl rfl (by first | omega | (show _ * 88≤_; omega) | (simp; omega))) (.g (.r (.h' ([⟨0,2,[[(AV.int .i64 most),(AV.osl 1 g 10 0 n)]],none⟩,⟨g,10,(List.map Entry.row l),none⟩,⟨0,2,[[(AV.int .i64 (((List.length al):Nat):Int)),(AV.osl 3 ga 2 0 (List.length (recL al)))]],none⟩,⟨ga,2,(List.map Key.row (recL al)),none⟩,⟨0,13,[[(AV.int .i64 0),(AV.int .i64 0),(AV.int .i64 0),(AV.int .i64 0),(AV.int .i64 0),(AV.int .i64 0),(AV.int .i64 0),(AV.str ⟨#[]⟩),(AV.str ⟨#[]⟩),(AV.bool false),(AV.int .u32 0),(AV.sl .nil 0 []),(AV.sl .nil 0 [])]],none⟩,⟨0,13,[[(AV.int .i64 2),(AV.int .i64 5),(AV.int .i64 0),(AV.int .i64 0),(AV.int .i64 0),(AV.int .i64 0),(AV.int .i64 ((al.length:Nat):Int)),(AV.str ⟨#[]⟩),(AV.str ⟨#[]⟩),(AV.bool false),(AV.int .u32 (ofB (List.map Entry.card l))),(AV.osl 6 (gc+1) 9 0 (k+1)),(AV.sl .nil 0 [])]],none⟩,⟨(gc+1),9,(List.map Card.row (out++[(Card.mk (nth ks i) 2 0 1 (Stamp.mk 0 0 0) true)])),none⟩,⟨0,2,[(Key.row (nth ks i))],none⟩,⟨0,9,[[(AV.str (nth ks i).app),(AV.str (nth ks i).id),(AV.int .i64 2),(AV.int .i64 0),(AV.int .i64 1),(AV.int .i64 0),(AV.int .i64 0),(AV.int .i64 0),(AV.bool true)]],none⟩,⟨0,10,[(Entry.row (getE l (nth ks i)))],none⟩]:Heap) (.y 0 (.int .i64 (IntKind.i64.wrap (((i:Nat):Int)+1))) (AV.int .i64 ((i+1:Nat):Int)) (Yes.add ow ow ow) (.h' (Ye_6 most g n l al ga gc k out ks i) (.b 7 (.g (.l (k2 h1 h2)))))))))))))))))))))))))) (fun h1 h1'=>(.l (k3 h1))))))
def deltaX_f (most:Int) (l:List Entry) (g:Nat) (n:Nat) (al:List Key) (ga:Nat) (ks:List Key) (i:Nat) (s:(List Card) × Nat × Nat):(List Card) × Nat × Nat:=(if (findB l (nth ks i))=true then (s.1++[(getE l (nth ks i)).card],(s.2.1+1),(s.2.2+1)) else (s.1++[(Card.mk (nth ks i) 2 0 1 (Stamp.mk 0 0 0) true)],(s.2.1+1),(s.2.2+1)))
theorem deltaX_loop (most:Int) (l:List Entry) (g:Nat) (n:Nat) (al:List Key) (ga:Nat) (ks:List Key) (hn:n=l.length) (hl:l.length < 1000) (ha:al.length < 1000000) (hk:ks.length < 1000000)  (r_:Nat):∀ (out:List Card) (k:Nat) (gc:Nat) (i:Nat) (sF:(List Card) × Nat × Nat),i+r_=ks.length→k=out.length→k≤i→sF=iter (deltaX_f most l g n al ga ks) r_ i (out,k,gc) →
 LoopTo (codeQ Tryz.prog (X deltaX_ann) (loopOf Tryz.f107 0)) (some [0,6,9,36,37,38]) (some [0,6,9,36,37,38]) (Ye_7 ks i) (Ye_8 most g n l al ga gc k out) (.exit 0) (mkF 61 [(0,(.obj 0 0 0 0)),(6,(.obj 4 0 0 0)),(9,(.obj 5 0 0 0)),(36,(.sl .any 2 (List.map Key.row ks))),(37,(.int .i64 ((ks.length:Nat):Int))),(38,(.int .i64 ((ks.length:Nat):Int)))]) ([⟨0,2,[[(.int .i64 most),(.osl 1 g 10 0 n)]],none⟩,⟨g,10,(List.map Entry.row l),none⟩,⟨0,2,[[(.int .i64 (((List.length al):Nat):Int)),(.osl 3 ga 2 0 (List.length (recL al)))]],none⟩,⟨ga,2,(List.map Key.row (recL al)),none⟩,⟨0,13,[[(.int .i64 0),(.int .i64 0),(.int .i64 0),(.int .i64 0),(.int .i64 0),(.int .i64 0),(.int .i64 0),(.str ⟨#[]⟩),(.str ⟨#[]⟩),(.bool false),(.int .u32 0),(.sl .nil 0 []),(.sl .nil 0 [])]],none⟩,⟨0,13,[[(.int .i64 2),(.int .i64 5),(.int .i64 0),(.int .i64 0),(.int .i64 0),(.int .i64 0),(.int .i64 ((al.length:Nat):Int)),(.str ⟨#[]⟩),(.str ⟨#[]⟩),(.bool false),(.int .u32 (ofB (List.map Entry.card l))),(.osl 6 sF.2.2 9 0 sF.2.1),(.sl .nil 0 [])]],none⟩,⟨sF.2.2,9,(List.map Card.row sF.1),none⟩]:Heap):=by
 induction r_ with
 | zero =>
  intro out k gc i sF hi_ hko hki  hF
  obtain rfl:ks.length=i:=by omega
  have e_:sF=(out,k,gc):=hF
  refine deltaX_step most l g n al ga ks out k gc ks.length hn hl ha hk hko hki (Nat.le_refl _) (fun h _=>by simp at h <;> omega) (fun h _=>by simp at h <;> omega) (fun _=>?_)
  first | done | rfl | (rw [e_]; done) | (rw [e_]; rfl)
 | succ r_ ih =>
  intro out k gc i sF hi_ hko hki  hF
  refine deltaX_step most l g n al ga ks out k gc i hn hl ha hk hko hki ow (fun h1 h2=>?_) (fun h1 h2=>?_) (fun h=>by simp at h <;> omega)
  · exact ih (out++[(getE l (nth ks i)).card]) (k+1) (gc+1) (i+1) sF ow (by first | omega | assumption | (simp; done) | (simp; omega) | (simp [*]; done) | (simp [*]; omega)) (by first | omega | assumption | (simp; done) | (simp; omega) | (simp [*]; done) | (simp [*]; omega))  (by rw [hF] <;> simp only [iter,deltaX_f,h2,if_true,Bool.false_eq_true,if_false])
  · exact ih (out++[(Card.mk (nth ks i) 2 0 1 (Stamp.mk 0 0 0) true)]) (k+1) (gc+1) (i+1) sF ow (by first | omega | assumption | (simp; done) | (simp; omega) | (simp [*]; done) | (simp [*]; omega)) (by first | omega | assumption | (simp; done) | (simp; omega) | (simp [*]; done) | (simp [*]; omega))  (by rw [hF] <;> simp only [iter,deltaX_f,h2,if_true,Bool.false_eq_true,if_false])
theorem deltaX_iter (most:Int) (l:List Entry) (g n:Nat) (al:List Key) (ga:Nat) (ks:List Key):(ks.map (atC l),(ks.map (atC l)).length,(ks.map (atC l)).length)=iter (deltaX_f most l g n al ga ks) ks.length 0 ([],0,0):=by
 rw [iter_all (deltaX_f most l g n al ga ks) (fun s k=>(s.1++[atC l k],s.2.1+1,s.2.2+1)) ks (fun i s hi=>?_)]
 · rw [fold_push (atC l) ks]; simp
 · with_unfolding_all simp only [deltaX_f,atC,goneC]
   by_cases h1:findB l (nth ks i)=true <;> simp [h1]
@[simp] abbrev Ye_9 (v1_:Int) (v2_:Nat) (v3_:Nat) (v4_:List Entry) (v5_:List Key) (v6_:Nat):Heap:=[Ye_o1 v1_ v2_ v3_,⟨v2_,10,(List.map Entry.row v4_),none⟩,Ye_o2 v5_ v6_,⟨v6_,2,(List.map Key.row (recL v5_)),none⟩,Ye_o3,⟨0,13,[[(AV.int .i64 2),(AV.int .i64 5),(AV.int .i64 0),(AV.int .i64 0),(AV.int .i64 0),(AV.int .i64 0),(AV.int .i64 ((v5_.length:Nat):Int)),(AV.str ⟨#[]⟩),(AV.str ⟨#[]⟩),(AV.bool false),(AV.int .u32 (ofB (List.map Entry.card v4_))),(AV.osl 6 0 9 0 0),(AV.sl .nil 0 [])]],none⟩,⟨0,9,(List.map Card.row []),none⟩]
@[simp] abbrev Ye_10 (v1_:List Key) (v2_:Int):Fr:=(mkF 61 [(0,(AV.obj 0 0 0 0)),(6,(AV.obj 4 0 0 0)),(9,(AV.obj 5 0 0 0)),(36,(AV.sl .any 2 (List.map Key.row (sinceK v1_ v2_)))),(37,(AV.int .i64 (((sinceK v1_ v2_).length:Nat):Int))),(38,(AV.int .i64 (((sinceK v1_ v2_).length:Nat):Int)))])
@[simp] abbrev Ye_11 (v1_:Int) (v2_:Nat) (v3_:Nat) (v4_:List Entry) (v5_:List Key) (v6_:Nat) (v7_:Int):Heap:=[Ye_o1 v1_ v2_ v3_,⟨v2_,10,(List.map Entry.row v4_),none⟩,Ye_o2 v5_ v6_,⟨v6_,2,(List.map Key.row (recL v5_)),none⟩,Ye_o3,⟨0,13,[[(AV.int .i64 2),(AV.int .i64 5),(AV.int .i64 0),(AV.int .i64 0),(AV.int .i64 0),(AV.int .i64 0),(AV.int .i64 ((v5_.length:Nat):Int)),(AV.str ⟨#[]⟩),(AV.str ⟨#[]⟩),(AV.bool false),(AV.int .u32 (ofB (List.map Entry.card v4_))),(AV.osl 6 (List.map (atC v4_) (sinceK v5_ v7_)).length 9 0 (List.map (atC v4_) (sinceK v5_ v7_)).length),(AV.sl .nil 0 [])]],none⟩,⟨(List.map (atC v4_) (sinceK v5_ v7_)).length,9,(List.map Card.row (List.map (atC v4_) (sinceK v5_ v7_))),none⟩]
theorem deltaXS_spec (most:Int) (l:List Entry) (g n:Nat) (al:List Key) (ga:Nat) (since:Int) (hn:n=l.length) (hl:l.length < 1000) (ha:al.length < 1000000) (hok:okS al since=true):ACalls Tryz.prog 107 [(.obj 0 0 0 0),(.obj 2 0 0 0),(.int .i64 since)] (Ye_1 most g n l al ga) ((AV.agg [(.int .i64 2),(.int .i64 5),(.int .i64 0),(.int .i64 0),(.int .i64 0),(.int .i64 0),(.int .i64 ((al.length:Nat):Int)),(.str ⟨#[]⟩),(.str ⟨#[]⟩),(.bool false),(.int .u32 (ofB (List.map Entry.card l))),(.sl .any 9 (List.map Card.row (List.map (atC l) (sinceK al since)))),(.sl .nil 0 [])]),(Ye_1 most g n l al ga)):=by
 have hm:(List.map Entry.card l).length=l.length:=List.length_map _
 have hs:=sinceK_len al since
 have hd:(List.map (atC l) (sinceK al since)).length=(sinceK al since).length:=List.length_map _
 exact specO (fn:=Tryz.f107) (ann:=deltaX_ann) (Has.o Tryz.func107) (.r (.g (.r (.no (.no (.g (.no (.r (.c 2 (ACalls.pre (args:=[(.obj 2 0 0 0),(.int .i64 since)]) (args':=[(.obj 2 0 0 0),(.int .i64 since)]) (ACalls.put2 [2,3] (Ye_2 most g n l al ga) (AV.tup [(.sl .any 2 (List.map Key.row (sinceK al since))),(.bool (okS al since))]) (Ye_2 most g n l al ga) (since_spec al ga since oa) (⟨rfl,⟨Ob.ren0 (Key.rows_bdd 0 _),trivial⟩⟩) (⟨rfl,⟨Ob.ren0 (Key.rows_bdd 0 _),trivial⟩⟩)) ⟨AV.wk_refl_any _,AV.wk_refl_any _,trivial⟩) (.g (.r (.h' (Ye_2 most g n l al ga) (.y 1 (AV.bool (!(okS al since))) (AV.bool false) (Yes.bool (by rw [hok]; rfl)) (.g (.no (.r (.c 2 (begunX_at most l g n al ga oa oa oa Ye_3) (.o (rfl:0=0) (.g (.r (.h' (Ye_9 most g n l al ga) (.y 1 (.int .i64 ((List.length (List.map Key.row (sinceK al since)):Nat):Int)) (AV.int .i64 (((sinceK al since).length:Nat):Int)) (Yes.len _ _ _) (.g (.loop (Ye_10 al since) (show LoopTo (codeQ Tryz.prog (X deltaX_ann) (loopOf Tryz.f107 0)) (some [0,6,9,36,37,38]) (some [0,6,9,36,37,38]) (mkF 61 [(0,(.obj 0 0 0 0)),(6,(.obj 4 0 0 0)),(9,(.obj 5 0 0 0)),(36,(.sl .any 2 (List.map Key.row (sinceK al since)))),(37,(.int .i64 (((sinceK al since).length:Nat):Int))),(38,(.int .i64 0))]) (Ye_9 most g n l al ga) (.exit 0) (Ye_10 al since) (Ye_11 most g n l al ga since) from (deltaX_loop most l g n al ga (sinceK al since) ow ow ow ow (List.length (sinceK al since)) [] 0 0 0 (List.map (atC l) (sinceK al since),(List.map (atC l) (sinceK al since)).length,(List.map (atC l) (sinceK al since)).length) ow rfl ow (deltaX_iter _ _ _ _ _ _ _))) (.r (.w 9 (List.map Card.row (List.map (atC l) (sinceK al since))) (And.intro rfl (And.intro (rowsIn_all (room:=none) kr om) (Card.rows_bdd _ _)):0=0∧rowsIn (Ye_11 most g n l al ga since) 9 (AV.osl 6 (List.map (atC l) (sinceK al since)).length 9 0 (List.map (atC l) (sinceK al since)).length)=some (List.map Card.row (List.map (atC l) (sinceK al since)))∧AV.bddss 0 (List.map Card.row (List.map (atC l) (sinceK al since)))=true) (.g (.h' (Ye_1 most g n l al ga) (.f 4 (AV.agg [(.int .i64 2),(.int .i64 5),(.int .i64 0),(.int .i64 0),(.int .i64 0),(.int .i64 0),(.int .i64 ((al.length:Nat):Int)),(.str ⟨#[]⟩),(.str ⟨#[]⟩),(.bool false),(.int .u32 (ofB (List.map Entry.card l))),(.sl .any 9 (List.map Card.row (List.map (atC l) (sinceK al since)))),(.sl .nil 0 [])]) (.e (AV.agg [(.int .i64 2),(.int .i64 5),(.int .i64 0),(.int .i64 0),(.int .i64 0),(.int .i64 0),(.int .i64 ((al.length:Nat):Int)),(.str ⟨#[]⟩),(.str ⟨#[]⟩),(.bool false),(.int .u32 (ofB (List.map Entry.card l))),(.sl .any 9 (List.map Card.row (List.map (atC l) (sinceK al since)))),(.sl .nil 0 [])])))))))))))))))))))))))))))))))
theorem deltaXN_spec (most:Int) (l:List Entry) (g n:Nat) (al:List Key) (ga:Nat) (since:Int) (hn:n=l.length) (hl:l.length < 1000) (ha:al.length < 1000000) (hok:okS al since=false):ACalls Tryz.prog 107 [(.obj 0 0 0 0),(.obj 2 0 0 0),(.int .i64 since)] (Ye_1 most g n l al ga) ((AV.agg [(.int .i64 2),(.int .i64 5),(.int .i64 0),(.int .i64 0),(.int .i64 0),(.int .i64 0),(.int .i64 ((al.length:Nat):Int)),(.str ⟨#[]⟩),(.str ⟨#[]⟩),(.bool true),(.int .u32 (ofB (List.map Entry.card l))),(.sl .any 9 (List.map Card.row (seenK (List.map Entry.card l)))),(.sl .nil 0 [])]),(Ye_1 most g n l al ga)):=by
 have hm:(List.map Entry.card l).length=l.length:=List.length_map _
 have hs:=sinceK_len al since
 have hd:(List.map (atC l) (sinceK al since)).length=(sinceK al since).length:=List.length_map _
 exact specO (fn:=Tryz.f107) (ann:=deltaX_ann) (Has.o Tryz.func107) (.r (.g (.r (.no (.no (.g (.no (.r (.c 2 (ACalls.pre (args:=[(AV.obj 2 0 0 0),(AV.int .i64 since)]) (args':=[(AV.obj 2 0 0 0),(AV.int .i64 since)]) (ACalls.put2 [2,3] (Ye_2 most g n l al ga) (AV.tup [(AV.sl .any 2 (List.map Key.row (sinceK al since))),(AV.bool (okS al since))]) (Ye_2 most g n l al ga) (since_spec al ga since oa) (⟨rfl,⟨Ob.ren0 (Key.rows_bdd 0 _),trivial⟩⟩) (⟨rfl,⟨Ob.ren0 (Key.rows_bdd 0 _),trivial⟩⟩)) ⟨AV.wk_refl_any _,AV.wk_refl_any _,trivial⟩) (.g (.r (.h' (Ye_2 most g n l al ga) (.y 1 (AV.bool (!(okS al since))) (AV.bool true) (Yes.bool (by rw [hok]; rfl)) (.g (.yes (.r (.c 2 (ffullX_at most l g n al ga oa oa oa ([⟨0,13,[[(AV.int .i64 0),(AV.int .i64 0),(AV.int .i64 0),(AV.int .i64 0),(AV.int .i64 0),(AV.int .i64 0),(AV.int .i64 0),(AV.str ⟨#[]⟩),(AV.str ⟨#[]⟩),(AV.bool false),(AV.int .u32 0),(AV.sl .nil 0 []),(AV.sl .nil 0 [])]],none⟩]:Heap)) (.g (.h' (Ye_1 most g n l al ga) (.f 4 (AV.agg [(AV.int .i64 2),(AV.int .i64 5),(AV.int .i64 0),(AV.int .i64 0),(AV.int .i64 0),(AV.int .i64 0),(AV.int .i64 ((al.length:Nat):Int)),(AV.str ⟨#[]⟩),(AV.str ⟨#[]⟩),(AV.bool true),(AV.int .u32 (ofB (List.map Entry.card l))),(AV.sl .any 9 (List.map Card.row (seenK (List.map Entry.card l)))),(AV.sl .nil 0 [])]) (.e (AV.agg [(AV.int .i64 2),(AV.int .i64 5),(AV.int .i64 0),(AV.int .i64 0),(AV.int .i64 0),(AV.int .i64 0),(AV.int .i64 ((al.length:Nat):Int)),(AV.str ⟨#[]⟩),(AV.str ⟨#[]⟩),(AV.bool true),(AV.int .u32 (ofB (List.map Entry.card l))),(AV.sl .any 9 (List.map Card.row (seenK (List.map Entry.card l)))),(AV.sl .nil 0 [])]))))))))))))))))))))))
theorem deltaX_spec (most:Int) (l:List Entry) (g n:Nat) (al:List Key) (ga:Nat) (since:Int) (hn:n=l.length) (hl:l.length < 1000) (ha:al.length < 1000000):ACalls Tryz.prog 107 [(.obj 0 0 0 0),(.obj 2 0 0 0),(.int .i64 since)] ([⟨0,2,[[(.int .i64 most),(.osl 1 g 10 0 n)]],none⟩,⟨g,10,(List.map Entry.row l),none⟩,⟨0,2,[[(.int .i64 (((List.length al):Nat):Int)),(.osl 3 ga 2 0 (List.length (recL al)))]],none⟩,⟨ga,2,(List.map Key.row (recL al)),none⟩]:Heap) ((AV.agg [(.int .i64 2),(.int .i64 5),(.int .i64 0),(.int .i64 0),(.int .i64 0),(.int .i64 0),(.int .i64 ((al.length:Nat):Int)),(.str ⟨#[]⟩),(.str ⟨#[]⟩),(.bool (!(okS al since))),(.int .u32 (ofB (List.map Entry.card l))),(.sl .any 9 (List.map Card.row (dCards l al since))),(.sl .nil 0 [])]),([⟨0,2,[[(.int .i64 most),(.osl 1 g 10 0 n)]],none⟩,⟨g,10,(List.map Entry.row l),none⟩,⟨0,2,[[(.int .i64 (((List.length al):Nat):Int)),(.osl 3 ga 2 0 (List.length (recL al)))]],none⟩,⟨ga,2,(List.map Key.row (recL al)),none⟩]:Heap)):=by
 cases h:okS al since with
 | true=>have h1:=deltaXS_spec most l g n al ga since hn hl ha h; unfold dCards; rw [if_pos h]; exact h1
 | false=>have h1:=deltaXN_spec most l g n al ga since hn hl ha h; unfold dCards; rw [if_neg (by rw [h]; simp)]; exact h1
def fetM (l:List Entry) (al:List Key) (seq tag:Int):Msg:=⟨2,5,0,0,tag,0,(al.length:Int),⟨⟨#[]⟩,⟨#[]⟩⟩,!(okS al seq),ofB (List.map Entry.card l),dCards l al seq,[]⟩
def fulM (l:List Entry) (al:List Key) (tag:Int):Msg:=⟨2,5,0,0,tag,0,(al.length:Int),⟨⟨#[]⟩,⟨#[]⟩⟩,true,ofB (List.map Entry.card l),seenK (List.map Entry.card l),[]⟩
def fetR (l:List Entry) (al:List Key) (seq tag:Int):Msg:=if seq = -1 then fulM l al tag else fetM l al seq tag
def dfetchD_ann:Ann:={ refs:=[3],gha:=[(5,.frzf 4 11 9),(5,.frzf 4 12 2)],base:=6,fin:=some 6 }
@[simp] abbrev Ye_o5 (v1_:Nat) (v2_:List Entry):Ob:=⟨0,2,[[(AV.int .i64 (capM 32)),(AV.osl 1 v1_ 10 0 (List.length v2_))]],none⟩
@[simp] abbrev Ye_o6 (v1_:Int) (v2_:Int) (v3_:Int):Ob:=⟨0,3,[[(AV.int .i64 v1_),(AV.int .i64 v2_),(AV.int .i64 v3_)]],none⟩
@[simp] abbrev Ye_o7 (v1_:List Key) (v2_:Nat):Ob:=⟨0,2,[[(AV.int .i64 (((List.length v1_):Nat):Int)),(AV.osl 4 v2_ 2 0 (List.length (recL v1_)))]],none⟩
@[simp] abbrev Ye_o8 (v1_:Int) (v2_:Stamp):Ob:=⟨0,7,[[(AV.int .i64 v1_),(AV.int .i64 v2_.t),(AV.int .i64 v2_.node),(AV.int .i64 v2_.n),(AV.obj 0 0 0 0),(AV.obj 2 0 0 0),(AV.obj 3 0 0 0)]],none⟩
@[simp] abbrev Ye_12 (v1_:Nat) (v2_:List Entry) (v3_:Int) (v4_:Int) (v5_:Int) (v6_:List Key) (v7_:Nat) (v8_:Int) (v9_:Stamp):Heap:=[Ye_o5 v1_ v2_,⟨v1_,10,(List.map Entry.row v2_),none⟩,Ye_o6 v3_ v4_ v5_,Ye_o7 v6_ v7_,⟨v7_,2,(List.map Key.row (recL v6_)),none⟩,Ye_o8 v8_ v9_]
@[simp] abbrev Ye_13 (v1_:Nat) (v2_:List Entry) (v3_:Int) (v4_:Int) (v5_:Int) (v6_:List Key) (v7_:Nat) (v8_:Int) (v9_:Stamp):Heap:=[Ye_o5 v1_ v2_,⟨v1_,10,(List.map Entry.row v2_),none⟩,Ye_o6 v3_ v4_ v5_,Ye_o7 v6_ v7_,⟨v7_,2,(List.map Key.row (recL v6_)),none⟩,Ye_o8 v8_ v9_,Ye_o3,Ye_o3]
@[simp] abbrev Ye_14 (v1_:Nat) (v2_:List Entry) (v3_:Int) (v4_:Int) (v5_:Int) (v6_:List Key) (v7_:Nat) (v8_:Int) (v9_:Stamp):Heap:=[Ye_o5 v1_ v2_,⟨v1_,10,(List.map Entry.row v2_),none⟩,Ye_o6 v3_ v4_ v5_,Ye_o7 v6_ v7_,⟨v7_,2,(List.map Key.row (recL v6_)),none⟩,Ye_o8 v8_ v9_,Ye_o3,⟨0,13,[[(AV.int .i64 2),(AV.int .i64 5),(AV.int .i64 0),(AV.int .i64 0),(AV.int .i64 0),(AV.int .i64 0),(AV.int .i64 ((v6_.length:Nat):Int)),(AV.str ⟨#[]⟩),(AV.str ⟨#[]⟩),(AV.bool true),(AV.int .u32 (ofB (List.map Entry.card v2_))),(AV.sl .any 9 (List.map Card.row (seenK (List.map Entry.card v2_)))),(AV.sl .nil 0 [])]],none⟩]
theorem dfetchD_spec (l:List Entry) (g:Nat) (al:List Key) (ga:Nat) (gf gl gt nd:Int) (st:Stamp) (q:Msg) (hl:l.length < 1000) (ha:al.length < 100000) (hs:¬ q.seq = -1):ACalls Tryz.prog 54 [(.obj 5 0 0 0),(.agg (Msg.row q))] (Ye_12 g l gf gl gt al ga nd st) ((AV.agg (Msg.row (fetM l al q.seq q.tag))),(Ye_12 g l gf gl gt al ga nd st)) :=
 specO (fn:=Tryz.f54) (ann:=dfetchD_ann) (Has.o Tryz.func54) (.r (.g (.r (.c 8 (ACalls.pre (args:=[(AV.obj 0 0 0 0),(AV.obj 3 0 0 0)]) (args':=[(AV.obj 0 0 0 0),(AV.obj 3 0 0 0)]) (ACalls.put2 [0,1,3,4] (Ye_13 g l gf gl gt al ga nd st) (AV.agg [(AV.int .i64 2),(AV.int .i64 5),(AV.int .i64 0),(AV.int .i64 0),(AV.int .i64 0),(AV.int .i64 0),(AV.int .i64 ((al.length:Nat):Int)),(AV.str ⟨#[]⟩),(AV.str ⟨#[]⟩),(AV.bool true),(AV.int .u32 (ofB (List.map Entry.card l))),(AV.sl .any 9 (List.map Card.row (seenK (List.map Entry.card l)))),(AV.sl .nil 0 [])]) (Ye_13 g l gf gl gt al ga nd st) (ffullX_spec (capM 32) l g (List.length l) al ga oa oa oa) (⟨rfl,⟨Ob.ren0 (Entry.rows_bdd 0 _),⟨rfl,⟨Ob.ren0 (Key.rows_bdd 0 _),trivial⟩⟩⟩⟩) (⟨rfl,⟨Ob.ren0 (Entry.rows_bdd 0 _),⟨rfl,⟨Ob.ren0 (Key.rows_bdd 0 _),trivial⟩⟩⟩⟩)) ⟨AV.wk_refl_any _,AV.wk_refl_any _,trivial⟩) (.g (.r (.h' (Ye_14 g l gf gl gt al ga nd st) (.y 2 (AV.bool (q.seq != (-1))) (AV.bool true) (Yes.bool (by simpa using hs)) (.g (.yes (.r (.c 10 (ACalls.pre (args:=[(AV.obj 0 0 0 0),(AV.obj 3 0 0 0),(AV.int .i64 q.seq)]) (args':=[(AV.obj 0 0 0 0),(AV.obj 3 0 0 0),(AV.int .i64 q.seq)]) (ACalls.put2 [0,1,3,4] (Ye_14 g l gf gl gt al ga nd st) (AV.agg [(AV.int .i64 2),(AV.int .i64 5),(AV.int .i64 0),(AV.int .i64 0),(AV.int .i64 0),(AV.int .i64 0),(AV.int .i64 ((al.length:Nat):Int)),(AV.str ⟨#[]⟩),(AV.str ⟨#[]⟩),(AV.bool (!(okS al q.seq))),(AV.int .u32 (ofB (List.map Entry.card l))),(AV.sl .any 9 (List.map Card.row (dCards l al q.seq))),(AV.sl .nil 0 [])]) (Ye_14 g l gf gl gt al ga nd st) (deltaX_spec (capM 32) l g (List.length l) al ga q.seq oa oa oa) (⟨rfl,⟨Ob.ren0 (Entry.rows_bdd 0 _),⟨rfl,⟨Ob.ren0 (Key.rows_bdd 0 _),trivial⟩⟩⟩⟩) (⟨rfl,⟨Ob.ren0 (Entry.rows_bdd 0 _),⟨rfl,⟨Ob.ren0 (Key.rows_bdd 0 _),trivial⟩⟩⟩⟩)) ⟨AV.wk_refl_any _,AV.wk_refl_any _,AV.wk_refl_any _,trivial⟩) (.g (.r (.g (.r (.o (rfl:0=0) (.o (rfl:0=0) (.g (.h' (Ye_12 g l gf gl gt al ga nd st) (.f 6 (AV.agg [(AV.int .i64 2),(AV.int .i64 5),(AV.int .i64 0),(AV.int .i64 0),(AV.int .i64 q.tag),(AV.int .i64 0),(AV.int .i64 ((al.length:Nat):Int)),(AV.str ⟨#[]⟩),(AV.str ⟨#[]⟩),(AV.bool (!(okS al q.seq))),(AV.int .u32 (ofB (List.map Entry.card l))),(AV.sl .any 9 (List.map Card.row (dCards l al q.seq))),(AV.sl .any 2 (List.map Key.row []))]) (.e (AV.agg [(AV.int .i64 2),(AV.int .i64 5),(AV.int .i64 0),(AV.int .i64 0),(AV.int .i64 q.tag),(AV.int .i64 0),(AV.int .i64 ((al.length:Nat):Int)),(AV.str ⟨#[]⟩),(AV.str ⟨#[]⟩),(AV.bool (!(okS al q.seq))),(AV.int .u32 (ofB (List.map Entry.card l))),(AV.sl .any 9 (List.map Card.row (dCards l al q.seq))),(AV.sl .any 2 (List.map Key.row []))])))))))))))))))))))))))
def dfetchA_ann:Ann:={ refs:=[3],gha:=[(5,.frzf 4 11 9),(5,.frzf 4 12 2)],base:=6,fin:=some 6 }
theorem dfetchA_spec (l:List Entry) (g:Nat) (al:List Key) (ga:Nat) (gf gl gt nd:Int) (st:Stamp) (q:Msg) (hl:l.length < 1000) (ha:al.length < 100000) (hs:q.seq = -1):ACalls Tryz.prog 54 [(.obj 5 0 0 0),(.agg (Msg.row q))] (Ye_12 g l gf gl gt al ga nd st) ((AV.agg (Msg.row (fulM l al q.tag))),(Ye_12 g l gf gl gt al ga nd st)) :=
 specO (fn:=Tryz.f54) (ann:=dfetchA_ann) (Has.o Tryz.func54) (.r (.g (.r (.c 8 (ACalls.pre (args:=[(AV.obj 0 0 0 0),(AV.obj 3 0 0 0)]) (args':=[(AV.obj 0 0 0 0),(AV.obj 3 0 0 0)]) (ACalls.put2 [0,1,3,4] (Ye_13 g l gf gl gt al ga nd st) (AV.agg [(AV.int .i64 2),(AV.int .i64 5),(AV.int .i64 0),(AV.int .i64 0),(AV.int .i64 0),(AV.int .i64 0),(AV.int .i64 ((al.length:Nat):Int)),(AV.str ⟨#[]⟩),(AV.str ⟨#[]⟩),(AV.bool true),(AV.int .u32 (ofB (List.map Entry.card l))),(AV.sl .any 9 (List.map Card.row (seenK (List.map Entry.card l)))),(AV.sl .nil 0 [])]) (Ye_13 g l gf gl gt al ga nd st) (ffullX_spec (capM 32) l g (List.length l) al ga oa oa oa) (⟨rfl,⟨Ob.ren0 (Entry.rows_bdd 0 _),⟨rfl,⟨Ob.ren0 (Key.rows_bdd 0 _),trivial⟩⟩⟩⟩) (⟨rfl,⟨Ob.ren0 (Entry.rows_bdd 0 _),⟨rfl,⟨Ob.ren0 (Key.rows_bdd 0 _),trivial⟩⟩⟩⟩)) ⟨AV.wk_refl_any _,AV.wk_refl_any _,trivial⟩) (.g (.r (.h' (Ye_14 g l gf gl gt al ga nd st) (.y 2 (AV.bool (q.seq != (-1))) (AV.bool false) (Yes.bool (by rw [hs]; rfl)) (.g (.no (.r (.g (.r (.o (rfl:0=0) (.o (rfl:0=0) (.g (.h' (Ye_12 g l gf gl gt al ga nd st) (.f 6 (AV.agg [(AV.int .i64 2),(AV.int .i64 5),(AV.int .i64 0),(AV.int .i64 0),(AV.int .i64 q.tag),(AV.int .i64 0),(AV.int .i64 ((al.length:Nat):Int)),(AV.str ⟨#[]⟩),(AV.str ⟨#[]⟩),(AV.bool true),(AV.int .u32 (ofB (List.map Entry.card l))),(AV.sl .any 9 (List.map Card.row (seenK (List.map Entry.card l)))),(AV.sl .any 2 (List.map Key.row []))]) (.e (AV.agg [(AV.int .i64 2),(AV.int .i64 5),(AV.int .i64 0),(AV.int .i64 0),(AV.int .i64 q.tag),(AV.int .i64 0),(AV.int .i64 ((al.length:Nat):Int)),(AV.str ⟨#[]⟩),(AV.str ⟨#[]⟩),(AV.bool true),(AV.int .u32 (ofB (List.map Entry.card l))),(AV.sl .any 9 (List.map Card.row (seenK (List.map Entry.card l)))),(AV.sl .any 2 (List.map Key.row []))]))))))))))))))))))))
theorem dfetch_spec (l:List Entry) (g:Nat) (al:List Key) (ga:Nat) (gf gl gt nd:Int) (st:Stamp) (q:Msg) (hl:l.length < 1000) (ha:al.length < 100000):ACalls Tryz.prog 54 [(.obj 5 0 0 0),(.agg (Msg.row q))] ([⟨0,2,[[(.int .i64 (capM 32)),(.osl 1 g 10 0 (List.length l))]],none⟩,⟨g,10,(List.map Entry.row l),none⟩,⟨0,3,[[(.int .i64 gf),(.int .i64 gl),(.int .i64 gt)]],none⟩,⟨0,2,[[(.int .i64 (((List.length al):Nat):Int)),(.osl 4 ga 2 0 (List.length (recL al)))]],none⟩,⟨ga,2,(List.map Key.row (recL al)),none⟩,⟨0,7,[[(.int .i64 nd),(.int .i64 st.t),(.int .i64 st.node),(.int .i64 st.n),(.obj 0 0 0 0),(.obj 2 0 0 0),(.obj 3 0 0 0)]],none⟩]:Heap) ((AV.agg (Msg.row (fetR l al q.seq q.tag))),([⟨0,2,[[(.int .i64 (capM 32)),(.osl 1 g 10 0 (List.length l))]],none⟩,⟨g,10,(List.map Entry.row l),none⟩,⟨0,3,[[(.int .i64 gf),(.int .i64 gl),(.int .i64 gt)]],none⟩,⟨0,2,[[(.int .i64 (((List.length al):Nat):Int)),(.osl 4 ga 2 0 (List.length (recL al)))]],none⟩,⟨ga,2,(List.map Key.row (recL al)),none⟩,⟨0,7,[[(.int .i64 nd),(.int .i64 st.t),(.int .i64 st.node),(.int .i64 st.n),(.obj 0 0 0 0),(.obj 2 0 0 0),(.obj 3 0 0 0)]],none⟩]:Heap)):=by
 by_cases hs:q.seq = -1
 · have e:fetR l al q.seq q.tag=fulM l al q.tag:=if_pos hs
   rw [e]; exact dfetchA_spec l g al ga gf gl gt nd st q hl ha hs
 · have e:fetR l al q.seq q.tag=fetM l al q.seq q.tag:=if_neg hs
   rw [e]; exact dfetchD_spec l g al ga gf gl gt nd st q hl ha hs
theorem dfetch_at (l:List Entry) (g:Nat) (al:List Key) (ga:Nat) (gf gl gt nd:Int) (st:Stamp) (q:Msg) (hl:l.length < 1000) (ha:al.length < 100000) (H:Heap):ACalls Tryz.prog 54 [(.obj 5 0 0 0),(.agg (Msg.row q))] ((Ye_12 g l gf gl gt al ga nd st)++H) ((AV.agg (Msg.row (fetR l al q.seq q.tag))),(Ye_12 g l gf gl gt al ga nd st)++H):=(dfetch_spec l g al ga gf gl gt nd st q hl ha).ext kr kr ob ob kr H
attribute [local irreducible] fetR errA hold40
def hdF_ann:Ann:={ refs:=[4],gha:=[(7,.any 7 9)],base:=6,fin:=some 6 }
@[simp] abbrev Ye_15 (v1_:Nat) (v2_:List Entry) (v3_:Int) (v4_:Int) (v5_:Int) (v6_:List Key) (v7_:Nat) (v8_:Int) (v9_:Stamp) (v10_:Msg):Heap:=[Ye_o5 v1_ v2_,⟨v1_,10,(List.map Entry.row v2_),none⟩,Ye_o6 v3_ v4_ v5_,Ye_o7 v6_ v7_,⟨v7_,2,(List.map Key.row (recL v6_)),none⟩,Ye_o8 v8_ v9_,Ye_o3,⟨0,13,[[(AV.int .i64 2),(AV.int .i64 v10_.op),(AV.int .i64 0),(AV.int .i64 0),(AV.int .i64 v10_.tag),(AV.int .i64 0),(AV.int .i64 0),(AV.str v10_.key.app),(AV.str v10_.key.id),(AV.bool false),(AV.int .u32 0),(AV.sl .nil 0 []),(AV.sl .nil 0 [])]],none⟩]
theorem hdF_spec (l:List Entry) (g:Nat) (al:List Key) (ga:Nat) (gf gl gt nd:Int) (st:Stamp) (q:Msg) (now:Int) (hl:l.length < 1000) (ha:al.length < 100000) (hk:q.kind=1) (hr:msgR q=true) (ho:q.op=5):ACalls Tryz.prog 18 [(.obj 5 0 0 0),(.agg (Msg.row q)),(.int .i64 now)] (Ye_12 g l gf gl gt al ga nd st) ((AV.tup [(.agg (Msg.row (fetR l al q.seq q.tag))),(.sl .any 9 (List.map Card.row ([]:List Card)))]),(Ye_12 g l gf gl gt al ga nd st)) :=
 specO (fn:=Tryz.f18) (ann:=hdF_ann) (Has.o Tryz.func18) (.r (.g (.r (.c 1 (dheld_at now  ([⟨0,2,[[(AV.int .i64 (capM 32)),(AV.osl 1 g 10 0 (List.length l))]],none⟩,⟨g,10,(List.map Entry.row l),none⟩,⟨0,3,[[(AV.int .i64 gf),(AV.int .i64 gl),(AV.int .i64 gt)]],none⟩,⟨0,2,[[(AV.int .i64 (((List.length al):Nat):Int)),(AV.osl 4 ga 2 0 (List.length (recL al)))]],none⟩,⟨ga,2,(List.map Key.row (recL al)),none⟩,⟨0,7,[[(AV.int .i64 nd),(AV.int .i64 st.t),(AV.int .i64 st.node),(AV.int .i64 st.n),(AV.obj 0 0 0 0),(AV.obj 2 0 0 0),(AV.obj 3 0 0 0)]],none⟩,⟨0,13,[[(AV.int .i64 0),(AV.int .i64 0),(AV.int .i64 0),(AV.int .i64 0),(AV.int .i64 0),(AV.int .i64 0),(AV.int .i64 0),(AV.str ⟨#[]⟩),(AV.str ⟨#[]⟩),(AV.bool false),(AV.int .u32 0),(AV.sl .nil 0 []),(AV.sl .nil 0 [])]],none⟩]:Heap)) (.g (.r (.g (.r (.h' (Ye_15 g l gf gl gt al ga nd st q) (.y 2 (AV.bool (q.kind != 1)) (AV.bool false) (Yes.bool (by rw [hk]; rfl)) (.no (.no (.c 5 (mrightG_at q oa (Ye_15 g l gf gl gt al ga nd st q)) (.no (.g (.no (.r (.y 2 (AV.bool (q.op == 5)) (AV.bool true) (Yes.bool (by rw [ho]; rfl)) (.g (.yes (.r (.c 2 (dfetch_at l g al ga gf gl gt nd st q oa oa ([⟨0,13,[[(AV.int .i64 0),(AV.int .i64 0),(AV.int .i64 0),(AV.int .i64 0),(AV.int .i64 0),(AV.int .i64 0),(AV.int .i64 0),(AV.str ⟨#[]⟩),(AV.str ⟨#[]⟩),(AV.bool false),(AV.int .u32 0),(AV.sl .nil 0 []),(AV.sl .nil 0 [])]],none⟩,⟨0,13,[[(AV.int .i64 2),(AV.int .i64 q.op),(AV.int .i64 0),(AV.int .i64 0),(AV.int .i64 q.tag),(AV.int .i64 0),(AV.int .i64 0),(AV.str q.key.app),(AV.str q.key.id),(AV.bool false),(AV.int .u32 0),(AV.sl .nil 0 []),(AV.sl .nil 0 [])]],none⟩]:Heap)) (.g (.h' (Ye_12 g l gf gl gt al ga nd st) (.f 6 (AV.tup [(AV.agg (Msg.row (fetR l al q.seq q.tag))),(AV.sl .any 9 [])]) (.e (AV.tup [(AV.agg (Msg.row (fetR l al q.seq q.tag))),(AV.sl .any 9 [])])))))))))))))))))))))))))))
structure DS where
 l:List Entry
 g:Nat
 al:List Key
 ga:Nat
 gf:Int
 gl:Int
 gt:Int
 st:Stamp
def DS.turn (s:DS) (nd:Int) (q:Msg) (now:Int):DS :=
 ⟨(tuR s.l s.g s.al s.ga s.gt nd s.st q now).l,(tuR s.l s.g s.al s.ga s.gt nd s.st q now).g,(tuR s.l s.g s.al s.ga s.gt nd s.st q now).al,(tuR s.l s.g s.al s.ga s.gt nd s.st q now).ga,s.gf,s.gl,(tuR s.l s.g s.al s.ga s.gt nd s.st q now).gt,(tuR s.l s.g s.al s.ga s.gt nd s.st q now).st⟩
structure HdR where
 m:Msg
 c:List Card
 s:DS
def hdD (nd:Int) (s:DS) (q:Msg) (now:Int):HdR :=
 if q.kind=1∧msgR q=true then
  if q.op=5 then ⟨fetR s.l s.al q.seq q.tag,[],s⟩
  else ⟨hdM q (tuR s.l s.g s.al s.ga s.gt nd s.st q (hold40 now)).code,(tuR s.l s.g s.al s.ga s.gt nd s.st q (hold40 now)).c,s.turn nd q (hold40 now)⟩
 else ⟨hdM q 1,[],s⟩
theorem msgR_op {q:Msg} (h:msgR q=true) (hk:q.kind=1) (h5:¬ q.op=5):1≤q.op∧q.op < 5∧0≤q.status∧q.status≤255:=by
 obtain ⟨a1,a2,a3,a4,a5,a6⟩:=msgR_all h
 with_unfolding_all
  unfold opM at a3
  unfold withB at a5
  rw [if_pos (.inl hk),if_neg h5] at a3
  simp only [Bool.and_eq_true,decide_eq_true_eq] at a3 a5
  exact ⟨a3.1,a3.2.1,a5.1,a5.2⟩
theorem hd_spec (l:List Entry) (g:Nat) (al:List Key) (ga:Nat) (gf gl gt nd:Int) (st:Stamp) (q:Msg) (now:Int) (hl:l.length < 1000) (ha:al.length < 100000) (hgt:0≤gt∧gt < 4611686018427387904):ACalls Tryz.prog 18 [(.obj 5 0 0 0),(.agg (Msg.row q)),(.int .i64 now)] ([⟨0,2,[[(.int .i64 (capM 32)),(.osl 1 g 10 0 (List.length l))]],none⟩,⟨g,10,(List.map Entry.row l),none⟩,⟨0,3,[[(.int .i64 gf),(.int .i64 gl),(.int .i64 gt)]],none⟩,⟨0,2,[[(.int .i64 (((List.length al):Nat):Int)),(.osl 4 ga 2 0 (List.length (recL al)))]],none⟩,⟨ga,2,(List.map Key.row (recL al)),none⟩,⟨0,7,[[(.int .i64 nd),(.int .i64 st.t),(.int .i64 st.node),(.int .i64 st.n),(.obj 0 0 0 0),(.obj 2 0 0 0),(.obj 3 0 0 0)]],none⟩]:Heap) ((AV.tup [(.agg (Msg.row (hdD nd (DS.mk l g al ga gf gl gt st) q now).m)),(.sl .any 9 (List.map Card.row (hdD nd (DS.mk l g al ga gf gl gt st) q now).c))]),([⟨0,2,[[(.int .i64 (capM 32)),(.osl 1 (hdD nd (DS.mk l g al ga gf gl gt st) q now).s.g 10 0 (List.length (hdD nd (DS.mk l g al ga gf gl gt st) q now).s.l))]],none⟩,⟨(hdD nd (DS.mk l g al ga gf gl gt st) q now).s.g,10,(List.map Entry.row (hdD nd (DS.mk l g al ga gf gl gt st) q now).s.l),none⟩,⟨0,3,[[(.int .i64 (hdD nd (DS.mk l g al ga gf gl gt st) q now).s.gf),(.int .i64 (hdD nd (DS.mk l g al ga gf gl gt st) q now).s.gl),(.int .i64 (hdD nd (DS.mk l g al ga gf gl gt st) q now).s.gt)]],none⟩,⟨0,2,[[(.int .i64 (((List.length (hdD nd (DS.mk l g al ga gf gl gt st) q now).s.al):Nat):Int)),(.osl 4 (hdD nd (DS.mk l g al ga gf gl gt st) q now).s.ga 2 0 (List.length (recL (hdD nd (DS.mk l g al ga gf gl gt st) q now).s.al)))]],none⟩,⟨(hdD nd (DS.mk l g al ga gf gl gt st) q now).s.ga,2,(List.map Key.row (recL (hdD nd (DS.mk l g al ga gf gl gt st) q now).s.al)),none⟩,⟨0,7,[[(.int .i64 nd),(.int .i64 (hdD nd (DS.mk l g al ga gf gl gt st) q now).s.st.t),(.int .i64 (hdD nd (DS.mk l g al ga gf gl gt st) q now).s.st.node),(.int .i64 (hdD nd (DS.mk l g al ga gf gl gt st) q now).s.st.n),(.obj 0 0 0 0),(.obj 2 0 0 0),(.obj 3 0 0 0)]],none⟩]:Heap)):=by
 by_cases hk:q.kind=1
 · cases hr:msgR q with
   | false =>
    have e:hdD nd (DS.mk l g al ga gf gl gt st) q now=⟨hdM q 1,[],(DS.mk l g al ga gf gl gt st)⟩:=if_neg (by rw [hr]; simp)
    rw [e]; exact hdB_spec l g al ga gf gl gt nd st q now hk hr
   | true =>
    by_cases ho:q.op=5
    · have e:hdD nd (DS.mk l g al ga gf gl gt st) q now=⟨fetR l al q.seq q.tag,[],(DS.mk l g al ga gf gl gt st)⟩:=by unfold hdD; rw [if_pos ⟨hk,hr⟩,if_pos ho]
      rw [e]; exact hdF_spec l g al ga gf gl gt nd st q now hl ha hk hr ho
    · have e:hdD nd (DS.mk l g al ga gf gl gt st) q now=⟨hdM q (tuR l g al ga gt nd st q (hold40 now)).code,(tuR l g al ga gt nd st q (hold40 now)).c,(DS.mk l g al ga gf gl gt st).turn nd q (hold40 now)⟩:=by unfold hdD; rw [if_pos ⟨hk,hr⟩,if_neg ho]
      obtain ⟨o1,o2,o3,_⟩:=msgR_op hr hk ho
      rw [e]; exact hdA_spec l g al ga gf gl gt nd st q now hl ha hgt o1 o2 o3 hk hr
 · have e:hdD nd (DS.mk l g al ga gf gl gt st) q now=⟨hdM q 1,[],(DS.mk l g al ga gf gl gt st)⟩:=if_neg (fun z=>hk z.1)
   rw [e]; exact hdK_spec l g al ga gf gl gt nd st q now hk
end Go.Proofs.YtfjedpipdnlkfaaGreat.AM

set_option maxRecDepth 100000
set_option linter.unusedVariables false
set_option linter.unusedSimpArgs false
namespace Go.Proofs.YtfjedpipdnlkfaaGreat.AM
open Go Go.Proofs.YtfjedpipdnlkfaaGreat
attribute [local irreducible] ACalls funT codeT codeQ LoopTo
structure AskT where
 kind:Int
 m:Msg
 more:Int
 late:Int
 c:Card
 deriving Inhabited
def AskT.row (x:AskT):List AV:=[(AV.int .i64 x.kind),(AV.int .i64 x.m.kind),(AV.int .i64 x.m.op),(AV.int .i64 x.m.status),(AV.int .i64 x.m.code),(AV.int .i64 x.m.tag),(AV.int .i64 x.m.n),(AV.int .i64 x.m.seq),(AV.str x.m.key.app),(AV.str x.m.key.id),(AV.bool x.m.full),(AV.int .u32 x.m.sum),(AV.sl .any 9 (List.map Card.row x.m.cards)),(AV.sl .any 2 (List.map Key.row x.m.keys)),(AV.int .i64 x.more),(AV.int .i64 x.late),(AV.str x.c.key.app),(AV.str x.c.key.id),(AV.int .i64 x.c.status),(AV.int .i64 x.c.over),(AV.int .i64 x.c.lease),(AV.int .i64 x.c.stamp.t),(AV.int .i64 x.c.stamp.node),(AV.int .i64 x.c.stamp.n),(AV.bool x.c.gone)]
@[simp] theorem AskT.row_bdd (n:Nat) (x:AskT):AV.bdds n x.row=true:=by simp [AskT.row,AV.bdds,AV.bdd]
@[simp] theorem AskT.rows_bdd (n:Nat) (l:List AskT):AV.bddss n (l.map AskT.row)=true:=by induction l with | nil=>rfl | cons x l ih=>simp [AV.bddss,AskT.row_bdd,ih]
end Go.Proofs.YtfjedpipdnlkfaaGreat.AM

set_option linter.unusedVariables false
set_option linter.unusedSimpArgs false
namespace Go.Proofs.YtfjedpipdnlkfaaGreat.AM
open Go
def kE (e:Entry):Key:=e.card.key
abbrev SrtK (l:List Key):Prop:=List.Pairwise (fun a b:Key=>beforeK a b=true) l
abbrev SrtE (l:List Entry):Prop:=SrtK (l.map kE)
theorem srtE_nth {l:List Entry} (h:SrtE l) {i j:Nat} (hij:i < j) (hj:j < l.length):beforeK (nth l i).card.key (nth l j).card.key=true:=by
 have h1:List.Pairwise (fun a b:Entry=>beforeK a.card.key b.card.key=true) l:=List.pairwise_map.1 h
 exact pw_nth.1 h1 i j hij hj
theorem findP_mem {l:List Entry} (hs:SrtE l) {i:Nat} (hi:i < l.length):findP l (nth l i).card.key=i :=
 findP_pos (Nat.le_of_lt hi) (fun j hj=>srtE_nth hs hj hi) fun _=>bk_irrefl _
theorem find_mem {l:List Entry} (hs:SrtE l) {e:Entry} (he:e∈l):findB l e.card.key=true∧getE l e.card.key=e:=by
 obtain ⟨i,hi,rfl⟩:=mem_nth he
 have h1:=findP_mem hs hi
 have h2:findB l (nth l i).card.key=true:=by
  unfold findB; rw [h1]; simp [hi,Key.eqb_refl]
 exact ⟨h2,by unfold getE; rw [if_pos h2,h1]⟩
theorem find_get {l:List Entry} {k:Key} (h:findB l k=true):getE l k∈l∧(getE l k).card.key=k:=by
 have h1:=findB_lt h
 unfold getE; rw [if_pos h]
 refine ⟨nth_mem h1,?_⟩
 unfold findB at h; rw [Bool.and_eq_true] at h
 exact (Key.eqb_iff _ _).1 h.2
theorem find_iff {l:List Entry} (hs:SrtE l) (k:Key):findB l k=true↔∃ e∈l,e.card.key=k :=
 ⟨fun h=>⟨_,(find_get h).1,(find_get h).2⟩,fun ⟨e,he,hk⟩=>hk ▸ (find_mem hs he).1⟩
theorem set_keys {l:List Entry} {e:Entry} (h:findB l e.card.key=true):(l.set (findP l e.card.key) e).map kE=l.map kE:=by
 have h1:=findB_lt h
 have h2:=(find_get h).2
 unfold getE at h2; rw [if_pos h] at h2
 rw [List.map_set]
 refine List.ext_getElem (by simp) fun i hi hi2=>?_
 rw [List.getElem_set]
 split
 · rename_i e1; subst e1
   rw [List.getElem_map,← nth_getElem h1]; exact h2.symm
 · rfl
theorem putL_srt {most:Int} {l:List Entry} (hs:SrtE l) (e:Entry):SrtE (putL most l e):=by
 unfold putL
 split
 · rename_i h
   show SrtK ((l.set (findP l e.card.key) e).map kE)
   rw [set_keys h]; exact hs
 · rename_i h
   split
   · exact hs
   · have hp:=findP_le l e.card.key
     have hs':List.Pairwise (fun a b:Entry=>beforeK a.card.key b.card.key=true) l:=List.pairwise_map.1 hs
     refine List.pairwise_map.2 (List.pairwise_append.2 ⟨hs'.sublist (List.take_sublist _ _),List.pairwise_cons.2 ⟨fun x hx=>?_,hs'.sublist (List.drop_sublist _ _)⟩,fun a ha b hb=>?_⟩)
     · obtain ⟨j,hj,rfl⟩:=mem_nth hx
       rw [List.length_drop] at hj
       rw [nth_drop]
       have h0:findP l e.card.key < l.length:=by omega
       have h1:=findP_at h0
       have h2:beforeK e.card.key (nth l (findP l e.card.key)).card.key=true:=by
        cases hb:beforeK e.card.key (nth l (findP l e.card.key)).card.key with
        | true=>rfl
        | false =>
         have:=bk_tri h1 hb
         exfalso; apply h; unfold findB; rw [this,Key.eqb_refl]; simp [h0]
       rcases Nat.eq_zero_or_pos j with rfl | hj0
       · exact h2
       · exact bk_trans h2 (srtE_nth hs (by omega) (by omega))
     · obtain ⟨i,hi,rfl⟩:=mem_nth ha
       rw [List.length_take] at hi
       rw [nth_take (by omega)]
       rcases List.mem_cons.1 hb with rfl | hb
       · exact findP_lt (k:=b.card.key) (by omega)
       · obtain ⟨j,hj,rfl⟩:=mem_nth hb
         rw [List.length_drop] at hj
         rw [nth_drop]
         exact srtE_nth hs (by omega) (by omega)
theorem mem_putL {most:Int} {l:List Entry} (hs:SrtE l) {e:Entry} (h:findB l e.card.key=true∨(l.length:Int) < most) (x:Entry):x∈putL most l e↔x=e∨(x∈l∧x.card.key≠e.card.key):=by
 have hp:=findP_le l e.card.key
 unfold putL
 split
 · rename_i hb
   have h1:=findB_lt hb
   have h2:=(find_get hb).2
   unfold getE at h2; rw [if_pos hb] at h2
   constructor
   · intro hx
     obtain ⟨i,hi,e1⟩:=List.getElem_of_mem hx
     rw [List.getElem_set] at e1
     split at e1
     · exact .inl e1.symm
     · rename_i hne
       rw [List.length_set] at hi
       refine .inr ⟨e1 ▸ List.getElem_mem _,fun hk=>hne ?_⟩
       rw [← e1,← nth_getElem hi] at hk
       rw [← hk]; exact findP_mem hs hi
   · rintro (rfl | ⟨hx,hk⟩)
     · exact List.mem_set h1 _
     · obtain ⟨i,hi,e1⟩:=List.getElem_of_mem hx
       have hne:findP l e.card.key≠i:=fun q=>hk (by rw [← e1,← nth_getElem hi,← q]; exact h2)
       have:(l.set (findP l e.card.key) e)[i]'(by simpa using hi)=x:=by rw [List.getElem_set,if_neg hne]; exact e1
       exact this ▸ List.getElem_mem _
 · rename_i hb
   have hlt:(l.length:Int) < most:=h.resolve_left hb
   rw [if_neg (by omega)]
   have hno:∀ y∈l,y.card.key≠e.card.key:=fun y hy hk=>hb ((find_iff hs _).2 ⟨y,hy,hk⟩)
   rw [List.mem_append,List.mem_cons]
   constructor
   · rintro (hx | rfl | hx)
     · exact .inr ⟨List.mem_of_mem_take hx,hno _ (List.mem_of_mem_take hx)⟩
     · exact .inl rfl
     · exact .inr ⟨List.mem_of_mem_drop hx,hno _ (List.mem_of_mem_drop hx)⟩
   · rintro (rfl | ⟨hx,_⟩)
     · exact .inr (.inl rfl)
     · rw [← List.take_append_drop (findP l e.card.key) l,List.mem_append] at hx
       exact hx.imp id .inr
theorem find_putL_ne {most:Int} {l:List Entry} (hs:SrtE l) {e:Entry} (h:findB l e.card.key=true∨(l.length:Int) < most) {k:Key} (hk:k≠e.card.key):findB (putL most l e) k=findB l k∧getE (putL most l e) k=getE l k:=by
 have hs2:=putL_srt (most:=most) hs e
 cases hb:findB l k with
 | true =>
  obtain ⟨h1,h2⟩:=find_get hb
  have h3:getE l k∈putL most l e:=(mem_putL hs h _).2 (.inr ⟨h1,by rw [h2]; exact hk⟩)
  have h4:=find_mem hs2 h3
  rw [h2] at h4; exact h4
 | false =>
  have h1:findB (putL most l e) k=false:=by
   cases hc:findB (putL most l e) k with
   | false=>rfl
   | true =>
    obtain ⟨h1,h2⟩:=find_get hc
    rcases (mem_putL hs h _).1 h1 with h3 | ⟨h3,_⟩
    · exact absurd (by rw [← h2,h3]) hk
    · exact absurd ((find_iff hs k).2 ⟨_,h3,h2⟩) (by rw [hb]; simp)
  refine ⟨h1,?_⟩
  unfold getE; rw [h1,hb]; simp
theorem putE_zero {most:Int} {l:List Entry} {e:Entry} (h:findB l e.card.key=true∨(l.length:Int) < most):putE most l e=0:=by
 unfold putE; split
 · rfl
 · rename_i hb; rw [if_neg (by have:=h.resolve_left hb; omega)]
end Go.Proofs.YtfjedpipdnlkfaaGreat.AM

set_option linter.unusedVariables false
set_option linter.unusedSimpArgs false
namespace Go.Proofs.YtfjedpipdnlkfaaGreat.AM
open Go
theorem cap32:capM 32=32:=by unfold capM; omega
end Go.Proofs.YtfjedpipdnlkfaaGreat.AM

set_option linter.unusedVariables false
set_option linter.unusedSimpArgs false
set_option maxRecDepth 100000
namespace Go.Proofs.YtfjedpipdnlkfaaGreat.AM
open Go
attribute [local irreducible] msgR fetR hold40 findB findP getE putL putE putG nextS maxS cmpSt
structure DSok (n:Nat) (s:DS):Prop where
 srt:SrtE s.l
 len:s.l.length≤32
 al:s.al.length≤n
 g0:0≤s.gt
 g1:s.gt≤1048576
theorem putL_32 {l:List Entry} (x:Entry) (h:l.length≤32):(putL (capM 32) l x).length≤32:=by
 have:=putL_most (most:=capM 32) (l:=l) (e:=x) (by rw [cap32]; omega)
 rw [cap32] at this ⊢
 omega
theorem DSok.put {n:Nat} {s:DS} (h:DSok n s) (x:Entry):DSok (n+1) ⟨putL (capM 32) s.l x,putG (capM 32) s.l x s.g,setA s.l x s.al,setG s.l x s.ga,s.gf,s.gl,s.gt,givS s.l x s.st⟩ :=
 ⟨putL_srt h.srt x,putL_32 x h.len,Nat.le_trans (setA_len s.l x s.al) (Nat.succ_le_succ h.al),h.g0,h.g1⟩
end Go.Proofs.YtfjedpipdnlkfaaGreat.AM

set_option linter.unusedVariables false
set_option linter.unusedSimpArgs false
set_option maxRecDepth 100000
namespace Go.Proofs.YtfjedpipdnlkfaaGreat.AM
open Go
def stB (n:Nat) (x:Stamp):Prop:=0≤x.t∧0≤x.n∧x.n≤(n:Int)
attribute [local irreducible] msgR fetR hold40 findB findP getE putL putE putG nextS maxS cmpSt
structure DStI (n:Nat) (s:DS):Prop where
 ok:DSok n s
 l:∀ e∈s.l,stB (n+9) e.card.stamp
 st:stB (n+9) s.st
end Go.Proofs.YtfjedpipdnlkfaaGreat.AM

set_option maxRecDepth 100000
set_option linter.unusedVariables false
set_option linter.unusedSimpArgs false
namespace Go.Proofs.YtfjedpipdnlkfaaGreat.AM
open Go Go.Proofs.YtfjedpipdnlkfaaGreat
attribute [local irreducible] ACalls funT codeT codeQ LoopTo
attribute [local irreducible] cmpSt maxS nextS setA setG putE putL putG getE findB tuR msgR hdD fetR hold40 errA zeroM opM withB namesK
def dnewN_ann:Ann:={ fin:=some 0 }
theorem dnewN_spec  :ACalls Tryz.prog 13 [(.int .i64 6),(.int .i64 0)] ([]:Heap) (AV.nilp,([]:Heap)) :=
 specO (fn:=Tryz.f13) (ann:=dnewN_ann) (Has.o Tryz.func13) (.r (.g (.r (.no (.no (.yes (.yes (.yes (.yes (.g (.yes (.r (.g (.f 0 AV.nilp (.e AV.nilp)))))))))))))))
theorem dnewN_at   (H:Heap):ACalls Tryz.prog 13 [(.int .i64 6),(.int .i64 0)] H (AV.nilp,H):=(dnewN_spec  ).lift kr kr H
def k16:Key:=⟨⟨#[97]⟩,⟨#[98]⟩⟩
def k16c1:Card:=⟨k16,1,0,9,⟨5,1,1⟩,false⟩
def k16c2:Card:=⟨k16,1,0,9,⟨7,1,2⟩,true⟩
abbrev T16:=DS × Int × Msg × Int
def d16a:DS:=⟨[],0,[],0,0,0,0,⟨0,1,0⟩⟩
def d16b:DS:=⟨[⟨k16c1,5⟩],1,[k16],2,0,0,0,⟨5,1,1⟩⟩
def d16c:DS:=⟨[⟨k16c2,7⟩],1,[k16,k16],4,0,0,0,⟨7,1,2⟩⟩
def q16a:T16:=(d16a,1,⟨1,1,1,0,4,9,0,k16,false,0,[],[]⟩,5)
def q16b:T16:=(d16b,1,⟨1,2,0,0,0,0,0,⟨⟨#[120]⟩,⟨#[121]⟩⟩,false,0,[],[]⟩,6)
def q16c:T16:=(d16b,1,⟨1,3,0,0,0,0,0,k16,false,0,[],[]⟩,7)
def q16d:T16:=(d16c,1,⟨1,3,0,0,0,0,0,k16,false,0,[],[]⟩,8)
@[simp] abbrev Yg_o1 (v1_:Nat) (v2_:List Entry):Ob:=⟨0,2,[[(AV.int .i64 (capM 32)),(AV.osl 1 v1_ 10 0 (List.length v2_))]],none⟩
@[simp] abbrev Yg_o2 (v1_:Int) (v2_:Int) (v3_:Int):Ob:=⟨0,3,[[(AV.int .i64 v1_),(AV.int .i64 v2_),(AV.int .i64 v3_)]],none⟩
@[simp] abbrev Yg_o3 (v1_:List Key) (v2_:Nat):Ob:=⟨0,2,[[(AV.int .i64 (((List.length v1_):Nat):Int)),(AV.osl 4 v2_ 2 0 (List.length (recL v1_)))]],none⟩
@[simp] abbrev Yg_o4 (v1_:Int) (v2_:Stamp):Ob:=⟨0,7,[[(AV.int .i64 v1_),(AV.int .i64 v2_.t),(AV.int .i64 v2_.node),(AV.int .i64 v2_.n),(AV.obj 0 0 0 0),(AV.obj 2 0 0 0),(AV.obj 3 0 0 0)]],none⟩
@[simp] abbrev Yg_1 (v1_:Nat) (v2_:List Entry) (v3_:Int) (v4_:Int) (v5_:Int) (v6_:List Key) (v7_:Nat) (v8_:Int) (v9_:Stamp):Heap:=[Yg_o1 v1_ v2_,⟨v1_,10,(List.map Entry.row v2_),none⟩,Yg_o2 v3_ v4_ v5_,Yg_o3 v6_ v7_,⟨v7_,2,(List.map Key.row (recL v6_)),none⟩,Yg_o4 v8_ v9_]
@[simp] abbrev Yg_o5 :Ob:=⟨0,3,[[(AV.int .i64 0),(AV.int .i64 0),(AV.int .i64 0)]],none⟩
@[simp] abbrev Yg_2 (v1_:Int):Heap:=[⟨0,2,[[(AV.int .i64 (capM 32)),(AV.osl 1 1 10 0 (List.length [(Entry.mk k16c1 5)]))]],none⟩,⟨1,10,(List.map Entry.row [(Entry.mk k16c1 5)]),none⟩,Yg_o5,⟨0,2,[[(AV.int .i64 (((List.length [k16]):Nat):Int)),(AV.osl 4 2 2 0 (List.length (recL [k16])))]],none⟩,⟨2,2,(List.map Key.row (recL [k16])),none⟩,⟨0,7,[[(AV.int .i64 v1_),(AV.int .i64 (Stamp.mk 5 1 1).t),(AV.int .i64 (Stamp.mk 5 1 1).node),(AV.int .i64 (Stamp.mk 5 1 1).n),(AV.obj 0 0 0 0),(AV.obj 2 0 0 0),(AV.obj 3 0 0 0)]],none⟩]
theorem k16t1_spec (l:List Entry) (g:Nat) (al:List Key) (ga:Nat) (gf gl gt nd:Int) (st:Stamp) (q:Msg) (now:Int) (he:((⟨l,g,al,ga,gf,gl,gt,st⟩:DS),nd,q,now)=q16a):ACalls Tryz.prog 18 [(.obj 5 0 0 0),(.agg (Msg.row q)),(.int .i64 now)] (Yg_1 g l gf gl gt al ga nd st) ((AV.tup [(.agg [(.int .i64 2),(.int .i64 1),(.int .i64 0),(.int .i64 0),(.int .i64 4),(.int .i64 0),(.int .i64 0),(.str (ByteArray.mk #[97])),(.str (ByteArray.mk #[98])),(.bool false),(.int .u32 0),(.sl .any 9 []),(.sl .any 2 [])]),(.sl .any 9 [[(.str (ByteArray.mk #[97])),(.str (ByteArray.mk #[98])),(.int .i64 1),(.int .i64 0),(.int .i64 9),(.int .i64 5),(.int .i64 1),(.int .i64 1),(.bool false)]])]),(Yg_2 nd)):=by
 have e1:(⟨l,g,al,ga,gf,gl,gt,st⟩:DS)=q16a.1:=congrArg (fun z=>z.1) he
 have e2:nd=q16a.2.1:=congrArg (fun z=>z.2.1) he
 have e3:q=q16a.2.2.1:=congrArg (fun z=>z.2.2.1) he
 have e4:now=q16a.2.2.2:=congrArg (fun z=>z.2.2.2) he
 clear he
 have e5:l=q16a.1.l:=congrArg DS.l e1
 have e6:g=q16a.1.g:=congrArg DS.g e1
 have e7:al=q16a.1.al:=congrArg DS.al e1
 have e8:ga=q16a.1.ga:=congrArg DS.ga e1
 have e9:gf=q16a.1.gf:=congrArg DS.gf e1
 have e10:gl=q16a.1.gl:=congrArg DS.gl e1
 have e11:gt=q16a.1.gt:=congrArg DS.gt e1
 have e12:st=q16a.1.st:=congrArg DS.st e1
 clear e1
 subst e2 e3 e4 e5 e6 e7 e8 e9 e10 e11 e12
 have h:=hd_spec q16a.1.l q16a.1.g q16a.1.al q16a.1.ga q16a.1.gf q16a.1.gl q16a.1.gt q16a.2.1 q16a.1.st q16a.2.2.1 q16a.2.2.2 (of_decide_eq_true kr) (of_decide_eq_true kr) (of_decide_eq_true kr)
 exact Eq.mp (congrArg (fun z=>ACalls _ _ _ _ z) kr) h
theorem k16t1_at (l:List Entry) (g:Nat) (al:List Key) (ga:Nat) (gf gl gt nd:Int) (st:Stamp) (q:Msg) (now:Int) (he:((⟨l,g,al,ga,gf,gl,gt,st⟩:DS),nd,q,now)=q16a) (H:Heap):ACalls Tryz.prog 18 [(.obj 5 0 0 0),(.agg (Msg.row q)),(.int .i64 now)] ((Yg_1 g l gf gl gt al ga nd st)++H) ((AV.tup [(.agg [(.int .i64 2),(.int .i64 1),(.int .i64 0),(.int .i64 0),(.int .i64 4),(.int .i64 0),(.int .i64 0),(.str (ByteArray.mk #[97])),(.str (ByteArray.mk #[98])),(.bool false),(.int .u32 0),(.sl .any 9 []),(.sl .any 2 [])]),(.sl .any 9 [[(.str (ByteArray.mk #[97])),(.str (ByteArray.mk #[98])),(.int .i64 1),(.int .i64 0),(.int .i64 9),(.int .i64 5),(.int .i64 1),(.int .i64 1),(.bool false)]])]),(Yg_2 nd)++H):=(k16t1_spec l g al ga gf gl gt nd st q now he).ext kr kr ob ob kr H
theorem k16t2_spec (l:List Entry) (g:Nat) (al:List Key) (ga:Nat) (gf gl gt nd:Int) (st:Stamp) (q:Msg) (now:Int) (he:((⟨l,g,al,ga,gf,gl,gt,st⟩:DS),nd,q,now)=q16b):ACalls Tryz.prog 18 [(.obj 5 0 0 0),(.agg (Msg.row q)),(.int .i64 now)] (Yg_1 g l gf gl gt al ga nd st) ((AV.tup [(.agg [(.int .i64 2),(.int .i64 2),(.int .i64 0),(.int .i64 22),(.int .i64 0),(.int .i64 0),(.int .i64 0),(.str (ByteArray.mk #[120])),(.str (ByteArray.mk #[121])),(.bool false),(.int .u32 0),(.sl .any 9 []),(.sl .any 2 [])]),(.sl .any 9 [])]),(Yg_2 nd)):=by
 have e1:(⟨l,g,al,ga,gf,gl,gt,st⟩:DS)=q16b.1:=congrArg (fun z=>z.1) he
 have e2:nd=q16b.2.1:=congrArg (fun z=>z.2.1) he
 have e3:q=q16b.2.2.1:=congrArg (fun z=>z.2.2.1) he
 have e4:now=q16b.2.2.2:=congrArg (fun z=>z.2.2.2) he
 clear he
 have e5:l=q16b.1.l:=congrArg DS.l e1
 have e6:g=q16b.1.g:=congrArg DS.g e1
 have e7:al=q16b.1.al:=congrArg DS.al e1
 have e8:ga=q16b.1.ga:=congrArg DS.ga e1
 have e9:gf=q16b.1.gf:=congrArg DS.gf e1
 have e10:gl=q16b.1.gl:=congrArg DS.gl e1
 have e11:gt=q16b.1.gt:=congrArg DS.gt e1
 have e12:st=q16b.1.st:=congrArg DS.st e1
 clear e1
 subst e2 e3 e4 e5 e6 e7 e8 e9 e10 e11 e12
 have h:=hd_spec q16b.1.l q16b.1.g q16b.1.al q16b.1.ga q16b.1.gf q16b.1.gl q16b.1.gt q16b.2.1 q16b.1.st q16b.2.2.1 q16b.2.2.2 (of_decide_eq_true kr) (of_decide_eq_true kr) (of_decide_eq_true kr)
 exact Eq.mp (congrArg (fun z=>ACalls _ _ _ _ z) kr) h
theorem k16t2_at (l:List Entry) (g:Nat) (al:List Key) (ga:Nat) (gf gl gt nd:Int) (st:Stamp) (q:Msg) (now:Int) (he:((⟨l,g,al,ga,gf,gl,gt,st⟩:DS),nd,q,now)=q16b) (H:Heap):ACalls Tryz.prog 18 [(.obj 5 0 0 0),(.agg (Msg.row q)),(.int .i64 now)] ((Yg_1 g l gf gl gt al ga nd st)++H) ((AV.tup [(.agg [(.int .i64 2),(.int .i64 2),(.int .i64 0),(.int .i64 22),(.int .i64 0),(.int .i64 0),(.int .i64 0),(.str (ByteArray.mk #[120])),(.str (ByteArray.mk #[121])),(.bool false),(.int .u32 0),(.sl .any 9 []),(.sl .any 2 [])]),(.sl .any 9 [])]),(Yg_2 nd)++H):=(k16t2_spec l g al ga gf gl gt nd st q now he).ext kr kr ob ob kr H
@[simp] abbrev Yg_o6 :Ob:=⟨0,2,[[(AV.int .i64 (capM 32)),(AV.osl 1 1 10 0 (List.length [(Entry.mk k16c2 7)]))]],none⟩
@[simp] abbrev Yg_o7 :Ob:=⟨1,10,(List.map Entry.row [(Entry.mk k16c2 7)]),none⟩
@[simp] abbrev Yg_o8 :Ob:=⟨0,2,[[(AV.int .i64 (((List.length [k16,k16]):Nat):Int)),(AV.osl 4 4 2 0 (List.length (recL [k16,k16])))]],none⟩
@[simp] abbrev Yg_o9 :Ob:=⟨4,2,(List.map Key.row (recL [k16,k16])),none⟩
@[simp] abbrev Yg_3 (v1_:Int):Heap:=[Yg_o6,Yg_o7,Yg_o5,Yg_o8,Yg_o9,⟨0,7,[[(AV.int .i64 v1_),(AV.int .i64 (Stamp.mk 7 1 2).t),(AV.int .i64 (Stamp.mk 7 1 2).node),(AV.int .i64 (Stamp.mk 7 1 2).n),(AV.obj 0 0 0 0),(AV.obj 2 0 0 0),(AV.obj 3 0 0 0)]],none⟩]
theorem k16t3_spec (l:List Entry) (g:Nat) (al:List Key) (ga:Nat) (gf gl gt nd:Int) (st:Stamp) (q:Msg) (now:Int) (he:((⟨l,g,al,ga,gf,gl,gt,st⟩:DS),nd,q,now)=q16c):ACalls Tryz.prog 18 [(.obj 5 0 0 0),(.agg (Msg.row q)),(.int .i64 now)] (Yg_1 g l gf gl gt al ga nd st) ((AV.tup [(.agg [(.int .i64 2),(.int .i64 3),(.int .i64 0),(.int .i64 0),(.int .i64 0),(.int .i64 0),(.int .i64 0),(.str (ByteArray.mk #[97])),(.str (ByteArray.mk #[98])),(.bool false),(.int .u32 0),(.sl .any 9 []),(.sl .any 2 [])]),(.sl .any 9 [[(.str (ByteArray.mk #[97])),(.str (ByteArray.mk #[98])),(.int .i64 1),(.int .i64 0),(.int .i64 9),(.int .i64 7),(.int .i64 1),(.int .i64 2),(.bool true)]])]),(Yg_3 nd)):=by
 have e1:(⟨l,g,al,ga,gf,gl,gt,st⟩:DS)=q16c.1:=congrArg (fun z=>z.1) he
 have e2:nd=q16c.2.1:=congrArg (fun z=>z.2.1) he
 have e3:q=q16c.2.2.1:=congrArg (fun z=>z.2.2.1) he
 have e4:now=q16c.2.2.2:=congrArg (fun z=>z.2.2.2) he
 clear he
 have e5:l=q16c.1.l:=congrArg DS.l e1
 have e6:g=q16c.1.g:=congrArg DS.g e1
 have e7:al=q16c.1.al:=congrArg DS.al e1
 have e8:ga=q16c.1.ga:=congrArg DS.ga e1
 have e9:gf=q16c.1.gf:=congrArg DS.gf e1
 have e10:gl=q16c.1.gl:=congrArg DS.gl e1
 have e11:gt=q16c.1.gt:=congrArg DS.gt e1
 have e12:st=q16c.1.st:=congrArg DS.st e1
 clear e1
 subst e2 e3 e4 e5 e6 e7 e8 e9 e10 e11 e12
 have h:=hd_spec q16c.1.l q16c.1.g q16c.1.al q16c.1.ga q16c.1.gf q16c.1.gl q16c.1.gt q16c.2.1 q16c.1.st q16c.2.2.1 q16c.2.2.2 (of_decide_eq_true kr) (of_decide_eq_true kr) (of_decide_eq_true kr)
 exact Eq.mp (congrArg (fun z=>ACalls _ _ _ _ z) kr) h
theorem k16t3_at (l:List Entry) (g:Nat) (al:List Key) (ga:Nat) (gf gl gt nd:Int) (st:Stamp) (q:Msg) (now:Int) (he:((⟨l,g,al,ga,gf,gl,gt,st⟩:DS),nd,q,now)=q16c) (H:Heap):ACalls Tryz.prog 18 [(.obj 5 0 0 0),(.agg (Msg.row q)),(.int .i64 now)] ((Yg_1 g l gf gl gt al ga nd st)++H) ((AV.tup [(.agg [(.int .i64 2),(.int .i64 3),(.int .i64 0),(.int .i64 0),(.int .i64 0),(.int .i64 0),(.int .i64 0),(.str (ByteArray.mk #[97])),(.str (ByteArray.mk #[98])),(.bool false),(.int .u32 0),(.sl .any 9 []),(.sl .any 2 [])]),(.sl .any 9 [[(.str (ByteArray.mk #[97])),(.str (ByteArray.mk #[98])),(.int .i64 1),(.int .i64 0),(.int .i64 9),(.int .i64 7),(.int .i64 1),(.int .i64 2),(.bool true)]])]),(Yg_3 nd)++H):=(k16t3_spec l g al ga gf gl gt nd st q now he).ext kr kr ob ob kr H
theorem k16t4_spec (l:List Entry) (g:Nat) (al:List Key) (ga:Nat) (gf gl gt nd:Int) (st:Stamp) (q:Msg) (now:Int) (he:((⟨l,g,al,ga,gf,gl,gt,st⟩:DS),nd,q,now)=q16d):ACalls Tryz.prog 18 [(.obj 5 0 0 0),(.agg (Msg.row q)),(.int .i64 now)] (Yg_1 g l gf gl gt al ga nd st) ((AV.tup [(.agg [(.int .i64 2),(.int .i64 3),(.int .i64 0),(.int .i64 22),(.int .i64 0),(.int .i64 0),(.int .i64 0),(.str (ByteArray.mk #[97])),(.str (ByteArray.mk #[98])),(.bool false),(.int .u32 0),(.sl .any 9 []),(.sl .any 2 [])]),(.sl .any 9 [])]),(Yg_3 nd)):=by
 have e1:(⟨l,g,al,ga,gf,gl,gt,st⟩:DS)=q16d.1:=congrArg (fun z=>z.1) he
 have e2:nd=q16d.2.1:=congrArg (fun z=>z.2.1) he
 have e3:q=q16d.2.2.1:=congrArg (fun z=>z.2.2.1) he
 have e4:now=q16d.2.2.2:=congrArg (fun z=>z.2.2.2) he
 clear he
 have e5:l=q16d.1.l:=congrArg DS.l e1
 have e6:g=q16d.1.g:=congrArg DS.g e1
 have e7:al=q16d.1.al:=congrArg DS.al e1
 have e8:ga=q16d.1.ga:=congrArg DS.ga e1
 have e9:gf=q16d.1.gf:=congrArg DS.gf e1
 have e10:gl=q16d.1.gl:=congrArg DS.gl e1
 have e11:gt=q16d.1.gt:=congrArg DS.gt e1
 have e12:st=q16d.1.st:=congrArg DS.st e1
 clear e1
 subst e2 e3 e4 e5 e6 e7 e8 e9 e10 e11 e12
 have h:=hd_spec q16d.1.l q16d.1.g q16d.1.al q16d.1.ga q16d.1.gf q16d.1.gl q16d.1.gt q16d.2.1 q16d.1.st q16d.2.2.1 q16d.2.2.2 (of_decide_eq_true kr) (of_decide_eq_true kr) (of_decide_eq_true kr)
 exact Eq.mp (congrArg (fun z=>ACalls _ _ _ _ z) kr) h
theorem k16t4_at (l:List Entry) (g:Nat) (al:List Key) (ga:Nat) (gf gl gt nd:Int) (st:Stamp) (q:Msg) (now:Int) (he:((⟨l,g,al,ga,gf,gl,gt,st⟩:DS),nd,q,now)=q16d) (H:Heap):ACalls Tryz.prog 18 [(.obj 5 0 0 0),(.agg (Msg.row q)),(.int .i64 now)] ((Yg_1 g l gf gl gt al ga nd st)++H) ((AV.tup [(.agg [(.int .i64 2),(.int .i64 3),(.int .i64 0),(.int .i64 22),(.int .i64 0),(.int .i64 0),(.int .i64 0),(.str (ByteArray.mk #[97])),(.str (ByteArray.mk #[98])),(.bool false),(.int .u32 0),(.sl .any 9 []),(.sl .any 2 [])]),(.sl .any 9 [])]),(Yg_3 nd)++H):=(k16t4_spec l g al ga gf gl gt nd st q now he).ext kr kr ob ob kr H
def known16_ann:Ann:={ fin:=some 0 }
@[simp] abbrev Yg_o10 :Ob:=⟨0,2,[[(AV.int .i64 (capM 32)),(AV.osl 1 0 10 0 (List.length ([]:List Entry)))]],none⟩
@[simp] abbrev Yg_o11 :Ob:=⟨0,10,(List.map Entry.row ([]:List Entry)),none⟩
@[simp] abbrev Yg_o12 :Ob:=⟨0,2,[[(AV.int .i64 (((List.length ([]:List Key)):Nat):Int)),(AV.osl 4 0 2 0 (List.length (recL ([]:List Key))))]],none⟩
@[simp] abbrev Yg_o13 :Ob:=⟨0,2,(List.map Key.row (recL ([]:List Key))),none⟩
@[simp] abbrev Yg_4 :Heap:=[Yg_o10,Yg_o11,Yg_o5,Yg_o12,Yg_o13,⟨0,7,[[(AV.int .i64 1),(AV.int .i64 0),(AV.int .i64 1),(AV.int .i64 0),(AV.obj 0 0 0 0),(AV.obj 2 0 0 0),(AV.obj 3 0 0 0)]],none⟩]
@[simp] abbrev Yg_5 :Heap:=[Yg_o6,Yg_o7,Yg_o5,Yg_o8,Yg_o9,⟨0,7,[[(AV.int .i64 1),(AV.int .i64 (Stamp.mk 7 1 2).t),(AV.int .i64 (Stamp.mk 7 1 2).node),(AV.int .i64 (Stamp.mk 7 1 2).n),(AV.obj 0 0 0 0),(AV.obj 2 0 0 0),(AV.obj 3 0 0 0)]],none⟩,⟨0,2,[[(AV.str (ByteArray.mk #[97])),(AV.str (ByteArray.mk #[98]))]],none⟩,⟨0,13,[[(AV.int .i64 2),(AV.int .i64 1),(AV.int .i64 0),(AV.int .i64 0),(AV.int .i64 4),(AV.int .i64 0),(AV.int .i64 0),(AV.str (ByteArray.mk #[97])),(AV.str (ByteArray.mk #[98])),(AV.bool false),(AV.int .u32 0),(AV.sl .any 9 []),(AV.sl .any 2 [])]],none⟩,⟨0,13,[[(AV.int .i64 2),(AV.int .i64 2),(AV.int .i64 0),(AV.int .i64 22),(AV.int .i64 0),(AV.int .i64 0),(AV.int .i64 0),(AV.str (ByteArray.mk #[120])),(AV.str (ByteArray.mk #[121])),(AV.bool false),(AV.int .u32 0),(AV.sl .any 9 []),(AV.sl .any 2 [])]],none⟩,⟨0,13,[[(AV.int .i64 2),(AV.int .i64 3),(AV.int .i64 0),(AV.int .i64 0),(AV.int .i64 0),(AV.int .i64 0),(AV.int .i64 0),(AV.str (ByteArray.mk #[97])),(AV.str (ByteArray.mk #[98])),(AV.bool false),(AV.int .u32 0),(AV.sl .any 9 []),(AV.sl .any 2 [])]],none⟩,⟨0,13,[[(AV.int .i64 2),(AV.int .i64 3),(AV.int .i64 0),(AV.int .i64 22),(AV.int .i64 0),(AV.int .i64 0),(AV.int .i64 0),(AV.str (ByteArray.mk #[97])),(AV.str (ByteArray.mk #[98])),(AV.bool false),(AV.int .u32 0),(AV.sl .any 9 []),(AV.sl .any 2 [])]],none⟩]
theorem known16_spec  :ACalls Tryz.prog 20 [] ([]:Heap) ((AV.bool true),([]:Heap)) :=
 specO (fn:=Tryz.f20) (ann:=known16_ann) (Has.o Tryz.func20) (.r (.g (.r (.ch 0 Yg_4 (ACalls.put2 [] ([]:Heap) (AV.obj 5 0 0 0) Yg_4 (dnew_spec 1 0 (by first | omega | assumption | (simp; done) | (simp; omega) | exact kr | kernel_rfl) (by first | omega | assumption | (simp; done) | (simp; omega) | exact kr | kernel_rfl) (by first | omega | assumption | (simp; done) | (simp; omega) | exact kr | kernel_rfl)) (trivial) (⟨rfl,⟨Ob.ren0 (Entry.rows_bdd 0 _),⟨rfl,⟨rfl,⟨Ob.ren0 (Key.rows_bdd 0 _),⟨rfl,trivial⟩⟩⟩⟩⟩⟩)) (.g (.r (.no (.c 3 (dnewN_at   Yg_4) (.no (.g (.no (.r (.g (.r (.ch 3 ([⟨0,2,[[(AV.int .i64 (capM 32)),(AV.osl 1 1 10 0 (List.length [(Entry.mk k16c1 5)]))]],none⟩,⟨1,10,(List.map Entry.row [(Entry.mk k16c1 5)]),none⟩,⟨0,3,[[(AV.int .i64 0),(AV.int .i64 0),(AV.int .i64 0)]],none⟩,⟨0,2,[[(AV.int .i64 (((List.length [k16]):Nat):Int)),(AV.osl 4 2 2 0 (List.length (recL [k16])))]],none⟩,⟨2,2,(List.map Key.row (recL [k16])),none⟩,⟨0,7,[[(AV.int .i64 1),(AV.int .i64 (Stamp.mk 5 1 1).t),(AV.int .i64 (Stamp.mk 5 1 1).node),(AV.int .i64 (Stamp.mk 5 1 1).n),(AV.obj 0 0 0 0),(AV.obj 2 0 0 0),(AV.obj 3 0 0 0)]],none⟩,⟨0,2,[[(AV.str (ByteArray.mk #[97])),(AV.str (ByteArray.mk #[98]))]],none⟩,⟨0,13,[[(AV.int .i64 0),(AV.int .i64 0),(AV.int .i64 0),(AV.int .i64 0),(AV.int .i64 0),(AV.int .i64 0),(AV.int .i64 0),(AV.str ⟨#[]⟩),(AV.str ⟨#[]⟩),(AV.bool false),(AV.int .u32 0),(AV.sl .nil 0 []),(AV.sl .nil 0 [])]],none⟩]:Heap) (ACalls.pre (args:=[(AV.obj 5 0 0 0),(AV.agg (Msg.row (Msg.mk 1 1 1 0 4 9 0 (Key.mk (ByteArray.mk #[97]) (ByteArray.mk #[98])) false 0 [] []))),(AV.int .i64 5)]) (args':=[(AV.obj 5 0 0 0),(AV.agg [(AV.int .i64 1),(AV.int .i64 1),(AV.int .i64 1),(AV.int .i64 0),(AV.int .i64 4),(AV.int .i64 9),(AV.int .i64 0),(AV.str (ByteArray.mk #[97])),(AV.str (ByteArray.mk #[98])),(AV.bool false),(AV.int .u32 0),(AV.sl .nil 0 []),(AV.sl .nil 0 [])]),(AV.int .i64 5)]) (k16t1_at ([]:List Entry) 0 ([]:List Key) 0 0 0 0 1 (Stamp.mk 0 1 0) (Msg.mk 1 1 1 0 4 9 0 (Key.mk (ByteArray.mk #[97]) (ByteArray.mk #[98])) false 0 [] []) 5 (by first | omega | assumption | (simp; done) | (simp; omega) | exact kr | kernel_rfl) ([⟨0,2,[[(AV.str (ByteArray.mk #[97])),(AV.str (ByteArray.mk #[98]))]],none⟩,⟨0,13,[[(AV.int .i64 0),(AV.int .i64 0),(AV.int .i64 0),(AV.int .i64 0),(AV.int .i64 0),(AV.int .i64 0),(AV.int .i64 0),(AV.str ⟨#[]⟩),(AV.str ⟨#[]⟩),(AV.bool false),(AV.int .u32 0),(AV.sl .nil 0 []),(AV.sl .nil 0 [])]],none⟩]:Heap)) ⟨AV.wk_refl_any _,⟨AV.wk_refl_any _,AV.wk_refl_any _,AV.wk_refl_any _,AV.wk_refl_any _,AV.wk_refl_any _,AV.wk_refl_any _,AV.wk_refl_any _,AV.wk_refl_any _,AV.wk_refl_any _,AV.wk_refl_any _,AV.wk_refl_any _,⟨rfl,rfl,.inr rfl⟩,⟨rfl,rfl,.inr rfl⟩,trivial⟩,AV.wk_refl_any _,trivial⟩) (.g (.r (.c 3 (ACalls.pre (args:=[(AV.obj 5 0 0 0),(AV.agg (Msg.row (Msg.mk 1 2 0 0 0 0 0 (Key.mk (ByteArray.mk #[120]) (ByteArray.mk #[121])) false 0 [] []))),(AV.int .i64 6)]) (args':=[(AV.obj 5 0 0 0),(AV.agg [(AV.int .i64 1),(AV.int .i64 2),(AV.int .i64 0),(AV.int .i64 0),(AV.int .i64 0),(AV.int .i64 0),(AV.int .i64 0),(AV.str (ByteArray.mk #[120])),(AV.str (ByteArray.mk #[121])),(AV.bool false),(AV.int .u32 0),(AV.sl .nil 0 []),(AV.sl .nil 0 [])]),(AV.int .i64 6)]) (k16t2_at [(Entry.mk k16c1 5)] 1 [k16] 2 0 0 0 1 (Stamp.mk 5 1 1) (Msg.mk 1 2 0 0 0 0 0 (Key.mk (ByteArray.mk #[120]) (ByteArray.mk #[121])) false 0 [] []) 6 (by first | omega | assumption | (simp; done) | (simp; omega) | exact kr | kernel_rfl) ([⟨0,2,[[(AV.str (ByteArray.mk #[97])),(AV.str (ByteArray.mk #[98]))]],none⟩,⟨0,13,[[(AV.int .i64 2),(AV.int .i64 1),(AV.int .i64 0),(AV.int .i64 0),(AV.int .i64 4),(AV.int .i64 0),(AV.int .i64 0),(AV.str (ByteArray.mk #[97])),(AV.str (ByteArray.mk #[98])),(AV.bool false),(AV.int .u32 0),(AV.sl .any 9 []),(AV.sl .any 2 [])]],none⟩,⟨0,13,[[(AV.int .i64 0),(AV.int .i64 0),(AV.int .i64 0),(AV.int .i64 0),(AV.int .i64 0),(AV.int .i64 0),(AV.int .i64 0),(AV.str ⟨#[]⟩),(AV.str ⟨#[]⟩),(AV.bool false),(AV.int .u32 0),(AV.sl .nil 0 []),(AV.sl .nil 0 [])]],none⟩]:Heap)) ⟨AV.wk_refl_any _,⟨AV.wk_refl_any _,AV.wk_refl_any _,AV.wk_refl_any _,AV.wk_refl_any _,AV.wk_refl_any _,AV.wk_refl_any _,AV.wk_refl_any _,AV.wk_refl_any _,AV.wk_refl_any _,AV.wk_refl_any _,AV.wk_refl_any _,⟨rfl,rfl,.inr rfl⟩,⟨rfl,rfl,.inr rfl⟩,trivial⟩,AV.wk_refl_any _,trivial⟩) (.g (.r (.ch 3 ([⟨0,2,[[(AV.int .i64 (capM 32)),(AV.osl 1 1 10 0 (List.length [(Entry.mk k16c2 7)]))]],none⟩,⟨1,10,(List.map Entry.row [(Entry.mk k16c2 7)]),none⟩,⟨0,3,[[(AV.int .i64 0),(AV.int .i64 0),(AV.int .i64 0)]],none⟩,⟨0,2,[[(AV.int .i64 (((List.length [k16,k16]):Nat):Int)),(AV.osl 4 4 2 0 (List.length (recL [k16,k16])))]],none⟩,⟨4,2,(List.map Key.row (recL [k16,k16])),none⟩,⟨0,7,[[(AV.int .i64 1),(AV.int .i64 (Stamp.mk 7 1 2).t),(AV.int .i64 (Stamp.mk 7 1 2).node),(AV.int .i64 (Stamp.mk 7 1 2).n),(AV.obj 0 0 0 0),(AV.obj 2 0 0 0),(AV.obj 3 0 0 0)]],none⟩,⟨0,2,[[(AV.str (ByteArray.mk #[97])),(AV.str (ByteArray.mk #[98]))]],none⟩,⟨0,13,[[(AV.int .i64 2),(AV.int .i64 1),(AV.int .i64 0),(AV.int .i64 0),(AV.int .i64 4),(AV.int .i64 0),(AV.int .i64 0),(AV.str (ByteArray.mk #[97])),(AV.str (ByteArray.mk #[98])),(AV.bool false),(AV.int .u32 0),(AV.sl .any 9 []),(AV.sl .any 2 [])]],none⟩,⟨0,13,[[(AV.int .i64 2),(AV.int .i64 2),(AV.int .i64 0),(AV.int .i64 22),(AV.int .i64 0),(AV.int .i64 0),(AV.int .i64 0),(AV.str (ByteArray.mk #[120])),(AV.str (ByteArray.mk #[121])),(AV.bool false),(AV.int .u32 0),(AV.sl .any 9 []),(AV.sl .any 2 [])]],none⟩,⟨0,13,[[(AV.int .i64 0),(AV.int .i64 0),(AV.int .i64 0),(AV.int .i64 0),(AV.int .i64 0),(AV.int .i64 0),(AV.int .i64 0),(AV.str ⟨#[]⟩),(AV.str ⟨#[]⟩),(AV.bool false),(AV.int .u32 0),(AV.sl .nil 0 []),(AV.sl .nil 0 [])]],none⟩]:Heap) (ACalls.pre (args:=[(AV.obj 5 0 0 0),(AV.agg (Msg.row (Msg.mk 1 3 0 0 0 0 0 (Key.mk (ByteArray.mk #[97]) (ByteArray.mk #[98])) false 0 [] []))),(AV.int .i64 7)]) (args':=[(AV.obj 5 0 0 0),(AV.agg [(AV.int .i64 1),(AV.int .i64 3),(AV.int .i64 0),(AV.int .i64 0),(AV.int .i64 0),(AV.int .i64 0),(AV.int .i64 0),(AV.str (ByteArray.mk #[97])),(AV.str (ByteArray.mk #[98])),(AV.bool false),(AV.int .u32 0),(AV.sl .nil 0 []),(AV.sl .nil 0 [])]),(AV.int .i64 7)]) (k16t3_at [(Entry.mk k16c1 5)] 1 [k16] 2 0 0 0 1 (Stamp.mk 5 1 1) (Msg.mk 1 3 0 0 0 0 0 (Key.mk (ByteArray.mk #[97]) (ByteArray.mk #[98])) false 0 [] []) 7 (by first | omega | assumption | (simp; done) | (simp; omega) | exact kr | kernel_rfl) ([⟨0,2,[[(AV.str (ByteArray.mk #[97])),(AV.str (ByteArray.mk #[98]))]],none⟩,⟨0,13,[[(AV.int .i64 2),(AV.int .i64 1),(AV.int .i64 0),(AV.int .i64 0),(AV.int .i64 4),(AV.int .i64 0),(AV.int .i64 0),(AV.str (ByteArray.mk #[97])),(AV.str (ByteArray.mk #[98])),(AV.bool false),(AV.int .u32 0),(AV.sl .any 9 []),(AV.sl .any 2 [])]],none⟩,⟨0,13,[[(AV.int .i64 2),(AV.int .i64 2),(AV.int .i64 0),(AV.int .i64 22),(AV.int .i64 0),(AV.int .i64 0),(AV.int .i64 0),(AV.str (ByteArray.mk #[120])),(AV.str (ByteArray.mk #[121])),(AV.bool false),(AV.int .u32 0),(AV.sl .any 9 []),(AV.sl .any 2 [])]],none⟩,⟨0,13,[[(AV.int .i64 0),(AV.int .i64 0),(AV.int .i64 0),(AV.int .i64 0),(AV.int .i64 0),(AV.int .i64 0),(AV.int .i64 0),(AV.str ⟨#[]⟩),(AV.str ⟨#[]⟩),(AV.bool false),(AV.int .u32 0),(AV.sl .nil 0 []),(AV.sl .nil 0 [])]],none⟩]:Heap)) ⟨AV.wk_refl_any _,⟨AV.wk_refl_any _,AV.wk_refl_any _,AV.wk_refl_any _,AV.wk_refl_any _,AV.wk_refl_any _,AV.wk_refl_any _,AV.wk_refl_any _,AV.wk_refl_any _,AV.wk_refl_any _,AV.wk_refl_any _,AV.wk_refl_any _,⟨rfl,rfl,.inr rfl⟩,⟨rfl,rfl,.inr rfl⟩,trivial⟩,AV.wk_refl_any _,trivial⟩) (.g (.r (.c 3 (ACalls.pre (args:=[(AV.obj 5 0 0 0),(AV.agg (Msg.row (Msg.mk 1 3 0 0 0 0 0 (Key.mk (ByteArray.mk #[97]) (ByteArray.mk #[98])) false 0 [] []))),(AV.int .i64 8)]) (args':=[(AV.obj 5 0 0 0),(AV.agg [(AV.int .i64 1),(AV.int .i64 3),(AV.int .i64 0),(AV.int .i64 0),(AV.int .i64 0),(AV.int .i64 0),(AV.int .i64 0),(AV.str (ByteArray.mk #[97])),(AV.str (ByteArray.mk #[98])),(AV.bool false),(AV.int .u32 0),(AV.sl .nil 0 []),(AV.sl .nil 0 [])]),(AV.int .i64 8)]) (k16t4_at [(Entry.mk k16c2 7)] 1 [k16,k16] 4 0 0 0 1 (Stamp.mk 7 1 2) (Msg.mk 1 3 0 0 0 0 0 (Key.mk (ByteArray.mk #[97]) (ByteArray.mk #[98])) false 0 [] []) 8 (by first | omega | assumption | (simp; done) | (simp; omega) | exact kr | kernel_rfl) ([⟨0,2,[[(AV.str (ByteArray.mk #[97])),(AV.str (ByteArray.mk #[98]))]],none⟩,⟨0,13,[[(AV.int .i64 2),(AV.int .i64 1),(AV.int .i64 0),(AV.int .i64 0),(AV.int .i64 4),(AV.int .i64 0),(AV.int .i64 0),(AV.str (ByteArray.mk #[97])),(AV.str (ByteArray.mk #[98])),(AV.bool false),(AV.int .u32 0),(AV.sl .any 9 []),(AV.sl .any 2 [])]],none⟩,⟨0,13,[[(AV.int .i64 2),(AV.int .i64 2),(AV.int .i64 0),(AV.int .i64 22),(AV.int .i64 0),(AV.int .i64 0),(AV.int .i64 0),(AV.str (ByteArray.mk #[120])),(AV.str (ByteArray.mk #[121])),(AV.bool false),(AV.int .u32 0),(AV.sl .any 9 []),(AV.sl .any 2 [])]],none⟩,⟨0,13,[[(AV.int .i64 2),(AV.int .i64 3),(AV.int .i64 0),(AV.int .i64 0),(AV.int .i64 0),(AV.int .i64 0),(AV.int .i64 0),(AV.str (ByteArray.mk #[97])),(AV.str (ByteArray.mk #[98])),(AV.bool false),(AV.int .u32 0),(AV.sl .any 9 []),(AV.sl .any 2 [])]],none⟩,⟨0,13,[[(AV.int .i64 0),(AV.int .i64 0),(AV.int .i64 0),(AV.int .i64 0),(AV.int .i64 0),(AV.int .i64 0),(AV.int .i64 0),(AV.str ⟨#[]⟩),(AV.str ⟨#[]⟩),(AV.bool false),(AV.int .u32 0),(AV.sl .nil 0 []),(AV.sl .nil 0 [])]],none⟩]:Heap)) ⟨AV.wk_refl_any _,⟨AV.wk_refl_any _,AV.wk_refl_any _,AV.wk_refl_any _,AV.wk_refl_any _,AV.wk_refl_any _,AV.wk_refl_any _,AV.wk_refl_any _,AV.wk_refl_any _,AV.wk_refl_any _,AV.wk_refl_any _,AV.wk_refl_any _,⟨rfl,rfl,.inr rfl⟩,⟨rfl,rfl,.inr rfl⟩,trivial⟩,AV.wk_refl_any _,trivial⟩) (.g (.r (.yes (.yes (.yes (.yes (.yes (.yes (.yes (.yes (.yes (.yes (.yes (.yes (.h' Yg_5 (.y 19 (AV.bool ((5 == 5)&&((1 == 1)&&((1 == 1)&&true)))) (AV.bool true) (Yes.bool kr) (.yes (.yes (.yes (.yes (.yes (.yes (.yes (.yes (.yes (.yes (.yes (.yes (.yes (.yes (.yes (.yes (.yes (.yes (.yes (.yes (.yes (.yes (.yes (.yes (.c 59 (ACalls.put2 [0,1,2,3,4,5] Yg_5 (AV.obj 3 0 0 0) Yg_5 (drecent_spec [(Entry.mk k16c2 7)] 1 [k16,k16] 4 0 0 0 1 (Stamp.mk 7 1 2).t (Stamp.mk 7 1 2).node (Stamp.mk 7 1 2).n ) (⟨rfl,⟨Ob.ren0 (Entry.rows_bdd 0 _),⟨rfl,⟨rfl,⟨Ob.ren0 (Key.rows_bdd 0 _),⟨rfl,trivial⟩⟩⟩⟩⟩⟩) (⟨rfl,⟨Ob.ren0 (Entry.rows_bdd 0 _),⟨rfl,⟨rfl,⟨Ob.ren0 (Key.rows_bdd 0 _),⟨rfl,trivial⟩⟩⟩⟩⟩⟩)) (.yes (.c 60 (ACalls.pre (args:=[(AV.obj 3 0 0 0)]) (args':=[(AV.obj 3 0 0 0)]) (ACalls.put2 [3,4] Yg_5 (AV.int .i64 (([k16,k16].length:Nat):Int)) Yg_5 (seq_spec [k16,k16] 4 ) (⟨rfl,⟨Ob.ren0 (Key.rows_bdd 0 _),trivial⟩⟩) (⟨rfl,⟨Ob.ren0 (Key.rows_bdd 0 _),trivial⟩⟩)) ⟨AV.wk_refl_any _,trivial⟩) (.yes (.g (.h' ([]:Heap) (.f 0 (AV.bool ((([k16,k16].length:Nat):Int) == 2)) (.e (AV.bool ((([k16,k16].length:Nat):Int) == 2))))))))))))))))))))))))))))))))))))))))))))))))))))))))))))))))))))))))))
theorem known16_at   (H:Heap):ACalls Tryz.prog 20 [] H ((AV.bool true),H):=(known16_spec  ).lift kr kr H
end Go.Proofs.YtfjedpipdnlkfaaGreat.AM

set_option maxRecDepth 100000
set_option linter.unusedVariables false
set_option linter.unusedSimpArgs false
namespace Go.Proofs.YtfjedpipdnlkfaaGreat.AM
open Go Go.Proofs.YtfjedpipdnlkfaaGreat
attribute [local irreducible] ACalls funT codeT codeQ LoopTo
attribute [local irreducible] sink insSort pickS pickL pickN pickK mostN cmpL lateE orderK beforeK
end Go.Proofs.YtfjedpipdnlkfaaGreat.AM

set_option maxRecDepth 100000
set_option linter.unusedVariables false
set_option linter.unusedSimpArgs false
namespace Go.Proofs.YtfjedpipdnlkfaaGreat.AM
open Go Go.Proofs.YtfjedpipdnlkfaaGreat
attribute [local irreducible] ACalls funT codeT codeQ LoopTo
attribute [local irreducible] sink insSort pickS pickL pickN pickK mostN cmpL lateE orderK beforeK sortP cmpK
def earlK (now:Int) (a b:Entry):Bool:=if (lateE a now != lateE b now)=true then decide (lateE a now > lateE b now) else beforeK a.card.key b.card.key
def liveN:List Entry→Nat
 | []=>0
 | e :: l=>(if (!e.card.gone)=true then 1 else 0)+liveN l
def posE (now:Int) (e:Entry) (out:List Entry):Nat→Nat
 | 0=>0
 | k+1=>if earlK now e (nth out k)=true then posE now e out k else k+1
theorem posE_le (now:Int) (e:Entry) (out:List Entry) (k:Nat):posE now e out k≤k:=by
 induction k with
 | zero=>simp only [posE]; omega
 | succ k ih=>simp only [posE]; split <;> omega
def insE (now:Int) (out:List Entry) (e:Entry):List Entry:=(out.take (posE now e out out.length)++[e])++out.drop (posE now e out out.length)
theorem insE_len (now:Int) (out:List Entry) (e:Entry):(insE now out e).length=out.length+1:=by
 have:=posE_le now e out out.length
 simp [insE]; omega
def someK (l:List Entry) (now late:Int):List Entry:=(l.filter fun e=>!decide (lateE e now≤late)).foldl (insE now) []
theorem foldE_len (now:Int) (l:List Entry):∀ (out:List Entry),(l.foldl (insE now) out).length=out.length+l.length:=by
 induction l with
 | nil=>intro out; simp
 | cons e l ih=>intro out; rw [List.foldl_cons,ih,insE_len]; simp; omega
theorem someK_len (l:List Entry) (now late:Int):(someK l now late).length≤l.length:=by
 unfold someK; rw [foldE_len]; simpa using List.length_filter_le _ _
def rpickK (l:List Entry) (now late:Int):List Key:=((someK l now (max late 0)).take (min (someK l now (max late 0)).length (mostN (liveN l:Nat)))).map (·.card.key)
end Go.Proofs.YtfjedpipdnlkfaaGreat.AM

set_option linter.unusedVariables false
set_option linter.unusedSimpArgs false
set_option maxRecDepth 100000
namespace Go.Proofs.YtfjedpipdnlkfaaGreat.AM
open Go
theorem pickFw (now late:Int) (l:List Entry):∀ (s:Nat × List Entry × Nat),(l.foldl (pickStep now late) s).2.1=s.2.1++l.filter (fun e=>decide (lateE e now > late))∧(l.foldl (pickStep now late) s).1=s.1+liveN l:=by
 induction l with
 | nil=>intro s; simp [liveN]
 | cons e l ih =>
  intro s
  obtain ⟨h1,h2⟩:=ih (pickStep now late s e)
  rw [List.foldl_cons,h1,h2]
  simp only [pickStep,liveN,List.filter_cons]
  constructor
  · split <;> simp
  · split <;> omega
theorem pickSw (l:List Entry) (now late:Int):(pickS l now late).2.1=l.filter (fun e=>decide (lateE e now > late))∧(pickS l now late).1=liveN l:=by
 have:=pickFw now late l (0,[],0)
 exact ⟨by simpa [pickS] using this.1,by simpa [pickS] using this.2⟩
theorem posE_posG (now:Int) (e:Entry) (out:List Entry) (k:Nat):posE now e out k=posG (earlK now) e out k:=by
 induction k with
 | zero=>rfl
 | succ k ih=>simp only [posE,posG,ih]
theorem insE_insG (now:Int):insE now=insG (earlK now):=by funext out e; unfold insE insG; rw [posE_posG]
theorem earlK_cmpL (now:Int):(fun a b:Entry=>decide (cmpL now a b < 0))=earlK now:=by
 funext a b
 unfold cmpL earlK
 by_cases h:lateE a now=lateE b now
 · have h1:cmpI (lateE b now) (lateE a now)=0:=by simp [cmpI,h]
   have h2:(lateE a now != lateE b now)=false:=by simp [h]
   rw [if_pos h1,h2]
   simp only [Bool.false_eq_true,if_false]
   rw [← less_before]
   unfold orderK
   cases h3:lessK a.card.key b.card.key
   · simp only [Bool.false_eq_true,if_false]; split <;> simp
   · simp
 · have h2:(lateE a now != lateE b now)=true:=by simp [h]
   rw [h2]
   simp only [if_true]
   by_cases h3:lateE b now < lateE a now
   · have h1:cmpI (lateE b now) (lateE a now) = -1:=by simp [cmpI,h3]
     rw [h1]; simp [h3]
   · have h1:cmpI (lateE b now) (lateE a now)=1:=by
      have:lateE b now > lateE a now:=by omega
      simp [cmpI,h3,this]
     rw [h1]; simp [h3]
theorem pick_same (l:List Entry) (now late:Int):pickK l now late=rpickK l now late:=by
 obtain ⟨h1,h2⟩:=pickSw l now (max 0 late)
 have hm:max late 0=max 0 late:=by omega
 have hf:(l.filter fun e=>!decide (lateE e now≤max 0 late))=l.filter (fun e=>decide (lateE e now > max 0 late)):=by
  congr 1; funext e
  by_cases h:lateE e now≤max 0 late
  · have:¬ lateE e now > max 0 late:=by omega
    simp only [h,this,decide_true,decide_false,Bool.not_true]
  · have:lateE e now > max 0 late:=by omega
    simp only [h,this,decide_true,decide_false,Bool.not_false]
 have key:pickL l now late=someK l now (max late 0):=by
  unfold pickL someK
  rw [h1,hm,hf,insSort_sortG,earlK_cmpL,insE_insG]; rfl
 unfold pickK rpickK pickN
 rw [key,h2]
theorem pickK_le (l:List Entry) (now late:Int):(pickK l now late).length≤l.length:=by
 rw [pick_same]
 have:=someK_len l now (max late 0)
 unfold rpickK; simp; omega
end Go.Proofs.YtfjedpipdnlkfaaGreat.AM

set_option linter.unusedVariables false
set_option linter.unusedSimpArgs false
set_option maxRecDepth 100000
namespace Go.Proofs.YtfjedpipdnlkfaaGreat.AM
open Go
theorem pickK_perm (l:List Entry) (now late:Int):List.Perm (pickL l now late) (l.filter (fun e=>decide (lateE e now > max 0 late))):=by
 unfold pickL
 refine (insSort_perm0 (cmpL now) _).trans ?_
 rw [(pickSw l now (max 0 late)).1]
theorem pickK_in {l:List Entry} {now late:Int} {k:Key} (h:k∈pickK l now late):∃ e∈l,e.card.key=k∧lateE e now > max 0 late:=by
 unfold pickK at h
 obtain ⟨e,he,rfl⟩:=List.mem_map.1 h
 have h1:=(pickK_perm l now late).mem_iff.1 (List.mem_of_mem_take he)
 rw [List.mem_filter] at h1
 exact ⟨e,h1.1,rfl,by simpa using h1.2⟩
theorem srtE_unlike {l:List Entry} (h:SrtE l):List.Pairwise (fun a b:Entry=>a.card.key≠b.card.key) l:=by
 have h2:List.Pairwise (fun a b:Entry=>beforeK a.card.key b.card.key=true) l:=List.pairwise_map.1 h
 exact h2.imp fun h=>bk_ne h
theorem pickK_once {l:List Entry} (h:SrtE l) (now late:Int):List.Pairwise (·≠·) (pickK l now late):=by
 unfold pickK
 rw [List.pairwise_map]
 have h2:List.Pairwise (fun a b:Entry=>a.card.key≠b.card.key) (pickL l now late):=List.Perm.pairwise (pickK_perm l now late).symm (List.Pairwise.filter _ (srtE_unlike h)) fun h e=>h e.symm
 exact h2.sublist (List.take_sublist _ _)
def swOK (l:List Entry) (ks:List Key):Prop:=List.Pairwise (·≠·) ks∧∀ k∈ks,findB l k=true∧(getE l k).card.gone=false
theorem pick_swOK {l:List Entry} (h:SrtE l) (now late:Int):swOK l (pickK l now late):=by
 refine ⟨pickK_once h now late,fun k hk=>?_⟩
 obtain ⟨e,he,rfl,hl⟩:=pickK_in hk
 obtain ⟨f1,f2⟩:=find_mem h he
 refine ⟨f1,?_⟩
 rw [f2]
 cases hg:e.card.gone with
 | false=>rfl
 | true =>
  have:lateE e now=0:=by unfold lateE; rw [if_pos hg]
  omega
theorem swOK.next {l:List Entry} (hs:SrtE l) {k:Key} {ks:List Key} (h:swOK l (k :: ks)) {x:Entry} (hx:x.card.key=k):swOK (putL (capM 32) l x) ks:=by
 obtain ⟨h1,h2⟩:=h
 have h3:=List.pairwise_cons.1 h1
 refine ⟨h3.2,fun k' hk'=>?_⟩
 have hf:=h2 k (List.mem_cons_self)
 have hf':=h2 k' (List.mem_cons_of_mem _ hk')
 have hne:k'≠x.card.key:=by rw [hx]; exact fun e=>h3.1 k' hk' e.symm
 obtain ⟨g1,g2⟩:=find_putL_ne (most:=capM 32) hs (e:=x) (.inl (by rw [hx]; exact hf.1)) hne
 rw [g1,g2]; exact hf'
end Go.Proofs.YtfjedpipdnlkfaaGreat.AM
