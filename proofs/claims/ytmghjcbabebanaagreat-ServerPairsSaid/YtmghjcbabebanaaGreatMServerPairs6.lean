/-
  Texts of this claim, part 6 of 7: an abstract machine over the model; what functions come to; plain laws.
-/
import Derived.Test.YtmghjcbabebanaaGreatMServerPairs5
set_option maxRecDepth 100000
set_option linter.unusedVariables false
set_option linter.unusedSimpArgs false
namespace Go.Proofs.YtmghjcbabebanaaGreat.AM
open Go Go.Proofs.YtmghjcbabebanaaGreat
attribute [local irreducible] D7 D8 G7 I8 dH hdD j6 l7 l9 maxS qA swC swF tkF tkL tkT w9
@[simp] theorem c7w (n:Nat) (p:Int):AV.bdds n (x9 p)=true:=rfl
def b6q:Ann:={ own:=[7],fin:=some 1 }
theorem b1W (p:Int) :AC 51 [(AV.sl .op 1 [[(iI p)]])] [] ((AV.osl 0 0 1 0 1),[(o_ 0 1 (List.map x9 [p]))]) :=
 q9 (fn:=Tryz.f51) (ann:=b6q) (Has.o Tryz.func51) (.r (.s (.rn (.ao 2 22 (AV.sl .clip 1 []) (AV.sl .op 1 [[(iI p)]]) (AV.osl 0 0 1 0 1) [(o_ 0 1 (List.map x9 [p]))] (bM (T:=tt) (e:=3) (te:=c4T) (z:=1) (b:=24) (y:=[.sl .nil 0 []]) (row:=x9) kr kr rfl E9 E9 yf_ aR rfl rfl rfl om) (.q 1 (AV.osl 0 0 1 0 1))))))
theorem b6p (p:Int) :AC 51 [(sA 1 (List.map x9 [p]))] [] ((AV.osl 0 0 1 0 1),[(o_ 0 1 (List.map x9 [p]))]):=j6.a4A (fun h=>by simp at h) (b1W p)
def a8a:Ann:={ base:=4,fin:=some 5 }
@[simp] abbrev c6k (a:Int) (b:Int) (c:Nat) (d:l9C):Heap:=[qC a,(o_ 0 1 (List.map x9 [b])),uZ c d,(o_ c 9 (mC d)),(o_ 0 1 (List.map x9 [b]))]
theorem a5A (p lost:Int) (g:Nat) (l:l9C) :AC 26 [(oO 0 0 0 0)] (bW lost p g l) ((AV.osl 4 0 1 0 1),(c6k lost p g l)) :=
 q9 (fn:=Tryz.f26) (ann:=a8a) (Has.o Tryz.func26) (.r (.s (.ch 4 (c6k lost p g l) (j6.uT (args:=[(sA 1 (List.map x9 [p]))]) (args':=[(AV.osl 1 0 1 0 1)]) (H:=(bW lost p g l)) (b6p p ) (tK (fun _=>rfl) _) (show Brs (bW lost p g l) [(AV.osl 1 0 1 0 1)] [(sA 1 (List.map x9 [p]))] from ⟨Br.osl (G9 (room:=none) kr a9A) (iC _ _),trivial⟩)) (.q 5 (AV.osl 4 0 1 0 1)))))
def b4b:Ann:={ gha:=[(5,.frzf 18 2 1)],fin:=some 12 }
@[simp] abbrev dP :Ob:=(o_ 0 2 [[(iI (p9 32)),(AV.osl 1 0 10 0 (List.length ([]:l9E)))]])
@[simp] abbrev dO :Ob:=(o_ 0 10 (mE ([]:l9E)))
@[simp] abbrev dN :Ob:=(o_ 0 2 [[(iN ((List.length ([]:l9K)))),(AV.osl 4 0 2 0 (List.length (l5 ([]:l9K))))]])
@[simp] abbrev dM :Ob:=(o_ 0 2 (mK (l5 ([]:l9K))))
@[simp] abbrev a4G (a:Int):Ob:=(o_ 0 7 (a3a a))
@[simp] abbrev a3f (a:Int):Heap:=[dP,dO,vF,dN,dM,a4G a]
@[simp] abbrev b2l :=[[(AV.osl 7 0 1 0 1),(AV.osl 8 0 1 0 1),z_]]
@[simp] abbrev c2O :Ob:=(o_ 0 3 b2l)
@[simp] abbrev b7C :Ob:=(o_ 0 1 [[(AV.osl 9 0 9 0 (List.length ([]:l9C)))]])
@[simp] abbrev b7B :Ob:=(o_ 0 9 (mC ([]:l9C)))
@[simp] abbrev c1B (a:Int) (b:Int):Heap:=[dP,dO,vF,dN,dM,a4G a,c2O,(o_ 0 1 (List.map x9 [b])),b7C,b7B]
@[simp] abbrev c6j (a:Int) (b:Int):Heap:=[dP,dO,vF,dN,dM,a4G a,c2O,(o_ 0 1 (List.map x9 [b])),b7C,b7B,(o_ 0 1 (List.map x9 [b]))]
@[simp] abbrev c0P (a:Int):=[[(iI a),(iI (l8.mk 0 a 0).t),(iI (l8.mk 0 a 0).node),(iI (l8.mk 0 a 0).n),(oO 0 0 0 0),(oO 2 0 0 0),(oO 3 0 0 0)]]
theorem a9Z (nd p:Int) (h1:0<=nd) (h2:nd < 6):AC 8 [(iI nd),(sA 1 [[(iI p)]])] [] ((oO 11 0 0 0),[(o_ 0 2 [[(iI (p9 32)),(AV.osl 1 0 10 0 (List.length ([]:l9E)))]]),(o_ 0 10 (mE ([]:l9E))),(o_ 0 3 [[z_,z_,z_]]),(o_ 0 2 [[(iN ((List.length ([]:l9K)))),(AV.osl 4 0 2 0 (List.length (l5 ([]:l9K))))]]),(o_ 0 2 (mK (l5 ([]:l9K)))),(o_ 0 7 (c0P nd)),(o_ 0 3 b2l),(o_ 0 1 (List.map x9 [p])),(o_ 0 1 [[(AV.osl 9 0 9 0 0)]]),(o_ 0 9 (mC ([]:l9C))),(o_ 1 1 []),(o_ 0 6 [[z_,z_,(sA 1 [[(iI p)]]),z_,(oO 5 0 0 0),(oO 6 0 0 0)]])]) :=
 q9 (fn:=Tryz.f8) (ann:=b4b) (Has.o Tryz.func8) (.r (.s (.ch 1 (a3f nd) (j6.put2 [] [] (oO 5 0 0 0) (a3f nd) (a4a nd 0 oa oa sU) (trivial) (rlA)) (.s (.rn (.ch 1 (c1B nd p) (j6.put2 [] (a3f nd) (oO 6 0 0 0) (c1B nd p) (b0C p ) (trivial) (rlC)) (.s (.ch 1 (c6j nd p) (j6.put2 [6,7,8,9] (c1B nd p) (AV.osl 10 0 1 0 1) (c6j nd p) (a5A p 0 0 ([]:l9C) ) (rlC) (⟨rfl,⟨Ob.ren0 (iC 0 _),⟨rfl,⟨Ob.ren0 (j5.y8 0 _),⟨Ob.ren0 (iC 0 _),trivial⟩⟩⟩⟩⟩)) (.w' 18 (List.map x9 [p]) (And.intro rfl (And.intro (G9 (room:=none) kr om) (iC _ _)):0=0/\F5 [(o_ 0 2 [[(iI (p9 32)),(AV.osl 1 0 10 0 (List.length ([]:l9E)))]]),(o_ 0 10 (mE ([]:l9E))),(o_ 0 3 [[z_,z_,z_]]),(o_ 0 2 [[(iN ((List.length ([]:l9K)))),(AV.osl 4 0 2 0 (List.length (l5 ([]:l9K))))]]),(o_ 0 2 (mK (l5 ([]:l9K)))),(o_ 0 7 (a3a nd)),(o_ 0 3 b2l),(o_ 0 1 (List.map x9 [p])),(o_ 0 1 [[(AV.osl 9 0 9 0 (List.length ([]:l9C)))]]),(o_ 0 9 (mC ([]:l9C))),(o_ 0 1 (List.map x9 [p])),(o_ 0 6 [[z_,z_,(AV.osl 10 0 1 0 1),z_,(oO 5 0 0 0),(oO 6 0 0 0)]])] 1 (AV.osl 10 0 1 0 1)=some (List.map x9 [p])/\AV.D5 0 (List.map x9 [p])=true) (.g (.h' [(o_ 0 2 [[(iI (p9 32)),(AV.osl 1 0 10 0 (List.length ([]:l9E)))]]),(o_ 0 10 (mE ([]:l9E))),(o_ 0 3 [[z_,z_,z_]]),(o_ 0 2 [[(iN ((List.length ([]:l9K)))),(AV.osl 4 0 2 0 (List.length (l5 ([]:l9K))))]]),(o_ 0 2 (mK (l5 ([]:l9K)))),(o_ 0 7 (a3a nd)),(o_ 0 3 b2l),(o_ 0 1 (List.map x9 [p])),(o_ 0 1 [[(AV.osl 9 0 9 0 (List.length ([]:l9C)))]]),(o_ 0 9 (mC ([]:l9C))),(o_ 1 1 []),(o_ 0 6 [[z_,z_,(sA 1 (List.map x9 [p])),z_,(oO 5 0 0 0),(oO 6 0 0 0)]])] (.q 12 (oO 11 0 0 0)))))))))))))
@[simp] abbrev gW (a:Int):Ob:=(o_ 0 3 [[(AV.osl 7 0 1 0 1),(AV.osl 8 0 1 0 1),(iI a)]])
@[simp] abbrev xR (a:Nat) (b:l9C):Ob:=(o_ 0 1 [[(AV.osl 9 a 9 0 (List.length b))]])
@[simp] abbrev c6h (a:Int) (b:Int) (c:Int):Ob:=(o_ 0 6 [[(iI a),(iI b),(sA 1 [[(iI c)]]),z_,(oO 5 0 0 0),(oO 6 0 0 0)]])
@[simp] abbrev c6i (a:Nat) (b:l9E) (c:Int) (d:Int) (e:Int) (f:l9K) (g:Nat) (h:Int) (i:l8) (j:Int) (k:Int) (l:Nat) (m:l9C) (n:Int) (o:Int):Heap:=[R4 a b,(o_ a 10 (mE b)),I9 c d e,M9 f g,(o_ g 2 (mK (l5 f))),U7 h i,gW j,(o_ 0 1 (List.map x9 [k])),xR l m,(o_ l 9 (mC m)),(o_ 1 1 []),c6h n o k]
structure dQ where
 kind:Int
 op:Int
 status:Int
 code:Int
 tag:Int
 n:Int
 seq:Int
 key:Key
 full:Bool
 sum:Int
 cards:List j5
 deriving Inhabited
def dQ.row (x:dQ):List AV:=[(iI x.kind),(iI x.op),(iI x.status),(iI x.code),(iI x.tag),(iI x.n),(iI x.seq),(AV.str x.key.app),(AV.str x.key.id),(bB x.full),(AV.int .u32 x.sum),(sA 9 (mC x.cards)),(AV.sl .nil 0 [])]
@[simp] theorem dQ.O4 (n:Nat) (x:dQ):AV.bdds n x.row=true:=by simp [dQ.row,AV.bdds,AV.bdd]
@[simp] theorem dQ.y8 (n:Nat) (l:List dQ):AV.D5 n (l.map dQ.row)=true:=by induction l with | nil=>rfl | cons x l ih=>simp [AV.D5,dQ.O4,ih]
structure A9 where
 to:Int
 m:dQ
 deriving Inhabited
def A9.row (x:A9):List AV:=[(iI x.to),(iI x.m.kind),(iI x.m.op),(iI x.m.status),(iI x.m.code),(iI x.m.tag),(iI x.m.n),(iI x.m.seq),(AV.str x.m.key.app),(AV.str x.m.key.id),(bB x.m.full),(AV.int .u32 x.m.sum),(sA 9 (mC x.m.cards)),(AV.sl .nil 0 [])]
@[simp] theorem A9.O4 (n:Nat) (x:A9):AV.bdds n x.row=true:=by simp [A9.row,AV.bdds,AV.bdd]
@[simp] theorem A9.y8 (n:Nat) (l:List A9):AV.D5 n (l.map A9.row)=true:=by induction l with | nil=>rfl | cons x l ih=>simp [AV.D5,A9.O4,ih]
def uE (cs:List j5):dQ:=⟨3,0,0,0,0,0,0,⟨⟨#[]⟩,⟨#[]⟩⟩,false,0,cs⟩
def a0K (cs:List j5):dQ:=⟨4,0,0,0,0,0,0,⟨⟨#[]⟩,⟨#[]⟩⟩,false,0,cs⟩
def J4 (p:Int) (cs:List j5):List A9:=if cs.length=0 then [] else [⟨p,uE cs⟩]
def b4I:Ann:={ fin:=some 0 }
theorem a1y (p:Int) (cs:l9C) (h:cs.length=0):AC 35 [(iI p),(sA 9 (mC cs))] [] ((AV.sl .nil 0 []),[]) :=
 q9 (fn:=Tryz.f35) (ann:=b4I) (Has.o Tryz.func35) (.r (.s (.y 1 (.int .i64 ((List.length (mC cs):Nat):Int)) (iN cs.length) (Yes.len _ _ _) (.y 2 (bB ((cs.length:Int) == 0)) bT (Yes.b (by simp [h])) (.g (.u (.qr 0 (AV.sl .nil 0 []))))))))
def b4J:Ann:={ fin:=some 0 }
theorem a1z (p:Int) (cs:l9C) (h:¬ cs.length=0):AC 35 [(iI p),(sA 9 (mC cs))] [] ((AV.sl .clip 14 (List.map A9.row [A9.mk p (uE cs)])),[]) :=
 q9 (fn:=Tryz.f35) (ann:=b4J) (Has.o Tryz.func35) (.r (.s (.y 1 (.int .i64 ((List.length (mC cs):Nat):Int)) (iN cs.length) (Yes.len _ _ _) (.y 2 (bB ((cs.length:Int) == 0)) bF (Yes.b yk_) (.g (.n (.qr 0 (AV.sl .clip 14 [[(iI p),(iI 3),z_,z_,z_,z_,z_,z_,e_,e_,bF,(AV.int .u32 0),(sA 9 (mC cs)),(AV.sl .nil 0 [])]]))))))))
theorem pJ (p:Int) (cs:l9C) :AC 35 [(iI p),(sA 9 (mC cs))] [] ((sA 14 (List.map A9.row (J4 p cs))),[]):=by
 unfold J4
 by_cases h:cs.length=0
 · rw [if_pos h]; exact (a1y p cs h).post ⟨rfl,rfl,.inr rfl⟩
 · rw [if_neg h]; exact (a1z p cs h).post ⟨rfl,rfl,.inl rfl⟩
theorem lY (p:Int) (cs:l9C):(J4 p cs).length<=1:=by unfold J4; split <;> simp
attribute [local irreducible] J4 V7 eZ
def a9N:Ann:={ own:=[136,103],gh:=[(16,.frz 3)],gha:=[(7,.vir 3 14)],base:=12,fin:=some 12 }
@[simp] abbrev mI (a:Int) (b:Int) (c:Int) (d:Int):Ob:=(o_ 0 3 [[(iI (tkF a (b+1))),(iI (tkL a c d (b+1))),(iI (tkT a d (b+1)))]])
@[simp] abbrev xQ (a:Nat) (b:l9C):Ob:=(o_ 0 1 [[(AV.osl 9 a 9 0 (List.length (eZ b)))]])
@[simp] abbrev jX (a:Int) (b:Int) (c:Int):Ob:=(o_ 0 6 [[(iI (a+1)),(iI b),(sA 1 [[(iI c)]]),z_,(oO 5 0 0 0),(oO 6 0 0 0)]])
@[simp] abbrev a4I (a:Nat) (b:l9E) (c:Int) (d:Int) (e:Int) (f:Int) (g:l9K) (h:Nat) (i:Int) (j:l8) (k:Int) (l:Int) (m:Nat) (n:l9C) (o:Int):Heap:=[R4 a b,(o_ a 10 (mE b)),mI c d e f,M9 g h,(o_ h 2 (mK (l5 g))),U7 i j,gW k,(o_ 0 1 (List.map x9 [l])),xQ m n,(o_ m 9 (mC (eZ n))),(o_ 1 1 []),jX d o l]
@[simp] abbrev qB (a:Nat) (b:l9E) (c:Int) (d:Int) (e:Int) (f:l9K) (g:Nat) (h:Int) (i:l8) (j:Int) (k:Int) (l:Nat) (m:l9C) (n:Int) (o:Int):Heap:=[R4 a b,(o_ a 10 (mE b)),I9 c d e,M9 f g,(o_ g 2 (mK (l5 f))),U7 h i,gW j,(o_ 0 1 (List.map x9 [k])),xR l m,(o_ l 9 (mC m)),(o_ 1 1 []),jX n o k]
@[simp] abbrev a4H (a:Nat) (b:l9E) (c:Int) (d:Int) (e:Int) (f:Int) (g:l9K) (h:Nat) (i:Int) (j:l8) (k:Int) (l:Int) (m:Nat) (n:l9C) (o:Int):Heap:=[R4 a b,(o_ a 10 (mE b)),mI c d e f,M9 g h,(o_ h 2 (mK (l5 g))),U7 i j,gW k,(o_ 0 1 (List.map x9 [l])),xR m n,(o_ m 9 (mC n)),(o_ 1 1 []),jX d o l]
@[simp] abbrev fA (a:Nat) (b:l9E) (c:Int) (d:Int) (e:Int) (f:Int) (g:l9K) (h:Nat) (i:Int) (j:l8) (k:Int) (l:Int) (m:Nat) (n:l9C) (o:Int):Heap:=[R4 a b,(o_ a 10 (mE b)),mI c d e f,M9 g h,(o_ h 2 (mK (l5 g))),U7 i j,gW k,(o_ 0 1 (List.map x9 [l])),xR m n,(o_ m 9 (mC n)),(o_ 1 1 []),jX d o l,(o_ 0 14 (List.map A9.row []))]
@[simp] abbrev b2W (a:Nat) (b:l9E) (c:Int) (d:Int) (e:Int) (f:Int) (g:l9K) (h:Nat) (i:Int) (j:l8) (k:Int) (l:Int) (m:Nat) (n:l9C) (o:Int):Heap:=[R4 a b,(o_ a 10 (mE b)),mI c d e f,M9 g h,(o_ h 2 (mK (l5 g))),U7 i j,gW k,(o_ 0 1 (List.map x9 [l])),xQ m n,(o_ m 9 (mC (eZ n))),(o_ 1 1 []),jX d o l,(o_ 0 14 (List.map A9.row []))]
@[simp] abbrev c2R (a:Nat) (b:l9E) (c:Int) (d:Int) (e:Int) (f:Int) (g:l9K) (h:Nat) (i:Int) (j:l8) (k:Int) (l:Int) (m:Nat) (n:l9C) (o:Int):Heap:=[R4 a b,(o_ a 10 (mE b)),mI c d e f,M9 g h,(o_ h 2 (mK (l5 g))),U7 i j,gW k,(o_ 0 1 (List.map x9 [l])),xQ m n,(o_ m 9 (mC (eZ n))),(o_ 1 1 []),jX d o l,(o_ 1 14 (List.map A9.row ([]++(J4 l (V7 n)))))]
theorem vO {p:Prop} (h:p:=by first | omega | (show _ * 152<=_; omega) | (simp; done) | (simp; omega)):p:=h
@[reducible] def vR:TI:={ d:=.struct [(3,0),(33,1)],size:=14,bytes:=152,zero:=[.int .i64 0,.int .i64 0,.int .i64 0,.int .i64 0,.int .i64 0,.int .i64 0,.int .i64 0,.int .i64 0,.str ⟨#[]⟩,.str ⟨#[]⟩,.bool false,.int .u32 0,.sl .nil 0 [],.sl .nil 0 []] }
theorem a7G (l:l9E) (g:Nat) (al:l9K) (ga:Nat) (gf gl gt nd:Int) (st:l8) (p lost:Int) (qg:Nat) (ql:l9C) (now swept nxt:Int) (hn:0<=now) (hn2:now < 1099511627776) (hq:ql.length<=16) (h1:(Int.tmod (now+1) 20 == 0)=false) (h2:(Int.tmod (now+1) 15 == 0)=false):AC 37 [(oO 11 0 0 0)] (c6i g l gf gl gt al ga nd st lost p qg ql now swept) ((sA 14 (List.map A9.row ([]++(J4 p (V7 ql))))),(a4I g l gf now gl gt al ga nd st lost p qg ql swept)):=by
 have hpl:=lY p (V7 ql)
 exact q9 (fn:=Tryz.f37) (ann:=a9N) (Has.o Tryz.func37) (.r (.s (.y 4 (iW (now+1)) (iI (now+1)) Yes.o (.s (.c 4 (j6.put2 [0,1,2,3,4,5] (qB g l gf gl gt al ga nd st lost p qg ql now swept) (oO 2 0 0 0) (qB g l gf gl gt al ga nd st lost p qg ql now swept) (qW l g al ga gf gl gt nd st ) (rlA) (rlA)) (.ch 9 (a4H g l gf now gl gt al ga nd st lost p qg ql swept) (j6.put2 [2] (qB g l gf gl gt al ga nd st lost p qg ql now swept) (AV.tup []) (a4H g l gf now gl gt al ga nd st lost p qg ql swept) (uN gf gl gt (now+1) ) (⟨rfl,trivial⟩) (⟨rfl,trivial⟩)) (.rd (iI (now+1)) (qB g l gf gl gt al ga nd st lost p qg ql now swept) (.s (.y 5 (bB ((Int.tmod (now+1) 20) == 0)) bF (Yes.b (h1)) (.rn (.s (.h' (fA g l gf now gl gt al ga nd st lost p qg ql swept) (.y 5 (bB ((Int.tmod (now+1) 15) == 0)) bF (Yes.b (h2)) (.n6 (.rn (.g (.roll 2 (.r (.ru (.s (.ch 7 (b2W g l gf now gl gt al ga nd st lost p qg ql swept) (j6.put2 [6,7,8,9] (fA g l gf now gl gt al ga nd st lost p qg ql swept) (sA 9 (mC (V7 ql))) (b2W g l gf now gl gt al ga nd st lost p qg ql swept) (a1w p lost qg ql oa) (rlC) (rlC)) (.c 8 ((pJ p (V7 ql)).lift kr kr (b2W g l gf now gl gt al ga nd st lost p qg ql swept)) (.ao 9 36 (AV.osl 12 0 14 0 0) (sA 14 (List.map A9.row (J4 p (V7 ql)))) (AV.osl 12 1 14 0 (0+(J4 p (V7 ql)).length)) (c2R g l gf now gl gt al ga nd st lost p qg ql swept) (J2 (T:=tt) (e:=56) (te:=vR) (z:=1) (b:=24) (y:=[.sl .nil 0 []]) (row:=A9.row) (l:=[]) kr kr rfl E9 E9 kr aR om rfl rfl vO) (.s (.s (.rn (.w 3 (List.map A9.row ([]++(J4 p (V7 ql)))) (And.intro (G9 (room:=none) kr om) (A9.y8 _ _):F5 (c2R g l gf now gl gt al ga nd st lost p qg ql swept) 14 (AV.osl 12 1 14 0 (0+(J4 p (V7 ql)).length))=some (List.map A9.row ([]++(J4 p (V7 ql))))/\AV.D5 0 (List.map A9.row ([]++(J4 p (V7 ql))))=true) (.g (.h' (a4I g l gf now gl gt al ga nd st lost p qg ql swept) (.q 12 (sA 14 (List.map A9.row ([]++(J4 p (V7 ql)))))))))))))))))))))))))))))))))))
attribute [local simp] A9.row
def a9M:Ann:={ own:=[136,103],gh:=[(16,.frz 3)],gha:=[(7,.vir 3 14)],base:=12,fin:=some 12 }
@[simp] abbrev b7A (a:Int) (b:l9E):Ob:=(o_ 1 14 (List.map A9.row ([]++([(A9.mk a (dQ.mk 4 0 0 0 0 0 0 (Key.mk (ByteArray.mk #[]) (ByteArray.mk #[])) false 0 (R8 (b.map (·.card)))))]))))
@[simp] abbrev c2Q (a:Nat) (b:l9E) (c:Int) (d:Int) (e:Int) (f:Int) (g:l9K) (h:Nat) (i:Int) (j:l8) (k:Int) (l:Int) (m:Nat) (n:l9C) (o:Int):Heap:=[R4 a b,(o_ a 10 (mE b)),mI c d e f,M9 g h,(o_ h 2 (mK (l5 g))),U7 i j,gW k,(o_ 0 1 (List.map x9 [l])),xR m n,(o_ m 9 (mC n)),(o_ 1 1 []),jX d o l,b7A l b]
@[simp] abbrev b2V (a:Nat) (b:l9E) (c:Int) (d:Int) (e:Int) (f:Int) (g:l9K) (h:Nat) (i:Int) (j:l8) (k:Int) (l:Int) (m:Nat) (n:l9C) (o:Int):Heap:=[R4 a b,(o_ a 10 (mE b)),mI c d e f,M9 g h,(o_ h 2 (mK (l5 g))),U7 i j,gW k,(o_ 0 1 (List.map x9 [l])),xQ m n,(o_ m 9 (mC (eZ n))),(o_ 1 1 []),jX d o l,b7A l b]
@[simp] abbrev c2P (a:Nat) (b:l9E) (c:Int) (d:Int) (e:Int) (f:Int) (g:l9K) (h:Nat) (i:Int) (j:l8) (k:Int) (l:Int) (m:Nat) (n:l9C) (o:Int):Heap:=[R4 a b,(o_ a 10 (mE b)),mI c d e f,M9 g h,(o_ h 2 (mK (l5 g))),U7 i j,gW k,(o_ 0 1 (List.map x9 [l])),xQ m n,(o_ m 9 (mC (eZ n))),(o_ 1 1 []),jX d o l,(o_ 2 14 (List.map A9.row (([]++([(A9.mk l (dQ.mk 4 0 0 0 0 0 0 (Key.mk (ByteArray.mk #[]) (ByteArray.mk #[])) false 0 (R8 (b.map (·.card)))))]))++(J4 l (V7 n)))))]
theorem a7F (l:l9E) (g:Nat) (al:l9K) (ga:Nat) (gf gl gt nd:Int) (st:l8) (p lost:Int) (qg:Nat) (ql:l9C) (now swept nxt:Int) (hn:0<=now) (hn2:now < 1099511627776) (hq:ql.length<=16) (hl:l.length<=32) (h1:(Int.tmod (now+1) 20 == 0)=false) (h2:(Int.tmod (now+1) 15 == 0)=true):AC 37 [(oO 11 0 0 0)] (c6i g l gf gl gt al ga nd st lost p qg ql now swept) ((sA 14 (List.map A9.row ([(A9.mk p (a0K (R8 (List.map Entry.card l))))]++(J4 p (V7 ql))))),(a4I g l gf now gl gt al ga nd st lost p qg ql swept)):=by
 have hpl:=lY p (V7 ql)
 exact q9 (fn:=Tryz.f37) (ann:=a9M) (Has.o Tryz.func37) (.r (.s (.y 4 (iW (now+1)) (iI (now+1)) Yes.o (.s (.c 4 (j6.put2 [0,1,2,3,4,5] (qB g l gf gl gt al ga nd st lost p qg ql now swept) (oO 2 0 0 0) (qB g l gf gl gt al ga nd st lost p qg ql now swept) (qW l g al ga gf gl gt nd st ) (rlA) (rlA)) (.ch 9 (a4H g l gf now gl gt al ga nd st lost p qg ql swept) (j6.put2 [2] (qB g l gf gl gt al ga nd st lost p qg ql now swept) (AV.tup []) (a4H g l gf now gl gt al ga nd st lost p qg ql swept) (uN gf gl gt (now+1) ) (⟨rfl,trivial⟩) (⟨rfl,trivial⟩)) (.rd (iI (now+1)) (qB g l gf gl gt al ga nd st lost p qg ql now swept) (.s (.y 5 (bB ((Int.tmod (now+1) 20) == 0)) bF (Yes.b (h1)) (.rn (.s (.h' (fA g l gf now gl gt al ga nd st lost p qg ql swept) (.y 5 (bB ((Int.tmod (now+1) 15) == 0)) bT (Yes.b (h2)) (.u6 (.ru (.c 15 (j6.put2 [0,1,2,3,4,5] (fA g l gf now gl gt al ga nd st lost p qg ql swept) (oO 0 0 0 0) (fA g l gf now gl gt al ga nd st lost p qg ql swept) (V4 l g al ga (tkF gf (now+1)) (tkL gf gl gt (now+1)) (tkT gf gt (now+1)) nd st.t st.node st.n ) (rlA) (rlA)) (.c 16 (j6.put2 [0,1] (fA g l gf now gl gt al ga nd st lost p qg ql swept) (sA 9 (mC (l.map (·.card)))) (fA g l gf now gl gt al ga nd st lost p qg ql swept) (aN (p9 32) l g (List.length l) oa oa) (rlF) (rlF)) (.c 17 ((a6l (l.map (·.card)) oa).lift kr kr (fA g l gf now gl gt al ga nd st lost p qg ql swept)) (.ao 20 36 (AV.osl 12 0 14 0 0) (AV.sl .clip 14 [[(iI p),(iI 4),z_,z_,z_,z_,z_,z_,e_,e_,bF,(AV.int .u32 0),(sA 9 (mC (R8 (l.map (·.card))))),(AV.sl .nil 0 [])]]) (AV.osl 12 1 14 0 1) (c2Q g l gf now gl gt al ga nd st lost p qg ql swept) (J2 (T:=tt) (e:=56) (te:=vR) (z:=1) (b:=24) (y:=[.sl .nil 0 []]) (row:=A9.row) (l:=[]) kr kr rfl E9 E9 kr aR om rfl rfl vO) (.rd z_ (fA g l gf now gl gt al ga nd st lost p qg ql swept) (.rd z_ (fA g l gf now gl gt al ga nd st lost p qg ql swept) (.rd z_ (fA g l gf now gl gt al ga nd st lost p qg ql swept) (.rd (sA 1 [[(iI p)]]) (fA g l gf now gl gt al ga nd st lost p qg ql swept) (.rd (sA 1 [[(iI p)]]) (fA g l gf now gl gt al ga nd st lost p qg ql swept) (.rd (sA 1 [[(iI p)]]) (fA g l gf now gl gt al ga nd st lost p qg ql swept) (.s (.s (.g (.roll 2 (.r (.ru (.s (.ch 7 (b2V g l gf now gl gt al ga nd st lost p qg ql swept) (j6.put2 [6,7,8,9] (c2Q g l gf now gl gt al ga nd st lost p qg ql swept) (sA 9 (mC (V7 ql))) (b2V g l gf now gl gt al ga nd st lost p qg ql swept) (a1w p lost qg ql oa) (rlC) (rlC)) (.c 8 ((pJ p (V7 ql)).lift kr kr (b2V g l gf now gl gt al ga nd st lost p qg ql swept)) (.ao 9 36 (AV.osl 12 1 14 0 1) (sA 14 (List.map A9.row (J4 p (V7 ql)))) (AV.osl 12 2 14 0 (1+(J4 p (V7 ql)).length)) (c2P g l gf now gl gt al ga nd st lost p qg ql swept) (J2 (T:=tt) (e:=56) (te:=vR) (z:=1) (b:=24) (y:=[.sl .nil 0 []]) (row:=A9.row) (l:=[]++([(A9.mk p (dQ.mk 4 0 0 0 0 0 0 (Key.mk (ByteArray.mk #[]) (ByteArray.mk #[])) false 0 (R8 (l.map (·.card)))))])) kr kr rfl E9 E9 kr aR om rfl rfl vO) (.s (.s (.rn (.w 3 (List.map A9.row (([]++([(A9.mk p (dQ.mk 4 0 0 0 0 0 0 (Key.mk (ByteArray.mk #[]) (ByteArray.mk #[])) false 0 (R8 (l.map (·.card)))))]))++(J4 p (V7 ql)))) (And.intro (G9 (room:=none) kr om) (A9.y8 _ _):F5 (c2P g l gf now gl gt al ga nd st lost p qg ql swept) 14 (AV.osl 12 2 14 0 (1+(J4 p (V7 ql)).length))=some (List.map A9.row (([]++([(A9.mk p (dQ.mk 4 0 0 0 0 0 0 (Key.mk (ByteArray.mk #[]) (ByteArray.mk #[])) false 0 (R8 (l.map (·.card)))))]))++(J4 p (V7 ql))))/\AV.D5 0 (List.map A9.row (([]++([(A9.mk p (dQ.mk 4 0 0 0 0 0 0 (Key.mk (ByteArray.mk #[]) (ByteArray.mk #[])) false 0 (R8 (l.map (·.card)))))]))++(J4 p (V7 ql))))=true) (.g (.h' (a4I g l gf now gl gt al ga nd st lost p qg ql swept) (.q 12 (sA 14 (List.map A9.row (([]++([(A9.mk p (dQ.mk 4 0 0 0 0 0 0 (Key.mk (ByteArray.mk #[]) (ByteArray.mk #[])) false 0 (R8 (l.map (·.card)))))]))++(J4 p (V7 ql)))))))))))))))))))))))))))))))))))))))))))))))
def stT (now:Int) (s:DS):DS:=⟨s.l,s.g,s.al,s.ga,tkF s.gf (now+1),tkL s.gf s.gl s.gt (now+1),tkT s.gf s.gt (now+1),s.st⟩
def stK (now swept:Int) (s:DS):List Key:=b3Q (stT now s) (w9 (now+1)) (now+1 - swept - 20)
def stW (nd now swept:Int) (s:DS):DS:=swF nd (w9 (now+1)) (stK now swept s) (stT now s)
def stC (nd now swept:Int) (s:DS):List j5:=swC nd (w9 (now+1)) (stK now swept s) (stT now s)
structure SS where
 d:DS
 ql:List j5
 qg:Nat
 lost:Int
 now:Int
 swept:Int
structure c8m (nd:Int) (s:SS):Prop where
 hn:0<=s.now
 hn2:s.now < 1099511627776
 hq:s.ql.length<=16
 hs0:0<=s.swept
 hs1:s.swept<=s.now
 hs:Y7 s.d.l
 hl:s.d.l.length<=32
 ha:s.d.al.length < 60000
 hgt:0<=tkT s.d.gf s.d.gt (s.now+1)/\tkT s.d.gf s.d.gt (s.now+1)<=1048576
 hc1:(stC nd s.now s.swept s.d).length < 100
 hw:(stW nd s.now s.swept s.d).l.length < 1000
attribute [local irreducible] F6 G5 H7 I5 I7 J3 J5 L9 M0 O7 P7 b0O b3Q gN iH lK opM r9 tuR y9
theorem c4R (gf:Int) (w:Int) {gt:Int} (h:0<=gt/\gt<=1048576):0<=tkT gf gt w/\tkT gf gt w<=1048576:=by
 with_unfolding_all
  unfold tkT
  split
  · exact h
  · exact ⟨Int.le_refl _,by decide⟩
end Go.Proofs.YtmghjcbabebanaaGreat.AM
namespace Go.Proofs.YtmghjcbabebanaaGreat.AM
open Go Go.Proofs.YtmghjcbabebanaaGreat
attribute [local irreducible] D7 G7 j6 l7 l9
structure SSI (n:Nat) (b:Int) (s:SS):Prop where
 d:eO n s.d
 hn:0<=s.now
 hn2:s.now<=b
 hq:s.ql.length<=16
 hs0:0<=s.swept
 hs1:s.swept<=s.now
theorem c4W {n:Nat} {s:DS} (h:eO n s) (now:Int):eO n (stT now s) :=
 have ht:=c4R s.gf (now+1) (gt:=s.gt) ⟨h.g0,h.g1⟩
 ⟨h.srt,h.len,h.al,ht.1,ht.2⟩
theorem b9e (l:l9C):(eZ l).length<=l.length:=by
 with_unfolding_all unfold eZ
 have:=wT (min l.length 4) l
 omega
attribute [local irreducible] stW stC
attribute [local irreducible] A8 C9 F3 F7 F8 G5 I7 I8 J3 L9 M0 M5 M8 N8 O6 O7 P9 Q6 Q7 Tp.F9 Tp.G8 Tp.card Tp.cards Tp.key Tp.keyT Tp.next Tp.step U0 cmpL inC isKey ixI opM sink z8
def nW:Ann:={ fin:=some 0,live:=[(2,[0,1,7,8])],out:=[(2,[4])] }
theorem uL (p:Key->Bool) (f:Nat) (xs:List AV) (l:l9K) (i:Nat) (hc:∀ (x:Key) (H:Heap),AC f ([AV.agg (Key.row x)]++xs) H (bB (p x),H)) (hl:l.length < 1099511627776) (hi:i<=l.length) {eX:Ex} {FX:Fr} {HX:Heap} (k1:(decide ((i:Int) < (l.length:Int)))=true->(p (nth l i))=true->((.ret:Ex),(mkF 19 [(4,(iN i))]),[])=(eX,FX,HX)) (k2:(decide ((i:Int) < (l.length:Int)))=true->(p (nth l i))=false->l7 (l9 Tryz.prog (X nW) (y7 Tryz.f108 0)) (some [0,1,7,8]) (some [4]) (mkF 19 [(0,(sA 2 (mK l))),(1,(AV.func f xs)),(7,(iN l.length)),(8,(iN (i+1)))]) [] eX FX HX) (k3:(decide ((i:Int) < (l.length:Int)))=false->((.exit 0:Ex),(mkF 19 []),[])=(eX,FX,HX)):l7 (l9 Tryz.prog (X nW) (y7 Tryz.f108 0)) (some [0,1,7,8]) (some [4]) (mkF 19 [(0,(sA 2 (mK l))),(1,(AV.func f xs)),(7,(iN l.length)),(8,(iN i))]) [] eX FX HX :=
 K7 (.r (.g (.two (decide ((i:Int) < (l.length:Int))) (fun h1 h1'=>(.r (.s (.is 3 2 2 (mK l) (i:Int) (Key.row (nth l i)) (O9.mk _ ow ow) (.c 5 (hc (nth l i) []) (.g (.two (p (nth l i)) (fun h2 h2'=>(.r (.g (.l (k1 h1 h2))))) (fun h2 h2'=>(.r (.y 0 (.int .i64 (ca_ i)) (iN (i+1)) Yes.o (.g (.l (k2 h1 h2))))))))))))) (fun h1 h1'=>(.l (k3 h1))))))
theorem b9R (p:Key->Bool) (f:Nat) (xs:List AV) (l:l9K) (hc:∀ (x:Key) (H:Heap),AC f ([AV.agg (Key.row x)]++xs) H (bB (p x),H)) (hl:l.length < 1099511627776) (n:Nat) (hn:n < l.length) (hp:p (nth l n)=true) (r:Nat):∀ (i:Nat),i+r=n->(∀ j,i<=j->j < n->p (nth l j)=false) ->
 l7 (l9 Tryz.prog (X nW) (y7 Tryz.f108 0)) (some [0,1,7,8]) (some [4]) (mkF 19 [(0,(sA 2 (mK l))),(1,(AV.func f xs)),(7,(iN l.length)),(8,(iN i))]) [] (.ret) (mkF 19 [(4,(iN n))]) []:=by
 induction r with
 | zero =>
  intro i hi h
  obtain rfl:i=n:=by omega
  refine uL p f xs l i hc hl ow (fun _ _=>rfl) (fun _ h2=>?_) (fun h1=>?_)
  · rw [hp] at h2; simp at h2
  · simp at h1; omega
 | succ r ih =>
  intro i hi h
  refine uL p f xs l i hc hl ow (fun _ h2=>?_) (fun _ h2=>?_) (fun h1=>?_)
  · rw [h i (Nat.le_refl _) ow] at h2; simp at h2
  · exact ih (i+1) ow (fun j h3 h4=>h j ow h4)
  · simp at h1; omega
theorem b9S (p:Key->Bool) (f:Nat) (xs:List AV) (l:l9K) (hc:∀ (x:Key) (H:Heap),AC f ([AV.agg (Key.row x)]++xs) H (bB (p x),H)) (hl:l.length < 1099511627776) (r:Nat):∀ (i:Nat),i+r=l.length->(∀ j,i<=j->j < l.length->p (nth l j)=false) ->
 l7 (l9 Tryz.prog (X nW) (y7 Tryz.f108 0)) (some [0,1,7,8]) (some [4]) (mkF 19 [(0,(sA 2 (mK l))),(1,(AV.func f xs)),(7,(iN l.length)),(8,(iN i))]) [] (.exit 0) (mkF 19 []) []:=by
 induction r with
 | zero =>
  intro i hi h
  refine uL p f xs l i hc hl ow (fun h1 _=>?_) (fun h1 h2=>?_) (fun h1=>rfl)
  · simp at h1; omega
  · simp at h1; omega
 | succ r ih =>
  intro i hi h
  refine uL p f xs l i hc hl ow (fun _ h2=>?_) (fun _ h2=>?_) (fun h1=>?_)
  · rw [h i (Nat.le_refl _) ow] at h2; simp at h2
  · exact ih (i+1) ow (fun j h3 h4=>h j ow h4)
  · simp at h1; omega
@[simp] abbrev c8j (a:l9K) (b:Nat) (c:List AV):Fr:=(mkF 19 [(0,(sA 2 (mK a))),(1,(AV.func b c)),(7,(iN a.length)),(8,z_)])
theorem b5k (p:Key->Bool) (f:Nat) (xs:List AV) (l:l9K) (n:Nat) (hc:∀ (x:Key) (H:Heap),AC f ([AV.agg (Key.row x)]++xs) H (bB (p x),H)) (hxs:AV.bdds 0 xs=true) (hl:l.length < 1099511627776) (hn:n < l.length) (hp:p (nth l n)=true) (h:∀ j,0<=j->j < n->p (nth l j)=false):AC 108 [(sA 2 (mK l)),(AV.func f xs)] [] ((iN n),[]) :=
 q9 (fn:=Tryz.f108) (ann:=nW) (Has.o Tryz.func108) (.r (.s (.y 1 (.int .i64 ((List.length (mK l):Nat):Int)) (iN l.length) (Yes.len _ _ _) (.g (.loop (mkF 19 [(4,(iN n))]) (b9R p f xs l hc hl n hn hp n 0 ow h) (.q 0 (iN n)))))))
theorem b5l (p:Key->Bool) (f:Nat) (xs:List AV) (l:l9K) (hc:∀ (x:Key) (H:Heap),AC f ([AV.agg (Key.row x)]++xs) H (bB (p x),H)) (hxs:AV.bdds 0 xs=true) (hl:l.length < 1099511627776) (h:∀ j,0<=j->j < l.length->p (nth l j)=false):AC 108 [(sA 2 (mK l)),(AV.func f xs)] [] ((iI (-1)),[]) :=
 q9 (fn:=Tryz.f108) (ann:=nW) (Has.o Tryz.func108) (.r (.s (.y 1 (.int .i64 ((List.length (mK l):Nat):Int)) (iN l.length) (Yes.len _ _ _) (.g (.loop (mkF 19 []) (b9S p f xs l hc hl l.length 0 ow h) (.qr 0 (iI (-1))))))))
theorem b9Q (p:Key->Bool) (f:Nat) (xs:List AV) (l:l9K) (hc:∀ (x:Key) (H:Heap),AC f ([AV.agg (Key.row x)]++xs) H (bB (p x),H)) (hxs:AV.bdds 0 xs=true) (hl:l.length < 1099511627776):AC 108 [(sA 2 (mK l)),(AV.func f xs)] [] ((iI (ixI p l)),[]):=by
 unfold ixI
 cases h:eF p l 0 with
 | none=>exact b5l p f xs l hc hxs hl (fun j _ hj=>iQ l 0 h j hj)
 | some n =>
  obtain ⟨_,h2,h3,h4⟩:=dD l 0 n h
  exact b5k p f xs l n hc hxs hl ow h3 (fun j _ hj=>h4 j hj)
theorem c5e (p:Key->Bool) (f:Nat) (xs:List AV) (l:l9K) (hc:∀ (x:Key) (H:Heap),AC f ([AV.agg (Key.row x)]++xs) H (bB (p x),H)) (hxs:AV.bdds 0 xs=true) (hl:l.length < 1099511627776) (H:Heap):AC 108 [(sA 2 (mK l)),(AV.func f xs)] H ((iI (ixI p l)),H):=(b9Q p f xs l hc hxs hl).lift vQ kr H
def c1q:Ann:={ fin:=some 0 }
theorem a4j (l:l9C) (hl:l.length < 1048576):AC 57 [(sA 9 (mC l)),(AV.func 58 [])] [] ((bB (decide (ixI (fun c:j5=>!(F8 c)) l >= 0))),[]) :=
 q9 (fn:=Tryz.f57) (ann:=c1q) (Has.o Tryz.func57) (.r (.s (.c 2 (b5q (fun c:j5=>!(F8 c)) 58 [] l (fun x H=>a5U x H) (rfl) oa []) (.q 0 (bB (decide ((ixI (fun c:j5=>!(F8 c)) l) >= 0)))))))
def c1p:Ann:={ fin:=some 0 }
theorem b6v (l:l9K) (hl:l.length < 1048576):AC 60 [(sA 2 (mK l)),(AV.func 61 [])] [] ((bB (decide (ixI (fun k:Key=>!(L9 k)) l >= 0))),[]) :=
 q9 (fn:=Tryz.f60) (ann:=c1p) (Has.o Tryz.func60) (.r (.s (.c 2 (c5e (fun k:Key=>!(L9 k)) 61 [] l (fun x H=>a5T x H) (rfl) oa []) (.q 0 (bB (decide ((ixI (fun k:Key=>!(L9 k)) l) >= 0)))))))
def b9F:Ann:={ refs:=[1],fin:=some 0 }
@[simp] abbrev b2k :=(AV.ref [(AV.str (ByteArray.mk #[107,105,110,100])),(AV.iface 109 (iI 12))] 0)
theorem b5a (q:Msg) (h:q.kind < 1):AC 30 [(AV.agg (Msg.row q))] [] ((AV.iface 166 b2k),[]) :=
 q9 (fn:=Tryz.f30) (ann:=b9F) (Has.o Tryz.func30) (.r (.s (.y 2 (gP q) bT (Yes.b (decide_eq_true h)) (.u3 (.ru (.c 0 ((U3 (ByteArray.mk #[107,105,110,100]) 12 oa).lift kr kr []) (.q 0 (AV.iface 166 b2k))))))))
def b9E:Ann:={ refs:=[1],fin:=some 0 }
theorem b4Z (q:Msg) (k1:1<=q.kind) (h:5 < q.kind):AC 30 [(AV.agg (Msg.row q))] [] ((AV.iface 166 b2k),[]) :=
 q9 (fn:=Tryz.f30) (ann:=b9E) (Has.o Tryz.func30) (.r (.s (.y 2 (gP q) bF (Yes.b yh_) (.n3 (.y 6 (iJ q) bT (Yes.b (decide_eq_true h)) (.ru (.c 0 ((U3 (ByteArray.mk #[107,105,110,100]) 12 oa).lift kr kr []) (.q 0 (AV.iface 166 b2k)))))))))
def c4A:Ann:={ refs:=[1],fin:=some 0 }
theorem b9x (q:Msg) (k1:1<=q.kind) (k2:q.kind<=5) (hz:J3 q=false):AC 30 [(AV.agg (Msg.row q))] [] ((AV.iface 166 b2o),[]) :=
 q9 (fn:=Tryz.f30) (ann:=c4A) (Has.o Tryz.func30) (.r (.s (.y 2 (gP q) bF (Yes.b yh_) (.n3 (.y 6 (iJ q) bF (Yes.b yh_) (.rn (.c 1 (X7 q  ([]:Heap)) (.y 2 (bB (!(J3 q))) bT (Yes.b kC) (.ru (.c 0 ((U3 (ByteArray.mk #[122,101,114,111]) 12 oa).lift kr kr []) (.q 0 (AV.iface 166 b2o))))))))))))
def c4B:Ann:={ refs:=[1],fin:=some 0 }
theorem b9y (q:Msg) (k1:1<=q.kind) (k2:q.kind<=5) (hz:J3 q=true) (ho:opM q=false):AC 30 [(AV.agg (Msg.row q))] [] ((AV.iface 166 b2n),[]) :=
 q9 (fn:=Tryz.f30) (ann:=c4B) (Has.o Tryz.func30) (.r (.s (.y 2 (gP q) bF (Yes.b yh_) (.n3 (.y 6 (iJ q) bF (Yes.b yh_) (.rn (.c 1 (X7 q  ([]:Heap)) (.y 2 (bB (!(J3 q))) bF (Yes.b kC) (.rn (.c 1 (dS q  ([]:Heap)) (.y 2 (bB (!(opM q))) bT (Yes.b X4) (.ru (.c 0 ((U3 (ByteArray.mk #[111,112]) 12 oa).lift kr kr []) (.q 0 (AV.iface 166 b2n)))))))))))))))
def b9B:Ann:={ refs:=[1],fin:=some 0 }
theorem b4W (q:Msg) (k1:1<=q.kind) (k2:q.kind<=5) (hz:J3 q=true) (ho:opM q=true) (hn:G5 q.code=false):AC 30 [(AV.agg (Msg.row q))] [] ((AV.iface 166 qY),[]) :=
 q9 (fn:=Tryz.f30) (ann:=b9B) (Has.o Tryz.func30) (.r (.s (.y 2 (gP q) bF (Yes.b yh_) (.n3 (.y 6 (iJ q) bF (Yes.b yh_) (.rn (.c 1 (X7 q  ([]:Heap)) (.y 2 (bB (!(J3 q))) bF (Yes.b kC) (.rn (.c 1 (dS q  ([]:Heap)) (.y 2 (bB (!(opM q))) bF (Yes.b X4) (.rn (.c 2 (K8 q.code  ([]:Heap)) (.y 3 (bB (!(G5 q.code))) bT (Yes.b (by rw [hn]; rfl)) (.u6 (.u (.ru (.c 0 ((U3 (ByteArray.mk #[110,117,109,98,101,114]) 1 oa).lift kr kr []) (.q 0 (AV.iface 166 qY))))))))))))))))))))
def b9A:Ann:={ refs:=[1],fin:=some 0 }
theorem a2l {p:Prop} (h:p:=by rw [hc]; rfl):p:=h
theorem b4V (q:Msg) (k1:1<=q.kind) (k2:q.kind<=5) (hz:J3 q=true) (ho:opM q=true) (hc:G5 q.code=true) (hn:G5 q.status=false):AC 30 [(AV.agg (Msg.row q))] [] ((AV.iface 166 qY),[]) :=
 q9 (fn:=Tryz.f30) (ann:=b9A) (Has.o Tryz.func30) (.r (.s (.y 2 (gP q) bF (Yes.b yh_) (.n3 (.y 6 (iJ q) bF (Yes.b yh_) (.rn (.c 1 (X7 q  ([]:Heap)) (.y 2 (bB (!(J3 q))) bF (Yes.b kC) (.rn (.c 1 (dS q  ([]:Heap)) (.y 2 (bB (!(opM q))) bF (Yes.b X4) (.rn (.c 2 (K8 q.code  ([]:Heap)) (.y 3 (bB (!(G5 q.code))) bF (Yes.b a2l) (.n3 (.c 7 (K8 q.status  ([]:Heap)) (.n (.y 8 (bB (!(G5 q.status))) bT (Yes.b (by rw [hn]; rfl)) (.u3 (.ru (.c 0 ((U3 (ByteArray.mk #[110,117,109,98,101,114]) 1 oa).lift kr kr []) (.q 0 (AV.iface 166 qY)))))))))))))))))))))))
def b9z:Ann:={ refs:=[1],fin:=some 0 }
theorem b4U (q:Msg) (k1:1<=q.kind) (k2:q.kind<=5) (hz:J3 q=true) (ho:opM q=true) (hc:G5 q.code=true) (hs:G5 q.status=true) (hn:q.seq < -1):AC 30 [(AV.agg (Msg.row q))] [] ((AV.iface 166 qY),[]) :=
 q9 (fn:=Tryz.f30) (ann:=b9z) (Has.o Tryz.func30) (.r (.s (.y 2 (gP q) bF (Yes.b yh_) (.n3 (.y 6 (iJ q) bF (Yes.b yh_) (.rn (.c 1 (X7 q  ([]:Heap)) (.y 2 (bB (!(J3 q))) bF (Yes.b kC) (.rn (.c 1 (dS q  ([]:Heap)) (.y 2 (bB (!(opM q))) bF (Yes.b X4) (.rn (.c 2 (K8 q.code  ([]:Heap)) (.y 3 (bB (!(G5 q.code))) bF (Yes.b a2l) (.n3 (.c 7 (K8 q.status  ([]:Heap)) (.n (.y 8 (bB (!(G5 q.status))) bF (Yes.b a2n) (.n3 (.y 13 (a0N q) bT (Yes.b (decide_eq_true hn)) (.ru (.c 0 ((U3 (ByteArray.mk #[110,117,109,98,101,114]) 1 oa).lift kr kr []) (.q 0 (AV.iface 166 qY))))))))))))))))))))))))
def b9D:Ann:={ refs:=[1],fin:=some 0 }
@[simp] abbrev b2j :=(AV.ref [(AV.str (ByteArray.mk #[99,97,114,100,115])),(AV.iface 109 (iI 3))] 0)
theorem b4Y (q:Msg) (k1:1<=q.kind) (k2:q.kind<=5) (hz:J3 q=true) (ho:opM q=true) (hc:G5 q.code=true) (hs:G5 q.status=true) (hq:-1<=q.seq) (hn:64 < q.cards.length):AC 30 [(AV.agg (Msg.row q))] [] ((AV.iface 166 b2j),[]) :=
 q9 (fn:=Tryz.f30) (ann:=b9D) (Has.o Tryz.func30) (.r (.s (.y 2 (gP q) bF (Yes.b yh_) (.n3 (.y 6 (iJ q) bF (Yes.b yh_) (.rn (.c 1 (X7 q  ([]:Heap)) (.y 2 (bB (!(J3 q))) bF (Yes.b kC) (.rn (.c 1 (dS q  ([]:Heap)) (.y 2 (bB (!(opM q))) bF (Yes.b X4) (.rn (.c 2 (K8 q.code  ([]:Heap)) (.y 3 (bB (!(G5 q.code))) bF (Yes.b a2l) (.n3 (.c 7 (K8 q.status  ([]:Heap)) (.n (.y 8 (bB (!(G5 q.status))) bF (Yes.b a2n) (.n3 (.y 13 (a0N q) bF (Yes.b yh_) (.rn (.y 2 (.int .i64 ((List.length (mC q.cards):Nat):Int)) (iN q.cards.length) (Yes.len _ _ _) (.y 3 (a6O q) bT (Yes.b yh_) (.u4 (.ru (.c 0 ((U3 (ByteArray.mk #[99,97,114,100,115]) 3 oa).lift kr kr []) (.q 0 (AV.iface 166 b2j))))))))))))))))))))))))))))
def b9C:Ann:={ refs:=[1],fin:=some 0 }
theorem b4X (q:Msg) (k1:1<=q.kind) (k2:q.kind<=5) (hz:J3 q=true) (ho:opM q=true) (hc:G5 q.code=true) (hs:G5 q.status=true) (hq:-1<=q.seq) (l1:q.cards.length<=64) (hn:64 < q.keys.length):AC 30 [(AV.agg (Msg.row q))] [] ((AV.iface 166 b2j),[]) :=
 q9 (fn:=Tryz.f30) (ann:=b9C) (Has.o Tryz.func30) (.r (.s (.y 2 (gP q) bF (Yes.b yh_) (.n3 (.y 6 (iJ q) bF (Yes.b yh_) (.rn (.c 1 (X7 q  ([]:Heap)) (.y 2 (bB (!(J3 q))) bF (Yes.b kC) (.rn (.c 1 (dS q  ([]:Heap)) (.y 2 (bB (!(opM q))) bF (Yes.b X4) (.rn (.c 2 (K8 q.code  ([]:Heap)) (.y 3 (bB (!(G5 q.code))) bF (Yes.b a2l) (.n3 (.c 7 (K8 q.status  ([]:Heap)) (.n (.y 8 (bB (!(G5 q.status))) bF (Yes.b a2n) (.n3 (.y 13 (a0N q) bF (Yes.b yh_) (.rn (.y 2 (.int .i64 ((List.length (mC q.cards):Nat):Int)) (iN q.cards.length) (Yes.len _ _ _) (.y 3 (a6O q) bF (Yes.b yh_) (.n3 (.y 7 (.int .i64 ((List.length (mK q.keys):Nat):Int)) (iN q.keys.length) (Yes.len _ _ _) (.n (.y 8 (b2s q) bT (Yes.b yh_) (.ru (.c 0 ((U3 (ByteArray.mk #[99,97,114,100,115]) 3 oa).lift kr kr []) (.q 0 (AV.iface 166 b2j)))))))))))))))))))))))))))))))
theorem b2C (l:l9C) (hl:l.length < 1048576) (h:(ixI (fun c:j5=>!(F8 c)) l >= 0)):AC 57 [(sA 9 (mC l)),(AV.func 58 [])] [] (bT,[]):=by
 have e:=a4j l hl
 rw [decide_eq_true h] at e
 exact e
theorem b2D (l:l9C) (hl:l.length < 1048576) (h:¬ (ixI (fun c:j5=>!(F8 c)) l >= 0)):AC 57 [(sA 9 (mC l)),(AV.func 58 [])] [] (bF,[]):=by
 have e:=a4j l hl
 rw [decide_eq_false h] at e
 exact e
theorem b2B (l:l9K) (hl:l.length < 1048576) (h:(ixI (fun k:Key=>!(L9 k)) l >= 0)):AC 60 [(sA 2 (mK l)),(AV.func 61 [])] [] (bT,[]):=by
 have e:=b6v l hl
 rw [decide_eq_true h] at e
 exact e
def b9H:Ann:={ refs:=[1],fin:=some 0 }
@[simp] abbrev b2i :=(AV.ref [(AV.str (ByteArray.mk #[99,97,114,100])),(AV.iface 109 (iI 1))] 0)
theorem b5c (q:Msg) (k1:1<=q.kind) (k2:q.kind<=5) (hz:J3 q=true) (ho:opM q=true) (hc:G5 q.code=true) (hs:G5 q.status=true) (hq:-1<=q.seq) (l1:q.cards.length<=64) (l2:q.keys.length<=64) (h:(ixI (fun c:j5=>!(F8 c)) q.cards >= 0)):AC 30 [(AV.agg (Msg.row q))] [] ((AV.iface 166 b2i),[]) :=
 q9 (fn:=Tryz.f30) (ann:=b9H) (Has.o Tryz.func30) (.r (.s (.y 2 (gP q) bF (Yes.b yh_) (.n3 (.y 6 (iJ q) bF (Yes.b yh_) (.rn (.c 1 (X7 q  ([]:Heap)) (.y 2 (bB (!(J3 q))) bF (Yes.b kC) (.rn (.c 1 (dS q  ([]:Heap)) (.y 2 (bB (!(opM q))) bF (Yes.b X4) (.rn (.c 2 (K8 q.code  ([]:Heap)) (.y 3 (bB (!(G5 q.code))) bF (Yes.b a2l) (.n3 (.c 7 (K8 q.status  ([]:Heap)) (.n (.y 8 (bB (!(G5 q.status))) bF (Yes.b a2n) (.n3 (.y 13 (a0N q) bF (Yes.b yh_) (.rn (.y 2 (.int .i64 ((List.length (mC q.cards):Nat):Int)) (iN q.cards.length) (Yes.len _ _ _) (.y 3 (a6O q) bF (Yes.b yh_) (.n3 (.y 7 (.int .i64 ((List.length (mK q.keys):Nat):Int)) (iN q.keys.length) (Yes.len _ _ _) (.n (.y 8 (b2s q) bF (Yes.b yh_) (.rn (.c 2 ((b2C q.cards oa (h)).lift kr kr []) (.s (.u3 (.ru (.c 0 ((U3 (ByteArray.mk #[99,97,114,100]) 1 oa).lift kr kr []) (.q 0 (AV.iface 166 b2i)))))))))))))))))))))))))))))))))))
def b9G:Ann:={ refs:=[1],fin:=some 0 }
theorem b5b (q:Msg) (k1:1<=q.kind) (k2:q.kind<=5) (hz:J3 q=true) (ho:opM q=true) (hc:G5 q.code=true) (hs:G5 q.status=true) (hq:-1<=q.seq) (l1:q.cards.length<=64) (l2:q.keys.length<=64) (h0:¬ (ixI (fun c:j5=>!(F8 c)) q.cards >= 0)) (h:(ixI (fun k:Key=>!(L9 k)) q.keys >= 0)):AC 30 [(AV.agg (Msg.row q))] [] ((AV.iface 166 b2i),[]) :=
 q9 (fn:=Tryz.f30) (ann:=b9G) (Has.o Tryz.func30) (.r (.s (.y 2 (gP q) bF (Yes.b yh_) (.n3 (.y 6 (iJ q) bF (Yes.b yh_) (.rn (.c 1 (X7 q  ([]:Heap)) (.y 2 (bB (!(J3 q))) bF (Yes.b kC) (.rn (.c 1 (dS q  ([]:Heap)) (.y 2 (bB (!(opM q))) bF (Yes.b X4) (.rn (.c 2 (K8 q.code  ([]:Heap)) (.y 3 (bB (!(G5 q.code))) bF (Yes.b a2l) (.n3 (.c 7 (K8 q.status  ([]:Heap)) (.n (.y 8 (bB (!(G5 q.status))) bF (Yes.b a2n) (.n3 (.y 13 (a0N q) bF (Yes.b yh_) (.rn (.y 2 (.int .i64 ((List.length (mC q.cards):Nat):Int)) (iN q.cards.length) (Yes.len _ _ _) (.y 3 (a6O q) bF (Yes.b yh_) (.n3 (.y 7 (.int .i64 ((List.length (mK q.keys):Nat):Int)) (iN q.keys.length) (Yes.len _ _ _) (.n (.y 8 (b2s q) bF (Yes.b yh_) (.rn (.c 2 ((b2D q.cards oa (h0)).lift kr kr []) (.s (.n3 (.c 4 ((b2B q.keys oa (h)).lift kr kr []) (.ru (.c 0 ((U3 (ByteArray.mk #[99,97,114,100]) 1 oa).lift kr kr []) (.q 0 (AV.iface 166 b2i))))))))))))))))))))))))))))))))))))
theorem a9i {α:Type} [Inhabited α] {p:α->Bool} {l:List α} (h:¬ ixI p l >= 0):∀ x∈l,p x=false:=by
 intro x hx
 obtain ⟨j,hj,rfl⟩:=U6 hx
 cases h1:eF p l 0 with
 | none=>exact iQ l 0 h1 j hj
 | some n=>exact absurd (show ixI p l >= 0 by with_unfolding_all (unfold ixI; rw [h1]; exact Int.natCast_nonneg n)) h
def qV (q:Msg):AV:=if q.kind < 1\/5 < q.kind then jC [107,105,110,100] 12 else if J3 q=false then jC [122,101,114,111] 12 else if opM q=false then jC [111,112] 12 else if G5 q.code=false\/G5 q.status=false\/q.seq < -1 then jC [110,117,109,98,101,114] 1 else if 64 < q.cards.length\/64 < q.keys.length then jC [99,97,114,100,115] 3 else jC [99,97,114,100] 1
@[simp] theorem c7H (n:Nat) (q:Msg):AV.bdd n (qV q)=true:=by
 unfold qV jC
 repeat' split
 all_goals simp [AV.bdd,AV.bdds]
theorem b9q (q:Msg) (hr:I8 q=false):AC 30 [(AV.agg (Msg.row q))] [] ((AV.iface 166 (qV q)),[]):=by
 unfold qV
 by_cases k1:q.kind < 1
 · rw [if_pos (Or.inl k1)]; exact b5a q k1
 by_cases k2:5 < q.kind
 · rw [if_pos (Or.inr k2)]; exact b4Z q ow k2
 rw [if_neg ow]
 have a1:1<=q.kind:=by omega
 have a2:q.kind<=5:=by omega
 by_cases hz:J3 q=false
 · rw [if_pos hz]; exact b9x q a1 a2 hz
 rw [if_neg hz]
 have hz:J3 q=true:=by simpa using hz
 by_cases ho:opM q=false
 · rw [if_pos ho]; exact b9y q a1 a2 hz ho
 rw [if_neg ho]
 have ho:opM q=true:=by simpa using ho
 by_cases hc:G5 q.code=false
 · rw [if_pos (Or.inl hc)]; exact b4W q a1 a2 hz ho hc
 by_cases hs:G5 q.status=false
 · rw [if_pos (Or.inr (Or.inl hs))]; exact b4V q a1 a2 hz ho (by simpa using hc) hs
 by_cases hq:q.seq < -1
 · rw [if_pos (Or.inr (Or.inr hq))]; exact b4U q a1 a2 hz ho (by simpa using hc) (by simpa using hs) hq
 rw [if_neg (by rintro (h | h | h); exact hc h; exact hs h; exact hq h)]
 have hc:G5 q.code=true:=by simpa using hc
 have hs:G5 q.status=true:=by simpa using hs
 by_cases l1:64 < q.cards.length
 · rw [if_pos (Or.inl l1)]; exact b4Y q a1 a2 hz ho hc hs ow l1
 by_cases l2:64 < q.keys.length
 · rw [if_pos (Or.inr l2)]; exact b4X q a1 a2 hz ho hc hs ow ow l2
 rw [if_neg ow]
 by_cases g1:ixI (fun c:j5=>!(F8 c)) q.cards >= 0
 · exact b5c q a1 a2 hz ho hc hs ow ow ow g1
 by_cases g2:ixI (fun k:Key=>!(L9 k)) q.keys >= 0
 · exact b5b q a1 a2 hz ho hc hs ow ow ow g1 g2
 have e1:q.cards.all F8=true:=List.all_eq_true.2 fun x hx=>by simpa using a9i g1 x hx
 have e2:q.keys.all L9=true:=List.all_eq_true.2 fun x hx=>by simpa using a9i g2 x hx
 have:I8 q=true:=by
  with_unfolding_all unfold I8
  rw [hz,ho,hc,hs,e1,e2,decide_eq_true a1,decide_eq_true a2,decide_eq_true (show -1<=q.seq by omega),decide_eq_true (show q.cards.length<=64 by omega),decide_eq_true (show q.keys.length<=64 by omega)]
  rfl
 rw [this] at hr
 simp at hr
theorem c5c (q:Msg) (hr:I8 q=false) (H:Heap):AC 30 [(AV.agg (Msg.row q))] H ((AV.iface 166 (qV q)),H):=(b9q q hr).lift kr (by simp [AV.bdd,AV.bdds]) H
attribute [local irreducible] J4 N9 O1 R8 aA dH hdD qA qV
def b4w:Ann:={ refs:=[5],base:=12,fin:=some 12 }
@[simp] abbrev c0O (a:SS):=[[(iI (p9 32)),(AV.osl 1 a.d.g 10 0 (List.length a.d.l))]]
@[simp] abbrev jW (a:SS):Ob:=(o_ 0 2 (c0O a))
@[simp] abbrev b2h (a:SS):=[[(iI a.d.gf),(iI a.d.gl),(iI a.d.gt)]]
@[simp] abbrev bN (a:SS):Ob:=(o_ 0 3 (b2h a))
@[simp] abbrev c0N (a:SS):=[[(iN ((List.length a.d.al))),(AV.osl 4 a.d.ga 2 0 (List.length (l5 a.d.al)))]]
@[simp] abbrev jV (a:SS):Ob:=(o_ 0 2 (c0N a))
@[simp] abbrev bV (a:SS):Ob:=(o_ a.d.ga 2 (mK (l5 a.d.al)))
@[simp] abbrev c0M (a:Int) (b:SS):=[[(iI a),(iI b.d.st.t),(iI b.d.st.node),(iI b.d.st.n),(oO 0 0 0 0),(oO 2 0 0 0),(oO 3 0 0 0)]]
@[simp] abbrev yV (a:Int) (b:SS):Ob:=(o_ 0 7 (c0M a b))
@[simp] abbrev b2g (a:SS):=[[(AV.osl 7 0 1 0 1),(AV.osl 8 0 1 0 1),(iI a.lost)]]
@[simp] abbrev gM (a:SS):Ob:=(o_ 0 3 (b2g a))
@[simp] abbrev b2f (a:SS):=[[(AV.osl 9 a.qg 9 0 (List.length a.ql))]]
@[simp] abbrev gL (a:SS):Ob:=(o_ 0 1 (b2f a))
@[simp] abbrev b2e (a:SS) (b:Int):=[[(iI a.now),(iI a.swept),(sA 1 [[(iI b)]]),z_,(oO 5 0 0 0),(oO 6 0 0 0)]]
@[simp] abbrev nP (a:SS) (b:Int):Ob:=(o_ 0 6 (b2e a b))
@[simp] abbrev K4 (a:SS) (b:Int) (c:Int):Heap:=[jW a,(o_ a.d.g 10 (mE a.d.l)),bN a,jV a,bV a,yV b a,gM a,(o_ 0 1 (List.map x9 [c])),gL a,(o_ a.qg 9 (mC a.ql)),(o_ 1 1 []),nP a c]
theorem a1u (nd p:Int) (s:SS) (f:Int) (q:Msg) (hr:I8 q=false):AC 10 [(oO 11 0 0 0),(iI f),(AV.agg (Msg.row q))] (K4 s nd p) ((AV.sl .nil 0 []),(K4 s nd p)) :=
 q9 (fn:=Tryz.f10) (ann:=b4w) (Has.o Tryz.func10) (.r (.s (.c 1 (c5c q oa (K4 s nd p)) (.g (.u (.qr 12 (AV.sl .nil 0 [])))))))
def b4y:Ann:={ refs:=[5],base:=12,fin:=some 12 }
theorem a1v (nd p:Int) (s:SS) (f:Int) (q:Msg) (hr:I8 q=true) (hk:q.kind=2):AC 10 [(oO 11 0 0 0),(iI f),(AV.agg (Msg.row q))] (K4 s nd p) ((AV.sl .nil 0 []),(K4 s nd p)) :=
 q9 (fn:=Tryz.f10) (ann:=b4y) (Has.o Tryz.func10) (.r (.s (.c 1 ((aV q oa).lift kr kr (K4 s nd p)) (.rn (.s (.y 0 (bB (q.kind == 1)) bF (Yes.b aB) (.rn (.y 0 (bB (q.kind == 3)) bF (Yes.b aB) (.rn (.y 0 (bB (q.kind == 4)) bF (Yes.b aB) (.rn (.y 0 (bB (q.kind == 5)) bF (Yes.b aB) (.g (.n (.qr 12 (AV.sl .nil 0 []))))))))))))))))
def b0y:Ann:={ refs:=[5],base:=12,fin:=some 12 }
theorem zH (nd p:Int) (s:SS) (f:Int) (q:Msg) (hr:I8 q=true) (hk:q.kind=5) (hl:s.d.l.length < 1000) (hq:q.keys.length < 1000):AC 10 [(oO 11 0 0 0),(iI f),(AV.agg (Msg.row q))] (K4 s nd p) ((sA 14 (List.map A9.row (J4 f (aA (List.map Entry.card s.d.l) q.keys)))),(K4 s nd p)) :=
 q9 (fn:=Tryz.f10) (ann:=b0y) (Has.o Tryz.func10) (.r (.s (.c 1 ((aV q oa).lift kr kr (K4 s nd p)) (.rn (.s (.y 0 (bB (q.kind == 1)) bF (Yes.b aB) (.rn (.y 0 (bB (q.kind == 3)) bF (Yes.b aB) (.rn (.y 0 (bB (q.kind == 4)) bF (Yes.b aB) (.rn (.y 0 (bB (q.kind == 5)) bT (Yes.b aB) (.ru (.c 5 (j6.put2 [0,1,2,3,4,5] (K4 s nd p) (oO 0 0 0 0) (K4 s nd p) (V4 s.d.l s.d.g s.d.al s.d.ga s.d.gf s.d.gl s.d.gt nd s.d.st.t s.d.st.node s.d.st.n ) (rlA) (rlA)) (.c 6 (j6.put2 [0,1] (K4 s nd p) (sA 9 (mC (s.d.l.map (·.card)))) (K4 s nd p) (aN (p9 32) s.d.l s.d.g (List.length s.d.l) oa oa) (rlF) (rlF)) (.c 9 ((a7b (s.d.l.map (·.card)) q.keys oa oa).lift kr kr (K4 s nd p)) (.c 10 ((pJ f (aA (s.d.l.map (·.card)) q.keys)).lift kr kr (K4 s nd p)) (.q 12 (sA 14 (List.map A9.row (J4 f (aA (s.d.l.map (·.card)) q.keys))))))))))))))))))))))
structure y5 where
 to:Int
 m:Msg
 deriving Inhabited
def y5.row (x:y5):List AV:=[(iI x.to),(iI x.m.kind),(iI x.m.op),(iI x.m.status),(iI x.m.code),(iI x.m.tag),(iI x.m.n),(iI x.m.seq),(AV.str x.m.key.app),(AV.str x.m.key.id),(bB x.m.full),(AV.int .u32 x.m.sum),(sA 9 (mC x.m.cards)),(sA 2 (mK x.m.keys))]
@[simp] theorem y5.O4 (n:Nat) (x:y5):AV.bdds n x.row=true:=by simp [y5.row,AV.bdds,AV.bdd]
@[simp] theorem y5.y8 (n:Nat) (l:List y5):AV.D5 n (l.map y5.row)=true:=by induction l with | nil=>rfl | cons x l ih=>simp [AV.D5,y5.O4,ih]
attribute [local simp] y5.row
def b4x:Ann:={ refs:=[5],base:=12,fin:=some 12 }
@[simp] abbrev b2U (a:Int) (b:SS) (c:Msg):Ob:=(o_ 0 2 [[(iI (p9 32)),(AV.osl 1 (hdD a b.d c b.now).s.g 10 0 (List.length (hdD a b.d c b.now).s.l))]])
@[simp] abbrev a7q (a:Int) (b:SS) (c:Msg):Ob:=(o_ ((hdD a b.d c b.now).s.g) 10 (mE (hdD a b.d c b.now).s.l))
@[simp] abbrev a7p (a:Int) (b:SS) (c:Msg):Ob:=(o_ 0 3 [[(iI (hdD a b.d c b.now).s.gf),(iI (hdD a b.d c b.now).s.gl),(iI (hdD a b.d c b.now).s.gt)]])
@[simp] abbrev c5A (a:Int) (b:SS) (c:Msg):=[[(iN ((List.length (hdD a b.d c b.now).s.al))),(AV.osl 4 (hdD a b.d c b.now).s.ga 2 0 (List.length (l5 (hdD a b.d c b.now).s.al)))]]
@[simp] abbrev a7o (a:Int) (b:SS) (c:Msg):Ob:=(o_ 0 2 (c5A a b c))
@[simp] abbrev a7n (a:Int) (b:SS) (c:Msg):Ob:=(o_ ((hdD a b.d c b.now).s.ga) 2 (mK (l5 (hdD a b.d c b.now).s.al)))
@[simp] abbrev c5z (a:Int) (b:SS) (c:Msg):=[[(iI a),(iI (hdD a b.d c b.now).s.st.t),(iI (hdD a b.d c b.now).s.st.node),(iI (hdD a b.d c b.now).s.st.n),(oO 0 0 0 0),(oO 2 0 0 0),(oO 3 0 0 0)]]
@[simp] abbrev a7m (a:Int) (b:SS) (c:Msg):Ob:=(o_ 0 7 (c5z a b c))
@[simp] abbrev b7z (a:Int) (b:Int) (e:SS) (f:Msg):Ob:=(o_ 0 3 [[(AV.osl 7 0 1 0 1),(AV.osl 8 0 1 0 1),(iI (qA a (hdD b e.d f e.now).c e.ql e.qg e.lost).2.2)]])
@[simp] abbrev b7y (a:Int) (b:Int) (e:SS) (f:Msg):Ob:=(o_ 0 1 [[(AV.osl 9 (qA a (hdD b e.d f e.now).c e.ql e.qg e.lost).2.1 9 0 (List.length (qA a (hdD b e.d f e.now).c e.ql e.qg e.lost).1))]])
@[simp] abbrev b7x (a:Int) (b:Int) (e:SS) (f:Msg):Ob:=(o_ ((qA a (hdD b e.d f e.now).c e.ql e.qg e.lost).2.1) 9 (mC (qA a (hdD b e.d f e.now).c e.ql e.qg e.lost).1))
@[simp] abbrev c6g (a:Int) (b:SS) (c:Msg) (d:Int):Heap:=[b2U a b c,a7q a b c,a7p a b c,a7o a b c,a7n a b c,a7m a b c,b7z d a b c,(o_ 0 1 (List.map x9 [d])),b7y d a b c,b7x d a b c,(o_ 1 1 []),nP b d]
@[simp] abbrev c6f (a:Int) (b:SS) (c:Msg) (d:Int):Heap:=[b2U a b c,a7q a b c,a7p a b c,a7o a b c,a7n a b c,a7m a b c,gM b,(o_ 0 1 (List.map x9 [d])),gL b,(o_ b.qg 9 (mC b.ql)),(o_ 1 1 []),nP b d,(o_ 0 13 [[z_,z_,z_,z_,z_,z_,z_,e_,e_,bF,(AV.int .u32 0),(AV.sl .nil 0 []),(AV.sl .nil 0 [])]])]
@[simp] abbrev c6e (a:Int) (b:SS) (c:Msg) (e:Int):Heap:=[b2U a b c,a7q a b c,a7p a b c,a7o a b c,a7n a b c,a7m a b c,b7z e a b c,(o_ 0 1 (List.map x9 [e])),b7y e a b c,b7x e a b c,(o_ 1 1 []),nP b e,(o_ 0 13 [(Msg.row (hdD a b.d c b.now).m)])]
@[simp] abbrev c7R (a b:Int) (c:SS) (e:Msg):=(AV.sl .clip 14 [[(iI a),(iI (hdD b c.d e c.now).m.kind),(iI (hdD b c.d e c.now).m.op),(iI (hdD b c.d e c.now).m.status),(iI (hdD b c.d e c.now).m.code),(iI (hdD b c.d e c.now).m.tag),(iI (hdD b c.d e c.now).m.n),(iI (hdD b c.d e c.now).m.seq),(AV.str (hdD b c.d e c.now).m.key.app),(AV.str (hdD b c.d e c.now).m.key.id),(bB (hdD b c.d e c.now).m.full),(AV.int .u32 (hdD b c.d e c.now).m.sum),(sA 9 (mC (hdD b c.d e c.now).m.cards)),(sA 2 (mK (hdD b c.d e c.now).m.keys))]])
theorem tX (nd p:Int) (s:SS) (f:Int) (q:Msg) (hr:I8 q=true) (hk:q.kind=1) (hl:s.d.l.length < 1000) (ha:s.d.al.length < 100000) (hgt:0<=s.d.gt/\s.d.gt < 4611686018427387904) (hq:s.ql.length<=16) (hc:(hdD nd s.d q s.now).c.length < 100):AC 10 [(oO 11 0 0 0),(iI f),(AV.agg (Msg.row q))] (K4 s nd p) ((AV.sl .clip 14 (List.map y5.row [y5.mk f (hdD nd s.d q s.now).m])),(c6g nd s q p)) :=
 q9 (fn:=Tryz.f10) (ann:=b4x) (Has.o Tryz.func10) (.r (.s (.c 1 ((aV q oa).lift kr kr (K4 s nd p)) (.rn (.s (.y 0 (bB (q.kind == 1)) bT (Yes.b aB) (.ru (.ch 9 (c6f nd s q p) (j6.put2 [0,1,2,3,4,5] [(o_ 0 2 (c0O s)),(o_ s.d.g 10 (mE s.d.l)),(o_ 0 3 (b2h s)),(o_ 0 2 (c0N s)),(o_ s.d.ga 2 (mK (l5 s.d.al))),(o_ 0 7 (c0M nd s)),(o_ 0 3 (b2g s)),(o_ 0 1 (List.map x9 [p])),(o_ 0 1 (b2f s)),(o_ s.qg 9 (mC s.ql)),(o_ 1 1 []),(o_ 0 6 (b2e s p)),(o_ 0 13 [[z_,z_,z_,z_,z_,z_,z_,e_,e_,bF,(AV.int .u32 0),(AV.sl .nil 0 []),(AV.sl .nil 0 [])]])] (AV.tup [(AV.agg (Msg.row (hdD nd s.d q s.now).m)),(sA 9 (mC (hdD nd s.d q s.now).c))]) (c6f nd s q p) (c4G s.d.l s.d.g s.d.al s.d.ga s.d.gf s.d.gl s.d.gt nd s.d.st q s.now (hl) (ha) (hgt)) (rlA) (rlA)) (.s (.ch 5 (c6e nd s q p) (j6.pre (args:=[(oO 6 0 0 0),(sA 9 (mC (hdD nd s.d q s.now).c))]) (args':=[(oO 6 0 0 0),(sA 9 (mC (hdD nd s.d q s.now).c))]) (j6.put2 [6,7,8,9] [(o_ 0 2 [[(iI (p9 32)),(AV.osl 1 (hdD nd s.d q s.now).s.g 10 0 (List.length (hdD nd s.d q s.now).s.l))]]),(o_ ((hdD nd s.d q s.now).s.g) 10 (mE (hdD nd s.d q s.now).s.l)),(o_ 0 3 [[(iI (hdD nd s.d q s.now).s.gf),(iI (hdD nd s.d q s.now).s.gl),(iI (hdD nd s.d q s.now).s.gt)]]),(o_ 0 2 (c5A nd s q)),(o_ ((hdD nd s.d q s.now).s.ga) 2 (mK (l5 (hdD nd s.d q s.now).s.al))),(o_ 0 7 (c5z nd s q)),(o_ 0 3 (b2g s)),(o_ 0 1 (List.map x9 [p])),(o_ 0 1 (b2f s)),(o_ s.qg 9 (mC s.ql)),(o_ 1 1 []),(o_ 0 6 (b2e s p)),(o_ 0 13 [(Msg.row (hdD nd s.d q s.now).m)])] (AV.tup []) (c6e nd s q p) (b0E (hdD nd s.d q s.now).c p s.lost s.qg s.ql (hq) (hc)) (rlC) (rlC)) ⟨AV.d9 _,⟨rfl,rfl,.inl rfl⟩,trivial⟩) (.s (.g (.h' (c6g nd s q p) (.q 12 (c7R f nd s q)))))))))))))))
attribute [local irreducible] H6 dJ dK
def b0x:Ann:={ refs:=[5],base:=12,fin:=some 12 }
@[simp] abbrev c1A (a:SS) (b:Msg) (c:Int) (e:Int):Heap:=[(o_ 0 2 [[(iI (p9 32)),(AV.osl 1 (dJ a.now b.cards a.d.l a.d.g a.d.al a.d.ga) 10 0 (List.length (H6 a.now b.cards a.d.l a.d.al).1))]]),(o_ (dJ a.now b.cards a.d.l a.d.g a.d.al a.d.ga) 10 (mE (H6 a.now b.cards a.d.l a.d.al).1)),bN a,(o_ 0 2 [[(iN ((List.length (H6 a.now b.cards a.d.l a.d.al).2.1))),(AV.osl 4 (dK a.now b.cards a.d.l a.d.g a.d.al a.d.ga) 2 0 (List.length (l5 (H6 a.now b.cards a.d.l a.d.al).2.1)))]]),(o_ (dK a.now b.cards a.d.l a.d.g a.d.al a.d.ga) 2 (mK (l5 (H6 a.now b.cards a.d.l a.d.al).2.1))),yV c a,gM a,(o_ 0 1 (List.map x9 [e])),gL a,(o_ a.qg 9 (mC a.ql)),(o_ 1 1 []),nP a e]
theorem zG (nd p:Int) (s:SS) (f:Int) (q:Msg) (hr:I8 q=true) (hk:q.kind=3) (hl:s.d.l.length+q.cards.length < 1000) (ha:s.d.al.length+q.cards.length < 100000):AC 10 [(oO 11 0 0 0),(iI f),(AV.agg (Msg.row q))] (K4 s nd p) ((AV.sl .nil 0 []),(c1A s q nd p)) :=
 q9 (fn:=Tryz.f10) (ann:=b0x) (Has.o Tryz.func10) (.r (.s (.c 1 ((aV q oa).lift kr kr (K4 s nd p)) (.rn (.s (.y 0 (bB (q.kind == 1)) bF (Yes.b aB) (.rn (.y 0 (bB (q.kind == 3)) bT (Yes.b aB) (.ru (.ch 10 (c1A s q nd p) (j6.put2 [0,1,2,3,4,5] (K4 s nd p) (AV.tup [(sA 9 (mC (H6 s.now q.cards s.d.l s.d.al).2.2.1)),(iN ((H6 s.now q.cards s.d.l s.d.al).2.2.2))]) (c1A s q nd p) (b5w q.cards s.now s.d.l s.d.g s.d.al s.d.ga s.d.gf s.d.gl s.d.gt nd s.d.st.t s.d.st.node s.d.st.n (hl) (ha)) (rlA) (rlA)) (.g (.qr 12 (AV.sl .nil 0 [])))))))))))))
def c4N:Ann:={ own:=[35],gha:=[(2,.vir 9 14),(5,.frz 6)],base:=12,fin:=some 12 }
@[simp] abbrev c1z (a:SS) (b:Int) (c:Int):Heap:=[jW a,(o_ a.d.g 10 (mE a.d.l)),bN a,jV a,bV a,yV b a,gM a,(o_ 0 1 (List.map x9 [c])),gL a,(o_ a.qg 9 (mC a.ql)),(o_ 1 1 []),nP a c,(o_ 0 14 (List.map A9.row []))]
@[simp] abbrev c6d (a:SS) (b:Int) (c:Int) (e:Int) (f:l9C):Heap:=[jW a,(o_ a.d.g 10 (mE a.d.l)),bN a,jV a,bV a,yV b a,gM a,(o_ 0 1 (List.map x9 [c])),gL a,(o_ a.qg 9 (mC a.ql)),(o_ 1 1 []),nP a c,(o_ 1 14 (List.map A9.row ([]++(J4 e (O1 (a.d.l.map (·.card)) f)))))]
theorem a6u (nd p:Int) (s:SS) (f:Int) (ds:l9C) (hl:s.d.l.length < 1000) (hd:ds.length < 1000) (hw:(N9 (List.map Entry.card s.d.l) ds).length=0):AC 34 [(oO 11 0 0 0),(iI f),(sA 9 (mC ds))] (K4 s nd p) ((sA 14 (List.map A9.row ([]++(J4 f (O1 (List.map Entry.card s.d.l) ds))))),(K4 s nd p)):=by
 have hpl:=lY f (O1 (List.map Entry.card s.d.l) ds)
 have hpl2:=lY f (O1 (s.d.l.map (·.card)) ds)
 exact q9 (fn:=Tryz.f34) (ann:=c4N) (Has.o Tryz.func34) (.r (.s (.c 4 (j6.put2 [0,1,2,3,4,5] (K4 s nd p) (oO 0 0 0 0) (K4 s nd p) (V4 s.d.l s.d.g s.d.al s.d.ga s.d.gf s.d.gl s.d.gt nd s.d.st.t s.d.st.node s.d.st.n ) (rlA) (rlA)) (.c 5 (j6.put2 [0,1] (K4 s nd p) (sA 9 (mC (s.d.l.map (·.card)))) (K4 s nd p) (aN (p9 32) s.d.l s.d.g (List.length s.d.l) oa oa) (rlF) (rlF)) (.c 7 ((uQ (s.d.l.map (·.card)) ds oa oa).lift kr kr (K4 s nd p)) (.s (.s (.h' (c1z s nd p) (.y 1 (.int .i64 ((List.length (mK (N9 (s.d.l.map (·.card)) ds)):Nat):Int)) (iN ((N9 (s.d.l.map (·.card)) ds).length)) (Yes.len _ _ _) (.y 2 (bB (decide ((((N9 (s.d.l.map (·.card)) ds).length:Nat):Int) > 0))) bF (Yes.b (by simp [hw])) (.rn (.c 3 ((pJ f (O1 (s.d.l.map (·.card)) ds)).lift kr kr (c1z s nd p)) (.ao 4 36 (AV.osl 12 0 14 0 0) (sA 14 (List.map A9.row (J4 f (O1 (s.d.l.map (·.card)) ds)))) (AV.osl 12 1 14 0 (0+(J4 f (O1 (s.d.l.map (·.card)) ds)).length)) (c6d s nd p f ds) (J2 (T:=tt) (e:=56) (te:=vR) (z:=1) (b:=24) (y:=[.sl .nil 0 []]) (row:=A9.row) (l:=[]) kr kr rfl E9 E9 kr aR om rfl rfl vO) (.w' 6 (List.map A9.row ([]++(J4 f (O1 (s.d.l.map (·.card)) ds)))) (And.intro (G9 (room:=none) kr om) (A9.y8 _ _):F5 (c6d s nd p f ds) 14 (AV.osl 12 1 14 0 (0+(J4 f (O1 (s.d.l.map (·.card)) ds)).length))=some (List.map A9.row ([]++(J4 f (O1 (s.d.l.map (·.card)) ds))))/\AV.D5 0 (List.map A9.row ([]++(J4 f (O1 (s.d.l.map (·.card)) ds))))=true) (.g (.h' (K4 s nd p) (.q 12 (sA 14 (List.map A9.row ([]++(J4 f (O1 (s.d.l.map (·.card)) ds))))))))))))))))))))))
def b8J:Ann:={ base:=12,fin:=some 12 }
theorem b3X (nd p:Int) (s:SS) :AC 13 [(oO 11 0 0 0)] (K4 s nd p) ((iI s.now),(K4 s nd p)) :=
 q9 (fn:=Tryz.f13) (ann:=b8J) (Has.o Tryz.func13) (.r (.g (.qr 12 (iI s.now))))
def b4l:Ann:={ base:=12,fin:=some 12 }
theorem gB (nd p:Int) (s:SS) :AC 16 [(oO 11 0 0 0)] (K4 s nd p) ((oO 5 0 0 0),(K4 s nd p)) :=
 q9 (fn:=Tryz.f16) (ann:=b4l) (Has.o Tryz.func16) (.r (.g (.qr 12 (oO 5 0 0 0))))
end Go.Proofs.YtmghjcbabebanaaGreat.AM
namespace Go.Proofs.YtmghjcbabebanaaGreat.AM
open Go
theorem j6.kK {P:Program} {f:FuncId} {args:List AV} {k:Nat} {xs ys:List (List AV)} {H H':Heap} (h:j6 P f args H (.sl .any k xs,H')) (hl:xs.length=ys.length) (hw:∀ i,i < xs.length->AV.wks (xs.getD i []) (ys.getD i [])):j6 P f args H (.sl .any k ys,H'):=by
 intro G w C vs hsz hargs hH
 have h0:=h G w C vs hsz hargs hH
 refine h0.mono fun v w' ⟨G',C',he,hh,hv,hp⟩=>⟨G',C',he,hh,hv.rows hl hw,hp⟩
theorem sG {T:TT} {H H':Heap} {t e:TypeId} {te:TI} {α:Type} {row:α->List AV} {id g k e0 n n':Nat} {l m:List α} {x:AV} {z:Nat} {b:Nat} {y:List AV}
 (ht:T t=some { d:=.slice e,size:=z,bytes:=b,zero:=y }) (hte:T e=some te) (hsz:te.size=k) (hk:0 < k) (hb:0 < te.bytes)
 (ho:H[id]?=some ⟨g,k,l.map row,none⟩) (hx:F5 H k x=some (m.map row)) (hn:e0+n=l.length) (hn':n'=n+m.length) (hH':H'=H.set id ⟨g+1,k,(l.drop e0++m).map row,none⟩) (hlen:(n+m.length) * te.bytes<=140737488355328) :
 Z5 T H t (.osl id g k e0 n) x=some (.osl id (g+1) k 0 n',H'):=by
 subst hn' hH' hsz
 simp only [Z5,ht,hte,hx,ho]
 simp [most,hlen,hb,hk,hn,List.map_drop]
open Go.Proofs.YtmghjcbabebanaaGreat
attribute [local irreducible] D7 G7 H6 I8 J4 N9 O1 R8 aA dH dJ dK hdD j6 l7 l9 qA qV stC stW
def gG (ks:List Key):Msg:=⟨5,0,0,0,0,0,0,⟨⟨#[]⟩,⟨#[]⟩⟩,false,0,[],ks⟩
def u7 (cs:List j5):Msg:=⟨3,0,0,0,0,0,0,⟨⟨#[]⟩,⟨#[]⟩⟩,false,0,cs,[]⟩
def bE (cs:List j5):Msg:=⟨4,0,0,0,0,0,0,⟨⟨#[]⟩,⟨#[]⟩⟩,false,0,cs,[]⟩
def bC (f:Int) (wk:List Key) (tk:List j5):List y5:=(if wk.length=0 then [] else [⟨f,gG wk⟩])++(if tk.length=0 then [] else [⟨f,u7 tk⟩])
theorem a0k (f:Int) (tk:l9C):AV.wks (A9.row ⟨f,uE tk⟩) (y5.row ⟨f,u7 tk⟩):=by
 simp [A9.row,y5.row,uE,u7,AV.wks,AV.wk,Tg.le]
theorem b0K (p:Int) (cs:l9C) (h:¬ cs.length=0):AC 35 [(iI p),(sA 9 (mC cs))] [] ((AV.sl .clip 14 [(A9.row (A9.mk p (uE cs)))]),[]):=a1z p cs h
theorem b0J (p:Int) (cs:l9C) (h:cs.length=0):AC 35 [(iI p),(sA 9 (mC cs))] [] ((AV.sl .nil 0 []),[]):=a1y p cs h
def c0q:Ann:={ gha:=[(5,.frz 6)],base:=12,fin:=some 12 }
@[simp] abbrev c6c (a:SS) (b:Int) (c:Int) (e:Int) (f:l9C):Heap:=[jW a,(o_ a.d.g 10 (mE a.d.l)),bN a,jV a,bV a,yV b a,gM a,(o_ 0 1 (List.map x9 [c])),gL a,(o_ a.qg 9 (mC a.ql)),(o_ 1 1 []),nP a c,(o_ 0 14 [[(iI e),(iI 5),z_,z_,z_,z_,z_,z_,e_,e_,bF,(AV.int .u32 0),(AV.sl .nil 0 []),(sA 2 (mK (N9 (a.d.l.map (·.card)) f)))]])]
theorem b6l (nd p:Int) (s:SS) (f:Int) (ds:l9C) (hl:s.d.l.length < 1000) (hd:ds.length < 1000) (hw:¬ (N9 (List.map Entry.card s.d.l) ds).length=0) (ht:(O1 (List.map Entry.card s.d.l) ds).length=0):AC 34 [(oO 11 0 0 0),(iI f),(sA 9 (mC ds))] (K4 s nd p) ((sA 14 [[(iI f),(iI 5),z_,z_,z_,z_,z_,z_,e_,e_,bF,(AV.int .u32 0),(AV.sl .nil 0 []),(sA 2 (mK (N9 (List.map Entry.card s.d.l) ds)))]]),(K4 s nd p)) :=
 q9 (fn:=Tryz.f34) (ann:=c0q) (Has.o Tryz.func34) (.r (.s (.c 4 (j6.put2 [0,1,2,3,4,5] (K4 s nd p) (oO 0 0 0 0) (K4 s nd p) (V4 s.d.l s.d.g s.d.al s.d.ga s.d.gf s.d.gl s.d.gt nd s.d.st.t s.d.st.node s.d.st.n ) (rlA) (rlA)) (.c 5 (j6.put2 [0,1] (K4 s nd p) (sA 9 (mC (s.d.l.map (·.card)))) (K4 s nd p) (aN (p9 32) s.d.l s.d.g (List.length s.d.l) oa oa) (rlF) (rlF)) (.c 7 ((uQ (s.d.l.map (·.card)) ds oa oa).lift kr kr (K4 s nd p)) (.s (.s (.y 1 (.int .i64 ((List.length (mK (N9 (s.d.l.map (·.card)) ds)):Nat):Int)) (iN ((N9 (s.d.l.map (·.card)) ds).length)) (Yes.len _ _ _) (.y 2 (bB (decide ((((N9 (s.d.l.map (·.card)) ds).length:Nat):Int) > 0))) bT (Yes.b (decide_eq_true (by have h0:=hw; change ¬ (N9 (s.d.l.map (·.card)) ds).length=0 at h0; omega))) (.ru (.s (.c 3 ((b0J f (O1 (s.d.l.map (·.card)) ds) oa).lift kr kr (c6c s nd p f ds)) (.q 12 (sA 14 [[(iI f),(iI 5),z_,z_,z_,z_,z_,z_,e_,e_,bF,(AV.int .u32 0),(AV.sl .nil 0 []),(sA 2 (mK (N9 (s.d.l.map (·.card)) ds)))]]))))))))))))))
def c0p:Ann:={ gha:=[(5,.frz 6)],base:=12,fin:=some 12 }
theorem b6k (nd p:Int) (s:SS) (f:Int) (ds:l9C) (hl:s.d.l.length < 1000) (hd:ds.length < 1000) (hw:¬ (N9 (List.map Entry.card s.d.l) ds).length=0) (ht:¬ (O1 (List.map Entry.card s.d.l) ds).length=0):AC 34 [(oO 11 0 0 0),(iI f),(sA 9 (mC ds))] (K4 s nd p) ((sA 14 [[(iI f),(iI 5),z_,z_,z_,z_,z_,z_,e_,e_,bF,(AV.int .u32 0),(AV.sl .nil 0 []),(sA 2 (mK (N9 (List.map Entry.card s.d.l) ds)))],(A9.row (A9.mk f (uE (O1 (List.map Entry.card s.d.l) ds))))]),(K4 s nd p)) :=
 q9 (fn:=Tryz.f34) (ann:=c0p) (Has.o Tryz.func34) (.r (.s (.c 4 (j6.put2 [0,1,2,3,4,5] (K4 s nd p) (oO 0 0 0 0) (K4 s nd p) (V4 s.d.l s.d.g s.d.al s.d.ga s.d.gf s.d.gl s.d.gt nd s.d.st.t s.d.st.node s.d.st.n ) (rlA) (rlA)) (.c 5 (j6.put2 [0,1] (K4 s nd p) (sA 9 (mC (s.d.l.map (·.card)))) (K4 s nd p) (aN (p9 32) s.d.l s.d.g (List.length s.d.l) oa oa) (rlF) (rlF)) (.c 7 ((uQ (s.d.l.map (·.card)) ds oa oa).lift kr kr (K4 s nd p)) (.s (.s (.y 1 (.int .i64 ((List.length (mK (N9 (s.d.l.map (·.card)) ds)):Nat):Int)) (iN ((N9 (s.d.l.map (·.card)) ds).length)) (Yes.len _ _ _) (.y 2 (bB (decide ((((N9 (s.d.l.map (·.card)) ds).length:Nat):Int) > 0))) bT (Yes.b (decide_eq_true (by have h0:=hw; change ¬ (N9 (s.d.l.map (·.card)) ds).length=0 at h0; omega))) (.ru (.s (.c 3 ((b0K f (O1 (s.d.l.map (·.card)) ds) oa).lift kr kr (c6c s nd p f ds)) (.q 12 (sA 14 [[(iI f),(iI 5),z_,z_,z_,z_,z_,z_,e_,e_,bF,(AV.int .u32 0),(AV.sl .nil 0 []),(sA 2 (mK (N9 (s.d.l.map (·.card)) ds)))],(A9.row (A9.mk f (uE (O1 (s.d.l.map (·.card)) ds))))]))))))))))))))
theorem c0o (nd p:Int) (s:SS) (f:Int) (ds:l9C) (hl:s.d.l.length < 1000) (hd:ds.length < 1000):AC 34 [(oO 11 0 0 0),(iI f),(sA 9 (mC ds))] [(o_ 0 2 [[(iI (p9 32)),(AV.osl 1 s.d.g 10 0 (List.length s.d.l))]]),(o_ s.d.g 10 (mE s.d.l)),(o_ 0 3 [[(iI s.d.gf),(iI s.d.gl),(iI s.d.gt)]]),(o_ 0 2 [[(iN ((List.length s.d.al))),(AV.osl 4 s.d.ga 2 0 (List.length (l5 s.d.al)))]]),(o_ s.d.ga 2 (mK (l5 s.d.al))),(o_ 0 7 [[(iI nd),(iI s.d.st.t),(iI s.d.st.node),(iI s.d.st.n),(oO 0 0 0 0),(oO 2 0 0 0),(oO 3 0 0 0)]]),(o_ 0 3 [[(AV.osl 7 0 1 0 1),(AV.osl 8 0 1 0 1),(iI s.lost)]]),(o_ 0 1 (List.map x9 [p])),(o_ 0 1 [[(AV.osl 9 s.qg 9 0 (List.length s.ql))]]),(o_ s.qg 9 (mC s.ql)),(o_ 1 1 []),(o_ 0 6 [[(iI s.now),(iI s.swept),(sA 1 [[(iI p)]]),z_,(oO 5 0 0 0),(oO 6 0 0 0)]])] ((sA 14 (List.map y5.row (bC f (N9 (List.map Entry.card s.d.l) ds) (O1 (List.map Entry.card s.d.l) ds)))),[(o_ 0 2 [[(iI (p9 32)),(AV.osl 1 s.d.g 10 0 (List.length s.d.l))]]),(o_ s.d.g 10 (mE s.d.l)),(o_ 0 3 [[(iI s.d.gf),(iI s.d.gl),(iI s.d.gt)]]),(o_ 0 2 [[(iN ((List.length s.d.al))),(AV.osl 4 s.d.ga 2 0 (List.length (l5 s.d.al)))]]),(o_ s.d.ga 2 (mK (l5 s.d.al))),(o_ 0 7 [[(iI nd),(iI s.d.st.t),(iI s.d.st.node),(iI s.d.st.n),(oO 0 0 0 0),(oO 2 0 0 0),(oO 3 0 0 0)]]),(o_ 0 3 [[(AV.osl 7 0 1 0 1),(AV.osl 8 0 1 0 1),(iI s.lost)]]),(o_ 0 1 (List.map x9 [p])),(o_ 0 1 [[(AV.osl 9 s.qg 9 0 (List.length s.ql))]]),(o_ s.qg 9 (mC s.ql)),(o_ 1 1 []),(o_ 0 6 [[(iI s.now),(iI s.swept),(sA 1 [[(iI p)]]),z_,(oO 5 0 0 0),(oO 6 0 0 0)]])]):=by
 unfold bC
 by_cases hw:(N9 (List.map Entry.card s.d.l) ds).length=0
 · rw [if_pos hw]
   by_cases ht:(O1 (List.map Entry.card s.d.l) ds).length=0
   · rw [if_pos ht]
     have q:=a6u nd p s f ds hl hd hw
     unfold J4 at q
     rw [if_pos ht] at q
     exact q.kK rfl (fun i hi=>absurd hi yf_)
   · rw [if_neg ht]
     have q:=a6u nd p s f ds hl hd hw
     unfold J4 at q
     rw [if_neg ht] at q
     refine q.kK rfl fun i hi=>?_
     obtain rfl:i=0:=by simp at hi; omega
     exact a0k f _
 · rw [if_neg hw]
   by_cases ht:(O1 (List.map Entry.card s.d.l) ds).length=0
   · rw [if_pos ht]
     refine (b6l nd p s f ds hl hd hw ht).kK rfl fun i hi=>?_
     obtain rfl:i=0:=by simp at hi; omega
     simp [y5.row,gG,AV.wks,AV.wk,Tg.le]
   · rw [if_neg ht]
     refine (b6k nd p s f ds hl hd hw ht).kK rfl fun i hi=>?_
     have hi:i < 2:=by simpa using hi
     match i,hi with
     | 0,_=>simp [y5.row,gG,AV.wks,AV.wk,Tg.le]
     | 1,_=>exact a0k f _
theorem c5k (nd p:Int) (s:SS) (f:Int) (ds:l9C) (hl:s.d.l.length < 1000) (hd:ds.length < 1000) (H:Heap):AC 34 [(oO 11 0 0 0),(iI f),(sA 9 (mC ds))] ((K4 s nd p)++H) ((sA 14 (List.map y5.row (bC f (N9 (List.map Entry.card s.d.l) ds) (O1 (List.map Entry.card s.d.l) ds)))),(K4 s nd p)++H):=(c0o nd p s f ds hl hd).ext kr kr ob ob kr H
def b4v:Ann:={ refs:=[5],base:=12,fin:=some 12 }
@[simp] abbrev c5y (a:Int) (b:SS) (c:Msg):=(sA 14 (List.map y5.row (bC a (N9 (List.map Entry.card b.d.l) c.cards) (O1 (List.map Entry.card b.d.l) c.cards))))
theorem a1t (nd p:Int) (s:SS) (f:Int) (q:Msg) (hr:I8 q=true) (hk:q.kind=4) (hl:s.d.l.length < 1000) (hd:q.cards.length < 1000):AC 10 [(oO 11 0 0 0),(iI f),(AV.agg (Msg.row q))] (K4 s nd p) ((c5y f s q),(K4 s nd p)) :=
 q9 (fn:=Tryz.f10) (ann:=b4v) (Has.o Tryz.func10) (.r (.s (.c 1 ((aV q oa).lift kr kr (K4 s nd p)) (.rn (.s (.y 0 (bB (q.kind == 1)) bF (Yes.b aB) (.rn (.y 0 (bB (q.kind == 3)) bF (Yes.b aB) (.rn (.y 0 (bB (q.kind == 4)) bT (Yes.b aB) (.ru (.c 4 (c5k nd p s f q.cards oa oa []) (.q 12 (c5y f s q))))))))))))))
def l6 (nd p:Int) (s:SS) (q:Msg):SS :=
 if I8 q=true then
  if q.kind=1 then ⟨(hdD nd s.d q s.now).s,(qA p (hdD nd s.d q s.now).c s.ql s.qg s.lost).1,(qA p (hdD nd s.d q s.now).c s.ql s.qg s.lost).2.1,(qA p (hdD nd s.d q s.now).c s.ql s.qg s.lost).2.2,s.now,s.swept⟩
  else if q.kind=3 then ⟨⟨(H6 s.now q.cards s.d.l s.d.al).1,dJ s.now q.cards s.d.l s.d.g s.d.al s.d.ga,(H6 s.now q.cards s.d.l s.d.al).2.1,dK s.now q.cards s.d.l s.d.g s.d.al s.d.ga,s.d.gf,s.d.gl,s.d.gt,s.d.st⟩,s.ql,s.qg,s.lost,s.now,s.swept⟩
  else s
 else s
structure a7A (s:SS):Prop where
 l:s.d.l.length<=32
 al:s.d.al.length < 90000
 g0:0<=s.d.gt
 g1:s.d.gt<=1048576
 q:s.ql.length<=16
theorem a5L {q:Msg} (h:I8 q=true):1<=q.kind/\q.kind<=5/\q.cards.length<=64/\q.keys.length<=64:=by
 with_unfolding_all obtain ⟨⟨a1,a2⟩,a3,a4,a5,a6,a7,a8,a9,a10,a11⟩:=a0w h
 exact ⟨by omega,by omega,by omega,by omega⟩
theorem a6e (nd:Int) (s:DS) (q:Msg) (now:Int) (hs:Y7 s.l) (hl:s.l.length<=32) (h0:0<=s.gt) (h1:s.gt<=1048576):(hdD nd s q now).c.length<=1:=by
 rcases c5h (n:=s.al.length) ⟨hs,hl,Nat.le_refl _,h0,h1⟩ nd q now with ⟨h,_⟩ | ⟨c,h,_⟩ <;> rw [h] <;> simp
theorem a3w (nd p:Int) (s:SS) (f:Int) (q:Msg) (h:a7A s) (hs:Y7 s.d.l):AC 10 [(oO 11 0 0 0),(iI f),(AV.agg (Msg.row q))] [(o_ 0 2 [[(iI (p9 32)),(AV.osl 1 s.d.g 10 0 (List.length s.d.l))]]),(o_ s.d.g 10 (mE s.d.l)),(o_ 0 3 [[(iI s.d.gf),(iI s.d.gl),(iI s.d.gt)]]),(o_ 0 2 [[(iN ((List.length s.d.al))),(AV.osl 4 s.d.ga 2 0 (List.length (l5 s.d.al)))]]),(o_ s.d.ga 2 (mK (l5 s.d.al))),(o_ 0 7 [[(iI nd),(iI s.d.st.t),(iI s.d.st.node),(iI s.d.st.n),(oO 0 0 0 0),(oO 2 0 0 0),(oO 3 0 0 0)]]),(o_ 0 3 [[(AV.osl 7 0 1 0 1),(AV.osl 8 0 1 0 1),(iI s.lost)]]),(o_ 0 1 (List.map x9 [p])),(o_ 0 1 [[(AV.osl 9 s.qg 9 0 (List.length s.ql))]]),(o_ s.qg 9 (mC s.ql)),(o_ 1 1 []),(o_ 0 6 [[(iI s.now),(iI s.swept),(sA 1 [[(iI p)]]),z_,(oO 5 0 0 0),(oO 6 0 0 0)]])] (AV.unk,[(o_ 0 2 [[(iI (p9 32)),(AV.osl 1 (l6 nd p s q).d.g 10 0 (List.length (l6 nd p s q).d.l))]]),(o_ ((l6 nd p s q).d.g) 10 (mE (l6 nd p s q).d.l)),(o_ 0 3 [[(iI (l6 nd p s q).d.gf),(iI (l6 nd p s q).d.gl),(iI (l6 nd p s q).d.gt)]]),(o_ 0 2 [[(iN ((List.length (l6 nd p s q).d.al))),(AV.osl 4 (l6 nd p s q).d.ga 2 0 (List.length (l5 (l6 nd p s q).d.al)))]]),(o_ ((l6 nd p s q).d.ga) 2 (mK (l5 (l6 nd p s q).d.al))),(o_ 0 7 [[(iI nd),(iI (l6 nd p s q).d.st.t),(iI (l6 nd p s q).d.st.node),(iI (l6 nd p s q).d.st.n),(oO 0 0 0 0),(oO 2 0 0 0),(oO 3 0 0 0)]]),(o_ 0 3 [[(AV.osl 7 0 1 0 1),(AV.osl 8 0 1 0 1),(iI (l6 nd p s q).lost)]]),(o_ 0 1 (List.map x9 [p])),(o_ 0 1 [[(AV.osl 9 (l6 nd p s q).qg 9 0 (List.length (l6 nd p s q).ql))]]),(o_ ((l6 nd p s q).qg) 9 (mC (l6 nd p s q).ql)),(o_ 1 1 []),(o_ 0 6 [[(iI (l6 nd p s q).now),(iI (l6 nd p s q).swept),(sA 1 [[(iI p)]]),z_,(oO 5 0 0 0),(oO 6 0 0 0)]])]):=by
 obtain ⟨h1,h2,h3,h4,h5⟩:=h
 unfold l6
 cases hr:I8 q with
 | false=>exact (a1u nd p s f q hr).post trivial
 | true =>
  obtain ⟨b1,b2,b3,b4⟩:=a5L hr
  rw [if_pos rfl]
  by_cases k1:q.kind=1
  · rw [if_pos k1]
    have hc:=a6e nd s.d q s.now hs h1 h3 h4
    exact (tX nd p s f q hr k1 ow ow ⟨h3,by omega⟩ h5 ow).post trivial
  rw [if_neg k1]
  by_cases k3:q.kind=3
  · rw [if_pos k3]
    exact (zG nd p s f q hr k3 ow ow).post trivial
  rw [if_neg k3]
  by_cases k2:q.kind=2
  · exact (a1v nd p s f q hr k2).post trivial
  by_cases k4:q.kind=4
  · exact (a1t nd p s f q hr k4 ow ow).post trivial
  · exact (zH nd p s f q hr ow ow ow).post trivial
attribute [local irreducible] V7 eZ l6 w9
def J9 (s:SS):SS:=⟨stT s.now s.d,eZ s.ql,s.qg,s.lost,s.now+1,s.swept⟩
def bZ (p:Int) (s:SS):List A9:=(if (Int.tmod (s.now+1) 15 == 0)=true then [A9.mk p (a0K (R8 (List.map Entry.card s.d.l)))] else [])++J4 p (V7 s.ql)
theorem a0b (p:Int) (s:SS):(bZ p s).length<=2:=by
 unfold bZ
 rw [List.length_append]
 have h1:=lY p (V7 s.ql)
 have h2:(if (Int.tmod (s.now+1) 15 == 0)=true then [A9.mk p (a0K (R8 (List.map Entry.card s.d.l)))] else []).length<=1:=by split <;> simp
 omega
theorem a7J (nd p:Int) (s:SS) (hn:0<=s.now) (hn2:s.now < 19) (hq:s.ql.length<=16) (hl:s.d.l.length<=32):AC 37 [(oO 11 0 0 0)] [(o_ 0 2 [[(iI (p9 32)),(AV.osl 1 s.d.g 10 0 (List.length s.d.l))]]),(o_ s.d.g 10 (mE s.d.l)),(o_ 0 3 [[(iI s.d.gf),(iI s.d.gl),(iI s.d.gt)]]),(o_ 0 2 [[(iN ((List.length s.d.al))),(AV.osl 4 s.d.ga 2 0 (List.length (l5 s.d.al)))]]),(o_ s.d.ga 2 (mK (l5 s.d.al))),(o_ 0 7 [[(iI nd),(iI s.d.st.t),(iI s.d.st.node),(iI s.d.st.n),(oO 0 0 0 0),(oO 2 0 0 0),(oO 3 0 0 0)]]),(o_ 0 3 [[(AV.osl 7 0 1 0 1),(AV.osl 8 0 1 0 1),(iI s.lost)]]),(o_ 0 1 (List.map x9 [p])),(o_ 0 1 [[(AV.osl 9 s.qg 9 0 (List.length s.ql))]]),(o_ s.qg 9 (mC s.ql)),(o_ 1 1 []),(o_ 0 6 [[(iI s.now),(iI s.swept),(sA 1 [[(iI p)]]),z_,(oO 5 0 0 0),(oO 6 0 0 0)]])] ((sA 14 (List.map A9.row (bZ p s))),[(o_ 0 2 [[(iI (p9 32)),(AV.osl 1 (J9 s).d.g 10 0 (List.length (J9 s).d.l))]]),(o_ ((J9 s).d.g) 10 (mE (J9 s).d.l)),(o_ 0 3 [[(iI (J9 s).d.gf),(iI (J9 s).d.gl),(iI (J9 s).d.gt)]]),(o_ 0 2 [[(iN ((List.length (J9 s).d.al))),(AV.osl 4 (J9 s).d.ga 2 0 (List.length (l5 (J9 s).d.al)))]]),(o_ ((J9 s).d.ga) 2 (mK (l5 (J9 s).d.al))),(o_ 0 7 [[(iI nd),(iI (J9 s).d.st.t),(iI (J9 s).d.st.node),(iI (J9 s).d.st.n),(oO 0 0 0 0),(oO 2 0 0 0),(oO 3 0 0 0)]]),(o_ 0 3 [[(AV.osl 7 0 1 0 1),(AV.osl 8 0 1 0 1),(iI (J9 s).lost)]]),(o_ 0 1 (List.map x9 [p])),(o_ 0 1 [[(AV.osl 9 (J9 s).qg 9 0 (List.length (J9 s).ql))]]),(o_ ((J9 s).qg) 9 (mC (J9 s).ql)),(o_ 1 1 []),(o_ 0 6 [[(iI (J9 s).now),(iI (J9 s).swept),(sA 1 [[(iI p)]]),z_,(oO 5 0 0 0),(oO 6 0 0 0)]])]):=by
 have _:0+0=0:=by rw [Nat.add_zero]
 obtain ⟨⟨l,g,al,ga,gf,gl,gt,st⟩,ql,qg,lost,now,swept⟩:=s
 simp only at hn hn2 hq hl
 have h1:(Int.tmod (now+1) 20 == 0)=false:=beq_eq_false_iff_ne.2 (fun e=>by have h:=Int.tmod_eq_of_lt (show 0<=now+1 by omega) (show now+1 < 20 by omega); omega)
 have hn3:now < 1099511627776:=by omega
 unfold bZ J9
 simp only
 cases h2:(Int.tmod (now+1) 15 == 0) <;> simp only [if_true,Bool.false_eq_true,if_false]
 · exact a7G l g al ga gf gl gt nd st p lost qg ql now swept 0 hn hn3 hq h1 h2
 · exact a7F l g al ga gf gl gt nd st p lost qg ql now swept 0 hn hn3 hq hl h1 h2
attribute [local irreducible] bZ J9
theorem oD (s:SS):(J9 s).now=s.now+1:=by with_unfolding_all rfl
theorem b3R (s:SS):(J9 s).d.l=s.d.l:=by with_unfolding_all rfl
theorem a5f (s:SS):(J9 s).ql.length<=s.ql.length:=by with_unfolding_all exact b9e s.ql
def xX:Ann:={ own:=[14],gh:=[(6,.frz 5)],gha:=[(1,.vir 5 14)],base:=12,fin:=some 12,live:=[(3,[0,5,8,9])],out:=[(3,[5])] }
@[simp] abbrev c2M (a:SS):Ob:=(o_ 0 2 [[(iI (p9 32)),(AV.osl 1 (J9 a).d.g 10 0 (List.length (J9 a).d.l))]])
@[simp] abbrev b7u (a:SS):Ob:=(o_ ((J9 a).d.g) 10 (mE (J9 a).d.l))
@[simp] abbrev b7t (a:SS):Ob:=(o_ 0 3 [[(iI (J9 a).d.gf),(iI (J9 a).d.gl),(iI (J9 a).d.gt)]])
@[simp] abbrev b7s (a:SS):Ob:=(o_ 0 2 [[(iN ((List.length (J9 a).d.al))),(AV.osl 4 (J9 a).d.ga 2 0 (List.length (l5 (J9 a).d.al)))]])
@[simp] abbrev b7r (a:SS):Ob:=(o_ ((J9 a).d.ga) 2 (mK (l5 (J9 a).d.al)))
@[simp] abbrev b7q (a:Int) (b:SS):Ob:=(o_ 0 7 [[(iI a),(iI (J9 b).d.st.t),(iI (J9 b).d.st.node),(iI (J9 b).d.st.n),(oO 0 0 0 0),(oO 2 0 0 0),(oO 3 0 0 0)]])
@[simp] abbrev b7p (a:SS):Ob:=(o_ 0 3 [[(AV.osl 7 0 1 0 1),(AV.osl 8 0 1 0 1),(iI (J9 a).lost)]])
@[simp] abbrev b7o (a:SS):Ob:=(o_ 0 1 [[(AV.osl 9 (J9 a).qg 9 0 (List.length (J9 a).ql))]])
@[simp] abbrev b7n (a:SS):Ob:=(o_ ((J9 a).qg) 9 (mC (J9 a).ql))
@[simp] abbrev b7m (a:SS) (b:Int):Ob:=(o_ 0 6 [[(iI (J9 a).now),(iI (J9 a).swept),(sA 1 [[(iI b)]]),z_,(oO 5 0 0 0),(oO 6 0 0 0)]])
@[simp] abbrev c5X (a:SS) (b:Int) (c:Int) (d:Nat) (e:List A9):Heap:=[c2M a,b7u a,b7t a,b7s a,b7r a,b7q b a,b7p a,(o_ 0 1 (List.map x9 [c])),b7o a,b7n a,(o_ 1 1 []),b7m a c,(o_ (d+1) 14 (List.map A9.row (e++(bZ c a))))]
@[simp] abbrev b2Q (a:SS) (b:Int) (c:Int) (e:Nat) (f:List A9):Heap:=[jW a,(o_ a.d.g 10 (mE a.d.l)),bN a,jV a,bV a,yV b a,gM a,(o_ 0 1 (List.map x9 [c])),gL a,(o_ a.qg 9 (mC a.ql)),(o_ 1 1 []),nP a c,(o_ e 14 (List.map A9.row f))]
@[simp] abbrev c5W (a:SS) (b:Int) (c:Int) (d:Nat) (e:List A9):Heap:=[c2M a,b7u a,b7t a,b7s a,b7r a,b7q b a,b7p a,(o_ 0 1 (List.map x9 [c])),b7o a,b7n a,(o_ 1 1 []),b7m a c,(o_ d 14 (List.map A9.row e))]
theorem a5b (nd:Int) (p:Int) (m:Nat) (b0:Int) (s:SS) (out:List A9) (k:Nat) (g:Nat) (i:Nat) (hm:m<=19) (hmx:(max 0 (min m 1024))=m) (hb:0<=b0) (hb0:b0+(m:Int)<=19) (hn:s.now=b0+(i:Int)) (hq:s.ql.length<=16) (hl:s.d.l.length<=32) (hk:k=out.length) (hki:k<=2 * i) (hle_:i<=(max 0 (min m 1024))) {eX:Ex} {FX:Fr} {HX:Heap} (k1:(decide ((i:Int) < (((max 0 (min m 1024)):Nat):Int)))=true->l7 (l9 Tryz.prog (X xX) (y7 Tryz.f11 0)) (some [0,5,8,9]) (some [5]) (mkF 17 [(0,(oO 11 0 0 0)),(5,(AV.osl 12 (g+1) 14 0 (k+(bZ p s).length))),(8,(iN ((max 0 (min m 1024))))),(9,(iN (i+1)))]) (c5X s nd p g out) eX FX HX) (k2:(decide ((i:Int) < (((max 0 (min m 1024)):Nat):Int)))=false->((.exit 0:Ex),(mkF 17 [(5,(AV.osl 12 g 14 0 k))]),(b2Q s nd p g out))=(eX,FX,HX)):l7 (l9 Tryz.prog (X xX) (y7 Tryz.f11 0)) (some [0,5,8,9]) (some [5]) (mkF 17 [(0,(oO 11 0 0 0)),(5,(AV.osl 12 g 14 0 k)),(8,(iN ((max 0 (min m 1024))))),(9,(iN i))]) (b2Q s nd p g out) eX FX HX:=by
 have hsl:=a0b p s
 exact K7 (.r (.g (.two (decide ((i:Int) < (((max 0 (min m 1024)):Nat):Int))) (fun h1 h1'=>(.r (.ch 2 (c5W s nd p g out) (j6.put2 [0,1,2,3,4,5,6,7,8,9,10,11] (b2Q s nd p g out) (sA 14 (List.map A9.row (bZ p s))) (c5W s nd p g out) (a7J nd p s oa oa oa oa) (rlB) (rlB)) (.ao 3 36 (AV.osl 12 g 14 0 k) (sA 14 (List.map A9.row (bZ p s))) (AV.osl 12 (g+1) 14 0 (k+(bZ p s).length)) (c5X s nd p g out) (J2 (T:=tt) (e:=56) (te:=vR) (z:=1) (b:=24) (y:=[.sl .nil 0 []]) (row:=A9.row) (l:=out) kr kr rfl E9 E9 kr aR om rfl rfl vO) (.s (.y 0 (iW ((i:Int)+1)) (iN (i+1)) Yes.o (.g (.l (k1 h1))))))))) (fun h1 h1'=>(.l (k2 h1))))))
def sV (nd:Int) (p:Int) (m:Nat) (b0:Int) (i:Nat) (s:SS × (List A9) × Nat × Nat):SS × (List A9) × Nat × Nat:=(J9 s.1,s.2.1++(bZ p s.1),(s.2.2.1+(bZ p s.1).length),(s.2.2.2+1))
theorem a4W {p:Prop} (h:p:=by have hsl:=a0b p s; have q1:=oD s; have q2:=a5f s; have q3:=b3R s; (try rw [q3]); first | omega | assumption | (simp; done) | (simp; omega) | (simp [*]; done) | (simp [*]; omega)):p:=h
theorem b8w (nd:Int) (p:Int) (m:Nat) (b0:Int) (hm:m<=19) (hmx:(max 0 (min m 1024))=m) (hb:0<=b0) (hb0:b0+(m:Int)<=19)  (r_:Nat):∀ (s:SS) (out:List A9) (k:Nat) (g:Nat) (i:Nat) (sF:SS × (List A9) × Nat × Nat),i+r_=(max 0 (min m 1024))->s.now=b0+(i:Int)->s.ql.length<=16->s.d.l.length<=32->k=out.length->k<=2 * i->sF=iter (sV nd p m b0) r_ i (s,out,k,g) ->
 l7 (l9 Tryz.prog (X xX) (y7 Tryz.f11 0)) (some [0,5,8,9]) (some [5]) (mkF 17 [(0,(oO 11 0 0 0)),(5,(AV.osl 12 g 14 0 k)),(8,(iN ((max 0 (min m 1024))))),(9,(iN i))]) (b2Q s nd p g out) (.exit 0) (mkF 17 [(5,(AV.osl 12 sF.2.2.2 14 0 sF.2.2.1))]) [(o_ 0 2 [[(iI (p9 32)),(AV.osl 1 sF.1.d.g 10 0 (List.length sF.1.d.l))]]),(o_ sF.1.d.g 10 (mE sF.1.d.l)),(o_ 0 3 [[(iI sF.1.d.gf),(iI sF.1.d.gl),(iI sF.1.d.gt)]]),(o_ 0 2 [[(iN ((List.length sF.1.d.al))),(AV.osl 4 sF.1.d.ga 2 0 (List.length (l5 sF.1.d.al)))]]),(o_ sF.1.d.ga 2 (mK (l5 sF.1.d.al))),(o_ 0 7 [[(iI nd),(iI sF.1.d.st.t),(iI sF.1.d.st.node),(iI sF.1.d.st.n),(oO 0 0 0 0),(oO 2 0 0 0),(oO 3 0 0 0)]]),(o_ 0 3 [[(AV.osl 7 0 1 0 1),(AV.osl 8 0 1 0 1),(iI sF.1.lost)]]),(o_ 0 1 (List.map x9 [p])),(o_ 0 1 [[(AV.osl 9 sF.1.qg 9 0 (List.length sF.1.ql))]]),(o_ sF.1.qg 9 (mC sF.1.ql)),(o_ 1 1 []),(o_ 0 6 [[(iI sF.1.now),(iI sF.1.swept),(sA 1 [[(iI p)]]),z_,(oO 5 0 0 0),(oO 6 0 0 0)]]),(o_ sF.2.2.2 14 (List.map A9.row sF.2.1))]:=by
 induction r_ with
 | zero =>
  intro s out k g i sF hi_ hn hq hl hk hki  hF
  obtain rfl:(max 0 (min m 1024))=i:=by omega
  have e_:sF=(s,out,k,g):=hF
  refine a5b nd p m b0 s out k g (max 0 (min m 1024)) hm hmx hb hb0 hn hq hl hk hki (Nat.le_refl _) (fun h=>by simp at h <;> omega) (fun _=>?_)
  first | done | rfl | (rw [e_]; done) | (rw [e_]; rfl)
 | succ r_ ih =>
  intro s out k g i sF hi_ hn hq hl hk hki  hF
  refine a5b nd p m b0 s out k g i hm hmx hb hb0 hn hq hl hk hki ow (fun h1=>?_) (fun h=>by simp at h <;> omega)
  · exact ih (J9 s) (out++(bZ p s)) (k+(bZ p s).length) (g+1) (i+1) sF ow a4W a4W a4W a4W a4W  (by rw [hF] <;> simp only [iter,sV,if_true,Bool.false_eq_true,if_false])
def tkM (nd p:Int) (m:Nat) (b0:Int) (s:SS):SS × List A9 × Nat × Nat:=iter (sV nd p m b0) m 0 (s,[],0,0)
theorem c4e (nd p:Int) (m:Nat) (b0:Int) (s:SS) (hn:s.now=b0) (hq:s.ql.length<=16) (hl:s.d.l.length<=32):(tkM nd p m b0 s).2.2.1=(tkM nd p m b0 s).2.1.length/\(tkM nd p m b0 s).2.2.1<=2 * m:=by
 have h:=kR (sV nd p m b0) (fun i t=>t.2.2.1=t.2.1.length/\t.2.2.1<=2 * i) m (fun i t _ ht=>by
  have hs:=a0b p t.1
  refine ⟨?_,?_⟩
  · show t.2.2.1+(bZ p t.1).length=(t.2.1++bZ p t.1).length
    rw [List.length_append,ht.1]
  · show t.2.2.1+(bZ p t.1).length<=2 * (i+1)
    have:=ht.2
    omega) m 0 (s,[],0,0) ow ⟨rfl,Nat.le_refl _⟩
 simp only [Nat.zero_add] at h
 exact h
attribute [local irreducible] tkM
theorem qI (nd p:Int) (m:Nat) (b0:Int) (s:SS) (hm:m<=19) (hmx:(max 0 (min m 1024))=m) (hb:0<=b0) (hb0:b0+(m:Int)<=19) (hn:s.now=b0) (hq:s.ql.length<=16) (hl:s.d.l.length<=32):AC 11 [(oO 11 0 0 0),(iN m)] (K4 s nd p) ((sA 14 (List.map A9.row (tkM nd p m b0 s).2.1)),[(o_ 0 2 [[(iI (p9 32)),(AV.osl 1 (tkM nd p m b0 s).1.d.g 10 0 (List.length (tkM nd p m b0 s).1.d.l))]]),(o_ ((tkM nd p m b0 s).1.d.g) 10 (mE (tkM nd p m b0 s).1.d.l)),(o_ 0 3 [[(iI (tkM nd p m b0 s).1.d.gf),(iI (tkM nd p m b0 s).1.d.gl),(iI (tkM nd p m b0 s).1.d.gt)]]),(o_ 0 2 [[(iN ((List.length (tkM nd p m b0 s).1.d.al))),(AV.osl 4 (tkM nd p m b0 s).1.d.ga 2 0 (List.length (l5 (tkM nd p m b0 s).1.d.al)))]]),(o_ ((tkM nd p m b0 s).1.d.ga) 2 (mK (l5 (tkM nd p m b0 s).1.d.al))),(o_ 0 7 [[(iI nd),(iI (tkM nd p m b0 s).1.d.st.t),(iI (tkM nd p m b0 s).1.d.st.node),(iI (tkM nd p m b0 s).1.d.st.n),(oO 0 0 0 0),(oO 2 0 0 0),(oO 3 0 0 0)]]),(o_ 0 3 [[(AV.osl 7 0 1 0 1),(AV.osl 8 0 1 0 1),(iI (tkM nd p m b0 s).1.lost)]]),(o_ 0 1 (List.map x9 [p])),(o_ 0 1 [[(AV.osl 9 (tkM nd p m b0 s).1.qg 9 0 (List.length (tkM nd p m b0 s).1.ql))]]),(o_ ((tkM nd p m b0 s).1.qg) 9 (mC (tkM nd p m b0 s).1.ql)),(o_ 1 1 []),(o_ 0 6 [[(iI (tkM nd p m b0 s).1.now),(iI (tkM nd p m b0 s).1.swept),(sA 1 [[(iI p)]]),z_,(oO 5 0 0 0),(oO 6 0 0 0)]])]):=by
 have ht:=c4e nd p m b0 s hn hq hl
 have ht1:=ht.1
 have ht2:=ht.2
 exact q9 (fn:=Tryz.f11) (ann:=xX) (Has.o Tryz.func11) (.r (.s (.s (.h' (c1z s nd p) (.y 1 (.int .i64 (if 1024 < (m:Int) then 1024 else (m:Int))) (iN (min m 1024)) (Yes.int eD) (.y 2 (.int .i64 (if ((min m 1024:Nat):Int) > 0 then ((min m 1024:Nat):Int) else 0)) (iN (max 0 (min m 1024))) (Yes.int eD) (.g (.loop (mkF 17 [(5,(AV.osl 12 (tkM nd p m b0 s).2.2.2 14 0 (tkM nd p m b0 s).2.2.1))]) (b8w nd p m b0 hm hmx hb hb0 m s [] 0 0 0 (tkM nd p m b0 s) ow (by rw [hn]; simp) hq hl rfl ow sU) (.r (.w 5 (List.map A9.row (tkM nd p m b0 s).2.1) (And.intro (G9 (room:=none) kr om) (A9.y8 _ _):F5 [(o_ 0 2 [[(iI (p9 32)),(AV.osl 1 (tkM nd p m b0 s).1.d.g 10 0 (List.length (tkM nd p m b0 s).1.d.l))]]),(o_ ((tkM nd p m b0 s).1.d.g) 10 (mE (tkM nd p m b0 s).1.d.l)),(o_ 0 3 [[(iI (tkM nd p m b0 s).1.d.gf),(iI (tkM nd p m b0 s).1.d.gl),(iI (tkM nd p m b0 s).1.d.gt)]]),(o_ 0 2 [[(iN ((List.length (tkM nd p m b0 s).1.d.al))),(AV.osl 4 (tkM nd p m b0 s).1.d.ga 2 0 (List.length (l5 (tkM nd p m b0 s).1.d.al)))]]),(o_ ((tkM nd p m b0 s).1.d.ga) 2 (mK (l5 (tkM nd p m b0 s).1.d.al))),(o_ 0 7 [[(iI nd),(iI (tkM nd p m b0 s).1.d.st.t),(iI (tkM nd p m b0 s).1.d.st.node),(iI (tkM nd p m b0 s).1.d.st.n),(oO 0 0 0 0),(oO 2 0 0 0),(oO 3 0 0 0)]]),(o_ 0 3 [[(AV.osl 7 0 1 0 1),(AV.osl 8 0 1 0 1),(iI (tkM nd p m b0 s).1.lost)]]),(o_ 0 1 (List.map x9 [p])),(o_ 0 1 [[(AV.osl 9 (tkM nd p m b0 s).1.qg 9 0 (List.length (tkM nd p m b0 s).1.ql))]]),(o_ ((tkM nd p m b0 s).1.qg) 9 (mC (tkM nd p m b0 s).1.ql)),(o_ 1 1 []),(o_ 0 6 [[(iI (tkM nd p m b0 s).1.now),(iI (tkM nd p m b0 s).1.swept),(sA 1 [[(iI p)]]),z_,(oO 5 0 0 0),(oO 6 0 0 0)]]),(o_ ((tkM nd p m b0 s).2.2.2) 14 (List.map A9.row (tkM nd p m b0 s).2.1))] 14 (AV.osl 12 (tkM nd p m b0 s).2.2.2 14 0 (tkM nd p m b0 s).2.2.1)=some (List.map A9.row (tkM nd p m b0 s).2.1)/\AV.D5 0 (List.map A9.row (tkM nd p m b0 s).2.1)=true) (.g (.h' [(o_ 0 2 [[(iI (p9 32)),(AV.osl 1 (tkM nd p m b0 s).1.d.g 10 0 (List.length (tkM nd p m b0 s).1.d.l))]]),(o_ ((tkM nd p m b0 s).1.d.g) 10 (mE (tkM nd p m b0 s).1.d.l)),(o_ 0 3 [[(iI (tkM nd p m b0 s).1.d.gf),(iI (tkM nd p m b0 s).1.d.gl),(iI (tkM nd p m b0 s).1.d.gt)]]),(o_ 0 2 [[(iN ((List.length (tkM nd p m b0 s).1.d.al))),(AV.osl 4 (tkM nd p m b0 s).1.d.ga 2 0 (List.length (l5 (tkM nd p m b0 s).1.d.al)))]]),(o_ ((tkM nd p m b0 s).1.d.ga) 2 (mK (l5 (tkM nd p m b0 s).1.d.al))),(o_ 0 7 [[(iI nd),(iI (tkM nd p m b0 s).1.d.st.t),(iI (tkM nd p m b0 s).1.d.st.node),(iI (tkM nd p m b0 s).1.d.st.n),(oO 0 0 0 0),(oO 2 0 0 0),(oO 3 0 0 0)]]),(o_ 0 3 [[(AV.osl 7 0 1 0 1),(AV.osl 8 0 1 0 1),(iI (tkM nd p m b0 s).1.lost)]]),(o_ 0 1 (List.map x9 [p])),(o_ 0 1 [[(AV.osl 9 (tkM nd p m b0 s).1.qg 9 0 (List.length (tkM nd p m b0 s).1.ql))]]),(o_ ((tkM nd p m b0 s).1.qg) 9 (mC (tkM nd p m b0 s).1.ql)),(o_ 1 1 []),(o_ 0 6 [[(iI (tkM nd p m b0 s).1.now),(iI (tkM nd p m b0 s).1.swept),(sA 1 [[(iI p)]]),z_,(oO 5 0 0 0),(oO 6 0 0 0)]])] (.q 12 (sA 14 (List.map A9.row (tkM nd p m b0 s).2.1)))))))))))))))
attribute [local irreducible] Tp.F9 Tp.G8 Tp.card Tp.cards Tp.key Tp.keyT Tp.next Tp.step
structure nS where
 kind:Int
 src:Int
 m:Msg
 n:Nat
 deriving Inhabited
def nS.row (x:nS):List AV:=[(iI x.kind),(iI x.src),(iI x.m.kind),(iI x.m.op),(iI x.m.status),(iI x.m.code),(iI x.m.tag),(iI x.m.n),(iI x.m.seq),(AV.str x.m.key.app),(AV.str x.m.key.id),(bB x.m.full),(AV.int .u32 x.m.sum),(sA 9 (mC x.m.cards)),(sA 2 (mK x.m.keys)),(iN x.n)]
@[simp] theorem nS.O4 (n:Nat) (x:nS):AV.bdds n x.row=true:=by simp [nS.row,AV.bdds,AV.bdd]
@[simp] theorem nS.y8 (n:Nat) (l:List nS):AV.D5 n (l.map nS.row)=true:=by induction l with | nil=>rfl | cons x l ih=>simp [AV.D5,nS.O4,ih]
end Go.Proofs.YtmghjcbabebanaaGreat.AM
namespace Go.Proofs.YtmghjcbabebanaaGreat.AM
open Go
attribute [local irreducible] D8 D9 F6 F8 H7 I5 I7 I8 gN maxS r9 w9 y9
structure CRI (n:Nat) (b:Int) (s:SS):Prop where
 i:SSI n b s
 st:c8h n s.d
theorem CRI.rc {n:Nat} {b:Int} {s:SS} (h:CRI n b s) (hn:n < 90000):a7A s:=⟨h.i.d.len,Nat.lt_of_le_of_lt h.i.d.al hn,h.i.d.g0,h.i.d.g1,h.i.hq⟩
attribute [local irreducible] H6 dJ dK
theorem b9b (nd p:Int) (s:SS) (q:Msg):(l6 nd p s q).now=s.now:=by
 unfold l6
 split
 · split
   · rfl
   · split <;> rfl
 · rfl
attribute [local irreducible] Tp.card Tp.G8 Tp.next Tp.step Tp.cards Tp.F9 Tp.key Tp.keyT
def sv0 (nd:Int):SS:=⟨⟨[],0,[],0,0,0,0,⟨0,nd,0⟩⟩,[],0,0,0,0⟩
theorem xZ (nd:Int):CRI 0 0 (sv0 nd) :=
 have hd:eO 0 (sv0 nd).d:=⟨a0f,by simp [sv0],by simp [sv0],by simp [sv0],by simp [sv0]⟩
 ⟨⟨hd,by simp [sv0],by simp [sv0],by simp [sv0],by simp [sv0],by simp [sv0]⟩,⟨hd,by simp [sv0],⟨by simp [sv0],by simp [sv0],by simp [sv0]⟩⟩⟩
open Go.Proofs.YtmghjcbabebanaaGreat
attribute [local irreducible] D7 G7 J4 N9 O1 R8 aA bC dH hdD j6 l6 l7 l9 qA qV stC stW
theorem tC (nd p:Int) (h1:0<=nd) (h2:nd < 6):AC 8 [(iI nd),(sA 1 [[(iI p)]])] [] ((oO 11 0 0 0),[(o_ 0 2 [[(iI (p9 32)),(AV.osl 1 (sv0 nd).d.g 10 0 (List.length (sv0 nd).d.l))]]),(o_ ((sv0 nd).d.g) 10 (mE (sv0 nd).d.l)),(o_ 0 3 [[(iI (sv0 nd).d.gf),(iI (sv0 nd).d.gl),(iI (sv0 nd).d.gt)]]),(o_ 0 2 [[(iN ((List.length (sv0 nd).d.al))),(AV.osl 4 (sv0 nd).d.ga 2 0 (List.length (l5 (sv0 nd).d.al)))]]),(o_ ((sv0 nd).d.ga) 2 (mK (l5 (sv0 nd).d.al))),(o_ 0 7 [[(iI nd),(iI (sv0 nd).d.st.t),(iI (sv0 nd).d.st.node),(iI (sv0 nd).d.st.n),(oO 0 0 0 0),(oO 2 0 0 0),(oO 3 0 0 0)]]),(o_ 0 3 [[(AV.osl 7 0 1 0 1),(AV.osl 8 0 1 0 1),(iI (sv0 nd).lost)]]),(o_ 0 1 (List.map x9 [p])),(o_ 0 1 [[(AV.osl 9 (sv0 nd).qg 9 0 (List.length (sv0 nd).ql))]]),(o_ ((sv0 nd).qg) 9 (mC (sv0 nd).ql)),(o_ 1 1 []),(o_ 0 6 [[(iI (sv0 nd).now),(iI (sv0 nd).swept),(sA 1 [[(iI p)]]),z_,(oO 5 0 0 0),(oO 6 0 0 0)]])]):=a9Z nd p h1 h2
def c0r:Ann:={ fin:=some 0 }
theorem b6r  :AC 51 [(AV.sl .nil 0 [])] [] ((AV.sl .nil 0 []),[]) :=
 q9 (fn:=Tryz.f51) (ann:=c0r) (Has.o Tryz.func51) (.r (.s (.g (.u (.qr 0 (AV.sl .nil 0 []))))))
def a8b:Ann:={ base:=2,fin:=some 2 }
theorem a5B  :AC 26 [(oO 0 0 0 0)] a7t ((AV.sl .nil 0 []),a7t) :=
 q9 (fn:=Tryz.f26) (ann:=a8b) (Has.o Tryz.func26) (.r (.s (.c 4 ((b6r).lift kr kr a7t) (.q 2 (AV.sl .nil 0 [])))))
abbrev S0:=Int × Int × Int × Int
def b4c:Ann:={ fin:=some 9 }
@[simp] abbrev c0L :=[[(AV.sl .nil 0 []),(AV.osl 7 0 1 0 0),z_]]
@[simp] abbrev dX :Ob:=(o_ 0 3 c0L)
@[simp] abbrev b2T (a:Int):Heap:=[dP,dO,vF,dN,dM,a4G a,dX,(o_ 0 1 [])]
theorem b0a (nd:Int) (h1:0<=nd) (h2:nd < 6):AC 8 [(iI nd),(AV.sl .nil 0 [])] [] ((oO 8 0 0 0),[(o_ 0 2 [[(iI (p9 32)),(AV.osl 1 0 10 0 (List.length ([]:l9E)))]]),(o_ 0 10 (mE ([]:l9E))),(o_ 0 3 [[(iI ((0,0,0,0):S0).1),(iI ((0,0,0,0):S0).2.1),(iI ((0,0,0,0):S0).2.2.1)]]),(o_ 0 2 [[(iN ((List.length ([]:l9K)))),(AV.osl 4 0 2 0 (List.length (l5 ([]:l9K))))]]),(o_ 0 2 (mK (l5 ([]:l9K)))),(o_ 0 7 (c0P nd)),(o_ 0 3 c0L),(o_ 0 1 []),(o_ 0 6 [[(iI ((0,0,0,0):S0).2.2.2),z_,(AV.sl .nil 0 []),z_,(oO 5 0 0 0),(oO 6 0 0 0)]])]) :=
 q9 (fn:=Tryz.f8) (ann:=b4c) (Has.o Tryz.func8) (.r (.s (.ch 1 (a3f nd) (j6.put2 [] [] (oO 5 0 0 0) (a3f nd) (a4a nd 0 oa oa sU) (trivial) (rlA)) (.s (.rn (.ch 1 (b2T nd) (j6.put2 [] (a3f nd) (oO 6 0 0 0) (b2T nd) (b0D  ) (trivial) (⟨rfl,⟨rfl,trivial⟩⟩)) (.s (.c 1 (j6.put2 [6,7] (b2T nd) (AV.sl .nil 0 []) (b2T nd) (a5B  ) (⟨rfl,⟨rfl,trivial⟩⟩) (⟨rfl,⟨rfl,trivial⟩⟩)) (.g (.h' [(o_ 0 2 [[(iI (p9 32)),(AV.osl 1 0 10 0 (List.length ([]:l9E)))]]),(o_ 0 10 (mE ([]:l9E))),(o_ 0 3 [[z_,z_,z_]]),(o_ 0 2 [[(iN ((List.length ([]:l9K)))),(AV.osl 4 0 2 0 (List.length (l5 ([]:l9K))))]]),(o_ 0 2 (mK (l5 ([]:l9K)))),(o_ 0 7 (a3a nd)),(o_ 0 3 c0L),(o_ 0 1 []),(o_ 0 6 [[z_,z_,(AV.sl .nil 0 []),z_,(oO 5 0 0 0),(oO 6 0 0 0)]])] (.q 9 (oO 8 0 0 0))))))))))))
def st0 (x:S0):S0:=(tkF x.1 (x.2.2.2+1),tkL x.1 x.2.1 x.2.2.1 (x.2.2.2+1),tkT x.1 x.2.2.1 (x.2.2.2+1),x.2.2.2+1)
def b3S:Ann:={ base:=9,fin:=some 9 }
@[simp] abbrev b7w (a:S0):Ob:=(o_ 0 3 [[(iI a.1),(iI a.2.1),(iI a.2.2.1)]])
@[simp] abbrev xP (a:Int):Ob:=(o_ 0 7 (c0P a))
@[simp] abbrev a0S (a:S0) (b:Int):Heap:=[dP,dO,b7w a,dN,dM,xP b,dX,(o_ 0 1 []),(o_ 0 6 [[(iI a.2.2.2),z_,(AV.sl .nil 0 []),z_,(oO 5 0 0 0),(oO 6 0 0 0)]])]
@[simp] abbrev b2S (a:S0) (b:Int):Heap:=[dP,dO,(o_ 0 3 [[(iI (st0 a).1),(iI (st0 a).2.1),(iI (st0 a).2.2.1)]]),dN,dM,xP b,dX,(o_ 0 1 []),(o_ 0 6 [[(iI (st0 a).2.2.2),z_,(AV.sl .nil 0 []),z_,(oO 5 0 0 0),(oO 6 0 0 0)]])]
@[simp] abbrev b7v (a:S0):Ob:=(o_ 0 6 [[(iI (a.2.2.2+1)),z_,(AV.sl .nil 0 []),z_,(oO 5 0 0 0),(oO 6 0 0 0)]])
@[simp] abbrev b2R (a:S0) (b:Int):Heap:=[dP,dO,b7w a,dN,dM,xP b,dX,(o_ 0 1 []),b7v a]
@[simp] abbrev c5Y (a:S0) (b:Int):Heap:=[dP,dO,(o_ 0 3 [[(iI (tkF a.1 (a.2.2.2+1))),(iI (tkL a.1 a.2.1 a.2.2.1 (a.2.2.2+1))),(iI (tkT a.1 a.2.2.1 (a.2.2.2+1)))]]),dN,dM,xP b,dX,(o_ 0 1 []),b7v a]
theorem a9O (nd:Int) (x:S0) (hn:0<=x.2.2.2) (hn2:x.2.2.2 < 1099511627776) (h1:(Int.tmod (x.2.2.2+1) 20 == 0)=false):AC 37 [(oO 8 0 0 0)] (a0S x nd) ((AV.sl .nil 0 []),(b2S x nd)) :=
 q9 (fn:=Tryz.f37) (ann:=b3S) (Has.o Tryz.func37) (.r (.s (.y 4 (iW (x.2.2.2+1)) (iI (x.2.2.2+1)) Yes.o (.s (.c 4 (j6.put2 [0,1,2,3,4,5] (b2R x nd) (oO 2 0 0 0) (b2R x nd) (qW ([]:l9E) 0 ([]:l9K) 0 x.1 x.2.1 x.2.2.1 nd (l8.mk 0 nd 0) ) (rlA) (rlA)) (.ch 9 (c5Y x nd) (j6.put2 [2] (b2R x nd) (AV.tup []) (c5Y x nd) (uN x.1 x.2.1 x.2.2.1 (x.2.2.2+1) ) (⟨rfl,trivial⟩) (⟨rfl,trivial⟩)) (.rd (iI (x.2.2.2+1)) (b2R x nd) (.s (.y 5 (bB ((Int.tmod (x.2.2.2+1) 20) == 0)) bF (Yes.b (h1)) (.rn (.s (.two ((Int.tmod (x.2.2.2+1) 15) == 0) (fun h1 h1'=>(.u5 (.rn (.g (.roll 1 (.r (.g (.n (.qr 9 (AV.sl .nil 0 [])))))))))) (fun h1 h1'=>(.n5 (.rn (.g (.roll 1 (.r (.g (.n (.qr 9 (AV.sl .nil 0 []))))))))))))))))))))))
def xY:Ann:={ base:=9,fin:=some 9,live:=[(3,[0,5,8,9])],out:=[(3,[5])] }
theorem a5c (nd:Int) (m:Nat) (x:S0) (i:Nat) (hm:m<=15) (hmx:(max 0 (min m 1024))=m) (hx:x.2.2.2=(i:Int)) (hle_:i<=(max 0 (min m 1024))) {eX:Ex} {FX:Fr} {HX:Heap} (k1:(decide ((i:Int) < (((max 0 (min m 1024)):Nat):Int)))=true->l7 (l9 Tryz.prog (X xY) (y7 Tryz.f11 0)) (some [0,5,8,9]) (some [5]) (mkF 17 [(0,(oO 8 0 0 0)),(5,(AV.sl .nil 0 [])),(8,(iN ((max 0 (min m 1024))))),(9,(iN (i+1)))]) (b2S x nd) eX FX HX) (k2:(decide ((i:Int) < (((max 0 (min m 1024)):Nat):Int)))=false->((.exit 0:Ex),(mkF 17 [(5,(AV.sl .nil 0 []))]),(a0S x nd))=(eX,FX,HX)):l7 (l9 Tryz.prog (X xY) (y7 Tryz.f11 0)) (some [0,5,8,9]) (some [5]) (mkF 17 [(0,(oO 8 0 0 0)),(5,(AV.sl .nil 0 [])),(8,(iN ((max 0 (min m 1024))))),(9,(iN i))]) (a0S x nd) eX FX HX :=
 K7 (.r (.g (.two (decide ((i:Int) < (((max 0 (min m 1024)):Nat):Int))) (fun h1 h1'=>(.r (.ch 2 (b2S x nd) (j6.put2 [0,1,2,3,4,5,6,7,8] (a0S x nd) (AV.sl .nil 0 []) (b2S x nd) (a9O nd x oa oa (beq_eq_false_iff_ne.2 (fun e_=>by have h_:Int.tmod (x.2.2.2+1) 20=x.2.2.2+1:=Int.tmod_eq_of_lt ow ow; omega))) (⟨rfl,⟨Ob.ren0 (Entry.y8 0 _),⟨rfl,⟨rfl,⟨Ob.ren0 (Key.y8 0 _),⟨rfl,⟨rfl,⟨rfl,⟨rfl,trivial⟩⟩⟩⟩⟩⟩⟩⟩⟩) (⟨rfl,⟨Ob.ren0 (Entry.y8 0 _),⟨rfl,⟨rfl,⟨Ob.ren0 (Key.y8 0 _),⟨rfl,⟨rfl,⟨rfl,⟨rfl,trivial⟩⟩⟩⟩⟩⟩⟩⟩⟩)) (.s (.y 0 (iW ((i:Int)+1)) (iN (i+1)) Yes.o (.g (.l (k1 h1)))))))) (fun h1 h1'=>(.l (k2 h1))))))
def a9G (nd:Int) (m:Nat) (i:Nat) (s:S0):S0:=(st0 s)
theorem b8y (nd:Int) (m:Nat) (hm:m<=15) (hmx:(max 0 (min m 1024))=m)  (r_:Nat):∀ (x:S0) (i:Nat) (sF:S0),i+r_=(max 0 (min m 1024))->x.2.2.2=(i:Int)->sF=iter (a9G nd m) r_ i (x) ->
 l7 (l9 Tryz.prog (X xY) (y7 Tryz.f11 0)) (some [0,5,8,9]) (some [5]) (mkF 17 [(0,(oO 8 0 0 0)),(5,(AV.sl .nil 0 [])),(8,(iN ((max 0 (min m 1024))))),(9,(iN i))]) (a0S x nd) (.exit 0) (mkF 17 [(5,(AV.sl .nil 0 []))]) (a0S sF nd):=by
 induction r_ with
 | zero =>
  intro x i sF hi_ hx  hF
  obtain rfl:(max 0 (min m 1024))=i:=by omega
  have e_:sF=(x):=hF
  refine a5c nd m x (max 0 (min m 1024)) hm hmx hx (Nat.le_refl _) (fun h=>by simp at h <;> omega) (fun _=>?_)
  first | done | rfl | (rw [e_]; done) | (rw [e_]; rfl)
 | succ r_ ih =>
  intro x i sF hi_ hx  hF
  refine a5c nd m x i hm hmx hx ow (fun h1=>?_) (fun h=>by simp at h <;> omega)
  · exact ih (st0 x) (i+1) sF ow (by have hst:(st0 x).2.2.2=x.2.2.2+1:=rfl; first | omega | assumption | (simp; done) | (simp; omega) | (simp [*]; done) | (simp [*]; omega))  (by rw [hF] <;> simp only [iter,a9G,if_true,Bool.false_eq_true,if_false])
def sW (nd:Int) (m:Nat) (x:S0):S0:=iter (a9G nd m) m 0 x
@[simp] abbrev c8a (a:Int) (b:Nat) (c:S0):Heap:=[dP,dO,(o_ 0 3 [[(iI (sW a b c).1),(iI (sW a b c).2.1),(iI (sW a b c).2.2.1)]]),dN,dM,xP a,dX,(o_ 0 1 []),(o_ 0 6 [[(iI (sW a b c).2.2.2),z_,(AV.sl .nil 0 []),z_,(oO 5 0 0 0),(oO 6 0 0 0)]])]
theorem a9H (nd:Int) (m:Nat) (x:S0) (hm:m<=15) (hmx:(max 0 (min m 1024))=m) (hx:x.2.2.2=0):AC 11 [(oO 8 0 0 0),(iN m)] (a0S x nd) ((AV.sl .nil 0 []),(c8a nd m x)) :=
 q9 (fn:=Tryz.f11) (ann:=xY) (Has.o Tryz.func11) (.r (.s (.s (.y 1 (.int .i64 (if 1024 < (m:Int) then 1024 else (m:Int))) (iN (min m 1024)) (Yes.int eD) (.y 2 (.int .i64 (if ((min m 1024:Nat):Int) > 0 then ((min m 1024:Nat):Int) else 0)) (iN (max 0 (min m 1024))) (Yes.int eD) (.g (.loop (mkF 17 [(5,(AV.sl .nil 0 []))]) (b8y nd m hm hmx m x 0 (sW nd m x) ow (by simpa using hx) sU) (.qr 9 (AV.sl .nil 0 [])))))))))
def b6f:Ann:={ fin:=some 0 }
theorem b1O  :AC 24 [(iI (-1)),z_] [] (AV.nilp,[]) :=
 q9 (fn:=Tryz.f24) (ann:=b6f) (Has.o Tryz.func24) (.r (.s (.u6 (.g (.u (.qr 0 AV.nilp))))))
def b4a:Ann:={ fin:=some 0 }
theorem a9Y  :AC 8 [(iI (-1)),(AV.sl .nil 0 [])] [] (AV.nilp,[]) :=
 q9 (fn:=Tryz.f8) (ann:=b4a) (Has.o Tryz.func8) (.r (.s (.c 1 ((b1O).lift kr kr []) (.s (.g (.u (.qr 0 AV.nilp)))))))
theorem a7Y (nd p:Int) (s:SS) (f:Int) (q:Msg) (h:a7A s) (hs:Y7 s.d.l) (hr:I8 q=true) (hk:q.kind=1):AC 10 [(oO 11 0 0 0),(iI f),(AV.agg (Msg.row q))] [(o_ 0 2 [[(iI (p9 32)),(AV.osl 1 s.d.g 10 0 (List.length s.d.l))]]),(o_ s.d.g 10 (mE s.d.l)),(o_ 0 3 [[(iI s.d.gf),(iI s.d.gl),(iI s.d.gt)]]),(o_ 0 2 [[(iN ((List.length s.d.al))),(AV.osl 4 s.d.ga 2 0 (List.length (l5 s.d.al)))]]),(o_ s.d.ga 2 (mK (l5 s.d.al))),(o_ 0 7 [[(iI nd),(iI s.d.st.t),(iI s.d.st.node),(iI s.d.st.n),(oO 0 0 0 0),(oO 2 0 0 0),(oO 3 0 0 0)]]),(o_ 0 3 [[(AV.osl 7 0 1 0 1),(AV.osl 8 0 1 0 1),(iI s.lost)]]),(o_ 0 1 (List.map x9 [p])),(o_ 0 1 [[(AV.osl 9 s.qg 9 0 (List.length s.ql))]]),(o_ s.qg 9 (mC s.ql)),(o_ 1 1 []),(o_ 0 6 [[(iI s.now),(iI s.swept),(sA 1 [[(iI p)]]),z_,(oO 5 0 0 0),(oO 6 0 0 0)]])] ((sA 14 (List.map y5.row [y5.mk f (hdD nd s.d q s.now).m])),[(o_ 0 2 [[(iI (p9 32)),(AV.osl 1 (l6 nd p s q).d.g 10 0 (List.length (l6 nd p s q).d.l))]]),(o_ ((l6 nd p s q).d.g) 10 (mE (l6 nd p s q).d.l)),(o_ 0 3 [[(iI (l6 nd p s q).d.gf),(iI (l6 nd p s q).d.gl),(iI (l6 nd p s q).d.gt)]]),(o_ 0 2 [[(iN ((List.length (l6 nd p s q).d.al))),(AV.osl 4 (l6 nd p s q).d.ga 2 0 (List.length (l5 (l6 nd p s q).d.al)))]]),(o_ ((l6 nd p s q).d.ga) 2 (mK (l5 (l6 nd p s q).d.al))),(o_ 0 7 [[(iI nd),(iI (l6 nd p s q).d.st.t),(iI (l6 nd p s q).d.st.node),(iI (l6 nd p s q).d.st.n),(oO 0 0 0 0),(oO 2 0 0 0),(oO 3 0 0 0)]]),(o_ 0 3 [[(AV.osl 7 0 1 0 1),(AV.osl 8 0 1 0 1),(iI (l6 nd p s q).lost)]]),(o_ 0 1 (List.map x9 [p])),(o_ 0 1 [[(AV.osl 9 (l6 nd p s q).qg 9 0 (List.length (l6 nd p s q).ql))]]),(o_ ((l6 nd p s q).qg) 9 (mC (l6 nd p s q).ql)),(o_ 1 1 []),(o_ 0 6 [[(iI (l6 nd p s q).now),(iI (l6 nd p s q).swept),(sA 1 [[(iI p)]]),z_,(oO 5 0 0 0),(oO 6 0 0 0)]])]):=by
 obtain ⟨h1,h2,h3,h4,h5⟩:=h
 unfold l6
 rw [if_pos hr,if_pos hk]
 have hc:=a6e nd s.d q s.now hs h1 h3 h4
 exact (tX nd p s f q hr hk ow ow ⟨h3,by omega⟩ h5 ow).post ⟨rfl,rfl,.inl rfl⟩
def E8:Msg:=⟨1,1,1,0,3,9,0,⟨⟨#[97]⟩,⟨#[98]⟩⟩,false,0,[],[]⟩
attribute [local irreducible] sv0
@[simp] abbrev c2N (a:Int) (b:Nat) (c:Nat) (d:l9E):Heap:=[(o_ 0 2 (cw_ a b c)),(o_ b 10 (mE d))]
theorem vV (most:Int) (l:l9E) (g n:Nat) (hn:n=l.length) (hl:l.length < 1048576):AC 18 [(oO 0 0 0 0)] (c2N most g n l) ((sA 9 (mC (List.map Entry.card l))),(c2N most g n l)):=aN most l g n hn hl
end Go.Proofs.YtmghjcbabebanaaGreat.AM
namespace Go.Proofs.YtmghjcbabebanaaGreat.AM
open Go
attribute [local irreducible] Tp.F9 Tp.G8 Tp.card Tp.cards Tp.key Tp.keyT Tp.next Tp.step
abbrev ltC (a b:j5):Bool:=decide (N8 a.key b.key < 0)
theorem nD (a b:j5):ltC a b=C9 a.key b.key:=lM a.key b.key
abbrev R5 (l:List j5):Prop:=List.Pairwise StC l
theorem c6Y:Y1 ltC:=⟨fun a b h=>by rw [nD] at h ⊢; exact uV h,fun a b c h k=>by rw [nD] at h k ⊢; exact zW h k⟩
theorem R5.inj {l:l9C} (h:R5 l) {a b:j5} (ha:a∈l) (hb:b∈l) (e:a.key=b.key):a=b:=by
 obtain ⟨i,hi,rfl⟩:=U6 ha
 obtain ⟨j,hj,rfl⟩:=U6 hb
 have hp:=wB.1 h
 rcases Nat.lt_trichotomy i j with h1 | h1 | h1
 · exact absurd e (yM (hp i j h1 hj))
 · rw [h1]
 · exact absurd e.symm (yM (hp j i h1 hi))
theorem a7N (l:l9C):F3 l=K5 ltC l:=vJ _ l
theorem vT {l:l9C} (h:R5 l):F3 l=l:=by
 rw [a7N]
 refine vI (lt:=ltC) _ _ (cB c6Y l) (h.imp fun {a b} hab=>?_) (mY _ l) fun a ha b hb h1 h2=>?_
 · rw [nD]; exact uV hab
 · rw [nD] at h1 h2
   exact h.inj ((mY _ l).mem_iff.1 ha) ((mY _ l).mem_iff.1 hb) (a6V h1 h2)
theorem a1C (s:l9C):∀ (out:l9C) (g:Nat),R5 (out++s)->(s.foldl F7 (out,g)).1=out++s:=by
 induction s with
 | nil=>intro out g h; simp
 | cons c s ih =>
  intro out g h
  rw [List.foldl_cons]
  have:F7 (out,g) c=(out++[c],g+1):=by
   simp only [F7]
   rcases List.eq_nil_or_concat out with rfl | ⟨init,last,hc⟩
   · simp
   · have hc':out=init++[last]:=by simpa using hc
     have hlen:out.length=init.length+1:=by rw [hc']; simp
     have hlast:nth out (out.length - 1)=last:=by rw [hlen,hc',Nat.add_sub_cancel]; exact rT init last []
     have hlt:StC last c:=(List.pairwise_append.1 h).2.2 last (by rw [hc']; simp) c yf_
     have hne:Key.eqb last.key c.key=false:=Key.b5T.2 (yM hlt)
     rw [hlast,hne]
     simp
  rw [this,ih _ _ yk_]
  simp
theorem fH {l:l9C} (h:R5 l):A8 l=l:=by
 have:=a1C l [] 0 yk_
 unfold A8 M8
 rw [vT h,this]; simp
theorem a8y {l:l9C} (h:R5 l) (hl:l.length<=64):R8 l=l:=by
 unfold R8
 rw [vT h]
 exact List.take_of_length_le ya_
theorem pV {l:l9C} (h:R5 l) {c:j5} (hc:c∈l):inC l c.key=true/\U0 l c.key=c:=by
 have key:∃ n:Nat,ixI (isKey c.key) l=n/\nth l n=c:=by
  unfold ixI
  cases hx:eF (isKey c.key) l 0 with
  | none =>
   obtain ⟨j,hj,e⟩:=U6 hc
   have:=iQ l 0 hx j hj
   rw [e] at this
   simp [isKey,Key.uP] at this
  | some n =>
   obtain ⟨_,h2,h3,_⟩:=dD l 0 n hx
   refine ⟨n,rfl,?_⟩
   have h3':Key.eqb (nth l n).key c.key=true:=by simpa [isKey] using h3
   exact h.inj (iO ya_) hc ((Key.sI _ _).1 h3')
 obtain ⟨n,h1,h2⟩:=key
 have h0:¬ ((n:Int) < 0):=by omega
 constructor
 · unfold inC; rw [h1]; simp
 · unfold U0; rw [h1,if_neg h0]; simpa using h2
theorem vN {l:l9C} (h:R5 l) (m:l9C):R5 (E5 l m):=h.sublist List.filter_sublist
theorem b1r {l:l9K} {k:Key} (h:∀ x∈l,x≠k):aW l k=false:=by
 unfold aW ixI
 cases hx:eF (Key.eqb k) l 0 with
 | none=>simp
 | some n =>
  obtain ⟨_,h2,h3,_⟩:=dD l 0 n hx
  have:=(Key.sI _ _).1 h3
  exact absurd this.symm (h _ (by simpa using iO (show n < l.length by omega)))
theorem a8U {l:l9C} (h:R5 l) (F:l9C):∀ (seen:l9K),(∀ c∈F,c∈l)->List.Pairwise (fun a b:j5=>a.key≠b.key) F->(∀ c∈F,∀ x∈seen,x≠c.key)->V9 l seen (I6 F)=F:=by
 induction F with
 | nil=>intro seen h1 h2 h3; rfl
 | cons c F ih =>
  intro seen h1 h2 h3
  have hp:=List.pairwise_cons.1 h2
  obtain ⟨i1,i2⟩:=pV h (h1 c yf_)
  have hk:I6 (c :: F)=c.key :: I6 F:=rfl
  rw [hk]
  simp only [V9]
  rw [i1,b1r (h3 c yf_),i2,ih (seen++[c.key]) (fun x hx=>h1 x (by simp [hx])) hp.2 (fun x hx y hy=>?_)]
  · simp
  · rcases List.mem_append.1 hy with hy | hy
    · exact h3 x (by simp [hx]) y hy
    · simp at hy; subst hy; exact hp.1 x hx
theorem a3e {l:l9C} (h:R5 l) {F:l9C} (hF:List.Sublist F l):aA l (I6 F)=F:=by
 unfold aA
 rw [fH h]
 exact a8U h F [] (fun c hc=>hF.subset hc) ((h.sublist hF).imp fun hab=>yM hab) (fun c _ x hx=>by simp at hx)
theorem a4Z {a b:l9C} (ha:R5 a) (hb:R5 b):N9 a b=I6 (E5 b a):=by unfold N9; rw [fH ha,fH hb]
theorem a5d {a b:l9C} (ha:R5 a) (hb:R5 b):O1 a b=E5 a b:=by unfold O1; rw [fH ha,fH hb]
attribute [local irreducible] D8 D9 F6 F8 H7 I5 I7 gN maxS r9 w9 y9
theorem a0Y:∀ {a b:l9C},R5 a->R5 b->(∀ x,x∈a↔x∈b)->a=b
 | [],[],_,_,_=>rfl
 | [],y :: b,_,_,h=>absurd ((h y).2 yf_) yf_
 | x :: a,[],_,_,h=>absurd ((h x).1 yf_) yf_
 | x :: a,y :: b,ha,hb,h=>by
  have ha:=List.pairwise_cons.1 ha
  have hb:=List.pairwise_cons.1 hb
  have e:x=y:=by
   rcases List.mem_cons.1 ((h x).1 yf_) with e | hx
   · exact e
   · rcases List.mem_cons.1 ((h y).2 yf_) with e | hy
     · exact e.symm
     · have h1:=hb.1 x hx
       have h2:=ha.1 y hy
       have:=uV h1
       rw [show C9 x.key y.key=true from h2] at this; simp at this
  subst e
  have ht:a=b:=a0Y ha.2 hb.2 fun z=>by
   constructor
   · intro hz
     rcases List.mem_cons.1 ((h z).1 (by simp [hz])) with e | hz'
     · subst e; exact absurd (ha.1 z hz) (by simp [StC,pX])
     · exact hz'
   · intro hz
     rcases List.mem_cons.1 ((h z).2 (by simp [hz])) with e | hz'
     · subst e; exact absurd (hb.1 z hz) (by simp [StC,pX])
     · exact hz'
  rw [ht]
theorem a0D {now:Int}:∀ (F:l9C) (s:l9E × l9K × l9C × Nat),(∀ c∈F,F8 c=true)->List.Pairwise (fun a b:j5=>a.key≠b.key) F->(∀ c∈F,∀ e∈s.1,e.card.key=c.key->I7 e.card.stamp c.stamp < 0)->Y7 s.1->s.1.length+F.length<=32 ->
 Y7 (F.foldl (O8 now) s).1/\∀ x,x∈(F.foldl (O8 now) s).1.map Entry.card↔x∈F\/(x∈s.1.map Entry.card/\∀ c∈F,c.key≠x.key)
 | [],s,_,_,_,hs,_=>⟨hs,fun x=>by simp⟩
 | c :: F,s,hr,hp,hl,hs,hn=>by
  rw [List.pairwise_cons] at hp
  rw [List.length_cons] at hn
  have hcap:y9 s.1 c.key=true\/(s.1.length:Int) < p9 32:=.inr (by rw [b2w]; omega)
  have hno:¬ (y9 s.1 c.key=true/\decide (I7 (r9 s.1 c.key).card.stamp c.stamp < 0)=false):=fun ⟨h1,h2⟩=>by
   obtain ⟨g1,g2⟩:=iG h1
   exact absurd (hl c yf_ _ g1 g2) (of_decide_eq_false h2)
  have e:(O8 now s c).1=F6 (p9 32) s.1 ⟨c,now⟩:=by
   unfold O8
   rw [if_pos (hr c yf_),if_neg hno]
  have hm:=a5Q (most:=p9 32) hs (e:=⟨c,now⟩) hcap
  have hlen:=(a3N now s c).1
  obtain ⟨k1,k2⟩:=a0D F (O8 now s c) (fun x hx=>hr x (by simp [hx])) hp.2 (fun x hx e' he' hk=>by
   rw [e] at he'
   rcases (hm e').1 he' with rfl | ⟨he',hne⟩
   · exact absurd hk (hp.1 x hx)
   · exact hl x (by simp [hx]) e' he' hk) (by rw [e]; exact fD hs _) ya_
  rw [List.foldl_cons]
  refine ⟨k1,fun x=>?_⟩
  rw [k2 x,e]
  have hmem:x∈(F6 (p9 32) s.1 ⟨c,now⟩).map Entry.card↔x=c\/(x∈s.1.map Entry.card/\x.key≠c.key):=by
   rw [List.mem_map,List.mem_map]
   constructor
   · rintro ⟨a,ha,rfl⟩
     rcases (hm a).1 ha with rfl | ⟨ha,hk⟩
     · exact .inl rfl
     · exact .inr ⟨⟨a,ha,rfl⟩,hk⟩
   · rintro (rfl | ⟨⟨a,ha,rfl⟩,hk⟩)
     · exact ⟨⟨x,now⟩,(hm _).2 (.inl rfl),rfl⟩
     · exact ⟨a,(hm _).2 (.inr ⟨ha,hk⟩),rfl⟩
  rw [hmem]
  constructor
  · rintro (h | ⟨rfl | ⟨h1,h2⟩,h3⟩)
    · exact .inl (by simp [h])
    · exact .inl yf_
    · exact .inr ⟨h1,fun z hz=>by
       rcases List.mem_cons.1 hz with rfl | hz
       · exact fun e=>h2 e.symm
       · exact h3 z hz⟩
  · rintro (h | ⟨h1,h2⟩)
    · rcases List.mem_cons.1 h with rfl | h
      · exact .inr ⟨.inl rfl,fun z hz e=>hp.1 z hz e.symm⟩
      · exact .inl h
    · exact .inr ⟨.inr ⟨h1,fun e=>h2 c yf_ e.symm⟩,fun z hz=>h2 z (by simp [hz])⟩
theorem aQ {l o:l9C} (ho:R5 o) {c:j5}:c∈E5 l o↔c∈l/\∀ d∈o,d.key=c.key->I7 d.stamp c.stamp < 0:=by
 unfold E5
 rw [List.mem_filter]
 refine and_congr_right fun hc=>?_
 unfold sO
 cases hi:inC o c.key with
 | false =>
  simp only [Bool.not_false,Bool.true_or,true_iff]
  intro d hd hk
  have:=(pV ho hd).1
  rw [hk,hi] at this; simp at this
 | true =>
  simp only [Bool.not_true,Bool.false_or,decide_eq_true_eq]
  constructor
  · intro h d hd hk
    have:=(pV ho hd).2
    rw [hk] at this; rwa [this] at h
  · intro h
    have hex:∃ d∈o,d.key=c.key:=by
     by_cases hx:∃ d∈o,d.key=c.key
     · exact hx
     · exfalso
       have hf:∀ x∈o,isKey c.key x=false:=fun x hx'=>by
        cases hb:isKey c.key x with
        | false=>rfl
        | true=>exact absurd ⟨x,hx',by simpa [isKey,Key.sI] using hb⟩ hx
       have:inC o c.key=false:=by
        unfold inC
        have h0:eF (isKey c.key) o 0=none:=by
         cases h1:eF (isKey c.key) o 0 with
         | none=>rfl
         | some q =>
          obtain ⟨_,h2,h3,_⟩:=dD o 0 q h1
          rw [hf _ (iO ya_)] at h3; simp at h3
        simp [ixI,h0]
       rw [this] at hi; simp at hi
    obtain ⟨d,hd,hk⟩:=hex
    have h2:=(pV ho hd).2
    rw [hk] at h2; rw [h2]; exact h d hd hk
theorem b4K {now now':Int} {l e:l9E} {al al':l9K} (hl:Y7 l) (he:Y7 e) (h1:l.length<=9) (h2:e.length<=9) (r1:∀ x∈l,F8 x.card=true/\x.card.stamp.node=0) (r2:∀ x∈e,F8 x.card=true/\x.card.stamp.node=1) :
 (H6 now (E5 (e.map Entry.card) (l.map Entry.card)) l al).1.map Entry.card=(H6 now' (E5 (l.map Entry.card) (e.map Entry.card)) e al').1.map Entry.card:=by
 have sl:R5 (l.map Entry.card):=fV hl
 have se:R5 (e.map Entry.card):=fV he
 have ne:∀ {x y:j5},x∈l.map Entry.card->y∈e.map Entry.card->x.stamp≠y.stamp:=fun {x y} hx hy h=>by
  obtain ⟨a,ha,rfl⟩:=List.mem_map.1 hx
  obtain ⟨b,hb,rfl⟩:=List.mem_map.1 hy
  have e1:=(r1 a ha).2
  have e2:=(r2 b hb).2
  rw [h,e2] at e1; simp at e1
 have tot:∀ {x y:j5},x∈l.map Entry.card->y∈e.map Entry.card->(I7 x.stamp y.stamp < 0\/I7 y.stamp x.stamp < 0):=fun {x y} hx hy=>by
  have:=ne hx hy
  rw [a0c,a0c]
  rcases Int.lt_trichotomy x.stamp.t y.stamp.t with h | h | h
  · exact .inl (.inl h)
  · rcases Int.lt_trichotomy x.stamp.n y.stamp.n with h' | h' | h'
    · exact .inl (.inr ⟨h,.inl h'⟩)
    · rcases Int.lt_trichotomy x.stamp.node y.stamp.node with h3 | h3 | h3
      · exact .inl (.inr ⟨h,.inr ⟨h',h3⟩⟩)
      · exfalso
        apply this
        cases hx':x.stamp; cases hy':y.stamp
        rw [hx',hy'] at h h' h3
        simp only at h h' h3
        simp [h,h',h3]
      · exact .inr (.inr ⟨h.symm,.inr ⟨h'.symm,h3⟩⟩)
    · exact .inr (.inr ⟨h.symm,.inl h'⟩)
  · exact .inr (.inl h)
 have k1:=a0D (now:=w9 now) (E5 (e.map Entry.card) (l.map Entry.card)) (l,al,[],0) (fun c hc=>by
  obtain ⟨a,ha,rfl⟩:=List.mem_map.1 ((aQ sl).1 hc).1
  exact (r2 a ha).1) ((vN se _).imp fun h=>yM h) (fun c hc x hx hk=>((aQ sl).1 hc).2 x.card (List.mem_map_of_mem hx) hk) hl (by have:=gJ (e.map Entry.card) (l.map Entry.card); rw [List.length_map] at this; show l.length+_<=32; omega)
 have k2:=a0D (now:=w9 now') (E5 (l.map Entry.card) (e.map Entry.card)) (e,al',[],0) (fun c hc=>by
  obtain ⟨a,ha,rfl⟩:=List.mem_map.1 ((aQ se).1 hc).1
  exact (r1 a ha).1) ((vN sl _).imp fun h=>yM h) (fun c hc x hx hk=>((aQ se).1 hc).2 x.card (List.mem_map_of_mem hx) hk) he (by have:=gJ (l.map Entry.card) (e.map Entry.card); rw [List.length_map] at this; show e.length+_<=32; omega)
 unfold H6
 refine a0Y (fV k1.1) (fV k2.1) fun x=>?_
 rw [k1.2 x,k2.2 x]
 simp only
 -- of a card of either: it is the later one of its key
 have one:∀ {a b:l9C},R5 a->R5 b->(∀ {x y:j5},x∈a->y∈b->(I7 x.stamp y.stamp < 0\/I7 y.stamp x.stamp < 0))->∀ x,(x∈E5 b a\/(x∈a/\∀ c∈E5 b a,c.key≠x.key))->(x∈E5 a b\/(x∈b/\∀ c∈E5 a b,c.key≠x.key)):=by
  intro a b sa sb tot x hx
  rcases hx with hx | ⟨hx,hn⟩
  · obtain ⟨h3,h4⟩:=(aQ sa).1 hx
    refine .inr ⟨h3,fun c hc hk=>?_⟩
    obtain ⟨h5,h6⟩:=(aQ sb).1 hc
    exact a7H (h6 x h3 hk.symm) (h4 c h5 hk)
  · refine .inl ((aQ sb).2 ⟨hx,fun d hd hk=>?_⟩)
    rcases tot hx hd with h | h
    · exfalso
      refine hn d ((aQ sa).2 ⟨hd,fun c hc hk'=>?_⟩) hk
      have:c=x:=sa.inj hc hx (hk'.trans hk)
      rw [this]; exact h
    · exact h
 exact ⟨one sl se tot x,one se sl (fun hx hy=>(tot hy hx).symm) x⟩
def oJ (f:Int) (cs:List j5):List y5:=if cs.length=0 then [] else [⟨f,u7 cs⟩]
def U2 (nd p:Int) (s:SS) (f:Int) (q:Msg):List y5 :=
 if I8 q=true then
  if q.kind=1 then [⟨f,(hdD nd s.d q s.now).m⟩]
  else if q.kind=4 then bC f (N9 (List.map Entry.card s.d.l) q.cards) (O1 (List.map Entry.card s.d.l) q.cards)
  else if q.kind=5 then oJ f (aA (List.map Entry.card s.d.l) q.keys)
  else []
 else []
theorem tV (nd p:Int) (s:SS) (f:Int) (q:Msg):(U2 nd p s f q).length<=2:=by
 have h1:∀ wk tk,(bC f wk tk).length<=2:=fun wk tk=>by unfold bC; rw [List.length_append]; split <;> split <;> simp
 have h2:∀ cs,(oJ f cs).length<=2:=fun cs=>by unfold oJ; split <;> simp
 unfold U2
 split
 · split
   · simp
   · split
     · exact h1 _ _
     · split
       · exact h2 _
       · simp
 · simp
abbrev Prs:=SS × SS × List y5 × Nat
def prS (t:Prs):Prs :=
 if ((nth t.2.2.1 0).to == 0)=true then (l6 0 1 t.1 (nth t.2.2.1 0).m,t.2.1,List.drop 1 t.2.2.1++U2 0 1 t.1 1 (nth t.2.2.1 0).m,t.2.2.2+1)
 else (t.1,l6 1 0 t.2.1 (nth t.2.2.1 0).m,List.drop 1 t.2.2.1++U2 1 0 t.2.1 0 (nth t.2.2.1 0).m,t.2.2.2+1)
def prF:Nat->Prs->Prs
 | 0,t=>t
 | r+1,t=>if t.2.2.1.length=0 then t else prF r (prS t)
theorem yF (r:Nat) (t:Prs) (h:t.2.2.1=[]):prF r t=t:=by
 cases r with
 | zero=>rfl
 | succ r=>unfold prF; rw [if_pos (by rw [h]; rfl)]
theorem kJ (r:Nat) (s p:SS) (x:y5) (us:List y5) (g:Nat):prF (r+1) (s,p,x :: us,g)=prF r (prS (s,p,x :: us,g)):=by
 show (if (x :: us).length=0 then _ else _)=_
 rw [if_neg yf_]
theorem rO {n:Nat} {b nd p:Int} {s:SS} {q:Msg} (h:SSI n b s):SSI (n+65) b (l6 nd p s q):=by
 unfold l6
 have hm:SSI (n+65) b s:=⟨h.d.mono ya_,h.hn,h.hn2,h.hq,h.hs0,h.hs1⟩
 cases hr:I8 q with
 | false=>rw [if_neg yf_]; exact hm
 | true =>
  rw [if_pos rfl]
  obtain ⟨b1,b2,b3,b4⟩:=a5L hr
  split
  · exact ⟨(h.d.hd nd q s.now).mono ya_,h.hn,h.hn2,c4Y _ _ _ _ _ h.hq,h.hs0,h.hs1⟩
  · split
    · have key:∀ (cs:l9C) (t:l9E × l9K × l9C × Nat),Y7 t.1->t.1.length<=32->Y7 (cs.foldl (O8 (w9 s.now)) t).1/\(cs.foldl (O8 (w9 s.now)) t).1.length<=32:=by
       intro cs
       induction cs with
       | nil=>intro t h1 h2; exact ⟨h1,h2⟩
       | cons c cs ih =>
        intro t h1 h2
        rw [List.foldl_cons]
        refine ih _ ?_ ?_
        · unfold O8
          split
          · split
            · split
              · exact fD h1 _
              · exact h1
            · exact fD h1 _
          · exact h1
        · unfold O8
          split
          · split
            · split
              · exact yE _ h2
              · exact h2
            · exact yE _ h2
          · exact h2
      have hi:=wL s.now q.cards s.d.l s.d.al
      have hk:=key q.cards (s.d.l,s.d.al,[],0) h.d.srt h.d.len
      have ha:=h.d.al
      exact ⟨⟨hk.1,hk.2,by show (H6 s.now q.cards s.d.l s.d.al).2.1.length<=n+65; omega,h.d.g0,h.d.g1⟩,h.hn,h.hn2,h.hq,h.hs0,h.hs1⟩
    · exact hm
theorem SSI.rc {n:Nat} {b:Int} {s:SS} (h:SSI n b s) (hn:n < 90000):a7A s:=⟨h.d.len,Nat.lt_of_le_of_lt h.d.al hn,h.d.g0,h.d.g1,h.hq⟩
theorem lG {cs:l9C} (h:∀ c∈cs,F8 c=true) (hl:cs.length<=64):I8 (u7 cs)=true:=by
 have e:cs.all F8=true:=List.all_eq_true.2 h
 with_unfolding_all unfold I8
 rw [show (u7 cs).cards=cs from rfl,e,decide_eq_true hl]
 with_unfolding_all rfl
theorem a1O {cs:l9C} (h:∀ c∈cs,F8 c=true) (hl:cs.length<=64):I8 (bE cs)=true:=by
 have e:cs.all F8=true:=List.all_eq_true.2 h
 with_unfolding_all unfold I8
 rw [show (bE cs).cards=cs from rfl,e,decide_eq_true hl]
 with_unfolding_all rfl
theorem zJ {cs:l9C} (h:∀ c∈cs,F8 c=true) (hl:cs.length<=64):I8 (gG (I6 cs))=true:=by
 have e:(I6 cs).all L9=true:=List.all_eq_true.2 fun k hk=>by
  obtain ⟨c,hc,rfl⟩:=List.mem_map.1 hk
  have:=h c hc
  with_unfolding_all unfold F8 at this
  unfold L9
  simp only [Bool.and_eq_true] at this ⊢
  exact ⟨this.1,this.2.1⟩
 with_unfolding_all unfold I8
 rw [show (gG (I6 cs)).keys=I6 cs from rfl,e,decide_eq_true (show (I6 cs).length<=64 by rw [wI]; exact hl)]
 with_unfolding_all rfl
attribute [local irreducible] I8
theorem a3x {nd p:Int} {s:SS} {q:Msg} (hr:I8 q=true) (h:q.kind=4\/q.kind=5):l6 nd p s q=s:=by
 unfold l6; rw [if_pos hr,if_neg ya_,if_neg ya_]
theorem vZ {nd p:Int} {s:SS} {q:Msg} (hr:I8 q=true) (h:q.kind=3):(l6 nd p s q).d.l=(H6 s.now q.cards s.d.l s.d.al).1:=by
 unfold l6; rw [if_pos hr,if_neg ya_,if_pos h]
theorem b0w {nd p:Int} {s:SS} {q:Msg} (hr:I8 q=true) (h:q.kind=3):(l6 nd p s q).ql=s.ql:=by
 unfold l6; rw [if_pos hr,if_neg ya_,if_pos h]
theorem b9c {nd p f:Int} {s:SS} {q:Msg} (hr:I8 q=true) (h:q.kind=4):U2 nd p s f q=bC f (N9 (List.map Entry.card s.d.l) q.cards) (O1 (List.map Entry.card s.d.l) q.cards):=by
 unfold U2; rw [if_pos hr,if_neg ya_,if_pos h]
theorem b4u {nd p f:Int} {s:SS} {q:Msg} (hr:I8 q=true) (h:q.kind=5):U2 nd p s f q=oJ f (aA (List.map Entry.card s.d.l) q.keys):=by
 unfold U2; rw [if_pos hr,if_neg ya_,if_neg ya_,if_pos h]
theorem a3y {nd p f:Int} {s:SS} {q:Msg} (hr:I8 q=true) (h:q.kind=3):U2 nd p s f q=[]:=by
 unfold U2; rw [if_pos hr,if_neg ya_,if_neg ya_,if_neg ya_]
structure PrI (nd:Int) (s:SS):Prop where
 srt:Y7 s.d.l
 len:s.d.l.length<=9
 r:∀ x∈s.d.l,F8 x.card=true/\x.card.stamp.node=nd
theorem wK (now:Int) (l:l9E) (al:l9K):(H6 now [] l al).1=l:=rfl
attribute [local irreducible] H6 dJ dK
theorem b9f {s p:SS} (hs:PrI 0 s) (hp:PrI 1 p) (g:Nat):(prF 20 (s,p,[⟨1,bE (R8 (s.d.l.map Entry.card))⟩],g)).2.2.1=[] /\
 (prF 20 (s,p,[⟨1,bE (R8 (s.d.l.map Entry.card))⟩],g)).1.d.l.map Entry.card=(prF 20 (s,p,[⟨1,bE (R8 (s.d.l.map Entry.card))⟩],g)).2.1.d.l.map Entry.card:=by
 have sl:R5 (s.d.l.map Entry.card):=fV hs.srt
 have se:R5 (p.d.l.map Entry.card):=fV hp.srt
 have rl:∀ c∈s.d.l.map Entry.card,F8 c=true:=fun c hc=>by obtain ⟨x,hx,rfl⟩:=List.mem_map.1 hc; exact (hs.r x hx).1
 have re:∀ c∈p.d.l.map Entry.card,F8 c=true:=fun c hc=>by obtain ⟨x,hx,rfl⟩:=List.mem_map.1 hc; exact (hp.r x hx).1
 have nl:(s.d.l.map Entry.card).length<=64:=by rw [List.length_map]; have:=hs.len; omega
 have ne:(p.d.l.map Entry.card).length<=64:=by rw [List.length_map]; have:=hp.len; omega
 have same:=b4K (now:=s.now) (now':=p.now) (al:=s.d.al) (al':=p.d.al) hs.srt hp.srt hs.len hp.len hs.r hp.r
 rw [a8y sl nl]
 have hwk:=a4Z se sl
 have htk:=a5d se sl
 have ra:∀ c∈E5 (s.d.l.map Entry.card) (p.d.l.map Entry.card),F8 c=true:=fun c hc=>rl c ((aQ se).1 hc).1
 have rb:∀ c∈E5 (p.d.l.map Entry.card) (s.d.l.map Entry.card),F8 c=true:=fun c hc=>re c ((aQ sl).1 hc).1
 have la:(E5 (s.d.l.map Entry.card) (p.d.l.map Entry.card)).length<=64:=Nat.le_trans (gJ _ _) nl
 have lb:(E5 (p.d.l.map Entry.card) (s.d.l.map Entry.card)).length<=64:=Nat.le_trans (gJ _ _) ne
 have hans:aA (s.d.l.map Entry.card) (I6 (E5 (s.d.l.map Entry.card) (p.d.l.map Entry.card)))=E5 (s.d.l.map Entry.card) (p.d.l.map Entry.card):=a3e sl List.filter_sublist
 generalize hA:E5 (s.d.l.map Entry.card) (p.d.l.map Entry.card)=A at *
 generalize hB:E5 (p.d.l.map Entry.card) (s.d.l.map Entry.card)=B at *
 have kl:(I6 A).length=A.length:=wI A
 -- the digest
 have e1:prS (s,p,[⟨1,bE (s.d.l.map Entry.card)⟩],g)=(s,p,bC 0 (I6 A) B,g+1):=by
  have f1:l6 1 0 p (bE (s.d.l.map Entry.card))=p:=a3x (a1O rl nl) (.inl rfl)
  have f2:U2 1 0 p 0 (bE (s.d.l.map Entry.card))=bC 0 (I6 A) B:=by rw [b9c (a1O rl nl) rfl,show (bE (s.d.l.map Entry.card)).cards=s.d.l.map Entry.card from rfl,hwk,htk]
  show (s,l6 1 0 p (bE (s.d.l.map Entry.card)),[]++U2 1 0 p 0 (bE (s.d.l.map Entry.card)),g+1)=_
  rw [f1,f2]; rfl
 have ePull:∀ (p':SS) (us:List y5) (g:Nat),A.length≠0->prS (s,p',⟨0,gG (I6 A)⟩ :: us,g)=(s,p',us++[⟨1,u7 A⟩],g+1):=fun p' us g ha=>by
  have f1:l6 0 1 s (gG (I6 A))=s:=a3x (zJ ra la) (.inr rfl)
  have f2:U2 0 1 s 1 (gG (I6 A))=[⟨1,u7 A⟩]:=by
   rw [b4u (zJ ra la) rfl,show (gG (I6 A)).keys=I6 A from rfl,hans]
   unfold oJ; rw [if_neg ha]
  show (l6 0 1 s (gG (I6 A)),p',us++U2 0 1 s 1 (gG (I6 A)),g+1)=_
  rw [f1,f2]
 have ePushS:∀ (p':SS) (us:List y5) (g:Nat),prS (s,p',⟨0,u7 B⟩ :: us,g)=(l6 0 1 s (u7 B),p',us,g+1)/\(l6 0 1 s (u7 B)).d.l=(H6 s.now B s.d.l s.d.al).1:=fun p' us g=>by
  have f2:U2 0 1 s 1 (u7 B)=[]:=a3y (lG rb lb) rfl
  refine ⟨?_,?_⟩
  · show (l6 0 1 s (u7 B),p',us++U2 0 1 s 1 (u7 B),g+1)=_
    rw [f2,List.append_nil]
  · exact vZ (lG rb lb) rfl
 have ePushP:∀ (s':SS) (us:List y5) (g:Nat),prS (s',p,⟨1,u7 A⟩ :: us,g)=(s',l6 1 0 p (u7 A),us,g+1)/\(l6 1 0 p (u7 A)).d.l=(H6 p.now A p.d.l p.d.al).1:=fun s' us g=>by
  have f2:U2 1 0 p 0 (u7 A)=[]:=a3y (lG ra la) rfl
  refine ⟨?_,?_⟩
  · show (s',l6 1 0 p (u7 A),us++U2 1 0 p 0 (u7 A),g+1)=_
    rw [f2,List.append_nil]
  · exact vZ (lG ra la) rfl
 rw [kJ,e1]
 by_cases ha:A.length=0
 · obtain rfl:A=[]:=List.eq_nil_of_length_eq_zero ha
   rw [wK] at same
   by_cases hb:B.length=0
   · obtain rfl:B=[]:=List.eq_nil_of_length_eq_zero hb
     rw [wK] at same
     rw [yF _ _ rfl]
     exact ⟨rfl,same⟩
   · have ec:bC 0 (I6 []) B=[⟨0,u7 B⟩]:=by unfold bC; rw [if_pos (show (I6 []).length=0 from rfl),if_neg hb]; rfl
     rw [ec,kJ,(ePushS p [] (g+1)).1,yF _ _ rfl]
     exact ⟨rfl,by show (l6 0 1 s (u7 B)).d.l.map Entry.card=_; rw [(ePushS p [] (g+1)).2]; exact same⟩
 · by_cases hb:B.length=0
   · obtain rfl:B=[]:=List.eq_nil_of_length_eq_zero hb
     rw [wK] at same
     have ec:bC 0 (I6 A) []=[⟨0,gG (I6 A)⟩]:=by unfold bC; rw [if_neg ya_,if_pos (show ([]:l9C).length=0 from rfl)]; rfl
     rw [ec,kJ,ePull p [] (g+1) ha,List.nil_append,kJ,(ePushP s [] (g+1+1)).1,yF _ _ rfl]
     exact ⟨rfl,by show _=(l6 1 0 p (u7 A)).d.l.map Entry.card; rw [(ePushP s [] (g+1+1)).2]; exact same⟩
   · have ec:bC 0 (I6 A) B=[⟨0,gG (I6 A)⟩,⟨0,u7 B⟩]:=by unfold bC; rw [if_neg ya_,if_neg hb]; rfl
     rw [ec,kJ,ePull p _ (g+1) ha,List.singleton_append,kJ,(ePushS p _ (g+1+1)).1,kJ,(ePushP _ [] (g+1+1+1)).1,yF _ _ rfl]
     refine ⟨rfl,?_⟩
     show (l6 0 1 s (u7 B)).d.l.map Entry.card=(l6 1 0 p (u7 A)).d.l.map Entry.card
     rw [(ePushP s [] g).2,(ePushS p [] g).2]
     exact same
end Go.Proofs.YtmghjcbabebanaaGreat.AM
namespace Go.Proofs.YtmghjcbabebanaaGreat.AM
open Go Go.Proofs.YtmghjcbabebanaaGreat
attribute [local irreducible] D7 G7 H6 I8 J4 N9 O1 R8 U2 aA bC dH dJ dK hdD j6 l6 l7 l9 oJ qA qV tkM w9
theorem a1s (nd p:Int) (s:SS) (f:Int) (q:Msg) (h:a7A s) (hs:Y7 s.d.l):AC 10 [(oO 11 0 0 0),(iI f),(AV.agg (Msg.row q))] [(o_ 0 2 [[(iI (p9 32)),(AV.osl 1 s.d.g 10 0 (List.length s.d.l))]]),(o_ s.d.g 10 (mE s.d.l)),(o_ 0 3 [[(iI s.d.gf),(iI s.d.gl),(iI s.d.gt)]]),(o_ 0 2 [[(iN ((List.length s.d.al))),(AV.osl 4 s.d.ga 2 0 (List.length (l5 s.d.al)))]]),(o_ s.d.ga 2 (mK (l5 s.d.al))),(o_ 0 7 [[(iI nd),(iI s.d.st.t),(iI s.d.st.node),(iI s.d.st.n),(oO 0 0 0 0),(oO 2 0 0 0),(oO 3 0 0 0)]]),(o_ 0 3 [[(AV.osl 7 0 1 0 1),(AV.osl 8 0 1 0 1),(iI s.lost)]]),(o_ 0 1 (List.map x9 [p])),(o_ 0 1 [[(AV.osl 9 s.qg 9 0 (List.length s.ql))]]),(o_ s.qg 9 (mC s.ql)),(o_ 1 1 []),(o_ 0 6 [[(iI s.now),(iI s.swept),(sA 1 [[(iI p)]]),z_,(oO 5 0 0 0),(oO 6 0 0 0)]])] ((sA 14 (List.map y5.row (U2 nd p s f q))),[(o_ 0 2 [[(iI (p9 32)),(AV.osl 1 (l6 nd p s q).d.g 10 0 (List.length (l6 nd p s q).d.l))]]),(o_ ((l6 nd p s q).d.g) 10 (mE (l6 nd p s q).d.l)),(o_ 0 3 [[(iI (l6 nd p s q).d.gf),(iI (l6 nd p s q).d.gl),(iI (l6 nd p s q).d.gt)]]),(o_ 0 2 [[(iN ((List.length (l6 nd p s q).d.al))),(AV.osl 4 (l6 nd p s q).d.ga 2 0 (List.length (l5 (l6 nd p s q).d.al)))]]),(o_ ((l6 nd p s q).d.ga) 2 (mK (l5 (l6 nd p s q).d.al))),(o_ 0 7 [[(iI nd),(iI (l6 nd p s q).d.st.t),(iI (l6 nd p s q).d.st.node),(iI (l6 nd p s q).d.st.n),(oO 0 0 0 0),(oO 2 0 0 0),(oO 3 0 0 0)]]),(o_ 0 3 [[(AV.osl 7 0 1 0 1),(AV.osl 8 0 1 0 1),(iI (l6 nd p s q).lost)]]),(o_ 0 1 (List.map x9 [p])),(o_ 0 1 [[(AV.osl 9 (l6 nd p s q).qg 9 0 (List.length (l6 nd p s q).ql))]]),(o_ ((l6 nd p s q).qg) 9 (mC (l6 nd p s q).ql)),(o_ 1 1 []),(o_ 0 6 [[(iI (l6 nd p s q).now),(iI (l6 nd p s q).swept),(sA 1 [[(iI p)]]),z_,(oO 5 0 0 0),(oO 6 0 0 0)]])]):=by
 obtain ⟨h1,h2,h3,h4,h5⟩:=h
 with_unfolding_all
  unfold l6 U2
  cases hr:I8 q with
  | false=>exact (a1u nd p s f q hr).post ⟨rfl,rfl,.inr rfl⟩
  | true =>
   obtain ⟨b1,b2,b3,b4⟩:=a5L hr
   rw [if_pos rfl,if_pos rfl]
   by_cases k1:q.kind=1
   · rw [if_pos k1,if_pos k1]
     have hc:=a6e nd s.d q s.now hs h1 h3 h4
     exact (tX nd p s f q hr k1 ow ow ⟨h3,by omega⟩ h5 ow).post ⟨rfl,rfl,.inl rfl⟩
   rw [if_neg k1,if_neg k1]
   by_cases k3:q.kind=3
   · rw [if_pos k3,if_neg ow,if_neg ow]
     exact (zG nd p s f q hr k3 ow ow).post ⟨rfl,rfl,.inr rfl⟩
   rw [if_neg k3]
   by_cases k2:q.kind=2
   · rw [if_neg ow,if_neg ow]
     exact (a1v nd p s f q hr k2).post ⟨rfl,rfl,.inr rfl⟩
   by_cases k4:q.kind=4
   · rw [if_pos k4]
     exact a1t nd p s f q hr k4 ow ow
   · rw [if_neg k4,if_pos ow]
     have h:=zH nd p s f q hr ow ow ow
     unfold J4 at h
     unfold oJ
     split
     · rename_i h0; rw [if_pos h0] at h; exact h
     · rename_i h0
       rw [if_neg h0] at h
       refine h.kK rfl fun i hi=>?_
       obtain rfl:i=0:=by simp at hi; omega
       exact a0k f _
@[simp] abbrev c1v (a:SS) (b:Int) (c:Int):Heap:=[jW a,(o_ a.d.g 10 (mE a.d.l)),bN a,jV a,bV a,(o_ 0 7 (c0M b a)),gM a,(o_ 0 1 (List.map x9 [c])),gL a,(o_ a.qg 9 (mC a.ql)),(o_ 1 1 []),(o_ 0 6 (b2e a c))]
theorem b8x (nd p:Int) (s:SS) (hn:s.now=0) (hq:s.ql=[]):(tkM nd p 15 0 s).2.1=[A9.mk p (a0K (R8 (List.map Entry.card s.d.l)))]/\(tkM nd p 15 0 s).1.d.l=s.d.l/\(∀ n b,SSI n b s->SSI n (b+15) (tkM nd p 15 0 s).1):=by
 have key:=kR (sV nd p 15 0) (fun i t=>t.1.now=(i:Int)/\t.1.ql=[]/\t.1.d.l=s.d.l/\t.2.1=(if i=15 then [A9.mk p (a0K (R8 (List.map Entry.card s.d.l)))] else [])/\(∀ n b,SSI n b s->SSI n (b+(i:Int)) t.1)) 15 (fun i t hi ⟨h1,h2,h3,h4,h5⟩=>by
  have e:(sV nd p 15 0 i t).1=J9 t.1:=rfl
  have e2:(sV nd p 15 0 i t).2.1=t.2.1++bZ p t.1:=rfl
  rw [e,e2]
  have hp:bZ p t.1=if i=14 then [A9.mk p (a0K (R8 (List.map Entry.card s.d.l)))] else []:=by
   with_unfolding_all unfold bZ
   have hq0:J4 p (V7 t.1.ql)=[]:=by rw [h2]; with_unfolding_all rfl
   rw [hq0,List.append_nil,h1,h3]
   have hm:Int.tmod ((i:Int)+1) 15=((i:Int)+1) % 15:=Int.tmod_eq_emod_of_nonneg ow
   rw [hm]
   by_cases h14:i=14
   · subst h14; rfl
   · rw [if_neg yh_,if_neg h14]
  refine ⟨?_,?_,?_,?_,?_⟩
  · rw [oD,h1]; omega
  · have:=a5f t.1; rw [h2] at this; exact List.eq_nil_of_length_eq_zero (by simpa using this)
  · rw [b3R,h3]
  · rw [h4,hp,if_neg ow,List.nil_append]
    by_cases h14:i=14
    · rw [if_pos h14,if_pos ow]
    · rw [if_neg h14,if_neg ow]
  · intro n b hI
    have h:=h5 n b hI
    have hq':=a5f t.1
    have h2':=h.hq
    have hn':=h.hn
    have hb':=h.hn2
    refine ⟨?_,?_,?_,by omega,?_,?_⟩
    · have:=c4W h.d t.1.now; with_unfolding_all exact this
    · rw [oD]; omega
    · rw [oD]; omega
    · have:=h.hs0; with_unfolding_all exact this
    · have h6:(J9 t.1).swept=t.1.swept:=by with_unfolding_all rfl
      have:=h.hs1; rw [oD,h6]; omega) 15 0 (s,[],0,0) ow ⟨hn,hq,rfl,by simp,fun n b h=>by simpa using h⟩
 simp only [Nat.zero_add] at key
 with_unfolding_all unfold tkM
 exact ⟨by rw [key.2.2.2.1]; rfl,key.2.2.1,key.2.2.2.2⟩
theorem a7E (nd p:Int) (s:SS) (hn:s.now=0) (hq:s.ql=[]) (hl:s.d.l.length<=32):AC 11 [(oO 11 0 0 0),(iI 15)] [(o_ 0 2 [[(iI (p9 32)),(AV.osl 1 s.d.g 10 0 (List.length s.d.l))]]),(o_ s.d.g 10 (mE s.d.l)),(o_ 0 3 [[(iI s.d.gf),(iI s.d.gl),(iI s.d.gt)]]),(o_ 0 2 [[(iN ((List.length s.d.al))),(AV.osl 4 s.d.ga 2 0 (List.length (l5 s.d.al)))]]),(o_ s.d.ga 2 (mK (l5 s.d.al))),(o_ 0 7 [[(iI nd),(iI s.d.st.t),(iI s.d.st.node),(iI s.d.st.n),(oO 0 0 0 0),(oO 2 0 0 0),(oO 3 0 0 0)]]),(o_ 0 3 [[(AV.osl 7 0 1 0 1),(AV.osl 8 0 1 0 1),(iI s.lost)]]),(o_ 0 1 (List.map x9 [p])),(o_ 0 1 [[(AV.osl 9 s.qg 9 0 (List.length s.ql))]]),(o_ s.qg 9 (mC s.ql)),(o_ 1 1 []),(o_ 0 6 [[(iI s.now),(iI s.swept),(sA 1 [[(iI p)]]),z_,(oO 5 0 0 0),(oO 6 0 0 0)]])] ((sA 14 [(y5.row (y5.mk p (bE (R8 (List.map Entry.card s.d.l)))))]),[(o_ 0 2 [[(iI (p9 32)),(AV.osl 1 (tkM nd p 15 0 s).1.d.g 10 0 (List.length (tkM nd p 15 0 s).1.d.l))]]),(o_ ((tkM nd p 15 0 s).1.d.g) 10 (mE (tkM nd p 15 0 s).1.d.l)),(o_ 0 3 [[(iI (tkM nd p 15 0 s).1.d.gf),(iI (tkM nd p 15 0 s).1.d.gl),(iI (tkM nd p 15 0 s).1.d.gt)]]),(o_ 0 2 [[(iN ((List.length (tkM nd p 15 0 s).1.d.al))),(AV.osl 4 (tkM nd p 15 0 s).1.d.ga 2 0 (List.length (l5 (tkM nd p 15 0 s).1.d.al)))]]),(o_ ((tkM nd p 15 0 s).1.d.ga) 2 (mK (l5 (tkM nd p 15 0 s).1.d.al))),(o_ 0 7 [[(iI nd),(iI (tkM nd p 15 0 s).1.d.st.t),(iI (tkM nd p 15 0 s).1.d.st.node),(iI (tkM nd p 15 0 s).1.d.st.n),(oO 0 0 0 0),(oO 2 0 0 0),(oO 3 0 0 0)]]),(o_ 0 3 [[(AV.osl 7 0 1 0 1),(AV.osl 8 0 1 0 1),(iI (tkM nd p 15 0 s).1.lost)]]),(o_ 0 1 (List.map x9 [p])),(o_ 0 1 [[(AV.osl 9 (tkM nd p 15 0 s).1.qg 9 0 (List.length (tkM nd p 15 0 s).1.ql))]]),(o_ ((tkM nd p 15 0 s).1.qg) 9 (mC (tkM nd p 15 0 s).1.ql)),(o_ 1 1 []),(o_ 0 6 [[(iI (tkM nd p 15 0 s).1.now),(iI (tkM nd p 15 0 s).1.swept),(sA 1 [[(iI p)]]),z_,(oO 5 0 0 0),(oO 6 0 0 0)]])]):=by
 have h:=qI nd p 15 0 s ow E9 ow ow hn (by rw [hq]; simp) hl
 rw [(b8x nd p s hn hq).1] at h
 refine h.kK rfl fun i hi=>?_
 obtain rfl:i=0:=by simp at hi; omega
 with_unfolding_all simp [A9.row,y5.row,a0K,bE,AV.wks,AV.wk,Tg.le]
attribute [local irreducible] Tp.card Tp.G8 Tp.next Tp.step Tp.key Tp.keyT
theorem c4O (t:Tp) (n:Nat):t.cards (n+1)=t.card :: t.G8.cards n:=rfl
theorem c1h (t:Tp) (n:Nat):t.F9 (n+1)=t.G8.F9 n:=rfl
theorem c4P (t:Tp):t.cards 0=[]:=rfl
theorem c1i (t:Tp):t.F9 0=t:=rfl
attribute [local irreducible] Tp.cards Tp.F9
def uS:Ann:={ gha:=[(1,.vir 5 9)],base:=1,fin:=some 2,live:=[(3,[0,5,6])],out:=[(3,[0,5,6])] }
@[simp] abbrev c5V (a:Tp) (b:Nat) (c:l9C):Heap:=[(o_ 0 2 [(Tp.row a.G8)]),(o_ (b+1) 9 (mC (c++[a.card])))]
@[simp] abbrev c5U (a:Nat) (b:Nat) (c:Nat):Fr:=(mkF 21 [(0,(oO 0 0 0 0)),(5,(AV.osl 1 a 9 0 b)),(6,(iN c))])
@[simp] abbrev c1u (a:Tp) (b:Nat) (c:l9C):Heap:=[(o_ 0 2 [(Tp.row a)]),(o_ b 9 (mC c))]
@[simp] abbrev c5T (a:Tp) (b:Nat) (c:l9C):Heap:=[(o_ 0 2 [(Tp.row a.G8)]),(o_ b 9 (mC c))]
@[simp] abbrev c0K :=(l9 Tryz.prog (X uS) (y7 Tryz.f15 0))
theorem zV (t:Tp) (g m n:Nat) (out:l9C) (hl:t.l.length < 9223372036854775808) (hm:m=out.length) (hb:m < 1099511627776) (hn:n < 1099511627776) {eX:Ex} {FX:Fr} {HX:Heap} (k1:(decide ((n:Int) > 0))=true->l7 c0K (some [0,5,6]) (some [0,5,6]) (mkF 21 [(0,(oO 0 0 0 0)),(5,(AV.osl 1 (g+1) 9 0 (m+1))),(6,(iN (n - 1)))]) (c5V t g out) eX FX HX) (k2:(decide ((n:Int) > 0))=false->((.exit 0:Ex),(c5U g m n),(c1u t g out))=(eX,FX,HX)):l7 c0K (some [0,5,6]) (some [0,5,6]) (c5U g m n) (c1u t g out) eX FX HX :=
 K7 (.r (.g (.two (decide ((n:Int) > 0)) (fun h1 h1'=>(.r (.ch 2 (c5T t g out) (j6.put2 [0] (c1u t g out) (AV.agg (j5.row t.card)) (c5T t g out) (a9L t oa) (⟨rfl,trivial⟩) (⟨rfl,trivial⟩)) (.ap 4 30 (AV.osl 1 g 9 0 m) (AV.sl .clip 9 [(j5.row t.card)]) (AV.osl 1 (g+1) 9 0 (m+1)) (c5V t g out) (K3 (row:=j5.row) (l:=out) (x:=t.card) (T:=tt) (e:=50) (te:=bP) (z:=1) (b:=24) (y:=[.sl .nil 0 []]) kr kr rfl E9 E9 kr fB rfl rfl iV) (.s (.y 1 (.int .i64 (cj_ n)) (iN (n - 1)) Yes.o (.g (.l (k1 h1))))))))) (fun h1 h1'=>(.l (k2 h1))))))
theorem a8Q (n:Nat):∀ (t:Tp) (g m:Nat) (out:l9C) (gF mF:Nat) (outF:l9C) (tF:Tp),t.l.length < 9223372036854775808->m=out.length->m+n < 1099511627776->gF=g+n->mF=m+n->outF=out++t.cards n->tF=t.F9 n ->
 l7 (l9 Tryz.prog (X uS) (y7 Tryz.f15 0)) (some [0,5,6]) (some [0,5,6]) (mkF 21 [(0,(oO 0 0 0 0)),(5,(AV.osl 1 g 9 0 m)),(6,(iN n))]) [(o_ 0 2 [(Tp.row t)]),(o_ g 9 (mC out))] (.exit 0) (mkF 21 [(0,(oO 0 0 0 0)),(5,(AV.osl 1 gF 9 0 mF)),(6,(iN 0))]) [(o_ 0 2 [(Tp.row tF)]),(o_ gF 9 (mC outF))]:=by
 induction n with
 | zero =>
  intro t g m out gF mF outF tF hl hm hb h1 h2 h3 h4
  refine zV t g m 0 out hl hm ow ow (fun h=>by simp at h) fun _=>?_
  have e1:outF=out:=by rw [h3,c4P,List.append_nil]
  have e2:tF=t:=by rw [h4,c1i]
  subst e1 e2 h1 h2
  rfl
 | succ n ih =>
  intro t g m out gF mF outF tF hl hm hb h1 h2 h3 h4
  refine zV t g m (n+1) out hl hm ow ow (fun _=>?_) fun h=>by simp at h
  exact ih t.G8 (g+1) (m+1) (out++[t.card]) gF mF outF tF (by rw [Tp.a3c]; exact hl) (by simp [hm]) ow ow ow (by rw [h3,c4O,List.append_assoc]; rfl) (by rw [h4,c1h])
@[simp] abbrev c7f (a:Tp) (b:Nat):Ob:=(o_ 0 2 [(Tp.row ((a.step (b+1)).F9 (a.next (b+1))))])
@[simp] abbrev c5S (a:Tp) (b:Nat):Heap:=[c7f a b,(o_ (a.next (b+1)) 9 (mC ((a.step (b+1)).cards (a.next (b+1)))))]
@[simp] abbrev c5R (a:Tp):Heap:=[(o_ 0 2 [(Tp.row a)]),(o_ 0 9 (mC []))]
@[simp] abbrev c1t (a:Tp) (b:Nat):Heap:=[(o_ 0 2 [(Tp.row (a.step (b+1)))]),(o_ 0 9 (mC []))]
@[simp] abbrev c0J (a:Tp) (b:Nat):=(AV.osl 1 (a.next (b+1)) 9 0 (a.next (b+1)))
@[simp] abbrev c5Q (a:Tp) (b:Nat):Fr:=(mkF 21 [(0,(oO 0 0 0 0)),(5,(c0J a b)),(6,(iN 0))])
theorem a8P (t:Tp) (n:Nat) (hl:t.l.length < 9223372036854775808) (hn:n < 1048576):AC 15 [(oO 0 0 0 0),(iN n)] [(o_ 0 2 [(Tp.row t)])] ((c0J t n),(c5S t n)):=by
 have hx:=t.next_lt (n+1) ow
 exact q9 (fn:=Tryz.f15) (ann:=uS) (Has.o Tryz.func15) (.r (.s (.s (.h' (c5R t) (.y 2 (.int .i64 (ca_ n)) (iN (n+1)) Yes.o (.ch 3 (c1t t n) (j6.put2 [0] (c5R t) (iN (t.next (n+1))) (c1t t n) (aO t (n+1) oa) (⟨rfl,trivial⟩) (⟨rfl,trivial⟩)) (.g (.loop (c5Q t n) (show l7 c0K (some [0,5,6]) (some [0,5,6]) (mkF 21 [(0,(oO 0 0 0 0)),(5,(AV.osl 1 0 9 0 0)),(6,(iN (t.next (n+1))))]) (c1t t n) (.exit 0) (c5Q t n) (c5S t n) from (a8Q (t.next (n+1)) (t.step (n+1)) 0 0 [] (t.next (n+1)) (t.next (n+1)) _ _ (by rw [Tp.rH]; exact hl) rfl ow ow ow yf_ rfl)) (.qr 2 (c0J t n))))))))))
def dR:Ann:={ own:=[113,137,143],gh:=[(19,.frz 9),(20,.frz 10),(40,.cut 0)],gha:=[(20,.cut 24),(23,.vir 13 14),(28,.cut 25),(31,.cut 25)],fin:=some 0,live:=[(8,[5,6,9,10,42,43]),(14,[5,6,9,10,59,60]),(25,[5,6,13,104,105,106]),(30,[5,6,13,16]),(41,[18,19,163,164])],out:=[(8,[5,6,9,10]),(14,[5,6,9,10]),(25,[5,6,13]),(30,[5,6,13]),(41,[18,19])] }
@[simp] abbrev a6J :=[[(iI (p9 32)),(AV.osl 1 (sv0 0).d.g 10 0 (List.length (sv0 0).d.l))]]
@[simp] abbrev nO :Ob:=(o_ 0 2 a6J)
@[simp] abbrev nN :Ob:=(o_ ((sv0 0).d.g) 10 (mE (sv0 0).d.l))
@[simp] abbrev a6I :=[[(iI (sv0 0).d.gf),(iI (sv0 0).d.gl),(iI (sv0 0).d.gt)]]
@[simp] abbrev jU :Ob:=(o_ 0 3 a6I)
@[simp] abbrev a6H :=[[(iN ((List.length (sv0 0).d.al))),(AV.osl 4 (sv0 0).d.ga 2 0 (List.length (l5 (sv0 0).d.al)))]]
@[simp] abbrev jT :Ob:=(o_ 0 2 a6H)
@[simp] abbrev jS :Ob:=(o_ ((sv0 0).d.ga) 2 (mK (l5 (sv0 0).d.al)))
@[simp] abbrev a6G :=[[z_,(iI (sv0 0).d.st.t),(iI (sv0 0).d.st.node),(iI (sv0 0).d.st.n),(oO 0 0 0 0),(oO 2 0 0 0),(oO 3 0 0 0)]]
@[simp] abbrev jR :Ob:=(o_ 0 7 a6G)
@[simp] abbrev a6F :=[[(AV.osl 7 0 1 0 1),(AV.osl 8 0 1 0 1),(iI (sv0 0).lost)]]
@[simp] abbrev jQ :Ob:=(o_ 0 3 a6F)
@[simp] abbrev a6E :=[[(AV.osl 9 (sv0 0).qg 9 0 (List.length (sv0 0).ql))]]
@[simp] abbrev jP :Ob:=(o_ 0 1 a6E)
@[simp] abbrev jO :Ob:=(o_ ((sv0 0).qg) 9 (mC (sv0 0).ql))
@[simp] abbrev a6D :=[[(iI (sv0 0).now),(iI (sv0 0).swept),(sA 1 [[(iI 1)]]),z_,(oO 5 0 0 0),(oO 6 0 0 0)]]
@[simp] abbrev jN :Ob:=(o_ 0 6 a6D)
@[simp] abbrev a2V :=[[(iI (p9 32)),(AV.osl 13 (sv0 1).d.g 10 0 (List.length (sv0 1).d.l))]]
@[simp] abbrev jM :Ob:=(o_ 0 2 a2V)
@[simp] abbrev fU :Ob:=(o_ ((sv0 1).d.g) 10 (mE (sv0 1).d.l))
@[simp] abbrev a2U :=[[(iI (sv0 1).d.gf),(iI (sv0 1).d.gl),(iI (sv0 1).d.gt)]]
@[simp] abbrev fQ :Ob:=(o_ 0 3 a2U)
@[simp] abbrev a2T :=[[(iN ((List.length (sv0 1).d.al))),(AV.osl 16 (sv0 1).d.ga 2 0 (List.length (l5 (sv0 1).d.al)))]]
@[simp] abbrev jL :Ob:=(o_ 0 2 a2T)
@[simp] abbrev fP :Ob:=(o_ ((sv0 1).d.ga) 2 (mK (l5 (sv0 1).d.al)))
@[simp] abbrev a2S :=[[(iI 1),(iI (sv0 1).d.st.t),(iI (sv0 1).d.st.node),(iI (sv0 1).d.st.n),(oO 12 0 0 0),(oO 14 0 0 0),(oO 15 0 0 0)]]
@[simp] abbrev jK :Ob:=(o_ 0 7 a2S)
@[simp] abbrev a2R :=[[(AV.osl 19 0 1 0 1),(AV.osl 20 0 1 0 1),(iI (sv0 1).lost)]]
@[simp] abbrev jJ :Ob:=(o_ 0 3 a2R)
@[simp] abbrev a2Q :=[[(AV.osl 21 (sv0 1).qg 9 0 (List.length (sv0 1).ql))]]
@[simp] abbrev jI :Ob:=(o_ 0 1 a2Q)
@[simp] abbrev fO :Ob:=(o_ ((sv0 1).qg) 9 (mC (sv0 1).ql))
@[simp] abbrev a2P :=[[(iI (sv0 1).now),(iI (sv0 1).swept),(sA 1 [[z_]]),z_,(oO 17 0 0 0),(oO 18 0 0 0)]]
@[simp] abbrev jH :Ob:=(o_ 0 6 a2P)
@[simp] abbrev c2L (a:Tp) (b:Tp) (c:Nat) (d:l9C) (e:Nat) (f:Nat) (g:l9C):Heap:=[nO,nN,jU,jT,jS,jR,jQ,(o_ 0 1 (List.map x9 [1])),jP,jO,(o_ 1 1 []),jN,jM,fU,fQ,jL,fP,jK,jJ,(o_ 0 1 (List.map x9 [0])),jI,fO,(o_ 1 1 []),jH,(o_ 0 2 [(Tp.row a)]),(o_ 0 2 [(Tp.row b)]),(o_ c 9 (mC ((d.set e (j5.mk (nth d e).key (nth d e).status (nth d e).over (nth d e).lease (l8.mk (nth d e).stamp.t 0 (nth d e).stamp.n) (nth d e).gone)).set e (j5.mk (nth (d.set e (j5.mk (nth d e).key (nth d e).status (nth d e).over (nth d e).lease (l8.mk (nth d e).stamp.t 0 (nth d e).stamp.n) (nth d e).gone)) e).key (nth (d.set e (j5.mk (nth d e).key (nth d e).status (nth d e).over (nth d e).lease (l8.mk (nth d e).stamp.t 0 (nth d e).stamp.n) (nth d e).gone)) e).status (nth (d.set e (j5.mk (nth d e).key (nth d e).status (nth d e).over (nth d e).lease (l8.mk (nth d e).stamp.t 0 (nth d e).stamp.n) (nth d e).gone)) e).over (nth (d.set e (j5.mk (nth d e).key (nth d e).status (nth d e).over (nth d e).lease (l8.mk (nth d e).stamp.t 0 (nth d e).stamp.n) (nth d e).gone)) e).lease (l8.mk (nth (d.set e (j5.mk (nth d e).key (nth d e).status (nth d e).over (nth d e).lease (l8.mk (nth d e).stamp.t 0 (nth d e).stamp.n) (nth d e).gone)) e).stamp.t (nth (d.set e (j5.mk (nth d e).key (nth d e).status (nth d e).over (nth d e).lease (l8.mk (nth d e).stamp.t 0 (nth d e).stamp.n) (nth d e).gone)) e).stamp.node (e:Int)) (nth (d.set e (j5.mk (nth d e).key (nth d e).status (nth d e).over (nth d e).lease (l8.mk (nth d e).stamp.t 0 (nth d e).stamp.n) (nth d e).gone)) e).gone)))),(o_ f 9 (mC g))]
@[simp] abbrev a4F (a:Nat) (b:Nat) (c:Nat) (d:Nat):Fr:=(mkF 178 [(5,(oO 11 0 0 0)),(6,(oO 23 0 0 0)),(9,(AV.osl 26 a 9 0 b)),(10,(AV.osl 27 c 9 0 d))])
@[simp] abbrev yU (a:Tp) (b:Tp) (c:Nat) (d:l9C) (e:Nat) (f:l9C):Heap:=[nO,nN,jU,jT,jS,jR,jQ,(o_ 0 1 (List.map x9 [1])),jP,jO,(o_ 1 1 []),jN,jM,fU,fQ,jL,fP,jK,jJ,(o_ 0 1 (List.map x9 [0])),jI,fO,(o_ 1 1 []),jH,(o_ 0 2 [(Tp.row a)]),(o_ 0 2 [(Tp.row b)]),(o_ c 9 (mC d)),(o_ e 9 (mC f))]
@[simp] abbrev c2K (a:Nat) (b:Nat) (c:Nat) (d:Nat) (e:Nat):Fr:=(mkF 178 [(5,(oO 11 0 0 0)),(6,(oO 23 0 0 0)),(9,(AV.osl 26 a 9 0 b)),(10,(AV.osl 27 c 9 0 d)),(42,(iN b)),(43,(iN e))])
theorem a5h (tx:Tp) (ty:Tp) (gx:Nat) (gy:Nat) (n:Nat) (q:Nat) (k:l9C) (l:l9C) (i:Nat) (hn:n < 1000) (hl:n=l.length) (hle_:i<=n) {eX:Ex} {FX:Fr} {HX:Heap} (k1:(decide ((i:Int) < (n:Int)))=true->l7 (l9 Tryz.prog (X dR) (y7 Tryz.f4 0)) (some [5,6,9,10,42,43]) (some [5,6,9,10]) (mkF 178 [(5,(oO 11 0 0 0)),(6,(oO 23 0 0 0)),(9,(AV.osl 26 gx 9 0 n)),(10,(AV.osl 27 gy 9 0 q)),(42,(iN n)),(43,(iN (i+1)))]) (c2L tx ty gx l i gy k) eX FX HX) (k2:(decide ((i:Int) < (n:Int)))=false->((.exit 0:Ex),(a4F gx n gy q),(yU tx ty gx l gy k))=(eX,FX,HX)):l7 (l9 Tryz.prog (X dR) (y7 Tryz.f4 0)) (some [5,6,9,10,42,43]) (some [5,6,9,10]) (c2K gx n gy q i) (yU tx ty gx l gy k) eX FX HX :=
 K7 (.r (.g (.two (decide ((i:Int) < (n:Int))) (fun h1 h1'=>(.r (.s (.io 2 26 gx 9 9 0 n (i:Int) i (G6.mk _ ow ow) (.st 5 26 gx i 1 6 z_ [(o_ 0 2 a6J),(o_ ((sv0 0).d.g) 10 (mE (sv0 0).d.l)),(o_ 0 3 a6I),(o_ 0 2 a6H),(o_ ((sv0 0).d.ga) 2 (mK (l5 (sv0 0).d.al))),(o_ 0 7 a6G),(o_ 0 3 a6F),(o_ 0 1 (List.map x9 [1])),(o_ 0 1 a6E),(o_ ((sv0 0).qg) 9 (mC (sv0 0).ql)),(o_ 1 1 []),(o_ 0 6 a6D),(o_ 0 2 a2V),(o_ ((sv0 1).d.g) 10 (mE (sv0 1).d.l)),(o_ 0 3 a2U),(o_ 0 2 a2T),(o_ ((sv0 1).d.ga) 2 (mK (l5 (sv0 1).d.al))),(o_ 0 7 a2S),(o_ 0 3 a2R),(o_ 0 1 (List.map x9 [0])),(o_ 0 1 a2Q),(o_ ((sv0 1).qg) 9 (mC (sv0 1).ql)),(o_ 1 1 []),(o_ 0 6 a2P),(o_ 0 2 [(Tp.row tx)]),(o_ 0 2 [(Tp.row ty)]),(o_ gx 9 (mC (l.set i (j5.mk (nth l i).key (nth l i).status (nth l i).over (nth l i).lease (l8.mk (nth l i).stamp.t 0 (nth l i).stamp.n) (nth l i).gone)))),(o_ gy 9 (mC k))] (U1 (us:=[z_]) (F4 (row:=j5.row) (l:=l) (k:=9) (room:=none) kr om) kr iY iX) (.s (.io 3 26 gx 9 9 0 n (i:Int) i (G6.mk _ ow ow) (.st 6 26 gx i 1 7 (iN i) (c2L tx ty gx l i gy k) (U1 (us:=[(iN i)]) (F4 (row:=j5.row) (l:=l.set i (j5.mk (nth l i).key (nth l i).status (nth l i).over (nth l i).lease (l8.mk (nth l i).stamp.t 0 (nth l i).stamp.n) (nth l i).gone)) (k:=9) (room:=none) kr om) kr iY iX) (.s (.y 0 (.int .i64 (ca_ i)) (iN (i+1)) Yes.o (.g (.l (k1 h1))))))))))))) (fun h1 h1'=>(.l (k2 h1))))))
def a1d (tx:Tp) (ty:Tp) (gx:Nat) (gy:Nat) (n:Nat) (q:Nat) (k:List j5) (i:Nat) (s:(List j5)):(List j5):=((s.set i (j5.mk (nth s i).key (nth s i).status (nth s i).over (nth s i).lease (l8.mk (nth s i).stamp.t 0 (nth s i).stamp.n) (nth s i).gone)).set i (j5.mk (nth (s.set i (j5.mk (nth s i).key (nth s i).status (nth s i).over (nth s i).lease (l8.mk (nth s i).stamp.t 0 (nth s i).stamp.n) (nth s i).gone)) i).key (nth (s.set i (j5.mk (nth s i).key (nth s i).status (nth s i).over (nth s i).lease (l8.mk (nth s i).stamp.t 0 (nth s i).stamp.n) (nth s i).gone)) i).status (nth (s.set i (j5.mk (nth s i).key (nth s i).status (nth s i).over (nth s i).lease (l8.mk (nth s i).stamp.t 0 (nth s i).stamp.n) (nth s i).gone)) i).over (nth (s.set i (j5.mk (nth s i).key (nth s i).status (nth s i).over (nth s i).lease (l8.mk (nth s i).stamp.t 0 (nth s i).stamp.n) (nth s i).gone)) i).lease (l8.mk (nth (s.set i (j5.mk (nth s i).key (nth s i).status (nth s i).over (nth s i).lease (l8.mk (nth s i).stamp.t 0 (nth s i).stamp.n) (nth s i).gone)) i).stamp.t (nth (s.set i (j5.mk (nth s i).key (nth s i).status (nth s i).over (nth s i).lease (l8.mk (nth s i).stamp.t 0 (nth s i).stamp.n) (nth s i).gone)) i).stamp.node (i:Int)) (nth (s.set i (j5.mk (nth s i).key (nth s i).status (nth s i).over (nth s i).lease (l8.mk (nth s i).stamp.t 0 (nth s i).stamp.n) (nth s i).gone)) i).gone))
theorem b8H (tx:Tp) (ty:Tp) (gx:Nat) (gy:Nat) (n:Nat) (q:Nat) (k:l9C) (hn:n < 1000)  (r_:Nat):∀ (l:l9C) (i:Nat) (sF:(l9C)),i+r_=n->n=l.length->sF=iter (a1d tx ty gx gy n q k) r_ i (l) ->
 l7 (l9 Tryz.prog (X dR) (y7 Tryz.f4 0)) (some [5,6,9,10,42,43]) (some [5,6,9,10]) (c2K gx n gy q i) (yU tx ty gx l gy k) (.exit 0) (a4F gx n gy q) [(o_ 0 2 [[(iI (p9 32)),(AV.osl 1 (sv0 0).d.g 10 0 (List.length (sv0 0).d.l))]]),(o_ ((sv0 0).d.g) 10 (mE (sv0 0).d.l)),(o_ 0 3 [[(iI (sv0 0).d.gf),(iI (sv0 0).d.gl),(iI (sv0 0).d.gt)]]),(o_ 0 2 [[(iN ((List.length (sv0 0).d.al))),(AV.osl 4 (sv0 0).d.ga 2 0 (List.length (l5 (sv0 0).d.al)))]]),(o_ ((sv0 0).d.ga) 2 (mK (l5 (sv0 0).d.al))),(o_ 0 7 [[z_,(iI (sv0 0).d.st.t),(iI (sv0 0).d.st.node),(iI (sv0 0).d.st.n),(oO 0 0 0 0),(oO 2 0 0 0),(oO 3 0 0 0)]]),(o_ 0 3 [[(AV.osl 7 0 1 0 1),(AV.osl 8 0 1 0 1),(iI (sv0 0).lost)]]),(o_ 0 1 (List.map x9 [1])),(o_ 0 1 [[(AV.osl 9 (sv0 0).qg 9 0 (List.length (sv0 0).ql))]]),(o_ ((sv0 0).qg) 9 (mC (sv0 0).ql)),(o_ 1 1 []),(o_ 0 6 [[(iI (sv0 0).now),(iI (sv0 0).swept),(sA 1 [[(iI 1)]]),z_,(oO 5 0 0 0),(oO 6 0 0 0)]]),(o_ 0 2 [[(iI (p9 32)),(AV.osl 13 (sv0 1).d.g 10 0 (List.length (sv0 1).d.l))]]),(o_ ((sv0 1).d.g) 10 (mE (sv0 1).d.l)),(o_ 0 3 [[(iI (sv0 1).d.gf),(iI (sv0 1).d.gl),(iI (sv0 1).d.gt)]]),(o_ 0 2 [[(iN ((List.length (sv0 1).d.al))),(AV.osl 16 (sv0 1).d.ga 2 0 (List.length (l5 (sv0 1).d.al)))]]),(o_ ((sv0 1).d.ga) 2 (mK (l5 (sv0 1).d.al))),(o_ 0 7 [[(iI 1),(iI (sv0 1).d.st.t),(iI (sv0 1).d.st.node),(iI (sv0 1).d.st.n),(oO 12 0 0 0),(oO 14 0 0 0),(oO 15 0 0 0)]]),(o_ 0 3 [[(AV.osl 19 0 1 0 1),(AV.osl 20 0 1 0 1),(iI (sv0 1).lost)]]),(o_ 0 1 (List.map x9 [0])),(o_ 0 1 [[(AV.osl 21 (sv0 1).qg 9 0 (List.length (sv0 1).ql))]]),(o_ ((sv0 1).qg) 9 (mC (sv0 1).ql)),(o_ 1 1 []),(o_ 0 6 [[(iI (sv0 1).now),(iI (sv0 1).swept),(sA 1 [[z_]]),z_,(oO 17 0 0 0),(oO 18 0 0 0)]]),(o_ 0 2 [(Tp.row tx)]),(o_ 0 2 [(Tp.row ty)]),(o_ gx 9 (mC sF)),(o_ gy 9 (mC k))]:=by
 induction r_ with
 | zero =>
  intro l i sF hi_ hl  hF
  obtain rfl:n=i:=by omega
  have e_:sF=(l):=hF
  refine a5h tx ty gx gy n q k l n hn hl (Nat.le_refl _) (fun h=>by simp at h <;> omega) (fun _=>?_)
  first | done | rfl | (rw [e_]; done) | (rw [e_]; rfl)
 | succ r_ ih =>
  intro l i sF hi_ hl  hF
  refine a5h tx ty gx gy n q k l i hn hl ow (fun h1=>?_) (fun h=>by simp at h <;> omega)
  · exact ih ((l.set i (j5.mk (nth l i).key (nth l i).status (nth l i).over (nth l i).lease (l8.mk (nth l i).stamp.t 0 (nth l i).stamp.n) (nth l i).gone)).set i (j5.mk (nth (l.set i (j5.mk (nth l i).key (nth l i).status (nth l i).over (nth l i).lease (l8.mk (nth l i).stamp.t 0 (nth l i).stamp.n) (nth l i).gone)) i).key (nth (l.set i (j5.mk (nth l i).key (nth l i).status (nth l i).over (nth l i).lease (l8.mk (nth l i).stamp.t 0 (nth l i).stamp.n) (nth l i).gone)) i).status (nth (l.set i (j5.mk (nth l i).key (nth l i).status (nth l i).over (nth l i).lease (l8.mk (nth l i).stamp.t 0 (nth l i).stamp.n) (nth l i).gone)) i).over (nth (l.set i (j5.mk (nth l i).key (nth l i).status (nth l i).over (nth l i).lease (l8.mk (nth l i).stamp.t 0 (nth l i).stamp.n) (nth l i).gone)) i).lease (l8.mk (nth (l.set i (j5.mk (nth l i).key (nth l i).status (nth l i).over (nth l i).lease (l8.mk (nth l i).stamp.t 0 (nth l i).stamp.n) (nth l i).gone)) i).stamp.t (nth (l.set i (j5.mk (nth l i).key (nth l i).status (nth l i).over (nth l i).lease (l8.mk (nth l i).stamp.t 0 (nth l i).stamp.n) (nth l i).gone)) i).stamp.node (i:Int)) (nth (l.set i (j5.mk (nth l i).key (nth l i).status (nth l i).over (nth l i).lease (l8.mk (nth l i).stamp.t 0 (nth l i).stamp.n) (nth l i).gone)) i).gone)) (i+1) sF ow R6  (by rw [hF] <;> simp only [iter,a1d,if_true,Bool.false_eq_true,if_false])
@[simp] abbrev c2J (a:Tp) (b:Tp) (c:Nat) (d:l9C) (e:Nat) (f:l9C) (g:Nat):Heap:=[nO,nN,jU,jT,jS,jR,jQ,(o_ 0 1 (List.map x9 [1])),jP,jO,(o_ 1 1 []),jN,jM,fU,fQ,jL,fP,jK,jJ,(o_ 0 1 (List.map x9 [0])),jI,fO,(o_ 1 1 []),jH,(o_ 0 2 [(Tp.row a)]),(o_ 0 2 [(Tp.row b)]),(o_ c 9 (mC d)),(o_ e 9 (mC ((f.set g (j5.mk (nth f g).key (nth f g).status (nth f g).over (nth f g).lease (l8.mk (nth f g).stamp.t 1 (nth f g).stamp.n) (nth f g).gone)).set g (j5.mk (nth (f.set g (j5.mk (nth f g).key (nth f g).status (nth f g).over (nth f g).lease (l8.mk (nth f g).stamp.t 1 (nth f g).stamp.n) (nth f g).gone)) g).key (nth (f.set g (j5.mk (nth f g).key (nth f g).status (nth f g).over (nth f g).lease (l8.mk (nth f g).stamp.t 1 (nth f g).stamp.n) (nth f g).gone)) g).status (nth (f.set g (j5.mk (nth f g).key (nth f g).status (nth f g).over (nth f g).lease (l8.mk (nth f g).stamp.t 1 (nth f g).stamp.n) (nth f g).gone)) g).over (nth (f.set g (j5.mk (nth f g).key (nth f g).status (nth f g).over (nth f g).lease (l8.mk (nth f g).stamp.t 1 (nth f g).stamp.n) (nth f g).gone)) g).lease (l8.mk (nth (f.set g (j5.mk (nth f g).key (nth f g).status (nth f g).over (nth f g).lease (l8.mk (nth f g).stamp.t 1 (nth f g).stamp.n) (nth f g).gone)) g).stamp.t (nth (f.set g (j5.mk (nth f g).key (nth f g).status (nth f g).over (nth f g).lease (l8.mk (nth f g).stamp.t 1 (nth f g).stamp.n) (nth f g).gone)) g).stamp.node (g:Int)) (nth (f.set g (j5.mk (nth f g).key (nth f g).status (nth f g).over (nth f g).lease (l8.mk (nth f g).stamp.t 1 (nth f g).stamp.n) (nth f g).gone)) g).gone))))]
@[simp] abbrev c2I (a:Nat) (b:Nat) (c:Nat) (d:Nat) (e:Nat):Fr:=(mkF 178 [(5,(oO 11 0 0 0)),(6,(oO 23 0 0 0)),(9,(AV.osl 26 a 9 0 b)),(10,(AV.osl 27 c 9 0 d)),(59,(iN d)),(60,(iN e))])
theorem a5g (tx:Tp) (ty:Tp) (gx:Nat) (gy:Nat) (n:Nat) (q:Nat) (l:l9C) (k:l9C) (i:Nat) (hn:q < 1000) (hl:q=k.length) (hle_:i<=q) {eX:Ex} {FX:Fr} {HX:Heap} (k1:(decide ((i:Int) < (q:Int)))=true->l7 (l9 Tryz.prog (X dR) (y7 Tryz.f4 1)) (some [5,6,9,10,59,60]) (some [5,6,9,10]) (mkF 178 [(5,(oO 11 0 0 0)),(6,(oO 23 0 0 0)),(9,(AV.osl 26 gx 9 0 n)),(10,(AV.osl 27 gy 9 0 q)),(59,(iN q)),(60,(iN (i+1)))]) (c2J tx ty gx l gy k i) eX FX HX) (k2:(decide ((i:Int) < (q:Int)))=false->((.exit 2:Ex),(a4F gx n gy q),(yU tx ty gx l gy k))=(eX,FX,HX)):l7 (l9 Tryz.prog (X dR) (y7 Tryz.f4 1)) (some [5,6,9,10,59,60]) (some [5,6,9,10]) (c2I gx n gy q i) (yU tx ty gx l gy k) eX FX HX :=
 K7 (.r (.g (.two (decide ((i:Int) < (q:Int))) (fun h1 h1'=>(.r (.s (.io 2 27 gy 9 9 0 q (i:Int) i (G6.mk _ ow ow) (.st 5 27 gy i 1 6 (iI 1) [(o_ 0 2 a6J),(o_ ((sv0 0).d.g) 10 (mE (sv0 0).d.l)),(o_ 0 3 a6I),(o_ 0 2 a6H),(o_ ((sv0 0).d.ga) 2 (mK (l5 (sv0 0).d.al))),(o_ 0 7 a6G),(o_ 0 3 a6F),(o_ 0 1 (List.map x9 [1])),(o_ 0 1 a6E),(o_ ((sv0 0).qg) 9 (mC (sv0 0).ql)),(o_ 1 1 []),(o_ 0 6 a6D),(o_ 0 2 a2V),(o_ ((sv0 1).d.g) 10 (mE (sv0 1).d.l)),(o_ 0 3 a2U),(o_ 0 2 a2T),(o_ ((sv0 1).d.ga) 2 (mK (l5 (sv0 1).d.al))),(o_ 0 7 a2S),(o_ 0 3 a2R),(o_ 0 1 (List.map x9 [0])),(o_ 0 1 a2Q),(o_ ((sv0 1).qg) 9 (mC (sv0 1).ql)),(o_ 1 1 []),(o_ 0 6 a2P),(o_ 0 2 [(Tp.row tx)]),(o_ 0 2 [(Tp.row ty)]),(o_ gx 9 (mC l)),(o_ gy 9 (mC (k.set i (j5.mk (nth k i).key (nth k i).status (nth k i).over (nth k i).lease (l8.mk (nth k i).stamp.t 1 (nth k i).stamp.n) (nth k i).gone))))] (U1 (us:=[(iI 1)]) (F4 (row:=j5.row) (l:=k) (k:=9) (room:=none) kr om) kr iY iX) (.s (.io 3 27 gy 9 9 0 q (i:Int) i (G6.mk _ ow ow) (.st 6 27 gy i 1 7 (iN i) (c2J tx ty gx l gy k i) (U1 (us:=[(iN i)]) (F4 (row:=j5.row) (l:=k.set i (j5.mk (nth k i).key (nth k i).status (nth k i).over (nth k i).lease (l8.mk (nth k i).stamp.t 1 (nth k i).stamp.n) (nth k i).gone)) (k:=9) (room:=none) kr om) kr iY iX) (.s (.y 0 (.int .i64 (ca_ i)) (iN (i+1)) Yes.o (.g (.l (k1 h1))))))))))))) (fun h1 h1'=>(.l (k2 h1))))))
def a1c (tx:Tp) (ty:Tp) (gx:Nat) (gy:Nat) (n:Nat) (q:Nat) (l:List j5) (i:Nat) (s:(List j5)):(List j5):=((s.set i (j5.mk (nth s i).key (nth s i).status (nth s i).over (nth s i).lease (l8.mk (nth s i).stamp.t 1 (nth s i).stamp.n) (nth s i).gone)).set i (j5.mk (nth (s.set i (j5.mk (nth s i).key (nth s i).status (nth s i).over (nth s i).lease (l8.mk (nth s i).stamp.t 1 (nth s i).stamp.n) (nth s i).gone)) i).key (nth (s.set i (j5.mk (nth s i).key (nth s i).status (nth s i).over (nth s i).lease (l8.mk (nth s i).stamp.t 1 (nth s i).stamp.n) (nth s i).gone)) i).status (nth (s.set i (j5.mk (nth s i).key (nth s i).status (nth s i).over (nth s i).lease (l8.mk (nth s i).stamp.t 1 (nth s i).stamp.n) (nth s i).gone)) i).over (nth (s.set i (j5.mk (nth s i).key (nth s i).status (nth s i).over (nth s i).lease (l8.mk (nth s i).stamp.t 1 (nth s i).stamp.n) (nth s i).gone)) i).lease (l8.mk (nth (s.set i (j5.mk (nth s i).key (nth s i).status (nth s i).over (nth s i).lease (l8.mk (nth s i).stamp.t 1 (nth s i).stamp.n) (nth s i).gone)) i).stamp.t (nth (s.set i (j5.mk (nth s i).key (nth s i).status (nth s i).over (nth s i).lease (l8.mk (nth s i).stamp.t 1 (nth s i).stamp.n) (nth s i).gone)) i).stamp.node (i:Int)) (nth (s.set i (j5.mk (nth s i).key (nth s i).status (nth s i).over (nth s i).lease (l8.mk (nth s i).stamp.t 1 (nth s i).stamp.n) (nth s i).gone)) i).gone))
theorem b8G (tx:Tp) (ty:Tp) (gx:Nat) (gy:Nat) (n:Nat) (q:Nat) (l:l9C) (hn:q < 1000)  (r_:Nat):∀ (k:l9C) (i:Nat) (sF:(l9C)),i+r_=q->q=k.length->sF=iter (a1c tx ty gx gy n q l) r_ i (k) ->
 l7 (l9 Tryz.prog (X dR) (y7 Tryz.f4 1)) (some [5,6,9,10,59,60]) (some [5,6,9,10]) (c2I gx n gy q i) (yU tx ty gx l gy k) (.exit 2) (a4F gx n gy q) [(o_ 0 2 [[(iI (p9 32)),(AV.osl 1 (sv0 0).d.g 10 0 (List.length (sv0 0).d.l))]]),(o_ ((sv0 0).d.g) 10 (mE (sv0 0).d.l)),(o_ 0 3 [[(iI (sv0 0).d.gf),(iI (sv0 0).d.gl),(iI (sv0 0).d.gt)]]),(o_ 0 2 [[(iN ((List.length (sv0 0).d.al))),(AV.osl 4 (sv0 0).d.ga 2 0 (List.length (l5 (sv0 0).d.al)))]]),(o_ ((sv0 0).d.ga) 2 (mK (l5 (sv0 0).d.al))),(o_ 0 7 [[z_,(iI (sv0 0).d.st.t),(iI (sv0 0).d.st.node),(iI (sv0 0).d.st.n),(oO 0 0 0 0),(oO 2 0 0 0),(oO 3 0 0 0)]]),(o_ 0 3 [[(AV.osl 7 0 1 0 1),(AV.osl 8 0 1 0 1),(iI (sv0 0).lost)]]),(o_ 0 1 (List.map x9 [1])),(o_ 0 1 [[(AV.osl 9 (sv0 0).qg 9 0 (List.length (sv0 0).ql))]]),(o_ ((sv0 0).qg) 9 (mC (sv0 0).ql)),(o_ 1 1 []),(o_ 0 6 [[(iI (sv0 0).now),(iI (sv0 0).swept),(sA 1 [[(iI 1)]]),z_,(oO 5 0 0 0),(oO 6 0 0 0)]]),(o_ 0 2 [[(iI (p9 32)),(AV.osl 13 (sv0 1).d.g 10 0 (List.length (sv0 1).d.l))]]),(o_ ((sv0 1).d.g) 10 (mE (sv0 1).d.l)),(o_ 0 3 [[(iI (sv0 1).d.gf),(iI (sv0 1).d.gl),(iI (sv0 1).d.gt)]]),(o_ 0 2 [[(iN ((List.length (sv0 1).d.al))),(AV.osl 16 (sv0 1).d.ga 2 0 (List.length (l5 (sv0 1).d.al)))]]),(o_ ((sv0 1).d.ga) 2 (mK (l5 (sv0 1).d.al))),(o_ 0 7 [[(iI 1),(iI (sv0 1).d.st.t),(iI (sv0 1).d.st.node),(iI (sv0 1).d.st.n),(oO 12 0 0 0),(oO 14 0 0 0),(oO 15 0 0 0)]]),(o_ 0 3 [[(AV.osl 19 0 1 0 1),(AV.osl 20 0 1 0 1),(iI (sv0 1).lost)]]),(o_ 0 1 (List.map x9 [0])),(o_ 0 1 [[(AV.osl 21 (sv0 1).qg 9 0 (List.length (sv0 1).ql))]]),(o_ ((sv0 1).qg) 9 (mC (sv0 1).ql)),(o_ 1 1 []),(o_ 0 6 [[(iI (sv0 1).now),(iI (sv0 1).swept),(sA 1 [[z_]]),z_,(oO 17 0 0 0),(oO 18 0 0 0)]]),(o_ 0 2 [(Tp.row tx)]),(o_ 0 2 [(Tp.row ty)]),(o_ gx 9 (mC l)),(o_ gy 9 (mC sF))]:=by
 induction r_ with
 | zero =>
  intro k i sF hi_ hl  hF
  obtain rfl:q=i:=by omega
  have e_:sF=(k):=hF
  refine a5g tx ty gx gy n q l k q hn hl (Nat.le_refl _) (fun h=>by simp at h <;> omega) (fun _=>?_)
  first | done | rfl | (rw [e_]; done) | (rw [e_]; rfl)
 | succ r_ ih =>
  intro k i sF hi_ hl  hF
  refine a5g tx ty gx gy n q l k i hn hl ow (fun h1=>?_) (fun h=>by simp at h <;> omega)
  · exact ih ((k.set i (j5.mk (nth k i).key (nth k i).status (nth k i).over (nth k i).lease (l8.mk (nth k i).stamp.t 1 (nth k i).stamp.n) (nth k i).gone)).set i (j5.mk (nth (k.set i (j5.mk (nth k i).key (nth k i).status (nth k i).over (nth k i).lease (l8.mk (nth k i).stamp.t 1 (nth k i).stamp.n) (nth k i).gone)) i).key (nth (k.set i (j5.mk (nth k i).key (nth k i).status (nth k i).over (nth k i).lease (l8.mk (nth k i).stamp.t 1 (nth k i).stamp.n) (nth k i).gone)) i).status (nth (k.set i (j5.mk (nth k i).key (nth k i).status (nth k i).over (nth k i).lease (l8.mk (nth k i).stamp.t 1 (nth k i).stamp.n) (nth k i).gone)) i).over (nth (k.set i (j5.mk (nth k i).key (nth k i).status (nth k i).over (nth k i).lease (l8.mk (nth k i).stamp.t 1 (nth k i).stamp.n) (nth k i).gone)) i).lease (l8.mk (nth (k.set i (j5.mk (nth k i).key (nth k i).status (nth k i).over (nth k i).lease (l8.mk (nth k i).stamp.t 1 (nth k i).stamp.n) (nth k i).gone)) i).stamp.t (nth (k.set i (j5.mk (nth k i).key (nth k i).status (nth k i).over (nth k i).lease (l8.mk (nth k i).stamp.t 1 (nth k i).stamp.n) (nth k i).gone)) i).stamp.node (i:Int)) (nth (k.set i (j5.mk (nth k i).key (nth k i).status (nth k i).over (nth k i).lease (l8.mk (nth k i).stamp.t 1 (nth k i).stamp.n) (nth k i).gone)) i).gone)) (i+1) sF ow R6  (by rw [hF] <;> simp only [iter,a1c,if_true,Bool.false_eq_true,if_false])
def cN (z:List Int):Nat:=(Tp.mk z 0).next (9+1)
def cL (z:List Int):List j5:=((Tp.mk z 0).step (9+1)).cards ((Tp.mk z 0).next (9+1))
def cT (z:List Int):Tp:=((Tp.mk z 0).step (9+1)).F9 ((Tp.mk z 0).next (9+1))
theorem a1R (z:List Int):cN z=(cL z).length/\cN z<=9:=by
 have h:=(Tp.mk z 0).next_lt (9+1) ow
 exact ⟨(Tp.b6t _ _).symm,by show (Tp.mk z 0).next (9+1)<=9; omega⟩
def stX (l:List j5):List j5:=iter (a1d ⟨[],0⟩ ⟨[],0⟩ 0 0 0 0 []) l.length 0 l
def stY (l:List j5):List j5:=iter (a1c ⟨[],0⟩ ⟨[],0⟩ 0 0 0 0 []) l.length 0 l
theorem a8W (l:l9C):(stX l).length=l.length/\∀ c∈stX l,c.stamp.node=0:=by
 have h:=kR (a1d ⟨[],0⟩ ⟨[],0⟩ 0 0 0 0 []) (fun i s=>s.length=l.length/\∀ j,j < i->(nth s j).stamp.node=0) l.length (fun i s hi ⟨h1,h2⟩=>by
  unfold a1d
  refine ⟨by rw [List.length_set,List.length_set]; exact h1,fun j hj=>?_⟩
  rw [fG _ (by rw [List.length_set]; omega)]
  split
  · simp only [fG _ (show i < s.length by omega),if_true]
  · rw [fG _ ow,if_neg yb_]; exact h2 j ow) l.length 0 l ow ⟨rfl,fun j hj=>by omega⟩
 rw [Nat.zero_add] at h
 refine ⟨h.1,fun c hc=>?_⟩
 obtain ⟨j,hj,rfl⟩:=U6 hc
 exact h.2 j (by have:=h.1; unfold stX at hj; omega)
theorem a8V (l:l9C):(stY l).length=l.length/\∀ c∈stY l,c.stamp.node=1:=by
 have h:=kR (a1c ⟨[],0⟩ ⟨[],0⟩ 0 0 0 0 []) (fun i s=>s.length=l.length/\∀ j,j < i->(nth s j).stamp.node=1) l.length (fun i s hi ⟨h1,h2⟩=>by
  unfold a1c
  refine ⟨by rw [List.length_set,List.length_set]; exact h1,fun j hj=>?_⟩
  rw [fG _ (by rw [List.length_set]; omega)]
  split
  · simp only [fG _ (show i < s.length by omega),if_true]
  · rw [fG _ ow,if_neg yb_]; exact h2 j ow) l.length 0 l ow ⟨rfl,fun j hj=>by omega⟩
 rw [Nat.zero_add] at h
 refine ⟨h.1,fun c hc=>?_⟩
 obtain ⟨j,hj,rfl⟩:=U6 hc
 exact h.2 j (by have:=h.1; unfold stY at hj; omega)
theorem b5z {now:Int} (w:l9C):∀ (cs:l9C) (t:l9E × l9K × l9C × Nat),(∀ c∈cs,c∈w)->Y7 t.1->(∀ e∈t.1,e.card∈w/\F8 e.card=true)->Y7 (cs.foldl (O8 now) t).1/\∀ e∈(cs.foldl (O8 now) t).1,e.card∈w/\F8 e.card=true:=by
 intro cs
 induction cs with
 | nil=>intro t _ h1 h2; exact ⟨h1,h2⟩
 | cons c cs ih =>
  intro t hc h1 h2
  rw [List.foldl_cons]
  have key:Y7 (O8 now t c).1/\∀ e∈(O8 now t c).1,e.card∈w/\F8 e.card=true:=by
   unfold O8
   split
   · rename_i hr
     split
     · rename_i hf
       split
       · refine ⟨fD h1 _,fun e he=>?_⟩
         rcases wE he with rfl | he
         · exact (show (r9 t.1 c.key).card∈w/\F8 (r9 t.1 c.key).card=true from h2 _ (iG hf.1).1)
         · exact h2 e he
       · exact ⟨h1,h2⟩
     · refine ⟨fD h1 _,fun e he=>?_⟩
       rcases wE he with rfl | he
       · exact ⟨hc c yf_,hr⟩
       · exact h2 e he
   · exact ⟨h1,h2⟩
  exact ih _ (fun x hx=>hc x (by simp [hx])) key.1 key.2
theorem b4H {nd p:Int} {cs:l9C} (h1:cs.length<=9) (h2:∀ c∈cs,c.stamp.node=nd):PrI nd (l6 nd p (sv0 nd) (u7 cs))/\(l6 nd p (sv0 nd) (u7 cs)).now=0/\(l6 nd p (sv0 nd) (u7 cs)).ql=[]/\SSI 65 0 (l6 nd p (sv0 nd) (u7 cs)):=by
 have hI:=rO (nd:=nd) (p:=p) (q:=u7 cs) (xZ nd).i
 rw [Nat.zero_add] at hI
 have hz:(sv0 nd).d.l=[]:=rfl
 cases hr:I8 (u7 cs) with
 | false =>
  have e:l6 nd p (sv0 nd) (u7 cs)=sv0 nd:=by with_unfolding_all (unfold l6; rw [if_neg (by rw [hr]; simp)])
  rw [e] at hI ⊢
  exact ⟨⟨by rw [hz]; exact a0f,by rw [hz]; simp,by rw [hz]; simp⟩,rfl,rfl,hI⟩
 | true =>
  have e:=vZ (nd:=nd) (p:=p) (s:=sv0 nd) hr rfl
  refine ⟨?_,b9b nd p (sv0 nd) _,?_,hI⟩
  · rw [show (u7 cs).cards=cs from rfl,hz] at e
    have hf:=b5z (now:=w9 (sv0 nd).now) cs cs ([],(sv0 nd).d.al,[],0) (fun c hc=>hc) a0f yf_
    have hn:=(wL (sv0 nd).now cs [] (sv0 nd).d.al).1
    have e3:H6 (sv0 nd).now cs [] (sv0 nd).d.al=cs.foldl (O8 (w9 (sv0 nd).now)) ([],(sv0 nd).d.al,[],0):=by with_unfolding_all rfl
    rw [<- e3] at hf
    refine ⟨by rw [e]; exact hf.1,by rw [e]; simp at hn; omega,fun x hx=>?_⟩
    rw [e] at hx
    exact ⟨(hf.2 x hx).2,h2 _ (hf.2 x hx).1⟩
  · rw [b0w hr rfl]; rfl
theorem c4Z (r:Nat):∀ (n:Nat) (t:Prs),SSI n 15 t.1->SSI n 15 t.2.1->SSI (n+65 * r) 15 (prF r t).1/\SSI (n+65 * r) 15 (prF r t).2.1:=by
 have mono:∀ {n m:Nat} {s:SS},SSI n 15 s->n<=m->SSI m 15 s:=fun h hm=>⟨h.d.mono hm,h.hn,h.hn2,h.hq,h.hs0,h.hs1⟩
 induction r with
 | zero=>intro n t h1 h2; exact ⟨h1,h2⟩
 | succ r ih =>
  intro n t h1 h2
  unfold prF
  split
  · exact ⟨mono h1 ow,mono h2 ow⟩
  · have hS:SSI (n+65) 15 (prS t).1/\SSI (n+65) 15 (prS t).2.1:=by
     unfold prS
     split
     · exact ⟨rO h1,mono h2 ow⟩
     · exact ⟨mono h1 ow,rO h2⟩
    have:=ih (n+65) (prS t) hS.1 hS.2
    rw [show n+65 * (r+1)=n+65+65 * r by omega]
    exact this
def pS (a:List Int):SS:=l6 0 1 (sv0 0) (u7 (stX (cL a)))
def pP (b:List Int):SS:=l6 1 0 (sv0 1) (u7 (stY (cL b)))
def pS2 (a:List Int):SS:=(tkM 0 1 15 0 (pS a)).1
def pF (a b:List Int):Prs:=prF 20 (pS2 a,pP b,[⟨1,bE (R8 (List.map Entry.card (pS a).d.l))⟩],1)
theorem a8e (a b:List Int):((pS a).now=0/\(pS a).ql=[]/\(pS a).d.l.length<=32)/\(SSI 65 15 (pS2 a)/\SSI 65 15 (pP b))/\((pF a b).2.2.1=[]/\List.map Entry.card (pF a b).1.d.l=List.map Entry.card (pF a b).2.1.d.l)/\((pF a b).1.d.l.length<=32/\(pF a b).2.1.d.l.length<=32):=by
 have hx:=a8W (cL a)
 have hy:=a8V (cL b)
 have na:=a1R a
 have nb:=a1R b
 obtain ⟨i1,i2,i3,i4⟩:=b4H (nd:=0) (p:=1) ow hx.2
 obtain ⟨j1,j2,j3,j4⟩:=b4H (nd:=1) (p:=0) ow hy.2
 obtain ⟨t1,t2,t3⟩:=b8x 0 1 (pS a) i2 i3
 have k0:SSI 65 (0+15) (pS2 a):=t3 65 0 i4
 have k1:SSI 65 15 (pS2 a):=by simpa using k0
 have kn:(pP b).now<=0:=j4.hn2
 have k2:SSI 65 15 (pP b):=⟨j4.d,j4.hn,by omega,j4.hq,j4.hs0,j4.hs1⟩
 have e:(pS2 a).d.l=(pS a).d.l:=t2
 have m1:PrI 0 (pS2 a):=⟨by rw [e]; exact i1.srt,by rw [e]; exact i1.len,by rw [e]; exact i1.r⟩
 have hf:=b9f m1 j1 1
 rw [e] at hf
 have ho:=c4Z 20 65 (pS2 a,pP b,[⟨1,bE (R8 (List.map Entry.card (pS a).d.l))⟩],1) k1 k2
 exact ⟨⟨i2,i3,by have:=i1.len; show (pS a).d.l.length<=32; exact Nat.le_trans this ow⟩,⟨k1,k2⟩,hf,⟨ho.1.d.len,ho.2.d.len⟩⟩
attribute [local irreducible] cN cL cT stX stY pF
theorem xB (z:List Int) (hl:z.length < 9223372036854775808):AC 15 [(oO 0 0 0 0),(iI 9)] [(o_ 0 2 [(Tp.row (Tp.mk z 0))])] ((AV.osl 1 (cN z) 9 0 (cN z)),[(o_ 0 2 [(Tp.row (cT z))]),(o_ (cN z) 9 (mC (cL z)))]):=by
 with_unfolding_all exact a8P (Tp.mk z 0) 9 hl ow
@[simp] abbrev b7l (a:SS) (b:List y5):Ob:=(o_ 0 2 [[(iI (p9 32)),(AV.osl 1 (l6 0 1 a (nth b 0).m).d.g 10 0 (List.length (l6 0 1 a (nth b 0).m).d.l))]])
@[simp] abbrev b7k (a:SS) (b:List y5):Ob:=(o_ ((l6 0 1 a (nth b 0).m).d.g) 10 (mE (l6 0 1 a (nth b 0).m).d.l))
@[simp] abbrev b7j (a:SS) (b:List y5):Ob:=(o_ 0 3 [[(iI (l6 0 1 a (nth b 0).m).d.gf),(iI (l6 0 1 a (nth b 0).m).d.gl),(iI (l6 0 1 a (nth b 0).m).d.gt)]])
@[simp] abbrev c5x (a:SS) (b:List y5):=[[(iN ((List.length (l6 0 1 a (nth b 0).m).d.al))),(AV.osl 4 (l6 0 1 a (nth b 0).m).d.ga 2 0 (List.length (l5 (l6 0 1 a (nth b 0).m).d.al)))]]
@[simp] abbrev b7i (a:SS) (b:List y5):Ob:=(o_ 0 2 (c5x a b))
@[simp] abbrev b7h (a:SS) (b:List y5):Ob:=(o_ ((l6 0 1 a (nth b 0).m).d.ga) 2 (mK (l5 (l6 0 1 a (nth b 0).m).d.al)))
@[simp] abbrev c5w (a:SS) (b:List y5):=[[z_,(iI (l6 0 1 a (nth b 0).m).d.st.t),(iI (l6 0 1 a (nth b 0).m).d.st.node),(iI (l6 0 1 a (nth b 0).m).d.st.n),(oO 0 0 0 0),(oO 2 0 0 0),(oO 3 0 0 0)]]
@[simp] abbrev b7g (a:SS) (b:List y5):Ob:=(o_ 0 7 (c5w a b))
@[simp] abbrev b7f (a:SS) (b:List y5):Ob:=(o_ 0 3 [[(AV.osl 7 0 1 0 1),(AV.osl 8 0 1 0 1),(iI (l6 0 1 a (nth b 0).m).lost)]])
@[simp] abbrev b7e (a:SS) (b:List y5):Ob:=(o_ 0 1 [[(AV.osl 9 (l6 0 1 a (nth b 0).m).qg 9 0 (List.length (l6 0 1 a (nth b 0).m).ql))]])
@[simp] abbrev b7d (a:SS) (b:List y5):Ob:=(o_ ((l6 0 1 a (nth b 0).m).qg) 9 (mC (l6 0 1 a (nth b 0).m).ql))
@[simp] abbrev c5v (a:SS) (b:List y5):=[[(iI (l6 0 1 a (nth b 0).m).now),(iI (l6 0 1 a (nth b 0).m).swept),(sA 1 [[(iI 1)]]),z_,(oO 5 0 0 0),(oO 6 0 0 0)]]
@[simp] abbrev b7c (a:SS) (b:List y5):Ob:=(o_ 0 6 (c5v a b))
@[simp] abbrev xO (a:SS):Ob:=(o_ 0 2 [[(iI (p9 32)),(AV.osl 13 a.d.g 10 0 (List.length a.d.l))]])
@[simp] abbrev xM (a:SS):Ob:=(o_ 0 2 [[(iN ((List.length a.d.al))),(AV.osl 16 a.d.ga 2 0 (List.length (l5 a.d.al)))]])
@[simp] abbrev c5u (a:SS):=[[(iI 1),(iI a.d.st.t),(iI a.d.st.node),(iI a.d.st.n),(oO 12 0 0 0),(oO 14 0 0 0),(oO 15 0 0 0)]]
@[simp] abbrev xL (a:SS):Ob:=(o_ 0 7 (c5u a))
@[simp] abbrev xK (a:SS):Ob:=(o_ 0 3 [[(AV.osl 19 0 1 0 1),(AV.osl 20 0 1 0 1),(iI a.lost)]])
@[simp] abbrev xJ (a:SS):Ob:=(o_ 0 1 [[(AV.osl 21 a.qg 9 0 (List.length a.ql))]])
@[simp] abbrev xI (a:SS):Ob:=(o_ 0 6 [[(iI a.now),(iI a.swept),(sA 1 [[z_]]),z_,(oO 17 0 0 0),(oO 18 0 0 0)]])
@[simp] abbrev c2H (a:SS) (b:List y5) (c:SS) (e:Nat):Heap:=[b7l a b,b7k a b,b7j a b,b7i a b,b7h a b,b7g a b,b7f a b,(o_ 0 1 (List.map x9 [1])),b7e a b,b7d a b,(o_ 1 1 []),b7c a b,xO c,(o_ c.d.g 10 (mE c.d.l)),bN c,xM c,bV c,xL c,xK c,(o_ 0 1 (List.map x9 [0])),xJ c,(o_ c.qg 9 (mC c.ql)),(o_ 1 1 []),xI c,(o_ (e+1) 14 (List.map y5.row (List.drop 1 b++(U2 0 1 a 1 (nth b 0).m))))]
@[simp] abbrev c5t (a:SS):=[[z_,(iI a.d.st.t),(iI a.d.st.node),(iI a.d.st.n),(oO 0 0 0 0),(oO 2 0 0 0),(oO 3 0 0 0)]]
@[simp] abbrev xH (a:SS):Ob:=(o_ 0 7 (c5t a))
@[simp] abbrev xG (a:SS):Ob:=(o_ 0 6 [[(iI a.now),(iI a.swept),(sA 1 [[(iI 1)]]),z_,(oO 5 0 0 0),(oO 6 0 0 0)]])
@[simp] abbrev b7b (a:SS) (b:List y5):Ob:=(o_ 0 2 [[(iI (p9 32)),(AV.osl 13 (l6 1 0 a (nth b 0).m).d.g 10 0 (List.length (l6 1 0 a (nth b 0).m).d.l))]])
@[simp] abbrev b7a (a:SS) (b:List y5):Ob:=(o_ ((l6 1 0 a (nth b 0).m).d.g) 10 (mE (l6 1 0 a (nth b 0).m).d.l))
@[simp] abbrev b6Z (a:SS) (b:List y5):Ob:=(o_ 0 3 [[(iI (l6 1 0 a (nth b 0).m).d.gf),(iI (l6 1 0 a (nth b 0).m).d.gl),(iI (l6 1 0 a (nth b 0).m).d.gt)]])
@[simp] abbrev c5s (a:SS) (b:List y5):=[[(iN ((List.length (l6 1 0 a (nth b 0).m).d.al))),(AV.osl 16 (l6 1 0 a (nth b 0).m).d.ga 2 0 (List.length (l5 (l6 1 0 a (nth b 0).m).d.al)))]]
@[simp] abbrev b6Y (a:SS) (b:List y5):Ob:=(o_ 0 2 (c5s a b))
@[simp] abbrev b6X (a:SS) (b:List y5):Ob:=(o_ ((l6 1 0 a (nth b 0).m).d.ga) 2 (mK (l5 (l6 1 0 a (nth b 0).m).d.al)))
@[simp] abbrev c5r (a:SS) (b:List y5):=[[(iI 1),(iI (l6 1 0 a (nth b 0).m).d.st.t),(iI (l6 1 0 a (nth b 0).m).d.st.node),(iI (l6 1 0 a (nth b 0).m).d.st.n),(oO 12 0 0 0),(oO 14 0 0 0),(oO 15 0 0 0)]]
@[simp] abbrev b6W (a:SS) (b:List y5):Ob:=(o_ 0 7 (c5r a b))
@[simp] abbrev b6V (a:SS) (b:List y5):Ob:=(o_ 0 3 [[(AV.osl 19 0 1 0 1),(AV.osl 20 0 1 0 1),(iI (l6 1 0 a (nth b 0).m).lost)]])
@[simp] abbrev b6U (a:SS) (b:List y5):Ob:=(o_ 0 1 [[(AV.osl 21 (l6 1 0 a (nth b 0).m).qg 9 0 (List.length (l6 1 0 a (nth b 0).m).ql))]])
@[simp] abbrev b6T (a:SS) (b:List y5):Ob:=(o_ ((l6 1 0 a (nth b 0).m).qg) 9 (mC (l6 1 0 a (nth b 0).m).ql))
@[simp] abbrev c5q (a:SS) (b:List y5):=[[(iI (l6 1 0 a (nth b 0).m).now),(iI (l6 1 0 a (nth b 0).m).swept),(sA 1 [[z_]]),z_,(oO 17 0 0 0),(oO 18 0 0 0)]]
@[simp] abbrev b6S (a:SS) (b:List y5):Ob:=(o_ 0 6 (c5q a b))
@[simp] abbrev c2G (a:SS) (b:SS) (c:List y5) (e:Nat):Heap:=[jW a,(o_ a.d.g 10 (mE a.d.l)),bN a,jV a,bV a,xH a,gM a,(o_ 0 1 (List.map x9 [1])),gL a,(o_ a.qg 9 (mC a.ql)),(o_ 1 1 []),xG a,b7b b c,b7a b c,b6Z b c,b6Y b c,b6X b c,b6W b c,b6V b c,(o_ 0 1 (List.map x9 [0])),b6U b c,b6T b c,(o_ 1 1 []),b6S b c,(o_ (e+1) 14 (List.map y5.row (List.drop 1 c++(U2 1 0 b 0 (nth c 0).m))))]
@[simp] abbrev c2F (a:Nat) (b:Nat):Fr:=(mkF 178 [(5,(oO 11 0 0 0)),(6,(oO 23 0 0 0)),(13,(AV.osl 24 a 14 0 b))])
@[simp] abbrev b2P (a:SS) (b:SS) (c:Nat) (e:List y5):Heap:=[jW a,(o_ a.d.g 10 (mE a.d.l)),bN a,jV a,bV a,xH a,gM a,(o_ 0 1 (List.map x9 [1])),gL a,(o_ a.qg 9 (mC a.ql)),(o_ 1 1 []),xG a,xO b,(o_ b.d.g 10 (mE b.d.l)),bN b,xM b,bV b,xL b,xK b,(o_ 0 1 (List.map x9 [0])),xJ b,(o_ b.qg 9 (mC b.ql)),(o_ 1 1 []),xI b,(o_ c 14 (List.map y5.row e))]
@[simp] abbrev a2c (a:SS) (b:SS) (c:Nat) (e:List y5):Heap:=[jW a,(o_ a.d.g 10 (mE a.d.l)),bN a,jV a,bV a,xH a,gM a,(o_ 0 1 (List.map x9 [1])),gL a,(o_ a.qg 9 (mC a.ql)),(o_ 1 1 []),xG a,xO b,(o_ b.d.g 10 (mE b.d.l)),bN b,xM b,bV b,xL b,xK b,(o_ 0 1 (List.map x9 [0])),xJ b,(o_ b.qg 9 (mC b.ql)),(o_ 1 1 []),xI b,(o_ c 14 (List.map y5.row e)),(o_ 0 14 [[z_,z_,z_,z_,z_,z_,z_,z_,e_,e_,bF,(AV.int .u32 0),(AV.sl .nil 0 []),(AV.sl .nil 0 [])]])]
@[simp] abbrev b2O (a:SS) (b:SS) (c:Nat) (e:List y5):Heap:=[jW a,(o_ a.d.g 10 (mE a.d.l)),bN a,jV a,bV a,xH a,gM a,(o_ 0 1 (List.map x9 [1])),gL a,(o_ a.qg 9 (mC a.ql)),(o_ 1 1 []),xG a,xO b,(o_ b.d.g 10 (mE b.d.l)),bN b,xM b,bV b,xL b,xK b,(o_ 0 1 (List.map x9 [0])),xJ b,(o_ b.qg 9 (mC b.ql)),(o_ 1 1 []),xI b,(o_ c 14 (List.map y5.row e)),(o_ 0 14 [(y5.row (nth e 0))])]
@[simp] abbrev c2E (a:SS) (b:List y5) (c:SS) (e:Nat):Heap:=[b7l a b,b7k a b,b7j a b,b7i a b,b7h a b,b7g a b,b7f a b,(o_ 0 1 (List.map x9 [1])),b7e a b,b7d a b,(o_ 1 1 []),b7c a b,xO c,(o_ c.d.g 10 (mE c.d.l)),bN c,xM c,bV c,xL c,xK c,(o_ 0 1 (List.map x9 [0])),xJ c,(o_ c.qg 9 (mC c.ql)),(o_ 1 1 []),xI c,(o_ e 14 (List.map y5.row b)),(o_ 0 14 [(y5.row (nth b 0))])]
@[simp] abbrev c2D (a:SS) (b:SS) (c:List y5) (e:Nat):Heap:=[jW a,(o_ a.d.g 10 (mE a.d.l)),bN a,jV a,bV a,xH a,gM a,(o_ 0 1 (List.map x9 [1])),gL a,(o_ a.qg 9 (mC a.ql)),(o_ 1 1 []),xG a,b7b b c,b7a b c,b6Z b c,b6Y b c,b6X b c,b6W b c,b6V b c,(o_ 0 1 (List.map x9 [0])),b6U b c,b6T b c,(o_ 1 1 []),b6S b c,(o_ e 14 (List.map y5.row c)),(o_ 0 14 [(y5.row (nth c 0))])]
@[simp] abbrev c0H :=(l9 Tryz.prog (X dR) (y7 Tryz.f4 3))
theorem a2B (s p:SS) (us:List y5) (k g i:Nat) (hs:SSI (65+65 * i) 15 s) (hp:SSI (65+65 * i) 15 p) (hk:k=us.length) (hki:k<=2+2 * i) (hi:i<=20) {eX:Ex} {FX:Fr} {HX:Heap} (k1:(decide ((i:Int) < 20))=true->(decide ((k:Int) > 0))=true->((nth us 0).to == 0)=true->l7 c0H (some [5,6,13,16]) (some [5,6,13]) (mkF 178 [(5,(oO 11 0 0 0)),(6,(oO 23 0 0 0)),(13,(AV.osl 24 (g+1) 14 0 ((k - 1)+(U2 0 1 s 1 (nth us 0).m).length))),(16,(iN (i+1)))]) (c2H s us p g) eX FX HX) (k2:(decide ((i:Int) < 20))=true->(decide ((k:Int) > 0))=true->((nth us 0).to == 0)=false->l7 c0H (some [5,6,13,16]) (some [5,6,13]) (mkF 178 [(5,(oO 11 0 0 0)),(6,(oO 23 0 0 0)),(13,(AV.osl 24 (g+1) 14 0 ((k - 1)+(U2 1 0 p 0 (nth us 0).m).length))),(16,(iN (i+1)))]) (c2G s p us g) eX FX HX) (k3:(decide ((i:Int) < 20))=true->(decide ((k:Int) > 0))=false->((.exit 6:Ex),(c2F g k),(b2P s p g us))=(eX,FX,HX)) (k4:(decide ((i:Int) < 20))=false->((.exit 6:Ex),(c2F g k),(b2P s p g us))=(eX,FX,HX)):l7 c0H (some [5,6,13,16]) (some [5,6,13]) (mkF 178 [(5,(oO 11 0 0 0)),(6,(oO 23 0 0 0)),(13,(AV.osl 24 g 14 0 k)),(16,(iN i))]) (b2P s p g us) eX FX HX:=by
 have hr1:=tV 0 1 s 1 (nth us 0).m
 have hr2:=tV 1 0 p 0 (nth us 0).m
 exact K7 (.r (.two (decide ((i:Int) < 20)) (fun h1 h1'=>(.u2 (.g (.two (decide ((k:Int) > 0)) (fun h2 h2'=>(.r (.h' (a2c s p g us) (.io 1 24 g 14 14 0 k 0 0 (G6.mk _ ow ow) (.t 2 (AV.agg (y5.row (nth us 0))) (a2c s p g us) (K9 (F4 (row:=y5.row) (l:=us) (k:=14) (room:=none) kr om) kr:P8 tt 56 0 (a2c s p g us) (rowAt (a2c s p g us) 24 g 0)=some ((AV.agg (y5.row (nth us 0))),(a2c s p g us))) (.s (.h' (b2O s p g us) (.so 1 24 g 14 0 k 1 (k:Int) (AV.osl 24 g 14 1 (k - 1)) (M4 (l:=1) (h:=k) om om om om om om) (.s (.g (.two ((nth us 0).to == 0) (fun h3 h3'=>(.r (.ch 4 (c2E s us p g) (j6.put2 [0,1,2,3,4,5,6,7,8,9,10,11] (b2O s p g us) (sA 14 (List.map y5.row (U2 0 1 s 1 (nth us 0).m))) (c2E s us p g) (a1s 0 1 s 1 (nth us 0).m (hs.rc ow) (hs.d.srt)) (rlB) (rlB)) (.ao 5 36 (AV.osl 24 g 14 1 (k - 1)) (sA 14 (List.map y5.row (U2 0 1 s 1 (nth us 0).m))) (AV.osl 24 (g+1) 14 0 ((k - 1)+(U2 0 1 s 1 (nth us 0).m).length)) [(o_ 0 2 [[(iI (p9 32)),(AV.osl 1 (l6 0 1 s (nth us 0).m).d.g 10 0 (List.length (l6 0 1 s (nth us 0).m).d.l))]]),(o_ ((l6 0 1 s (nth us 0).m).d.g) 10 (mE (l6 0 1 s (nth us 0).m).d.l)),(o_ 0 3 [[(iI (l6 0 1 s (nth us 0).m).d.gf),(iI (l6 0 1 s (nth us 0).m).d.gl),(iI (l6 0 1 s (nth us 0).m).d.gt)]]),(o_ 0 2 (c5x s us)),(o_ ((l6 0 1 s (nth us 0).m).d.ga) 2 (mK (l5 (l6 0 1 s (nth us 0).m).d.al))),(o_ 0 7 (c5w s us)),(o_ 0 3 [[(AV.osl 7 0 1 0 1),(AV.osl 8 0 1 0 1),(iI (l6 0 1 s (nth us 0).m).lost)]]),(o_ 0 1 (List.map x9 [1])),(o_ 0 1 [[(AV.osl 9 (l6 0 1 s (nth us 0).m).qg 9 0 (List.length (l6 0 1 s (nth us 0).m).ql))]]),(o_ ((l6 0 1 s (nth us 0).m).qg) 9 (mC (l6 0 1 s (nth us 0).m).ql)),(o_ 1 1 []),(o_ 0 6 (c5v s us)),(o_ 0 2 [[(iI (p9 32)),(AV.osl 13 p.d.g 10 0 (List.length p.d.l))]]),(o_ p.d.g 10 (mE p.d.l)),(o_ 0 3 (b2h p)),(o_ 0 2 [[(iN ((List.length p.d.al))),(AV.osl 16 p.d.ga 2 0 (List.length (l5 p.d.al)))]]),(o_ p.d.ga 2 (mK (l5 p.d.al))),(o_ 0 7 (c5u p)),(o_ 0 3 [[(AV.osl 19 0 1 0 1),(AV.osl 20 0 1 0 1),(iI p.lost)]]),(o_ 0 1 (List.map x9 [0])),(o_ 0 1 [[(AV.osl 21 p.qg 9 0 (List.length p.ql))]]),(o_ p.qg 9 (mC p.ql)),(o_ 1 1 []),(o_ 0 6 [[(iI p.now),(iI p.swept),(sA 1 [[z_]]),z_,(oO 17 0 0 0),(oO 18 0 0 0)]]),(o_ (g+1) 14 (List.map y5.row (List.drop 1 us++(U2 0 1 s 1 (nth us 0).m)))),(o_ 0 14 [(y5.row (nth us 0))])] (sG (T:=tt) (e:=56) (te:=vR) (z:=1) (b:=24) (y:=[.sl .nil 0 []]) (row:=y5.row) (l:=us) kr kr rfl E9 E9 kr aR om rfl rfl vO) (.s (.y 1 (.int .i64 (ca_ i)) (iN (i+1)) Yes.o (.h' (c2H s us p g) (.b 25 (.g (.l (k1 h1 h2 h3))))))))))) (fun h3 h3'=>(.r (.ch 4 (c2D s p us g) (j6.pre (args:=[(oO 23 0 0 0),z_,(AV.agg (Msg.row (nth us 0).m))]) (args':=[(oO 23 0 0 0),z_,(AV.agg (Msg.row (nth us 0).m))]) (j6.put2 [12,13,14,15,16,17,18,19,20,21,10,23] (b2O s p g us) (sA 14 (List.map y5.row (U2 1 0 p 0 (nth us 0).m))) (c2D s p us g) (a1s 1 0 p 0 (nth us 0).m (hp.rc ow) (hp.d.srt)) (rlB) (rlB)) ⟨AV.d9 _,AV.d9 _,⟨AV.d9 _,AV.d9 _,AV.d9 _,AV.d9 _,AV.d9 _,AV.d9 _,AV.d9 _,AV.d9 _,AV.d9 _,AV.d9 _,AV.d9 _,⟨rfl,rfl,.inl rfl⟩,⟨rfl,rfl,.inl rfl⟩,trivial⟩,trivial⟩) (.ao 5 36 (AV.osl 24 g 14 1 (k - 1)) (sA 14 (List.map y5.row (U2 1 0 p 0 (nth us 0).m))) (AV.osl 24 (g+1) 14 0 ((k - 1)+(U2 1 0 p 0 (nth us 0).m).length)) [(o_ 0 2 (c0O s)),(o_ s.d.g 10 (mE s.d.l)),(o_ 0 3 (b2h s)),(o_ 0 2 (c0N s)),(o_ s.d.ga 2 (mK (l5 s.d.al))),(o_ 0 7 (c5t s)),(o_ 0 3 (b2g s)),(o_ 0 1 (List.map x9 [1])),(o_ 0 1 (b2f s)),(o_ s.qg 9 (mC s.ql)),(o_ 1 1 []),(o_ 0 6 [[(iI s.now),(iI s.swept),(sA 1 [[(iI 1)]]),z_,(oO 5 0 0 0),(oO 6 0 0 0)]]),(o_ 0 2 [[(iI (p9 32)),(AV.osl 13 (l6 1 0 p (nth us 0).m).d.g 10 0 (List.length (l6 1 0 p (nth us 0).m).d.l))]]),(o_ ((l6 1 0 p (nth us 0).m).d.g) 10 (mE (l6 1 0 p (nth us 0).m).d.l)),(o_ 0 3 [[(iI (l6 1 0 p (nth us 0).m).d.gf),(iI (l6 1 0 p (nth us 0).m).d.gl),(iI (l6 1 0 p (nth us 0).m).d.gt)]]),(o_ 0 2 (c5s p us)),(o_ ((l6 1 0 p (nth us 0).m).d.ga) 2 (mK (l5 (l6 1 0 p (nth us 0).m).d.al))),(o_ 0 7 (c5r p us)),(o_ 0 3 [[(AV.osl 19 0 1 0 1),(AV.osl 20 0 1 0 1),(iI (l6 1 0 p (nth us 0).m).lost)]]),(o_ 0 1 (List.map x9 [0])),(o_ 0 1 [[(AV.osl 21 (l6 1 0 p (nth us 0).m).qg 9 0 (List.length (l6 1 0 p (nth us 0).m).ql))]]),(o_ ((l6 1 0 p (nth us 0).m).qg) 9 (mC (l6 1 0 p (nth us 0).m).ql)),(o_ 1 1 []),(o_ 0 6 (c5q p us)),(o_ (g+1) 14 (List.map y5.row (List.drop 1 us++(U2 1 0 p 0 (nth us 0).m)))),(o_ 0 14 [(y5.row (nth us 0))])] (sG (T:=tt) (e:=56) (te:=vR) (z:=1) (b:=24) (y:=[.sl .nil 0 []]) (row:=y5.row) (l:=us) kr kr rfl E9 E9 kr aR om rfl rfl vO) (.s (.y 1 (.int .i64 (ca_ i)) (iN (i+1)) Yes.o (.h' (c2G s p us g) (.b 25 (.g (.l (k2 h1 h2 h3)))))))))))))))))))))) (fun h2 h2'=>(.l (k3 h1 h2))))))) (fun h1 h1'=>(.n2 (.g (.n (.l (k4 h1))))))))
attribute [local irreducible] prS
theorem c7a {s p:SS} {us:List y5} {g:Nat} (h:((nth us 0).to == 0)=true):prS (s,p,us,g)=(l6 0 1 s (nth us 0).m,p,List.drop 1 us++U2 0 1 s 1 (nth us 0).m,g+1):=by with_unfolding_all (unfold prS; rw [if_pos h])
theorem c6Z {s p:SS} {us:List y5} {g:Nat} (h:((nth us 0).to == 0)=false):prS (s,p,us,g)=(s,l6 1 0 p (nth us 0).m,List.drop 1 us++U2 1 0 p 0 (nth us 0).m,g+1):=by with_unfolding_all (unfold prS; rw [if_neg (by rw [h]; simp)])
theorem c4p (r:Nat):∀ (s p:SS) (us:List y5) (k g i:Nat) (tF:Prs),SSI (65+65 * i) 15 s->SSI (65+65 * i) 15 p->k=us.length->k<=2+2 * i->i+r=20->tF=prF r (s,p,us,g) ->
 l7 (l9 Tryz.prog (X dR) (y7 Tryz.f4 3)) (some [5,6,13,16]) (some [5,6,13]) (mkF 178 [(5,(oO 11 0 0 0)),(6,(oO 23 0 0 0)),(13,(AV.osl 24 g 14 0 k)),(16,(iN i))]) [(o_ 0 2 [[(iI (p9 32)),(AV.osl 1 s.d.g 10 0 (List.length s.d.l))]]),(o_ s.d.g 10 (mE s.d.l)),(o_ 0 3 [[(iI s.d.gf),(iI s.d.gl),(iI s.d.gt)]]),(o_ 0 2 [[(iN ((List.length s.d.al))),(AV.osl 4 s.d.ga 2 0 (List.length (l5 s.d.al)))]]),(o_ s.d.ga 2 (mK (l5 s.d.al))),(o_ 0 7 [[z_,(iI s.d.st.t),(iI s.d.st.node),(iI s.d.st.n),(oO 0 0 0 0),(oO 2 0 0 0),(oO 3 0 0 0)]]),(o_ 0 3 [[(AV.osl 7 0 1 0 1),(AV.osl 8 0 1 0 1),(iI s.lost)]]),(o_ 0 1 (List.map x9 [1])),(o_ 0 1 [[(AV.osl 9 s.qg 9 0 (List.length s.ql))]]),(o_ s.qg 9 (mC s.ql)),(o_ 1 1 []),(o_ 0 6 [[(iI s.now),(iI s.swept),(sA 1 [[(iI 1)]]),z_,(oO 5 0 0 0),(oO 6 0 0 0)]]),(o_ 0 2 [[(iI (p9 32)),(AV.osl 13 p.d.g 10 0 (List.length p.d.l))]]),(o_ p.d.g 10 (mE p.d.l)),(o_ 0 3 [[(iI p.d.gf),(iI p.d.gl),(iI p.d.gt)]]),(o_ 0 2 [[(iN ((List.length p.d.al))),(AV.osl 16 p.d.ga 2 0 (List.length (l5 p.d.al)))]]),(o_ p.d.ga 2 (mK (l5 p.d.al))),(o_ 0 7 [[(iI 1),(iI p.d.st.t),(iI p.d.st.node),(iI p.d.st.n),(oO 12 0 0 0),(oO 14 0 0 0),(oO 15 0 0 0)]]),(o_ 0 3 [[(AV.osl 19 0 1 0 1),(AV.osl 20 0 1 0 1),(iI p.lost)]]),(o_ 0 1 (List.map x9 [0])),(o_ 0 1 [[(AV.osl 21 p.qg 9 0 (List.length p.ql))]]),(o_ p.qg 9 (mC p.ql)),(o_ 1 1 []),(o_ 0 6 [[(iI p.now),(iI p.swept),(sA 1 [[z_]]),z_,(oO 17 0 0 0),(oO 18 0 0 0)]]),(o_ g 14 (List.map y5.row us))] (.exit 6) (mkF 178 [(5,(oO 11 0 0 0)),(6,(oO 23 0 0 0)),(13,(AV.osl 24 tF.2.2.2 14 0 (List.length tF.2.2.1)))]) [(o_ 0 2 [[(iI (p9 32)),(AV.osl 1 tF.1.d.g 10 0 (List.length tF.1.d.l))]]),(o_ tF.1.d.g 10 (mE tF.1.d.l)),(o_ 0 3 [[(iI tF.1.d.gf),(iI tF.1.d.gl),(iI tF.1.d.gt)]]),(o_ 0 2 [[(iN ((List.length tF.1.d.al))),(AV.osl 4 tF.1.d.ga 2 0 (List.length (l5 tF.1.d.al)))]]),(o_ tF.1.d.ga 2 (mK (l5 tF.1.d.al))),(o_ 0 7 [[z_,(iI tF.1.d.st.t),(iI tF.1.d.st.node),(iI tF.1.d.st.n),(oO 0 0 0 0),(oO 2 0 0 0),(oO 3 0 0 0)]]),(o_ 0 3 [[(AV.osl 7 0 1 0 1),(AV.osl 8 0 1 0 1),(iI tF.1.lost)]]),(o_ 0 1 (List.map x9 [1])),(o_ 0 1 [[(AV.osl 9 tF.1.qg 9 0 (List.length tF.1.ql))]]),(o_ tF.1.qg 9 (mC tF.1.ql)),(o_ 1 1 []),(o_ 0 6 [[(iI tF.1.now),(iI tF.1.swept),(sA 1 [[(iI 1)]]),z_,(oO 5 0 0 0),(oO 6 0 0 0)]]),(o_ 0 2 [[(iI (p9 32)),(AV.osl 13 tF.2.1.d.g 10 0 (List.length tF.2.1.d.l))]]),(o_ tF.2.1.d.g 10 (mE tF.2.1.d.l)),(o_ 0 3 [[(iI tF.2.1.d.gf),(iI tF.2.1.d.gl),(iI tF.2.1.d.gt)]]),(o_ 0 2 [[(iN ((List.length tF.2.1.d.al))),(AV.osl 16 tF.2.1.d.ga 2 0 (List.length (l5 tF.2.1.d.al)))]]),(o_ tF.2.1.d.ga 2 (mK (l5 tF.2.1.d.al))),(o_ 0 7 [[(iI 1),(iI tF.2.1.d.st.t),(iI tF.2.1.d.st.node),(iI tF.2.1.d.st.n),(oO 12 0 0 0),(oO 14 0 0 0),(oO 15 0 0 0)]]),(o_ 0 3 [[(AV.osl 19 0 1 0 1),(AV.osl 20 0 1 0 1),(iI tF.2.1.lost)]]),(o_ 0 1 (List.map x9 [0])),(o_ 0 1 [[(AV.osl 21 tF.2.1.qg 9 0 (List.length tF.2.1.ql))]]),(o_ tF.2.1.qg 9 (mC tF.2.1.ql)),(o_ 1 1 []),(o_ 0 6 [[(iI tF.2.1.now),(iI tF.2.1.swept),(sA 1 [[z_]]),z_,(oO 17 0 0 0),(oO 18 0 0 0)]]),(o_ tF.2.2.2 14 (List.map y5.row tF.2.2.1))]:=by
 have mono:∀ {n m:Nat} {s:SS},SSI n 15 s->n<=m->SSI m 15 s:=fun h hm=>⟨h.d.mono hm,h.hn,h.hn2,h.hq,h.hs0,h.hs1⟩
 induction r with
 | zero =>
  intro s p us k g i tF hs hp hk hki hi hF
  subst hF
  refine a2B s p us k g i hs hp hk hki ow (fun h _ _=>absurd (of_decide_eq_true h) ow) (fun h _ _=>absurd (of_decide_eq_true h) ow) (fun h _=>absurd (of_decide_eq_true h) ow) fun _=>?_
  rw [hk]; rfl
 | succ r ih =>
  intro s p us k g i tF hs hp hk hki hi hF
  have hr1:=tV 0 1 s 1 (nth us 0).m
  have hr2:=tV 1 0 p 0 (nth us 0).m
  by_cases h0:us.length=0
  · have e:prF (r+1) (s,p,us,g)=(s,p,us,g):=by unfold prF; rw [if_pos h0]
    rw [e] at hF; subst hF
    refine a2B s p us k g i hs hp hk hki ow (fun _ h _=>absurd (of_decide_eq_true h) ow) (fun _ h _=>absurd (of_decide_eq_true h) ow) (fun _ _=>?_) (fun h=>absurd (of_decide_eq_false h) ow)
    rw [hk]
  · have e:prF (r+1) (s,p,us,g)=prF r (prS (s,p,us,g)):=by show (if us.length=0 then _ else _)=_; rw [if_neg h0]
    rw [e] at hF
    refine a2B s p us k g i hs hp hk hki ow (fun _ _ h=>?_) (fun _ _ h=>?_) (fun _ h=>absurd (of_decide_eq_false h) ow) (fun h=>absurd (of_decide_eq_false h) ow)
    · rw [c7a h] at hF
      exact ih _ _ _ _ _ (i+1) tF (by rw [show 65+65 * (i+1)=65+65 * i+65 by omega]; exact rO hs) (mono hp ow) (by rw [List.length_append,List.length_drop,hk]) ow ow hF
    · rw [c6Z h] at hF
      exact ih _ _ _ _ _ (i+1) tF (mono hs ow) (by rw [show 65+65 * (i+1)=65+65 * i+65 by omega]; exact rO hp) (by rw [List.length_append,List.length_drop,hk]) ow ow hF
@[simp] abbrev c2C (a:l9C) (b:l9C):Fr:=(mkF 178 [(18,(sA 9 (mC a))),(19,(sA 9 (mC b)))])
@[simp] abbrev c2B (a:l9C) (b:l9C) (c:Nat):Fr:=(mkF 178 [(18,(sA 9 (mC a))),(19,(sA 9 (mC b))),(163,(iN a.length)),(164,(iN c))])
theorem a5i (l:l9C) (k:l9C)  (i:Nat) (hlk:l=k) (hl:l.length < 1048576) (hle_:i<=l.length) {eX:Ex} {FX:Fr} {HX:Heap} (k1:(decide ((i:Int) < (l.length:Int)))=true->l7 (l9 Tryz.prog (X dR) (y7 Tryz.f4 4)) (some [18,19,163,164]) (some [18,19]) (mkF 178 [(18,(sA 9 (mC l))),(19,(sA 9 (mC k))),(163,(iN l.length)),(164,(iN (i+1)))]) [] eX FX HX) (k2:(decide ((i:Int) < (l.length:Int)))=false->((.exit 8:Ex),(c2C l k),[])=(eX,FX,HX)):l7 (l9 Tryz.prog (X dR) (y7 Tryz.f4 4)) (some [18,19,163,164]) (some [18,19]) (c2B l k i) [] eX FX HX:=by
 have hlk2:l.length=k.length:=by rw [hlk]
 exact K7 (.r (.g (.two (decide ((i:Int) < (l.length:Int))) (fun h1 h1'=>(.r (.s (.is 2 9 9 (mC l) (i:Int) (j5.row (nth l i)) (O9.mk _ ow ow) (.is 6 9 9 (mC k) (i:Int) (j5.row (nth k i)) (O9.mk _ ow ow) (.y 8 (bB (!(j5.eqb (nth l i) (nth k i)))) bF (Yes.b (by subst hlk; simp [j5.eqb,Key.uP,a2z])) (.rn (.y 0 (.int .i64 (ca_ i)) (iN (i+1)) Yes.o (.g (.l (k1 h1))))))))))) (fun h1 h1'=>(.l (k2 h1))))))
def c2s (l:List j5) (k:List j5) (i:Nat) (s:Unit):Unit:=()
theorem b8I (l:l9C) (k:l9C) (hlk:l=k) (hl:l.length < 1048576)  (r_:Nat):∀  (i:Nat) (sF:Unit),i+r_=l.length->sF=iter (c2s l k) r_ i () ->
 l7 (l9 Tryz.prog (X dR) (y7 Tryz.f4 4)) (some [18,19,163,164]) (some [18,19]) (c2B l k i) [] (.exit 8) (c2C l k) []:=by
 induction r_ with
 | zero =>
  intro  i sF hi_   hF
  obtain rfl:l.length=i:=by omega
  have e_:sF=():=hF
  refine a5i l k  l.length hlk hl (Nat.le_refl _) (fun h=>by simp at h <;> omega) (fun _=>?_)
  first | done | rfl | (rw [e_]; done) | (rw [e_]; rfl)
 | succ r_ ih =>
  intro  i sF hi_   hF
  refine a5i l k  i hlk hl ow (fun h1=>?_) (fun h=>by simp at h <;> omega)
  · exact ih  (i+1) sF ow   (by rw [hF] <;> simp only [iter,c2s,if_true,Bool.false_eq_true,if_false])
theorem b5j:SSI 0 15 (tkM 1 0 15 0 (sv0 1)).1:=by
 have h:=(b8x 1 0 (sv0 1) rfl rfl).2.2 0 0 (xZ 1).i
 simpa using h
@[simp] abbrev b6R :Ob:=(o_ ((tkM 1 0 15 0 (sv0 1)).1.d.g) 10 (mE (tkM 1 0 15 0 (sv0 1)).1.d.l))
@[simp] abbrev b6Q :Ob:=(o_ 0 3 [[(iI (tkM 1 0 15 0 (sv0 1)).1.d.gf),(iI (tkM 1 0 15 0 (sv0 1)).1.d.gl),(iI (tkM 1 0 15 0 (sv0 1)).1.d.gt)]])
@[simp] abbrev b6P :Ob:=(o_ ((tkM 1 0 15 0 (sv0 1)).1.d.ga) 2 (mK (l5 (tkM 1 0 15 0 (sv0 1)).1.d.al)))
@[simp] abbrev b6O :Ob:=(o_ ((tkM 1 0 15 0 (sv0 1)).1.qg) 9 (mC (tkM 1 0 15 0 (sv0 1)).1.ql))
@[simp] abbrev c7m (a:Int) (b:Int):Heap:=[(o_ 0 2 [[(iI (p9 32)),(AV.osl 1 (tkM 1 0 15 0 (sv0 1)).1.d.g 10 0 (List.length (tkM 1 0 15 0 (sv0 1)).1.d.l))]]),b6R,b6Q,(o_ 0 2 [[(iN ((List.length (tkM 1 0 15 0 (sv0 1)).1.d.al))),(AV.osl 4 (tkM 1 0 15 0 (sv0 1)).1.d.ga 2 0 (List.length (l5 (tkM 1 0 15 0 (sv0 1)).1.d.al)))]]),b6P,(o_ 0 7 [[(iI a),(iI (tkM 1 0 15 0 (sv0 1)).1.d.st.t),(iI (tkM 1 0 15 0 (sv0 1)).1.d.st.node),(iI (tkM 1 0 15 0 (sv0 1)).1.d.st.n),(oO 0 0 0 0),(oO 2 0 0 0),(oO 3 0 0 0)]]),(o_ 0 3 [[(AV.osl 7 0 1 0 1),(AV.osl 8 0 1 0 1),(iI (tkM 1 0 15 0 (sv0 1)).1.lost)]]),(o_ 0 1 (List.map x9 [b])),(o_ 0 1 [[(AV.osl 9 (tkM 1 0 15 0 (sv0 1)).1.qg 9 0 (List.length (tkM 1 0 15 0 (sv0 1)).1.ql))]]),b6O,(o_ 1 1 []),(o_ 0 6 [[(iI (tkM 1 0 15 0 (sv0 1)).1.now),(iI (tkM 1 0 15 0 (sv0 1)).1.swept),(sA 1 [[(iI b)]]),z_,(oO 5 0 0 0),(oO 6 0 0 0)]])]
theorem b1e (nd p:Int) (s:SS) (he:(nd,p,s)=(1,0,sv0 1)):AC 11 [(oO 11 0 0 0),(iI 15)] (c1v s nd p) ((sA 14 (List.map A9.row (tkM 1 0 15 0 (sv0 1)).2.1)),(c7m nd p)):=by
 have e1:nd=1:=congrArg (fun z=>z.1) he
 have e2:p=0:=congrArg (fun z=>z.2.1) he
 have e3:s=sv0 1:=congrArg (fun z=>z.2.2) he
 subst e1 e2 e3
 exact qI 1 0 15 0 (sv0 1) ow E9 ow ow rfl (of_decide_eq_true kr) (of_decide_eq_true kr)
@[simp] abbrev b6N :Ob:=(o_ ((l6 1 0 (tkM 1 0 15 0 (sv0 1)).1 E8).d.g) 10 (mE (l6 1 0 (tkM 1 0 15 0 (sv0 1)).1 E8).d.l))
@[simp] abbrev b6M :Ob:=(o_ 0 3 [[(iI (l6 1 0 (tkM 1 0 15 0 (sv0 1)).1 E8).d.gf),(iI (l6 1 0 (tkM 1 0 15 0 (sv0 1)).1 E8).d.gl),(iI (l6 1 0 (tkM 1 0 15 0 (sv0 1)).1 E8).d.gt)]])
@[simp] abbrev b6L :Ob:=(o_ ((l6 1 0 (tkM 1 0 15 0 (sv0 1)).1 E8).d.ga) 2 (mK (l5 (l6 1 0 (tkM 1 0 15 0 (sv0 1)).1 E8).d.al)))
@[simp] abbrev b6K :Ob:=(o_ ((l6 1 0 (tkM 1 0 15 0 (sv0 1)).1 E8).qg) 9 (mC (l6 1 0 (tkM 1 0 15 0 (sv0 1)).1 E8).ql))
@[simp] abbrev c7l (a:Int) (b:Int):Heap:=[(o_ 0 2 [[(iI (p9 32)),(AV.osl 1 (l6 1 0 (tkM 1 0 15 0 (sv0 1)).1 E8).d.g 10 0 (List.length (l6 1 0 (tkM 1 0 15 0 (sv0 1)).1 E8).d.l))]]),b6N,b6M,(o_ 0 2 [[(iN ((List.length (l6 1 0 (tkM 1 0 15 0 (sv0 1)).1 E8).d.al))),(AV.osl 4 (l6 1 0 (tkM 1 0 15 0 (sv0 1)).1 E8).d.ga 2 0 (List.length (l5 (l6 1 0 (tkM 1 0 15 0 (sv0 1)).1 E8).d.al)))]]),b6L,(o_ 0 7 [[(iI a),(iI (l6 1 0 (tkM 1 0 15 0 (sv0 1)).1 E8).d.st.t),(iI (l6 1 0 (tkM 1 0 15 0 (sv0 1)).1 E8).d.st.node),(iI (l6 1 0 (tkM 1 0 15 0 (sv0 1)).1 E8).d.st.n),(oO 0 0 0 0),(oO 2 0 0 0),(oO 3 0 0 0)]]),(o_ 0 3 [[(AV.osl 7 0 1 0 1),(AV.osl 8 0 1 0 1),(iI (l6 1 0 (tkM 1 0 15 0 (sv0 1)).1 E8).lost)]]),(o_ 0 1 (List.map x9 [b])),(o_ 0 1 [[(AV.osl 9 (l6 1 0 (tkM 1 0 15 0 (sv0 1)).1 E8).qg 9 0 (List.length (l6 1 0 (tkM 1 0 15 0 (sv0 1)).1 E8).ql))]]),b6K,(o_ 1 1 []),(o_ 0 6 [[(iI (l6 1 0 (tkM 1 0 15 0 (sv0 1)).1 E8).now),(iI (l6 1 0 (tkM 1 0 15 0 (sv0 1)).1 E8).swept),(sA 1 [[(iI b)]]),z_,(oO 5 0 0 0),(oO 6 0 0 0)]])]
theorem b1d (nd p:Int) (s:SS) (f:Int) (he:(nd,p,s)=(1,0,(tkM 1 0 15 0 (sv0 1)).1)):AC 10 [(oO 11 0 0 0),(iI f),(AV.agg [(iI 1),(iI 1),(iI 1),z_,(iI 3),(iI 9),z_,(AV.str (ByteArray.mk #[97])),(AV.str (ByteArray.mk #[98])),bF,(AV.int .u32 0),(AV.sl .nil 0 []),(AV.sl .nil 0 [])])] (c1v s nd p) ((sA 14 (List.map y5.row [y5.mk f (hdD 1 (tkM 1 0 15 0 (sv0 1)).1.d E8 (tkM 1 0 15 0 (sv0 1)).1.now).m])),(c7l nd p)):=by
 have e1:nd=1:=congrArg (fun z=>z.1) he
 have e2:p=0:=congrArg (fun z=>z.2.1) he
 have e3:s=(tkM 1 0 15 0 (sv0 1)).1:=congrArg (fun z=>z.2.2) he
 subst e1 e2 e3
 have q:=a7Y 1 0 (tkM 1 0 15 0 (sv0 1)).1 f E8 (b5j.rc ow) b5j.d.srt kr rfl
 exact q.pre ⟨AV.d9 _,AV.d9 _,by simp [AV.wk,AV.wks,Tg.le,E8,Msg.row],trivial⟩
@[simp] abbrev b6J :Ob:=(o_ ((tkM 1 0 1 15 (l6 1 0 (tkM 1 0 15 0 (sv0 1)).1 E8)).1.d.g) 10 (mE (tkM 1 0 1 15 (l6 1 0 (tkM 1 0 15 0 (sv0 1)).1 E8)).1.d.l))
@[simp] abbrev b6I :Ob:=(o_ 0 3 [[(iI (tkM 1 0 1 15 (l6 1 0 (tkM 1 0 15 0 (sv0 1)).1 E8)).1.d.gf),(iI (tkM 1 0 1 15 (l6 1 0 (tkM 1 0 15 0 (sv0 1)).1 E8)).1.d.gl),(iI (tkM 1 0 1 15 (l6 1 0 (tkM 1 0 15 0 (sv0 1)).1 E8)).1.d.gt)]])
@[simp] abbrev b6H :Ob:=(o_ ((tkM 1 0 1 15 (l6 1 0 (tkM 1 0 15 0 (sv0 1)).1 E8)).1.d.ga) 2 (mK (l5 (tkM 1 0 1 15 (l6 1 0 (tkM 1 0 15 0 (sv0 1)).1 E8)).1.d.al)))
@[simp] abbrev b6G :Ob:=(o_ ((tkM 1 0 1 15 (l6 1 0 (tkM 1 0 15 0 (sv0 1)).1 E8)).1.qg) 9 (mC (tkM 1 0 1 15 (l6 1 0 (tkM 1 0 15 0 (sv0 1)).1 E8)).1.ql))
@[simp] abbrev c5p :=(iN ((List.length (tkM 1 0 1 15 (l6 1 0 (tkM 1 0 15 0 (sv0 1)).1 E8)).1.d.al)))
@[simp] abbrev c0G :=(iI (tkM 1 0 1 15 (l6 1 0 (tkM 1 0 15 0 (sv0 1)).1 E8)).1.now)
@[simp] abbrev c7k (a:Int) (b:Int):Heap:=[(o_ 0 2 [[(iI (p9 32)),(AV.osl 1 (tkM 1 0 1 15 (l6 1 0 (tkM 1 0 15 0 (sv0 1)).1 E8)).1.d.g 10 0 (List.length (tkM 1 0 1 15 (l6 1 0 (tkM 1 0 15 0 (sv0 1)).1 E8)).1.d.l))]]),b6J,b6I,(o_ 0 2 [[c5p,(AV.osl 4 (tkM 1 0 1 15 (l6 1 0 (tkM 1 0 15 0 (sv0 1)).1 E8)).1.d.ga 2 0 (List.length (l5 (tkM 1 0 1 15 (l6 1 0 (tkM 1 0 15 0 (sv0 1)).1 E8)).1.d.al)))]]),b6H,(o_ 0 7 [[(iI a),(iI (tkM 1 0 1 15 (l6 1 0 (tkM 1 0 15 0 (sv0 1)).1 E8)).1.d.st.t),(iI (tkM 1 0 1 15 (l6 1 0 (tkM 1 0 15 0 (sv0 1)).1 E8)).1.d.st.node),(iI (tkM 1 0 1 15 (l6 1 0 (tkM 1 0 15 0 (sv0 1)).1 E8)).1.d.st.n),(oO 0 0 0 0),(oO 2 0 0 0),(oO 3 0 0 0)]]),(o_ 0 3 [[(AV.osl 7 0 1 0 1),(AV.osl 8 0 1 0 1),(iI (tkM 1 0 1 15 (l6 1 0 (tkM 1 0 15 0 (sv0 1)).1 E8)).1.lost)]]),(o_ 0 1 (List.map x9 [b])),(o_ 0 1 [[(AV.osl 9 (tkM 1 0 1 15 (l6 1 0 (tkM 1 0 15 0 (sv0 1)).1 E8)).1.qg 9 0 (List.length (tkM 1 0 1 15 (l6 1 0 (tkM 1 0 15 0 (sv0 1)).1 E8)).1.ql))]]),b6G,(o_ 1 1 []),(o_ 0 6 [[c0G,(iI (tkM 1 0 1 15 (l6 1 0 (tkM 1 0 15 0 (sv0 1)).1 E8)).1.swept),(sA 1 [[(iI b)]]),z_,(oO 5 0 0 0),(oO 6 0 0 0)]])]
theorem b1c (nd p:Int) (s:SS) (he:(nd,p,s)=(1,0,(l6 1 0 (tkM 1 0 15 0 (sv0 1)).1 E8))):AC 11 [(oO 11 0 0 0),(iI 1)] (c1v s nd p) ((sA 14 (List.map A9.row (tkM 1 0 1 15 (l6 1 0 (tkM 1 0 15 0 (sv0 1)).1 E8)).2.1)),(c7k nd p)):=by
 have e1:nd=1:=congrArg (fun z=>z.1) he
 have e2:p=0:=congrArg (fun z=>z.2.1) he
 have e3:s=(l6 1 0 (tkM 1 0 15 0 (sv0 1)).1 E8):=congrArg (fun z=>z.2.2) he
 subst e1 e2 e3
 exact qI 1 0 1 15 (l6 1 0 (tkM 1 0 15 0 (sv0 1)).1 E8) ow E9 ow ow kr (of_decide_eq_true kr) (of_decide_eq_true kr)
def a5Y:Ann:={ fin:=some 0 }
@[simp] abbrev b6F :Ob:=(o_ 0 3 [[(iI ((0,0,0,0):S0).1),(iI ((0,0,0,0):S0).2.1),(iI ((0,0,0,0):S0).2.2.1)]])
@[simp] abbrev sP :Ob:=(o_ 0 7 [[z_,(iI (l8.mk 0 0 0).t),(iI (l8.mk 0 0 0).node),(iI (l8.mk 0 0 0).n),(oO 0 0 0 0),(oO 2 0 0 0),(oO 3 0 0 0)]])
@[simp] abbrev b6E :Ob:=(o_ 0 6 [[(iI ((0,0,0,0):S0).2.2.2),z_,(AV.sl .nil 0 []),z_,(oO 5 0 0 0),(oO 6 0 0 0)]])
@[simp] abbrev b2N :Heap:=[dP,dO,b6F,dN,dM,sP,dX,(o_ 0 1 []),b6E]
@[simp] abbrev b6D :Ob:=(o_ 0 2 [[(iI (p9 32)),(AV.osl 10 (sv0 1).d.g 10 0 (List.length (sv0 1).d.l))]])
@[simp] abbrev b6C :Ob:=(o_ 0 2 [[(iN ((List.length (sv0 1).d.al))),(AV.osl 13 (sv0 1).d.ga 2 0 (List.length (l5 (sv0 1).d.al)))]])
@[simp] abbrev b6B :Ob:=(o_ 0 7 [[(iI 1),(iI (sv0 1).d.st.t),(iI (sv0 1).d.st.node),(iI (sv0 1).d.st.n),(oO 9 0 0 0),(oO 11 0 0 0),(oO 12 0 0 0)]])
@[simp] abbrev b6A :Ob:=(o_ 0 3 [[(AV.osl 16 0 1 0 1),(AV.osl 17 0 1 0 1),(iI (sv0 1).lost)]])
@[simp] abbrev b6z :Ob:=(o_ 0 1 [[(AV.osl 18 (sv0 1).qg 9 0 (List.length (sv0 1).ql))]])
@[simp] abbrev b6y :Ob:=(o_ 0 6 [[(iI (sv0 1).now),(iI (sv0 1).swept),(sA 1 [[z_]]),z_,(oO 14 0 0 0),(oO 15 0 0 0)]])
@[simp] abbrev a4E :Heap:=[dP,dO,b6F,dN,dM,sP,dX,(o_ 0 1 []),b6E,b6D,fU,fQ,b6C,fP,b6B,b6A,(o_ 0 1 (List.map x9 [0])),b6z,fO,(o_ 1 1 []),b6y]
@[simp] abbrev a2b :Ob:=(o_ 0 3 [[(iI (sW 0 15 ((0,0,0,0):S0)).1),(iI (sW 0 15 ((0,0,0,0):S0)).2.1),(iI (sW 0 15 ((0,0,0,0):S0)).2.2.1)]])
@[simp] abbrev a2a :Ob:=(o_ 0 6 [[(iI (sW 0 15 ((0,0,0,0):S0)).2.2.2),z_,(AV.sl .nil 0 []),z_,(oO 5 0 0 0),(oO 6 0 0 0)]])
@[simp] abbrev b2M :Heap:=[dP,dO,a2b,dN,dM,sP,dX,(o_ 0 1 []),a2a,b6D,fU,fQ,b6C,fP,b6B,b6A,(o_ 0 1 (List.map x9 [0])),b6z,fO,(o_ 1 1 []),b6y]
@[simp] abbrev b2L :Heap:=[dP,dO,a2b,dN,dM,sP,dX,(o_ 0 1 []),a2a,(o_ 0 2 [[(iI (p9 32)),(AV.osl 10 (tkM 1 0 15 0 (sv0 1)).1.d.g 10 0 (List.length (tkM 1 0 15 0 (sv0 1)).1.d.l))]]),b6R,b6Q,(o_ 0 2 [[(iN ((List.length (tkM 1 0 15 0 (sv0 1)).1.d.al))),(AV.osl 13 (tkM 1 0 15 0 (sv0 1)).1.d.ga 2 0 (List.length (l5 (tkM 1 0 15 0 (sv0 1)).1.d.al)))]]),b6P,(o_ 0 7 [[(iI 1),(iI (tkM 1 0 15 0 (sv0 1)).1.d.st.t),(iI (tkM 1 0 15 0 (sv0 1)).1.d.st.node),(iI (tkM 1 0 15 0 (sv0 1)).1.d.st.n),(oO 9 0 0 0),(oO 11 0 0 0),(oO 12 0 0 0)]]),(o_ 0 3 [[(AV.osl 16 0 1 0 1),(AV.osl 17 0 1 0 1),(iI (tkM 1 0 15 0 (sv0 1)).1.lost)]]),(o_ 0 1 (List.map x9 [0])),(o_ 0 1 [[(AV.osl 18 (tkM 1 0 15 0 (sv0 1)).1.qg 9 0 (List.length (tkM 1 0 15 0 (sv0 1)).1.ql))]]),b6O,(o_ 1 1 []),(o_ 0 6 [[(iI (tkM 1 0 15 0 (sv0 1)).1.now),(iI (tkM 1 0 15 0 (sv0 1)).1.swept),(sA 1 [[z_]]),z_,(oO 14 0 0 0),(oO 15 0 0 0)]])]
@[simp] abbrev b2K :Heap:=[dP,dO,a2b,dN,dM,sP,dX,(o_ 0 1 []),a2a,(o_ 0 2 [[(iI (p9 32)),(AV.osl 10 (l6 1 0 (tkM 1 0 15 0 (sv0 1)).1 E8).d.g 10 0 (List.length (l6 1 0 (tkM 1 0 15 0 (sv0 1)).1 E8).d.l))]]),b6N,b6M,(o_ 0 2 [[(iN ((List.length (l6 1 0 (tkM 1 0 15 0 (sv0 1)).1 E8).d.al))),(AV.osl 13 (l6 1 0 (tkM 1 0 15 0 (sv0 1)).1 E8).d.ga 2 0 (List.length (l5 (l6 1 0 (tkM 1 0 15 0 (sv0 1)).1 E8).d.al)))]]),b6L,(o_ 0 7 [[(iI 1),(iI (l6 1 0 (tkM 1 0 15 0 (sv0 1)).1 E8).d.st.t),(iI (l6 1 0 (tkM 1 0 15 0 (sv0 1)).1 E8).d.st.node),(iI (l6 1 0 (tkM 1 0 15 0 (sv0 1)).1 E8).d.st.n),(oO 9 0 0 0),(oO 11 0 0 0),(oO 12 0 0 0)]]),(o_ 0 3 [[(AV.osl 16 0 1 0 1),(AV.osl 17 0 1 0 1),(iI (l6 1 0 (tkM 1 0 15 0 (sv0 1)).1 E8).lost)]]),(o_ 0 1 (List.map x9 [0])),(o_ 0 1 [[(AV.osl 18 (l6 1 0 (tkM 1 0 15 0 (sv0 1)).1 E8).qg 9 0 (List.length (l6 1 0 (tkM 1 0 15 0 (sv0 1)).1 E8).ql))]]),b6K,(o_ 1 1 []),(o_ 0 6 [[(iI (l6 1 0 (tkM 1 0 15 0 (sv0 1)).1 E8).now),(iI (l6 1 0 (tkM 1 0 15 0 (sv0 1)).1 E8).swept),(sA 1 [[z_]]),z_,(oO 14 0 0 0),(oO 15 0 0 0)]])]
@[simp] abbrev a4D :Heap:=[dP,dO,a2b,dN,dM,sP,dX,(o_ 0 1 []),a2a,(o_ 0 2 [[(iI (p9 32)),(AV.osl 10 (tkM 1 0 1 15 (l6 1 0 (tkM 1 0 15 0 (sv0 1)).1 E8)).1.d.g 10 0 (List.length (tkM 1 0 1 15 (l6 1 0 (tkM 1 0 15 0 (sv0 1)).1 E8)).1.d.l))]]),b6J,b6I,(o_ 0 2 [[c5p,(AV.osl 13 (tkM 1 0 1 15 (l6 1 0 (tkM 1 0 15 0 (sv0 1)).1 E8)).1.d.ga 2 0 (List.length (l5 (tkM 1 0 1 15 (l6 1 0 (tkM 1 0 15 0 (sv0 1)).1 E8)).1.d.al)))]]),b6H,(o_ 0 7 [[(iI 1),(iI (tkM 1 0 1 15 (l6 1 0 (tkM 1 0 15 0 (sv0 1)).1 E8)).1.d.st.t),(iI (tkM 1 0 1 15 (l6 1 0 (tkM 1 0 15 0 (sv0 1)).1 E8)).1.d.st.node),(iI (tkM 1 0 1 15 (l6 1 0 (tkM 1 0 15 0 (sv0 1)).1 E8)).1.d.st.n),(oO 9 0 0 0),(oO 11 0 0 0),(oO 12 0 0 0)]]),(o_ 0 3 [[(AV.osl 16 0 1 0 1),(AV.osl 17 0 1 0 1),(iI (tkM 1 0 1 15 (l6 1 0 (tkM 1 0 15 0 (sv0 1)).1 E8)).1.lost)]]),(o_ 0 1 (List.map x9 [0])),(o_ 0 1 [[(AV.osl 18 (tkM 1 0 1 15 (l6 1 0 (tkM 1 0 15 0 (sv0 1)).1 E8)).1.qg 9 0 (List.length (tkM 1 0 1 15 (l6 1 0 (tkM 1 0 15 0 (sv0 1)).1 E8)).1.ql))]]),b6G,(o_ 1 1 []),(o_ 0 6 [[c0G,(iI (tkM 1 0 1 15 (l6 1 0 (tkM 1 0 15 0 (sv0 1)).1 E8)).1.swept),(sA 1 [[z_]]),z_,(oO 14 0 0 0),(oO 15 0 0 0)]])]
@[simp] abbrev c5o :=(AV.agg [(iI 1),(iI 1),(iI 1),z_,(iI 3),(iI 9),z_,(AV.str (ByteArray.mk #[97])),(AV.str (ByteArray.mk #[98])),bF,(AV.int .u32 0),(AV.sl .nil 0 []),(AV.sl .nil 0 [])])
theorem a4t  :AC 14 [] [] (bT,[]):=by
 have l1:(tkM 1 0 15 0 (sv0 1)).2.1.length=1:=by kernel_rfl
 have l2:(tkM 1 0 1 15 (l6 1 0 (tkM 1 0 15 0 (sv0 1)).1 E8)).2.1.length=1:=by kernel_rfl
 exact q9 (fn:=Tryz.f14) (ann:=a5Y) (Has.o Tryz.func14) (.r (.s (.ch 0 b2N (j6.put2 [] [] (oO 8 0 0 0) b2N (b0a 0 (by first | omega | assumption | (simp; done) | (simp; omega) | exact kr | kernel_rfl | exact of_decide_eq_true kr) (by first | omega | assumption | (simp; done) | (simp; omega) | exact kr | kernel_rfl | exact of_decide_eq_true kr)) (trivial) (⟨rfl,⟨Ob.ren0 (Entry.y8 0 _),⟨rfl,⟨rfl,⟨Ob.ren0 (Key.y8 0 _),⟨rfl,⟨rfl,⟨rfl,⟨rfl,trivial⟩⟩⟩⟩⟩⟩⟩⟩⟩)) (.ch 2 a4E (j6.pre (args:=[(iI 1),(sA 1 [[z_]])]) (args':=[(iI 1),(AV.sl .clip 1 [[z_]])]) (j6.put2 [] b2N (oO 20 0 0 0) a4E (tC 1 0 (by first | omega | assumption | (simp; done) | (simp; omega) | exact kr | kernel_rfl | exact of_decide_eq_true kr) (by first | omega | assumption | (simp; done) | (simp; omega) | exact kr | kernel_rfl | exact of_decide_eq_true kr)) (trivial) (rlB)) ⟨AV.d9 _,⟨rfl,rfl,.inl rfl⟩,trivial⟩) (.s (.n3 (.c 7 ((a9Y).lift kr kr a4E) (.n (.rn (.ch 1 b2M (j6.put2 [0,1,2,3,4,5,6,7,8] a4E (AV.sl .nil 0 []) b2M (a9H 0 15 ((0,0,0,0):S0) (by first | omega | assumption | (simp; done) | (simp; omega) | exact kr | kernel_rfl | exact of_decide_eq_true kr) (by first | omega | assumption | (simp; done) | (simp; omega) | exact kr | kernel_rfl | exact of_decide_eq_true kr) (by first | omega | assumption | (simp; done) | (simp; omega) | exact kr | kernel_rfl | exact of_decide_eq_true kr)) (⟨rfl,⟨Ob.ren0 (Entry.y8 0 _),⟨rfl,⟨rfl,⟨Ob.ren0 (Key.y8 0 _),⟨rfl,⟨rfl,⟨rfl,⟨rfl,trivial⟩⟩⟩⟩⟩⟩⟩⟩⟩) (⟨rfl,⟨Ob.ren0 (Entry.y8 0 _),⟨rfl,⟨rfl,⟨Ob.ren0 (Key.y8 0 _),⟨rfl,⟨rfl,⟨rfl,⟨rfl,trivial⟩⟩⟩⟩⟩⟩⟩⟩⟩)) (.ch 3 b2L (j6.put2 [9,10,11,12,13,14,15,16,17,18,19,20] b2M (sA 14 (List.map A9.row (tkM 1 0 15 0 (sv0 1)).2.1)) b2L (b1e 1 0 (sv0 1) (by first | omega | assumption | (simp; done) | (simp; omega) | exact kr | kernel_rfl | exact of_decide_eq_true kr)) (rlB) (rlB)) (.s (.ch 3 b2K (j6.pre (args:=[(oO 20 0 0 0),(iI 4),c5o]) (args':=[(oO 20 0 0 0),(iI 4),c5o]) (j6.put2 [9,10,11,12,13,14,15,16,17,18,19,20] b2L (sA 14 (List.map y5.row [y5.mk 4 (hdD 1 (tkM 1 0 15 0 (sv0 1)).1.d E8 (tkM 1 0 15 0 (sv0 1)).1.now).m])) b2K (b1d 1 0 (tkM 1 0 15 0 (sv0 1)).1 4 (by first | omega | assumption | (simp; done) | (simp; omega) | exact kr | kernel_rfl | exact of_decide_eq_true kr)) (rlB) (rlB)) ⟨AV.d9 _,AV.d9 _,⟨AV.d9 _,AV.d9 _,AV.d9 _,AV.d9 _,AV.d9 _,AV.d9 _,AV.d9 _,AV.d9 _,AV.d9 _,AV.d9 _,AV.d9 _,⟨rfl,rfl,.inl rfl⟩,⟨rfl,rfl,.inl rfl⟩,trivial⟩,trivial⟩) (.s (.ch 1 a4D (j6.put2 [9,10,11,12,13,14,15,16,17,18,19,20] b2K (sA 14 (List.map A9.row (tkM 1 0 1 15 (l6 1 0 (tkM 1 0 15 0 (sv0 1)).1 E8)).2.1)) a4D (b1c 1 0 (l6 1 0 (tkM 1 0 15 0 (sv0 1)).1 E8) (by first | omega | assumption | (simp; done) | (simp; omega) | exact kr | kernel_rfl | exact of_decide_eq_true kr)) (rlB) (rlB)) (.s (.u2 (.y 5 (.int .i64 ((List.length (List.map A9.row (tkM 1 0 15 0 (sv0 1)).2.1):Nat):Int)) (iN ((tkM 1 0 15 0 (sv0 1)).2.1.length)) (Yes.len _ _ _) (.u (.y 6 (bB ((((tkM 1 0 15 0 (sv0 1)).2.1.length:Nat):Int) == 1)) bT (Yes.b kr) (.u2 (.is 10 14 14 (List.map A9.row (tkM 1 0 15 0 (sv0 1)).2.1) 0 (A9.row (nth (tkM 1 0 15 0 (sv0 1)).2.1 0)) (O9.mk _ ow ow) (.u4 (.y 14 (bB ((nth (tkM 1 0 15 0 (sv0 1)).2.1 0).m.kind == 4)) bT (Yes.b kr) (.u2 (.is 18 14 14 (List.map A9.row (tkM 1 0 15 0 (sv0 1)).2.1) 0 (A9.row (nth (tkM 1 0 15 0 (sv0 1)).2.1 0)) (O9.mk _ ow ow) (.u3 (.y 21 (bB ((nth (tkM 1 0 15 0 (sv0 1)).2.1 0).to == 0)) bT (Yes.b kr) (.u2 (.y 25 (.int .i64 ((List.length (List.map y5.row [y5.mk 4 (hdD 1 (tkM 1 0 15 0 (sv0 1)).1.d E8 (tkM 1 0 15 0 (sv0 1)).1.now).m]):Nat):Int)) (iN ([y5.mk 4 (hdD 1 (tkM 1 0 15 0 (sv0 1)).1.d E8 (tkM 1 0 15 0 (sv0 1)).1.now).m].length)) (Yes.len _ _ _) (.u (.y 26 (bB ((([y5.mk 4 (hdD 1 (tkM 1 0 15 0 (sv0 1)).1.d E8 (tkM 1 0 15 0 (sv0 1)).1.now).m].length:Nat):Int) == 1)) bT (Yes.b kr) (.u2 (.is 30 14 14 (List.map y5.row [y5.mk 4 (hdD 1 (tkM 1 0 15 0 (sv0 1)).1.d E8 (tkM 1 0 15 0 (sv0 1)).1.now).m]) 0 (y5.row (nth [y5.mk 4 (hdD 1 (tkM 1 0 15 0 (sv0 1)).1.d E8 (tkM 1 0 15 0 (sv0 1)).1.now).m] 0)) (O9.mk _ ow (Nat.le_of_ble_eq_true kr)) (.u3 (.y 33 (bB ((nth [y5.mk 4 (hdD 1 (tkM 1 0 15 0 (sv0 1)).1.d E8 (tkM 1 0 15 0 (sv0 1)).1.now).m] 0).to == 4)) bT (Yes.b kr) (.u2 (.is 37 14 14 (List.map y5.row [y5.mk 4 (hdD 1 (tkM 1 0 15 0 (sv0 1)).1.d E8 (tkM 1 0 15 0 (sv0 1)).1.now).m]) 0 (y5.row (nth [y5.mk 4 (hdD 1 (tkM 1 0 15 0 (sv0 1)).1.d E8 (tkM 1 0 15 0 (sv0 1)).1.now).m] 0)) (O9.mk _ ow (Nat.le_of_ble_eq_true kr)) (.u4 (.y 41 (bB ((nth [y5.mk 4 (hdD 1 (tkM 1 0 15 0 (sv0 1)).1.d E8 (tkM 1 0 15 0 (sv0 1)).1.now).m] 0).m.kind == 2)) bT (Yes.b kr) (.u2 (.y 45 (.int .i64 ((List.length (List.map A9.row (tkM 1 0 1 15 (l6 1 0 (tkM 1 0 15 0 (sv0 1)).1 E8)).2.1):Nat):Int)) (iN ((tkM 1 0 1 15 (l6 1 0 (tkM 1 0 15 0 (sv0 1)).1 E8)).2.1.length)) (Yes.len _ _ _) (.u (.y 46 (bB ((((tkM 1 0 1 15 (l6 1 0 (tkM 1 0 15 0 (sv0 1)).1 E8)).2.1.length:Nat):Int) == 1)) bT (Yes.b kr) (.u2 (.is 50 14 14 (List.map A9.row (tkM 1 0 1 15 (l6 1 0 (tkM 1 0 15 0 (sv0 1)).1 E8)).2.1) 0 (A9.row (nth (tkM 1 0 1 15 (l6 1 0 (tkM 1 0 15 0 (sv0 1)).1 E8)).2.1 0)) (O9.mk _ ow ow) (.u4 (.y 54 (bB ((nth (tkM 1 0 1 15 (l6 1 0 (tkM 1 0 15 0 (sv0 1)).1 E8)).2.1 0).m.kind == 3)) bT (Yes.b kr) (.u2 (.is 58 14 14 (List.map A9.row (tkM 1 0 1 15 (l6 1 0 (tkM 1 0 15 0 (sv0 1)).1 E8)).2.1) 0 (A9.row (nth (tkM 1 0 1 15 (l6 1 0 (tkM 1 0 15 0 (sv0 1)).1 E8)).2.1 0)) (O9.mk _ ow ow) (.u4 (.y 62 (.int .i64 ((List.length (mC (nth (tkM 1 0 1 15 (l6 1 0 (tkM 1 0 15 0 (sv0 1)).1 E8)).2.1 0).m.cards):Nat):Int)) (iN ((nth (tkM 1 0 1 15 (l6 1 0 (tkM 1 0 15 0 (sv0 1)).1 E8)).2.1 0).m.cards.length)) (Yes.len _ _ _) (.u (.y 63 (bB ((((nth (tkM 1 0 1 15 (l6 1 0 (tkM 1 0 15 0 (sv0 1)).1 E8)).2.1 0).m.cards.length:Nat):Int) == 1)) bT (Yes.b kr) (.u2 (.c 67 (j6.put2 [9,10,11,12,13,14,15,16,17,18,19,20] a4D c0G a4D (b3X 1 0 (tkM 1 0 1 15 (l6 1 0 (tkM 1 0 15 0 (sv0 1)).1 E8)).1 ) (rlB) (rlB)) (.u (.y 68 (bB ((tkM 1 0 1 15 (l6 1 0 (tkM 1 0 15 0 (sv0 1)).1 E8)).1.now == 16)) bT (Yes.b kr) (.g (.h' [] (.q 0 bT)))))))))))))))))))))))))))))))))))))))))))))))))))))))))))))
@[simp] abbrev b2J :Heap:=[nO,nN,jU,jT,jS,jR,jQ,(o_ 0 1 (List.map x9 [1])),jP,jO,(o_ 1 1 []),jN]
@[simp] abbrev c2A :Heap:=[nO,nN,jU,jT,jS,jR,jQ,(o_ 0 1 (List.map x9 [1])),jP,jO,(o_ 1 1 []),jN,jM,fU,fQ,jL,fP,jK,jJ,(o_ 0 1 (List.map x9 [0])),jI,fO,(o_ 1 1 []),jH]
@[simp] abbrev b2I (a:List Int) (b:List Int):Heap:=[nO,nN,jU,jT,jS,jR,jQ,(o_ 0 1 (List.map x9 [1])),jP,jO,(o_ 1 1 []),jN,jM,fU,fQ,jL,fP,jK,jJ,(o_ 0 1 (List.map x9 [0])),jI,fO,(o_ 1 1 []),jH,(o_ 0 2 [(Tp.row (cT a))]),(o_ 0 2 [[(sA 1 (List.map x9 b)),z_]]),(o_ (cN a) 9 (mC (cL a)))]
@[simp] abbrev c2z (a:List Int) (b:List Int):Heap:=[nO,nN,jU,jT,jS,jR,jQ,(o_ 0 1 (List.map x9 [1])),jP,jO,(o_ 1 1 []),jN,jM,fU,fQ,jL,fP,jK,jJ,(o_ 0 1 (List.map x9 [0])),jI,fO,(o_ 1 1 []),jH,(o_ 0 2 [(Tp.row (cT a))]),(o_ 0 2 [(Tp.row (cT b))]),(o_ (cN a) 9 (mC (cL a))),(o_ (cN b) 9 (mC (cL b)))]
@[simp] abbrev c2y (a:List Int) (b:List Int):Fr:=(mkF 178 [(5,(oO 11 0 0 0)),(6,(oO 23 0 0 0)),(9,(AV.osl 26 (cN a) 9 0 (cN a))),(10,(AV.osl 27 (cN b) 9 0 (cN b)))])
@[simp] abbrev b6x (a:List Int):Ob:=(o_ (cN a) 9 (mC (stX (cL a))))
@[simp] abbrev c8i (a:List Int) (b:List Int):Heap:=[nO,nN,jU,jT,jS,jR,jQ,(o_ 0 1 (List.map x9 [1])),jP,jO,(o_ 1 1 []),jN,jM,fU,fQ,jL,fP,jK,jJ,(o_ 0 1 (List.map x9 [0])),jI,fO,(o_ 1 1 []),jH,(o_ 0 2 [(Tp.row (cT a))]),(o_ 0 2 [(Tp.row (cT b))]),b6x a,(o_ (cN b) 9 (mC (cL b)))]
@[simp] abbrev b6w (a:List Int):Ob:=(o_ (cN a) 9 (mC (stY (cL a))))
@[simp] abbrev c7j (a:List Int) (b:List Int):Heap:=[nO,nN,jU,jT,jS,jR,jQ,(o_ 0 1 (List.map x9 [1])),jP,jO,(o_ 1 1 []),jN,jM,fU,fQ,jL,fP,jK,jJ,(o_ 0 1 (List.map x9 [0])),jI,fO,(o_ 1 1 []),jH,(o_ 0 2 [(Tp.row (cT a))]),(o_ 0 2 [(Tp.row (cT b))]),b6x a,b6w b]
@[simp] abbrev c0F (a:List Int):=[[(iI (p9 32)),(AV.osl 1 (l6 0 1 (sv0 0) (u7 (stX (cL a)))).d.g 10 0 (List.length (l6 0 1 (sv0 0) (u7 (stX (cL a)))).d.l))]]
@[simp] abbrev a7l (a:List Int):Ob:=(o_ 0 2 (c0F a))
@[simp] abbrev a7k (a:List Int):Ob:=(o_ ((l6 0 1 (sv0 0) (u7 (stX (cL a)))).d.g) 10 (mE (l6 0 1 (sv0 0) (u7 (stX (cL a)))).d.l))
@[simp] abbrev c0E (a:List Int):=[[(iI (l6 0 1 (sv0 0) (u7 (stX (cL a)))).d.gf),(iI (l6 0 1 (sv0 0) (u7 (stX (cL a)))).d.gl),(iI (l6 0 1 (sv0 0) (u7 (stX (cL a)))).d.gt)]]
@[simp] abbrev a7j (a:List Int):Ob:=(o_ 0 3 (c0E a))
@[simp] abbrev c0D (a:List Int):=[[(iN ((List.length (l6 0 1 (sv0 0) (u7 (stX (cL a)))).d.al))),(AV.osl 4 (l6 0 1 (sv0 0) (u7 (stX (cL a)))).d.ga 2 0 (List.length (l5 (l6 0 1 (sv0 0) (u7 (stX (cL a)))).d.al)))]]
@[simp] abbrev a7i (a:List Int):Ob:=(o_ 0 2 (c0D a))
@[simp] abbrev a7h (a:List Int):Ob:=(o_ ((l6 0 1 (sv0 0) (u7 (stX (cL a)))).d.ga) 2 (mK (l5 (l6 0 1 (sv0 0) (u7 (stX (cL a)))).d.al)))
@[simp] abbrev c0C (a:List Int):=[[z_,(iI (l6 0 1 (sv0 0) (u7 (stX (cL a)))).d.st.t),(iI (l6 0 1 (sv0 0) (u7 (stX (cL a)))).d.st.node),(iI (l6 0 1 (sv0 0) (u7 (stX (cL a)))).d.st.n),(oO 0 0 0 0),(oO 2 0 0 0),(oO 3 0 0 0)]]
@[simp] abbrev a7g (a:List Int):Ob:=(o_ 0 7 (c0C a))
@[simp] abbrev c0B (a:List Int):=[[(AV.osl 7 0 1 0 1),(AV.osl 8 0 1 0 1),(iI (l6 0 1 (sv0 0) (u7 (stX (cL a)))).lost)]]
@[simp] abbrev a7f (a:List Int):Ob:=(o_ 0 3 (c0B a))
@[simp] abbrev c0A (a:List Int):=[[(AV.osl 9 (l6 0 1 (sv0 0) (u7 (stX (cL a)))).qg 9 0 (List.length (l6 0 1 (sv0 0) (u7 (stX (cL a)))).ql))]]
@[simp] abbrev a7e (a:List Int):Ob:=(o_ 0 1 (c0A a))
@[simp] abbrev a7d (a:List Int):Ob:=(o_ ((l6 0 1 (sv0 0) (u7 (stX (cL a)))).qg) 9 (mC (l6 0 1 (sv0 0) (u7 (stX (cL a)))).ql))
@[simp] abbrev c0z (a:List Int):=[[(iI (l6 0 1 (sv0 0) (u7 (stX (cL a)))).now),(iI (l6 0 1 (sv0 0) (u7 (stX (cL a)))).swept),(sA 1 [[(iI 1)]]),z_,(oO 5 0 0 0),(oO 6 0 0 0)]]
@[simp] abbrev a7c (a:List Int):Ob:=(o_ 0 6 (c0z a))
@[simp] abbrev b2H (a:List Int) (b:List Int):Heap:=[a7l a,a7k a,a7j a,a7i a,a7h a,a7g a,a7f a,(o_ 0 1 (List.map x9 [1])),a7e a,a7d a,(o_ 1 1 []),a7c a,jM,fU,fQ,jL,fP,jK,jJ,(o_ 0 1 (List.map x9 [0])),jI,fO,(o_ 1 1 []),jH,(o_ 0 2 [(Tp.row (cT a))]),(o_ 0 2 [(Tp.row (cT b))]),(o_ ((cN a)+1) 9 []),b6w b]
@[simp] abbrev b2d (a:List Int):=[[(iI (p9 32)),(AV.osl 13 (l6 1 0 (sv0 1) (u7 (stY (cL a)))).d.g 10 0 (List.length (l6 1 0 (sv0 1) (u7 (stY (cL a)))).d.l))]]
@[simp] abbrev a1Z (a:List Int):Ob:=(o_ 0 2 (b2d a))
@[simp] abbrev a1Y (a:List Int):Ob:=(o_ ((l6 1 0 (sv0 1) (u7 (stY (cL a)))).d.g) 10 (mE (l6 1 0 (sv0 1) (u7 (stY (cL a)))).d.l))
@[simp] abbrev b2c (a:List Int):=[[(iI (l6 1 0 (sv0 1) (u7 (stY (cL a)))).d.gf),(iI (l6 1 0 (sv0 1) (u7 (stY (cL a)))).d.gl),(iI (l6 1 0 (sv0 1) (u7 (stY (cL a)))).d.gt)]]
@[simp] abbrev a1X (a:List Int):Ob:=(o_ 0 3 (b2c a))
@[simp] abbrev b2b (a:List Int):=[[(iN ((List.length (l6 1 0 (sv0 1) (u7 (stY (cL a)))).d.al))),(AV.osl 16 (l6 1 0 (sv0 1) (u7 (stY (cL a)))).d.ga 2 0 (List.length (l5 (l6 1 0 (sv0 1) (u7 (stY (cL a)))).d.al)))]]
@[simp] abbrev a1W (a:List Int):Ob:=(o_ 0 2 (b2b a))
@[simp] abbrev yT (a:List Int):Ob:=(o_ ((l6 1 0 (sv0 1) (u7 (stY (cL a)))).d.ga) 2 (mK (l5 (l6 1 0 (sv0 1) (u7 (stY (cL a)))).d.al)))
@[simp] abbrev b2a (a:List Int):=[[(iI 1),(iI (l6 1 0 (sv0 1) (u7 (stY (cL a)))).d.st.t),(iI (l6 1 0 (sv0 1) (u7 (stY (cL a)))).d.st.node),(iI (l6 1 0 (sv0 1) (u7 (stY (cL a)))).d.st.n),(oO 12 0 0 0),(oO 14 0 0 0),(oO 15 0 0 0)]]
@[simp] abbrev yS (a:List Int):Ob:=(o_ 0 7 (b2a a))
@[simp] abbrev b1Z (a:List Int):=[[(AV.osl 19 0 1 0 1),(AV.osl 20 0 1 0 1),(iI (l6 1 0 (sv0 1) (u7 (stY (cL a)))).lost)]]
@[simp] abbrev yR (a:List Int):Ob:=(o_ 0 3 (b1Z a))
@[simp] abbrev b1Y (a:List Int):=[[(AV.osl 21 (l6 1 0 (sv0 1) (u7 (stY (cL a)))).qg 9 0 (List.length (l6 1 0 (sv0 1) (u7 (stY (cL a)))).ql))]]
@[simp] abbrev yQ (a:List Int):Ob:=(o_ 0 1 (b1Y a))
@[simp] abbrev yP (a:List Int):Ob:=(o_ ((l6 1 0 (sv0 1) (u7 (stY (cL a)))).qg) 9 (mC (l6 1 0 (sv0 1) (u7 (stY (cL a)))).ql))
@[simp] abbrev b1X (a:List Int):=[[(iI (l6 1 0 (sv0 1) (u7 (stY (cL a)))).now),(iI (l6 1 0 (sv0 1) (u7 (stY (cL a)))).swept),(sA 1 [[z_]]),z_,(oO 17 0 0 0),(oO 18 0 0 0)]]
@[simp] abbrev yO (a:List Int):Ob:=(o_ 0 6 (b1X a))
@[simp] abbrev c2x (a:List Int) (b:List Int):Heap:=[a7l a,a7k a,a7j a,a7i a,a7h a,a7g a,a7f a,(o_ 0 1 (List.map x9 [1])),a7e a,a7d a,(o_ 1 1 []),a7c a,a1Z b,a1Y b,a1X b,a1W b,yT b,yS b,yR b,(o_ 0 1 (List.map x9 [0])),yQ b,yP b,(o_ 1 1 []),yO b,(o_ 0 2 [(Tp.row (cT a))]),(o_ 0 2 [(Tp.row (cT b))]),(o_ ((cN a)+1) 9 []),(o_ ((cN b)+1) 9 [])]
@[simp] abbrev gK (a:List Int) (b:List Int):Heap:=[a7l a,a7k a,a7j a,a7i a,a7h a,a7g a,a7f a,(o_ 0 1 (List.map x9 [1])),a7e a,a7d a,(o_ 1 1 []),a7c a,a1Z b,a1Y b,a1X b,a1W b,yT b,yS b,yR b,(o_ 0 1 (List.map x9 [0])),yQ b,yP b,(o_ 1 1 []),yO b]
@[simp] abbrev c0y (a:List Int):=[[(iI (p9 32)),(AV.osl 1 (tkM 0 1 15 0 (l6 0 1 (sv0 0) (u7 (stX (cL a))))).1.d.g 10 0 (List.length (tkM 0 1 15 0 (l6 0 1 (sv0 0) (u7 (stX (cL a))))).1.d.l))]]
@[simp] abbrev a9x (a:List Int):Ob:=(o_ 0 2 (c0y a))
@[simp] abbrev a9w (a:List Int):Ob:=(o_ ((tkM 0 1 15 0 (l6 0 1 (sv0 0) (u7 (stX (cL a))))).1.d.g) 10 (mE (tkM 0 1 15 0 (l6 0 1 (sv0 0) (u7 (stX (cL a))))).1.d.l))
@[simp] abbrev c0x (a:List Int):=[[(iI (tkM 0 1 15 0 (l6 0 1 (sv0 0) (u7 (stX (cL a))))).1.d.gf),(iI (tkM 0 1 15 0 (l6 0 1 (sv0 0) (u7 (stX (cL a))))).1.d.gl),(iI (tkM 0 1 15 0 (l6 0 1 (sv0 0) (u7 (stX (cL a))))).1.d.gt)]]
@[simp] abbrev a9v (a:List Int):Ob:=(o_ 0 3 (c0x a))
@[simp] abbrev c0w (a:List Int):=[[(iN ((List.length (tkM 0 1 15 0 (l6 0 1 (sv0 0) (u7 (stX (cL a))))).1.d.al))),(AV.osl 4 (tkM 0 1 15 0 (l6 0 1 (sv0 0) (u7 (stX (cL a))))).1.d.ga 2 0 (List.length (l5 (tkM 0 1 15 0 (l6 0 1 (sv0 0) (u7 (stX (cL a))))).1.d.al)))]]
@[simp] abbrev a9u (a:List Int):Ob:=(o_ 0 2 (c0w a))
@[simp] abbrev a9t (a:List Int):Ob:=(o_ ((tkM 0 1 15 0 (l6 0 1 (sv0 0) (u7 (stX (cL a))))).1.d.ga) 2 (mK (l5 (tkM 0 1 15 0 (l6 0 1 (sv0 0) (u7 (stX (cL a))))).1.d.al)))
@[simp] abbrev c0v (a:List Int):=[[z_,(iI (tkM 0 1 15 0 (l6 0 1 (sv0 0) (u7 (stX (cL a))))).1.d.st.t),(iI (tkM 0 1 15 0 (l6 0 1 (sv0 0) (u7 (stX (cL a))))).1.d.st.node),(iI (tkM 0 1 15 0 (l6 0 1 (sv0 0) (u7 (stX (cL a))))).1.d.st.n),(oO 0 0 0 0),(oO 2 0 0 0),(oO 3 0 0 0)]]
@[simp] abbrev a9s (a:List Int):Ob:=(o_ 0 7 (c0v a))
@[simp] abbrev c0u (a:List Int):=[[(AV.osl 7 0 1 0 1),(AV.osl 8 0 1 0 1),(iI (tkM 0 1 15 0 (l6 0 1 (sv0 0) (u7 (stX (cL a))))).1.lost)]]
@[simp] abbrev a9r (a:List Int):Ob:=(o_ 0 3 (c0u a))
@[simp] abbrev c0t (a:List Int):=[[(AV.osl 9 (tkM 0 1 15 0 (l6 0 1 (sv0 0) (u7 (stX (cL a))))).1.qg 9 0 (List.length (tkM 0 1 15 0 (l6 0 1 (sv0 0) (u7 (stX (cL a))))).1.ql))]]
@[simp] abbrev a9q (a:List Int):Ob:=(o_ 0 1 (c0t a))
@[simp] abbrev a9p (a:List Int):Ob:=(o_ ((tkM 0 1 15 0 (l6 0 1 (sv0 0) (u7 (stX (cL a))))).1.qg) 9 (mC (tkM 0 1 15 0 (l6 0 1 (sv0 0) (u7 (stX (cL a))))).1.ql))
@[simp] abbrev c0s (a:List Int):=[[(iI (tkM 0 1 15 0 (l6 0 1 (sv0 0) (u7 (stX (cL a))))).1.now),(iI (tkM 0 1 15 0 (l6 0 1 (sv0 0) (u7 (stX (cL a))))).1.swept),(sA 1 [[(iI 1)]]),z_,(oO 5 0 0 0),(oO 6 0 0 0)]]
@[simp] abbrev a9o (a:List Int):Ob:=(o_ 0 6 (c0s a))
@[simp] abbrev c2w (a:List Int) (b:List Int):Heap:=[a9x a,a9w a,a9v a,a9u a,a9t a,a9s a,a9r a,(o_ 0 1 (List.map x9 [1])),a9q a,a9p a,(o_ 1 1 []),a9o a,a1Z b,a1Y b,a1X b,a1W b,yT b,yS b,yR b,(o_ 0 1 (List.map x9 [0])),yQ b,yP b,(o_ 1 1 []),yO b,(o_ 0 14 (List.map y5.row []))]
@[simp] abbrev c7i (a:List Int) (b:List Int):Heap:=[a9x a,a9w a,a9v a,a9u a,a9t a,a9s a,a9r a,(o_ 0 1 (List.map x9 [1])),a9q a,a9p a,(o_ 1 1 []),a9o a,a1Z b,a1Y b,a1X b,a1W b,yT b,yS b,yR b,(o_ 0 1 (List.map x9 [0])),yQ b,yP b,(o_ 1 1 []),yO b,(o_ 1 14 (List.map y5.row ([]++[(y5.mk 1 (bE (R8 (List.map Entry.card (l6 0 1 (sv0 0) (u7 (stX (cL a)))).d.l))))])))]
@[simp] abbrev c7h (a:List Int) (b:List Int):Fr:=(mkF 178 [(5,(oO 11 0 0 0)),(6,(oO 23 0 0 0)),(13,(AV.osl 24 (pF a b).2.2.2 14 0 (List.length (pF a b).2.2.1)))])
@[simp] abbrev iA (a:List Int) (b:List Int):Heap:=[(o_ 0 2 [[(iI (p9 32)),(AV.osl 1 (pF a b).1.d.g 10 0 (List.length (pF a b).1.d.l))]]),(o_ ((pF a b).1.d.g) 10 (mE (pF a b).1.d.l)),(o_ 0 3 [[(iI (pF a b).1.d.gf),(iI (pF a b).1.d.gl),(iI (pF a b).1.d.gt)]]),(o_ 0 2 [[(iN ((List.length (pF a b).1.d.al))),(AV.osl 4 (pF a b).1.d.ga 2 0 (List.length (l5 (pF a b).1.d.al)))]]),(o_ ((pF a b).1.d.ga) 2 (mK (l5 (pF a b).1.d.al))),(o_ 0 7 [[z_,(iI (pF a b).1.d.st.t),(iI (pF a b).1.d.st.node),(iI (pF a b).1.d.st.n),(oO 0 0 0 0),(oO 2 0 0 0),(oO 3 0 0 0)]]),(o_ 0 3 [[(AV.osl 7 0 1 0 1),(AV.osl 8 0 1 0 1),(iI (pF a b).1.lost)]]),(o_ 0 1 (List.map x9 [1])),(o_ 0 1 [[(AV.osl 9 (pF a b).1.qg 9 0 (List.length (pF a b).1.ql))]]),(o_ ((pF a b).1.qg) 9 (mC (pF a b).1.ql)),(o_ 1 1 []),(o_ 0 6 [[(iI (pF a b).1.now),(iI (pF a b).1.swept),(sA 1 [[(iI 1)]]),z_,(oO 5 0 0 0),(oO 6 0 0 0)]]),(o_ 0 2 [[(iI (p9 32)),(AV.osl 13 (pF a b).2.1.d.g 10 0 (List.length (pF a b).2.1.d.l))]]),(o_ ((pF a b).2.1.d.g) 10 (mE (pF a b).2.1.d.l)),(o_ 0 3 [[(iI (pF a b).2.1.d.gf),(iI (pF a b).2.1.d.gl),(iI (pF a b).2.1.d.gt)]]),(o_ 0 2 [[(iN ((List.length (pF a b).2.1.d.al))),(AV.osl 16 (pF a b).2.1.d.ga 2 0 (List.length (l5 (pF a b).2.1.d.al)))]]),(o_ ((pF a b).2.1.d.ga) 2 (mK (l5 (pF a b).2.1.d.al))),(o_ 0 7 [[(iI 1),(iI (pF a b).2.1.d.st.t),(iI (pF a b).2.1.d.st.node),(iI (pF a b).2.1.d.st.n),(oO 12 0 0 0),(oO 14 0 0 0),(oO 15 0 0 0)]]),(o_ 0 3 [[(AV.osl 19 0 1 0 1),(AV.osl 20 0 1 0 1),(iI (pF a b).2.1.lost)]]),(o_ 0 1 (List.map x9 [0])),(o_ 0 1 [[(AV.osl 21 (pF a b).2.1.qg 9 0 (List.length (pF a b).2.1.ql))]]),(o_ ((pF a b).2.1.qg) 9 (mC (pF a b).2.1.ql)),(o_ 1 1 []),(o_ 0 6 [[(iI (pF a b).2.1.now),(iI (pF a b).2.1.swept),(sA 1 [[z_]]),z_,(oO 17 0 0 0),(oO 18 0 0 0)]]),(o_ ((pF a b).2.2.2) 14 (List.map y5.row (pF a b).2.2.1))]
@[simp] abbrev c7g (a:List Int) (b:List Int):Fr:=(mkF 178 [(18,(sA 9 (mC (List.map Entry.card (pF a b).1.d.l)))),(19,(sA 9 (mC (List.map Entry.card (pF a b).2.1.d.l))))])
theorem qE {p:Prop} (h:p:=by first | omega | assumption | (simp; done) | (simp; omega) | exact kr):p:=h
theorem a8k (a b:List Int) (ha:a.length < 9223372036854775808) (hb:b.length < 9223372036854775808):AC 4 [(sA 1 (List.map x9 a)),(sA 1 (List.map x9 b))] [] (bT,[]):=by
 obtain ⟨⟨f1,f2,f3⟩,⟨f4,f5⟩,⟨f6,f7⟩,f8,f9⟩:=a8e a b
 have na:=a1R a
 have nb:=a1R b
 have hx:=(a8W (cL a)).1
 have hy:=(a8V (cL b)).1
 have f10:(List.map Entry.card (pF a b).1.d.l).length=(List.map Entry.card (pF a b).2.1.d.l).length:=by rw [f7]
 have f11:(List.map Entry.card (pF a b).1.d.l).length < 1048576:=by rw [List.length_map]; omega
 exact q9 (fn:=Tryz.f4) (ann:=dR) (Has.o Tryz.func4) (.r (.s (.ch 1 b2J (j6.pre (args:=[z_,(sA 1 [[(iI 1)]])]) (args':=[z_,(AV.sl .clip 1 [[(iI 1)]])]) (j6.put2 [] [] (oO 11 0 0 0) b2J (tC 0 1 qE qE) (trivial) (rlB)) ⟨AV.d9 _,⟨rfl,rfl,.inl rfl⟩,trivial⟩) (.ch 3 c2A (j6.pre (args:=[(iI 1),(sA 1 [[z_]])]) (args':=[(iI 1),(AV.sl .clip 1 [[z_]])]) (j6.put2 [] b2J (oO 23 0 0 0) c2A (tC 1 0 qE qE) (trivial) (rlB)) ⟨AV.d9 _,⟨rfl,rfl,.inl rfl⟩,trivial⟩) (.s (.n2 (.rn (.s (.s (.ch 1 (b2I a b) (j6.put2 [24] [(o_ 0 2 a6J),(o_ ((sv0 0).d.g) 10 (mE (sv0 0).d.l)),(o_ 0 3 a6I),(o_ 0 2 a6H),(o_ ((sv0 0).d.ga) 2 (mK (l5 (sv0 0).d.al))),(o_ 0 7 a6G),(o_ 0 3 a6F),(o_ 0 1 (List.map x9 [1])),(o_ 0 1 a6E),(o_ ((sv0 0).qg) 9 (mC (sv0 0).ql)),(o_ 1 1 []),(o_ 0 6 a6D),(o_ 0 2 a2V),(o_ ((sv0 1).d.g) 10 (mE (sv0 1).d.l)),(o_ 0 3 a2U),(o_ 0 2 a2T),(o_ ((sv0 1).d.ga) 2 (mK (l5 (sv0 1).d.al))),(o_ 0 7 a2S),(o_ 0 3 a2R),(o_ 0 1 (List.map x9 [0])),(o_ 0 1 a2Q),(o_ ((sv0 1).qg) 9 (mC (sv0 1).ql)),(o_ 1 1 []),(o_ 0 6 a2P),(o_ 0 2 [[(sA 1 (List.map x9 a)),z_]]),(o_ 0 2 [[(sA 1 (List.map x9 b)),z_]])] (AV.osl 26 (cN a) 9 0 (cN a)) (b2I a b) (xB a qE) (⟨rfl,trivial⟩) (⟨rfl,⟨Ob.ren0 (j5.y8 0 _),trivial⟩⟩)) (.ch 3 (c2z a b) (j6.put2 [25] (b2I a b) (AV.osl 27 (cN b) 9 0 (cN b)) (c2z a b) (xB b qE) (⟨rfl,trivial⟩) (⟨rfl,⟨Ob.ren0 (j5.y8 0 _),trivial⟩⟩)) (.s (.g (.loop (c2y a b) (b8H (cT a) (cT b) (cN a) (cN b) (cN a) (cN b) (cL b) ow (cN a) (cL a) 0 (stX (cL a)) ow na.1 (by rw [na.1]; with_unfolding_all rfl)) (.r (.g (.loop (c2y a b) (b8G (cT a) (cT b) (cN a) (cN b) (cN a) (cN b) (stX (cL a)) ow (cN b) (cL b) 0 (stY (cL b)) ow nb.1 (by rw [nb.1]; with_unfolding_all rfl)) (.r (.w 9 (mC (stX (cL a))) (And.intro (G9 (room:=none) kr (by first | omega | (simp [hx,hy,na.1,nb.1]; done) | (simp [hx,hy,na.1,nb.1]; omega))) (j5.y8 _ _):F5 (c7j a b) 9 (AV.osl 26 (cN a) 9 0 (cN a))=some (mC (stX (cL a)))/\AV.D5 0 (mC (stX (cL a)))=true) (.ch 3 (b2H a b) (j6.pre (args:=[(oO 11 0 0 0),(iI 1),(AV.agg (Msg.row (u7 (stX (cL a)))))]) (args':=[(oO 11 0 0 0),(iI 1),(AV.agg [(iI 3),z_,z_,z_,z_,z_,z_,e_,e_,bF,(AV.int .u32 0),(sA 9 (mC (stX (cL a)))),(AV.sl .nil 0 [])])]) (j6.put2 [0,1,2,3,4,5,6,7,8,9,10,11] [(o_ 0 2 a6J),(o_ ((sv0 0).d.g) 10 (mE (sv0 0).d.l)),(o_ 0 3 a6I),(o_ 0 2 a6H),(o_ ((sv0 0).d.ga) 2 (mK (l5 (sv0 0).d.al))),(o_ 0 7 a6G),(o_ 0 3 a6F),(o_ 0 1 (List.map x9 [1])),(o_ 0 1 a6E),(o_ ((sv0 0).qg) 9 (mC (sv0 0).ql)),(o_ 1 1 []),(o_ 0 6 a6D),(o_ 0 2 a2V),(o_ ((sv0 1).d.g) 10 (mE (sv0 1).d.l)),(o_ 0 3 a2U),(o_ 0 2 a2T),(o_ ((sv0 1).d.ga) 2 (mK (l5 (sv0 1).d.al))),(o_ 0 7 a2S),(o_ 0 3 a2R),(o_ 0 1 (List.map x9 [0])),(o_ 0 1 a2Q),(o_ ((sv0 1).qg) 9 (mC (sv0 1).ql)),(o_ 1 1 []),(o_ 0 6 a2P),(o_ 0 2 [(Tp.row (cT a))]),(o_ 0 2 [(Tp.row (cT b))]),(o_ ((cN a)+1) 9 []),(o_ (cN b) 9 (mC (stY (cL b))))] AV.unk (b2H a b) (a3w 0 1 (sv0 0) 1 (u7 (stX (cL a))) ((xZ 0).rc ow) ((xZ 0).i.d.srt)) (rlB) (rlB)) ⟨AV.d9 _,AV.d9 _,⟨AV.d9 _,AV.d9 _,AV.d9 _,AV.d9 _,AV.d9 _,AV.d9 _,AV.d9 _,AV.d9 _,AV.d9 _,AV.d9 _,AV.d9 _,⟨rfl,rfl,.inl rfl⟩,⟨rfl,rfl,.inr rfl⟩,trivial⟩,trivial⟩) (.s (.w 10 (mC (stY (cL b))) (And.intro (G9 (room:=none) kr (by first | omega | (simp [hx,hy,na.1,nb.1]; done) | (simp [hx,hy,na.1,nb.1]; omega))) (j5.y8 _ _):F5 (b2H a b) 9 (AV.osl 27 (cN b) 9 0 (cN b))=some (mC (stY (cL b)))/\AV.D5 0 (mC (stY (cL b)))=true) (.ch 3 (c2x a b) (j6.pre (args:=[(oO 23 0 0 0),z_,(AV.agg (Msg.row (u7 (stY (cL b)))))]) (args':=[(oO 23 0 0 0),z_,(AV.agg [(iI 3),z_,z_,z_,z_,z_,z_,e_,e_,bF,(AV.int .u32 0),(sA 9 (mC (stY (cL b)))),(AV.sl .nil 0 [])])]) (j6.put2 [12,13,14,15,16,17,18,19,20,21,10,23] [(o_ 0 2 (c0F a)),(o_ ((l6 0 1 (sv0 0) (u7 (stX (cL a)))).d.g) 10 (mE (l6 0 1 (sv0 0) (u7 (stX (cL a)))).d.l)),(o_ 0 3 (c0E a)),(o_ 0 2 (c0D a)),(o_ ((l6 0 1 (sv0 0) (u7 (stX (cL a)))).d.ga) 2 (mK (l5 (l6 0 1 (sv0 0) (u7 (stX (cL a)))).d.al))),(o_ 0 7 (c0C a)),(o_ 0 3 (c0B a)),(o_ 0 1 (List.map x9 [1])),(o_ 0 1 (c0A a)),(o_ ((l6 0 1 (sv0 0) (u7 (stX (cL a)))).qg) 9 (mC (l6 0 1 (sv0 0) (u7 (stX (cL a)))).ql)),(o_ 1 1 []),(o_ 0 6 (c0z a)),(o_ 0 2 a2V),(o_ ((sv0 1).d.g) 10 (mE (sv0 1).d.l)),(o_ 0 3 a2U),(o_ 0 2 a2T),(o_ ((sv0 1).d.ga) 2 (mK (l5 (sv0 1).d.al))),(o_ 0 7 a2S),(o_ 0 3 a2R),(o_ 0 1 (List.map x9 [0])),(o_ 0 1 a2Q),(o_ ((sv0 1).qg) 9 (mC (sv0 1).ql)),(o_ 1 1 []),(o_ 0 6 a2P),(o_ 0 2 [(Tp.row (cT a))]),(o_ 0 2 [(Tp.row (cT b))]),(o_ ((cN a)+1) 9 []),(o_ ((cN b)+1) 9 [])] AV.unk (c2x a b) (a3w 1 0 (sv0 1) 0 (u7 (stY (cL b))) ((xZ 1).rc ow) ((xZ 1).i.d.srt)) (rlB) (rlB)) ⟨AV.d9 _,AV.d9 _,⟨AV.d9 _,AV.d9 _,AV.d9 _,AV.d9 _,AV.d9 _,AV.d9 _,AV.d9 _,AV.d9 _,AV.d9 _,AV.d9 _,AV.d9 _,⟨rfl,rfl,.inl rfl⟩,⟨rfl,rfl,.inr rfl⟩,trivial⟩,trivial⟩) (.h' (gK a b) (.b 24 (.s (.c 1 (j6.put2 [0,1,2,3,4,5,6,7,8,9,10,11] (gK a b) (oO 5 0 0 0) (gK a b) (gB 0 1 (l6 0 1 (sv0 0) (u7 (stX (cL a)))) ) (rlB) (rlB)) (.n2 (.c 5 (j6.put2 [0,1,2,3,4,5,6,7,8,9,10,11] (gK a b) (oO 5 0 0 0) (gK a b) (gB 0 1 (l6 0 1 (sv0 0) (u7 (stX (cL a)))) ) (rlB) (rlB)) (.n (.c 6 (j6.put2 [0,1,2,3,4,5] (gK a b) (oO 0 0 0 0) (gK a b) (V4 (l6 0 1 (sv0 0) (u7 (stX (cL a)))).d.l (l6 0 1 (sv0 0) (u7 (stX (cL a)))).d.g (l6 0 1 (sv0 0) (u7 (stX (cL a)))).d.al (l6 0 1 (sv0 0) (u7 (stX (cL a)))).d.ga (l6 0 1 (sv0 0) (u7 (stX (cL a)))).d.gf (l6 0 1 (sv0 0) (u7 (stX (cL a)))).d.gl (l6 0 1 (sv0 0) (u7 (stX (cL a)))).d.gt 0 (l6 0 1 (sv0 0) (u7 (stX (cL a)))).d.st.t (l6 0 1 (sv0 0) (u7 (stX (cL a)))).d.st.node (l6 0 1 (sv0 0) (u7 (stX (cL a)))).d.st.n ) (rlA) (rlA)) (.n3 (.c 11 (j6.put2 [12,13,14,15,16,17,18,19,20,21,10,23] (gK a b) (oO 17 0 0 0) (gK a b) (gB 1 0 (l6 1 0 (sv0 1) (u7 (stY (cL b)))) ) (rlB) (rlB)) (.n3 (.c 16 (j6.put2 [12,13,14,15,16,17,18,19,20,21,10,23] (gK a b) (oO 17 0 0 0) (gK a b) (gB 1 0 (l6 1 0 (sv0 1) (u7 (stY (cL b)))) ) (rlB) (rlB)) (.n (.c 17 (j6.put2 [12,13,14,15,16,17] (gK a b) (oO 12 0 0 0) (gK a b) (V4 (l6 1 0 (sv0 1) (u7 (stY (cL b)))).d.l (l6 1 0 (sv0 1) (u7 (stY (cL b)))).d.g (l6 1 0 (sv0 1) (u7 (stY (cL b)))).d.al (l6 1 0 (sv0 1) (u7 (stY (cL b)))).d.ga (l6 1 0 (sv0 1) (u7 (stY (cL b)))).d.gf (l6 1 0 (sv0 1) (u7 (stY (cL b)))).d.gl (l6 1 0 (sv0 1) (u7 (stY (cL b)))).d.gt 1 (l6 1 0 (sv0 1) (u7 (stY (cL b)))).d.st.t (l6 1 0 (sv0 1) (u7 (stY (cL b)))).d.st.node (l6 1 0 (sv0 1) (u7 (stY (cL b)))).d.st.n ) (rlA) (rlA)) (.n (.rn (.s (.ch 1 (c2w a b) (j6.put2 [0,1,2,3,4,5,6,7,8,9,10,11] [(o_ 0 2 (c0F a)),(o_ ((l6 0 1 (sv0 0) (u7 (stX (cL a)))).d.g) 10 (mE (l6 0 1 (sv0 0) (u7 (stX (cL a)))).d.l)),(o_ 0 3 (c0E a)),(o_ 0 2 (c0D a)),(o_ ((l6 0 1 (sv0 0) (u7 (stX (cL a)))).d.ga) 2 (mK (l5 (l6 0 1 (sv0 0) (u7 (stX (cL a)))).d.al))),(o_ 0 7 (c0C a)),(o_ 0 3 (c0B a)),(o_ 0 1 (List.map x9 [1])),(o_ 0 1 (c0A a)),(o_ ((l6 0 1 (sv0 0) (u7 (stX (cL a)))).qg) 9 (mC (l6 0 1 (sv0 0) (u7 (stX (cL a)))).ql)),(o_ 1 1 []),(o_ 0 6 (c0z a)),(o_ 0 2 (b2d b)),(o_ ((l6 1 0 (sv0 1) (u7 (stY (cL b)))).d.g) 10 (mE (l6 1 0 (sv0 1) (u7 (stY (cL b)))).d.l)),(o_ 0 3 (b2c b)),(o_ 0 2 (b2b b)),(o_ ((l6 1 0 (sv0 1) (u7 (stY (cL b)))).d.ga) 2 (mK (l5 (l6 1 0 (sv0 1) (u7 (stY (cL b)))).d.al))),(o_ 0 7 (b2a b)),(o_ 0 3 (b1Z b)),(o_ 0 1 (List.map x9 [0])),(o_ 0 1 (b1Y b)),(o_ ((l6 1 0 (sv0 1) (u7 (stY (cL b)))).qg) 9 (mC (l6 1 0 (sv0 1) (u7 (stY (cL b)))).ql)),(o_ 1 1 []),(o_ 0 6 (b1X b)),(o_ 0 14 (List.map y5.row []))] (sA 14 [(y5.row (y5.mk 1 (bE (R8 (List.map Entry.card (l6 0 1 (sv0 0) (u7 (stX (cL a)))).d.l)))))]) (c2w a b) (a7E 0 1 (l6 0 1 (sv0 0) (u7 (stX (cL a)))) (f1) (f2) (f3)) (rlB) (rlB)) (.g (.roll 2 (.r (.ru (.s (.h' [(o_ 0 2 (c0y a)),(o_ ((tkM 0 1 15 0 (l6 0 1 (sv0 0) (u7 (stX (cL a))))).1.d.g) 10 (mE (tkM 0 1 15 0 (l6 0 1 (sv0 0) (u7 (stX (cL a))))).1.d.l)),(o_ 0 3 (c0x a)),(o_ 0 2 (c0w a)),(o_ ((tkM 0 1 15 0 (l6 0 1 (sv0 0) (u7 (stX (cL a))))).1.d.ga) 2 (mK (l5 (tkM 0 1 15 0 (l6 0 1 (sv0 0) (u7 (stX (cL a))))).1.d.al))),(o_ 0 7 (c0v a)),(o_ 0 3 (c0u a)),(o_ 0 1 (List.map x9 [1])),(o_ 0 1 (c0t a)),(o_ ((tkM 0 1 15 0 (l6 0 1 (sv0 0) (u7 (stX (cL a))))).1.qg) 9 (mC (tkM 0 1 15 0 (l6 0 1 (sv0 0) (u7 (stX (cL a))))).1.ql)),(o_ 1 1 []),(o_ 0 6 (c0s a)),(o_ 0 2 (b2d b)),(o_ ((l6 1 0 (sv0 1) (u7 (stY (cL b)))).d.g) 10 (mE (l6 1 0 (sv0 1) (u7 (stY (cL b)))).d.l)),(o_ 0 3 (b2c b)),(o_ 0 2 (b2b b)),(o_ ((l6 1 0 (sv0 1) (u7 (stY (cL b)))).d.ga) 2 (mK (l5 (l6 1 0 (sv0 1) (u7 (stY (cL b)))).d.al))),(o_ 0 7 (b2a b)),(o_ 0 3 (b1Z b)),(o_ 0 1 (List.map x9 [0])),(o_ 0 1 (b1Y b)),(o_ ((l6 1 0 (sv0 1) (u7 (stY (cL b)))).qg) 9 (mC (l6 1 0 (sv0 1) (u7 (stY (cL b)))).ql)),(o_ 1 1 []),(o_ 0 6 (b1X b)),(o_ 0 14 (List.map y5.row [])),(o_ 0 14 [(y5.row (y5.mk 1 (bE (R8 (List.map Entry.card (l6 0 1 (sv0 0) (u7 (stX (cL a)))).d.l)))))])] (.ao 3 36 (AV.osl 24 0 14 0 0) (AV.sl .clip 14 [(y5.row (y5.mk 1 (bE (R8 (List.map Entry.card (l6 0 1 (sv0 0) (u7 (stX (cL a)))).d.l)))))]) (AV.osl 24 1 14 0 1) [(o_ 0 2 (c0y a)),(o_ ((tkM 0 1 15 0 (l6 0 1 (sv0 0) (u7 (stX (cL a))))).1.d.g) 10 (mE (tkM 0 1 15 0 (l6 0 1 (sv0 0) (u7 (stX (cL a))))).1.d.l)),(o_ 0 3 (c0x a)),(o_ 0 2 (c0w a)),(o_ ((tkM 0 1 15 0 (l6 0 1 (sv0 0) (u7 (stX (cL a))))).1.d.ga) 2 (mK (l5 (tkM 0 1 15 0 (l6 0 1 (sv0 0) (u7 (stX (cL a))))).1.d.al))),(o_ 0 7 (c0v a)),(o_ 0 3 (c0u a)),(o_ 0 1 (List.map x9 [1])),(o_ 0 1 (c0t a)),(o_ ((tkM 0 1 15 0 (l6 0 1 (sv0 0) (u7 (stX (cL a))))).1.qg) 9 (mC (tkM 0 1 15 0 (l6 0 1 (sv0 0) (u7 (stX (cL a))))).1.ql)),(o_ 1 1 []),(o_ 0 6 (c0s a)),(o_ 0 2 (b2d b)),(o_ ((l6 1 0 (sv0 1) (u7 (stY (cL b)))).d.g) 10 (mE (l6 1 0 (sv0 1) (u7 (stY (cL b)))).d.l)),(o_ 0 3 (b2c b)),(o_ 0 2 (b2b b)),(o_ ((l6 1 0 (sv0 1) (u7 (stY (cL b)))).d.ga) 2 (mK (l5 (l6 1 0 (sv0 1) (u7 (stY (cL b)))).d.al))),(o_ 0 7 (b2a b)),(o_ 0 3 (b1Z b)),(o_ 0 1 (List.map x9 [0])),(o_ 0 1 (b1Y b)),(o_ ((l6 1 0 (sv0 1) (u7 (stY (cL b)))).qg) 9 (mC (l6 1 0 (sv0 1) (u7 (stY (cL b)))).ql)),(o_ 1 1 []),(o_ 0 6 (b1X b)),(o_ 1 14 (List.map y5.row ([]++[(y5.mk 1 (bE (R8 (List.map Entry.card (l6 0 1 (sv0 0) (u7 (stX (cL a)))).d.l))))]))),(o_ 0 14 [(y5.row (y5.mk 1 (bE (R8 (List.map Entry.card (l6 0 1 (sv0 0) (u7 (stX (cL a)))).d.l)))))])] (J2 (T:=tt) (e:=56) (te:=vR) (z:=1) (b:=24) (y:=[.sl .nil 0 []]) (row:=y5.row) (l:=[]) kr kr rfl E9 E9 kr aR om rfl rfl vO) (.s (.h' (c7i a b) (.b 25 (.s (.rn (.g (.loop (c7h a b) (c4p 20 (pS2 a) (pP b) [y5.mk 1 (bE (R8 (List.map Entry.card (pS a).d.l)))] 1 1 0 (pF a b) f4 f5 rfl ow ow sU) (.r (.c 1 (j6.put2 [0,1,2,3,4,5,6,7,8,9,10,11] (iA a b) (oO 5 0 0 0) (iA a b) (gB 0 1 (pF a b).1 ) (rlB) (rlB)) (.c 2 (j6.put2 [0,1,2,3,4,5] (iA a b) (oO 0 0 0 0) (iA a b) (V4 (pF a b).1.d.l (pF a b).1.d.g (pF a b).1.d.al (pF a b).1.d.ga (pF a b).1.d.gf (pF a b).1.d.gl (pF a b).1.d.gt 0 (pF a b).1.d.st.t (pF a b).1.d.st.node (pF a b).1.d.st.n ) (rlA) (rlA)) (.c 3 (j6.put2 [0,1] (iA a b) (sA 9 (mC (List.map Entry.card (pF a b).1.d.l))) (iA a b) (vV (p9 32) (pF a b).1.d.l (pF a b).1.d.g (List.length (pF a b).1.d.l) qE qE) (rlF) (rlF)) (.c 5 (j6.put2 [12,13,14,15,16,17,18,19,20,21,10,23] (iA a b) (oO 17 0 0 0) (iA a b) (gB 1 0 (pF a b).2.1 ) (rlB) (rlB)) (.c 6 (j6.put2 [12,13,14,15,16,17] (iA a b) (oO 12 0 0 0) (iA a b) (V4 (pF a b).2.1.d.l (pF a b).2.1.d.g (pF a b).2.1.d.al (pF a b).2.1.d.ga (pF a b).2.1.d.gf (pF a b).2.1.d.gl (pF a b).2.1.d.gt 1 (pF a b).2.1.d.st.t (pF a b).2.1.d.st.node (pF a b).2.1.d.st.n ) (rlA) (rlA)) (.c 7 (j6.put2 [12,13] (iA a b) (sA 9 (mC (List.map Entry.card (pF a b).2.1.d.l))) (iA a b) (vV (p9 32) (pF a b).2.1.d.l (pF a b).2.1.d.g (List.length (pF a b).2.1.d.l) qE qE) (rlF) (rlF)) (.s (.y 1 (.int .i64 ((List.length (mC (List.map Entry.card (pF a b).1.d.l)):Nat):Int)) (iN ((List.map Entry.card (pF a b).1.d.l).length)) (Yes.len _ _ _) (.y 3 (.int .i64 ((List.length (mC (List.map Entry.card (pF a b).2.1.d.l)):Nat):Int)) (iN ((List.map Entry.card (pF a b).2.1.d.l).length)) (Yes.len _ _ _) (.y 4 (bB ((((List.map Entry.card (pF a b).1.d.l).length:Nat):Int) != (((List.map Entry.card (pF a b).2.1.d.l).length:Nat):Int))) bF (Yes.b (bne_eq_false_iff_eq.2 (by rw [f10]))) (.n3 (.y 8 (bB (decide ((((List.length (pF a b).2.2.1):Nat):Int) > 0))) bF (Yes.b (decide_eq_false (by rw [f6]; simp))) (.rn (.h' [] (.b 0 (.y 1 (.int .i64 ((List.length (mC (List.map Entry.card (pF a b).1.d.l)):Nat):Int)) (iN ((List.map Entry.card (pF a b).1.d.l).length)) (Yes.len _ _ _) (.g (.loop (c7g a b) (b8I (List.map Entry.card (pF a b).1.d.l) (List.map Entry.card (pF a b).2.1.d.l) f7 f11 (List.length (List.map Entry.card (pF a b).1.d.l)) 0 () ow rfl) (.r (.c 0 ((a4t).lift kr kr []) (.q 0 bT)))))))))))))))))))))))))))))))))))))))))))))))))))))))))))))))))))))))))))))
end Go.Proofs.YtmghjcbabebanaaGreat.AM
