/-
  Texts of this claim, part 7 of 8: an abstract machine over the model; what functions come to; plain laws.
-/
import Derived.Test.YtmghjcbabebanaaGreatMServerCrash6
set_option maxRecDepth 100000
set_option linter.unusedVariables false
set_option linter.unusedSimpArgs false
namespace Go.Proofs.YtmghjcbabebanaaGreat.AM
open Go Go.Proofs.YtmghjcbabebanaaGreat
attribute [local irreducible] C8 F5 J6 R4 d9 dU hdD j6 l6 l9 maxS qA swC swF tkF tkL tkT
@[simp] theorem d3S (n:Nat) (p:Int):AV.bdds n (A9 p)=true:=rfl
def c0O:Ann:={ own:=[7],fin:=some 1 }
theorem b4Q (p:Int) :AC 51 [(AV.sl .op 1 [[(iI p)]])] [] ((AV.osl 0 0 1 0 1),[(o_ 0 1 (List.map A9 [p]))]) :=
 r9 (fn:=Tryz.f51) (ann:=c0O) (Has.o Tryz.func51) (.r (.s (.rn (.ao 2 22 (AV.sl .clip 1 []) (AV.sl .op 1 [[(iI p)]]) (AV.osl 0 0 1 0 1) [(o_ 0 1 (List.map A9 [p]))] (aY (T:=tt) (e:=3) (te:=d0a) (z:=1) (b:=24) (y:=[.sl .nil 0 []]) (row:=A9) kr kr rfl E5 E5 ye_ bH rfl rfl rfl om) (.q 1 (AV.osl 0 0 1 0 1))))))
theorem c0N (p:Int) :AC 51 [(sA 1 (List.map A9 [p]))] [] ((AV.osl 0 0 1 0 1),[(o_ 0 1 (List.map A9 [p]))]):=l6.a3f (fun h=>by simp at h) (b4Q p)
def b0k:Ann:={ base:=4,fin:=some 5 }
@[simp] abbrev d1Q (a:Int) (b:Int) (c:Nat) (d:l9C):Heap:=[uU a,(o_ 0 1 (List.map A9 [b])),yU c d,(o_ c 9 (mC d)),(o_ 0 1 (List.map A9 [b]))]
theorem a7K (p lost:Int) (g:Nat) (l:l9C) :AC 26 [(oO 0 0 0 0)] (dQ lost p g l) ((AV.osl 4 0 1 0 1),(d1Q lost p g l)) :=
 r9 (fn:=Tryz.f26) (ann:=b0k) (Has.o Tryz.func26) (.r (.s (.ch 4 (d1Q lost p g l) (l6.qY (args:=[(sA 1 (List.map A9 [p]))]) (args':=[(AV.osl 1 0 1 0 1)]) (H:=(dQ lost p g l)) (c0N p ) (qK (fun _=>rfl) _) (show Brs (dQ lost p g l) [(AV.osl 1 0 1 0 1)] [(sA 1 (List.map A9 [p]))] from ⟨Br.osl (G8 (room:=none) kr a6Y) (fF _ _),trivial⟩)) (.q 5 (AV.osl 4 0 1 0 1)))))
def b7Q:Ann:={ gha:=[(5,.frzf 18 2 1)],fin:=some 12 }
@[simp] abbrev fI :Ob:=(o_ 0 2 [[(iI (q9 32)),(AV.osl 1 0 10 0 (List.length ([]:l9E)))]])
@[simp] abbrev bA :Ob:=(o_ 0 10 (mE ([]:l9E)))
@[simp] abbrev a3Q :Ob:=(o_ 0 3 [[z_,z_,z_]])
@[simp] abbrev fH :Ob:=(o_ 0 2 [[(iN ((List.length ([]:l9K)))),(AV.osl 4 0 2 0 (List.length (l5 ([]:l9K))))]])
@[simp] abbrev aZ :Ob:=(o_ 0 2 (mK (l5 ([]:l9K))))
@[simp] abbrev a6G (a:Int):Ob:=(o_ 0 7 (a4P a))
@[simp] abbrev a4U (a:Int):Heap:=[fI,bA,a3Q,fH,aZ,a6G a]
@[simp] abbrev b5x :=[[(AV.osl 7 0 1 0 1),(AV.osl 8 0 1 0 1),z_]]
@[simp] abbrev c7y :Ob:=(o_ 0 3 b5x)
@[simp] abbrev c1Q :Ob:=(o_ 0 1 [[(AV.osl 9 0 9 0 (List.length ([]:l9C)))]])
@[simp] abbrev a3R :Ob:=(o_ 0 9 (mC ([]:l9C)))
@[simp] abbrev c6i (a:Int) (b:Int):Heap:=[fI,bA,a3Q,fH,aZ,a6G a,c7y,(o_ 0 1 (List.map A9 [b])),c1Q,a3R]
@[simp] abbrev d1P (a:Int) (b:Int):Heap:=[fI,bA,a3Q,fH,aZ,a6G a,c7y,(o_ 0 1 (List.map A9 [b])),c1Q,a3R,(o_ 0 1 (List.map A9 [b]))]
@[simp] abbrev c5r (a:Int):=[[(iI a),(iI (p9.mk 0 a 0).t),(iI (p9.mk 0 a 0).node),(iI (p9.mk 0 a 0).n),(oO 0 0 0 0),(oO 2 0 0 0),(oO 3 0 0 0)]]
theorem b2v (nd p:Int) (h1:0<=nd) (h2:nd < 6):AC 8 [(iI nd),(sA 1 [[(iI p)]])] [] ((oO 11 0 0 0),[(o_ 0 2 [[(iI (q9 32)),(AV.osl 1 0 10 0 (List.length ([]:l9E)))]]),(o_ 0 10 (mE ([]:l9E))),(o_ 0 3 [[z_,z_,z_]]),(o_ 0 2 [[(iN ((List.length ([]:l9K)))),(AV.osl 4 0 2 0 (List.length (l5 ([]:l9K))))]]),(o_ 0 2 (mK (l5 ([]:l9K)))),(o_ 0 7 (c5r nd)),(o_ 0 3 b5x),(o_ 0 1 (List.map A9 [p])),(o_ 0 1 [[(AV.osl 9 0 9 0 0)]]),(o_ 0 9 (mC ([]:l9C))),(o_ 1 1 []),(o_ 0 6 [[z_,z_,(sA 1 [[(iI p)]]),z_,(oO 5 0 0 0),(oO 6 0 0 0)]])]) :=
 r9 (fn:=Tryz.f8) (ann:=b7Q) (Has.o Tryz.func8) (.r (.s (.ch 1 (a4U nd) (l6.put2 [] [] (oO 5 0 0 0) (a4U nd) (a0t nd 0 oa oa wZ) (trivial) (rlA)) (.s (.rn (.ch 1 (c6i nd p) (l6.put2 [] (a4U nd) (oO 6 0 0 0) (c6i nd p) (a2V p ) (trivial) (rlC)) (.s (.ch 1 (d1P nd p) (l6.put2 [6,7,8,9] (c6i nd p) (AV.osl 10 0 1 0 1) (d1P nd p) (a7K p 0 0 ([]:l9C) ) (rlC) (⟨rfl,⟨Ob.ren0 (fF 0 _),⟨rfl,⟨Ob.ren0 (j5.y8 0 _),⟨Ob.ren0 (fF 0 _),trivial⟩⟩⟩⟩⟩)) (.w' 18 (List.map A9 [p]) (And.intro rfl (And.intro (G8 (room:=none) kr om) (fF _ _)):0=0/\G6 [(o_ 0 2 [[(iI (q9 32)),(AV.osl 1 0 10 0 (List.length ([]:l9E)))]]),(o_ 0 10 (mE ([]:l9E))),(o_ 0 3 [[z_,z_,z_]]),(o_ 0 2 [[(iN ((List.length ([]:l9K)))),(AV.osl 4 0 2 0 (List.length (l5 ([]:l9K))))]]),(o_ 0 2 (mK (l5 ([]:l9K)))),(o_ 0 7 (a4P nd)),(o_ 0 3 b5x),(o_ 0 1 (List.map A9 [p])),(o_ 0 1 [[(AV.osl 9 0 9 0 (List.length ([]:l9C)))]]),(o_ 0 9 (mC ([]:l9C))),(o_ 0 1 (List.map A9 [p])),(o_ 0 6 [[z_,z_,(AV.osl 10 0 1 0 1),z_,(oO 5 0 0 0),(oO 6 0 0 0)]])] 1 (AV.osl 10 0 1 0 1)=some (List.map A9 [p])/\AV.D7 0 (List.map A9 [p])=true) (.g (.h' [(o_ 0 2 [[(iI (q9 32)),(AV.osl 1 0 10 0 (List.length ([]:l9E)))]]),(o_ 0 10 (mE ([]:l9E))),(o_ 0 3 [[z_,z_,z_]]),(o_ 0 2 [[(iN ((List.length ([]:l9K)))),(AV.osl 4 0 2 0 (List.length (l5 ([]:l9K))))]]),(o_ 0 2 (mK (l5 ([]:l9K)))),(o_ 0 7 (a4P nd)),(o_ 0 3 b5x),(o_ 0 1 (List.map A9 [p])),(o_ 0 1 [[(AV.osl 9 0 9 0 (List.length ([]:l9C)))]]),(o_ 0 9 (mC ([]:l9C))),(o_ 1 1 []),(o_ 0 6 [[z_,z_,(sA 1 (List.map A9 [p])),z_,(oO 5 0 0 0),(oO 6 0 0 0)]])] (.q 12 (oO 11 0 0 0)))))))))))))
theorem b0B (n:Int):d9 (d9 n)=d9 n:=by with_unfolding_all (unfold d9; omega)
def b0V:Ann:={ base:=6,fin:=some 12 }
@[simp] abbrev c1P :Ob:=(o_ 0 2 [[(iI (q9 32)),(AV.osl 7 0 10 0 (List.length ([]:l9E)))]])
@[simp] abbrev a0M (a:Int):Ob:=(o_ 0 3 [[(iI (d9 a)),z_,z_]])
@[simp] abbrev c1O :Ob:=(o_ 0 2 [[(iN ((List.length ([]:l9K)))),(AV.osl 10 0 2 0 (List.length (l5 ([]:l9K))))]])
@[simp] abbrev d1O (a:Nat) (b:l9E) (c:Int) (d:Int) (e:Int) (f:l9K) (g:Nat) (h:Int) (i:p9) (j:Int):Heap:=[Q9 a b,(o_ a 10 (mE b)),J3 c d e,M4 f g,(o_ g 2 (mK (l5 f))),P7 h i,c1P,bA,a0M j,c1O,aZ,(o_ 0 7 [[(iI h),(iI i.t),(iI i.node),(iI i.n),(oO 6 0 0 0),(oO 8 0 0 0),(oO 9 0 0 0)]])]
@[simp] abbrev d1N (a:Nat) (b:l9E) (c:Int) (d:Int) (e:Int) (f:l9K) (g:Nat) (h:Int) (i:p9) (j:Int):Heap:=[Q9 a b,(o_ a 10 (mE b)),J3 c d e,M4 f g,(o_ g 2 (mK (l5 f))),P7 h i,c1P,bA,a0M j,c1O,aZ,(o_ 0 7 [[(iI h),z_,(iI h),z_,(oO 6 0 0 0),(oO 8 0 0 0),(oO 9 0 0 0)]])]
theorem a8I (l:l9E) (g:Nat) (al:l9K) (ga:Nat) (gf gl gt nd:Int) (st:p9) (now:Int) (h1:0<=nd) (h2:nd < 6):AC 40 [(oO 5 0 0 0),(iI now)] (J7 g l gf gl gt al ga nd st) ((oO 11 0 0 0),(d1O g l gf gl gt al ga nd st now)) :=
 r9 (fn:=Tryz.f40) (ann:=b0V) (Has.o Tryz.func40) (.r (.s (.c 5 ((dO now).lift kr kr (J7 g l gf gl gt al ga nd st)) (.ch 6 (d1N g l gf gl gt al ga nd st now) (l6.put2 [] (J7 g l gf gl gt al ga nd st) (oO 11 0 0 0) (d1N g l gf gl gt al ga nd st now) (a0t nd (d9 now) oa oa (b0B now)) (trivial) (rlA)) (.rd (iI nd) (J7 g l gf gl gt al ga nd st) (.s (.s (.g (.h' (d1O g l gf gl gt al ga nd st now) (.q 12 (oO 11 0 0 0)))))))))))
def b2G:Ann:={ base:=12,fin:=some 22 }
@[simp] abbrev c5q (a:Int):=[[(AV.osl 7 0 1 0 1),(AV.osl 8 0 1 0 1),(iI a)]]
@[simp] abbrev dP (a:Int):Ob:=(o_ 0 3 (c5q a))
@[simp] abbrev mD (a:Nat) (b:l9C):Ob:=(o_ 0 1 [[(AV.osl 9 a 9 0 (List.length b))]])
@[simp] abbrev c1N (a:Int) (b:Int) (c:Int):Ob:=(o_ 0 6 [[(iI a),(iI b),(sA 1 [[(iI c)]]),z_,(oO 5 0 0 0),(oO 6 0 0 0)]])
@[simp] abbrev a4T (a:Nat) (b:l9E) (c:Int) (d:Int) (e:Int) (f:l9K) (g:Nat) (h:Int) (i:p9) (j:Int) (k:Int) (l:Nat) (m:l9C) (n:Int) (o:Int):Heap:=[Q9 a b,(o_ a 10 (mE b)),J3 c d e,M4 f g,(o_ g 2 (mK (l5 f))),P7 h i,dP j,(o_ 0 1 (List.map A9 [k])),mD l m,(o_ l 9 (mC m)),(o_ 1 1 []),c1N n o k]
@[simp] abbrev a9y :Ob:=(o_ 0 2 [[(iI (q9 32)),(AV.osl 13 0 10 0 (List.length ([]:l9E)))]])
@[simp] abbrev a9x :Ob:=(o_ 0 2 [[(iN ((List.length ([]:l9K)))),(AV.osl 16 0 2 0 (List.length (l5 ([]:l9K))))]])
@[simp] abbrev a9w (a:Int) (b:p9):Ob:=(o_ 0 7 [[(iI a),(iI b.t),(iI b.node),(iI b.n),(oO 12 0 0 0),(oO 14 0 0 0),(oO 15 0 0 0)]])
@[simp] abbrev c1M :Ob:=(o_ 0 3 [[(AV.osl 19 0 1 0 1),(AV.osl 20 0 1 0 1),z_]])
@[simp] abbrev c1L :Ob:=(o_ 0 1 [[(AV.osl 21 0 9 0 (List.length ([]:l9C)))]])
@[simp] abbrev c7K (a:Nat) (b:l9E) (c:Int) (d:Int) (e:Int) (f:l9K) (g:Nat) (h:Int) (i:p9) (j:Int) (k:Int) (l:Nat) (m:l9C) (n:Int):Heap:=[Q9 a b,(o_ a 10 (mE b)),J3 c d e,M4 f g,(o_ g 2 (mK (l5 f))),P7 h i,dP j,(o_ 0 1 (List.map A9 [k])),mD l m,(o_ l 9 (mC m)),(o_ 1 1 []),(o_ 0 6 [[(iI n),(iI n),(sA 1 [[(iI k)]]),z_,(oO 17 0 0 0),(oO 18 0 0 0)]]),a9y,bA,a0M n,a9x,aZ,a9w h i,c1M,(o_ 0 1 (List.map A9 [k])),c1L,a3R]
@[simp] abbrev c7J (a:Nat) (b:l9E) (c:Int) (d:Int) (e:Int) (f:l9K) (g:Nat) (h:Int) (i:p9) (j:Int) (k:Int) (l:Nat) (m:l9C) (n:Int) (o:Int):Heap:=[Q9 a b,(o_ a 10 (mE b)),J3 c d e,M4 f g,(o_ g 2 (mK (l5 f))),P7 h i,dP j,(o_ 0 1 (List.map A9 [k])),mD l m,(o_ l 9 (mC m)),(o_ 1 1 []),c1N n o k,a9y,bA,a0M n,a9x,aZ,a9w h i]
@[simp] abbrev c7I (a:Nat) (b:l9E) (c:Int) (d:Int) (e:Int) (f:l9K) (g:Nat) (h:Int) (i:p9) (j:Int) (k:Int) (l:Nat) (m:l9C) (n:Int) (o:Int):Heap:=[Q9 a b,(o_ a 10 (mE b)),J3 c d e,M4 f g,(o_ g 2 (mK (l5 f))),P7 h i,dP j,(o_ 0 1 (List.map A9 [k])),mD l m,(o_ l 9 (mC m)),(o_ 1 1 []),(o_ 0 6 [[(iI n),(iI o),(sA 1 [[(iI k)]]),z_,(oO 17 0 0 0),(oO 6 0 0 0)]]),a9y,bA,a0M n,a9x,aZ,a9w h i,c1M,(o_ 0 1 (List.map A9 [k])),c1L,a3R]
theorem b0a (l:l9E) (g:Nat) (al:l9K) (ga:Nat) (gf gl gt nd:Int) (st:p9) (p lost:Int) (qg:Nat) (ql:l9C) (now swept nxt:Int) (h1:0<=nd) (h2:nd < 6):AC 20 [(oO 11 0 0 0)] (a4T g l gf gl gt al ga nd st lost p qg ql now swept) ((AV.tup []),(c7K g l gf gl gt al ga nd st lost p qg ql now)) :=
 r9 (fn:=Tryz.f20) (ann:=b2G) (Has.o Tryz.func20) (.r (.ch 9 (c7J g l gf gl gt al ga nd st lost p qg ql now swept) (l6.put2 [0,1,2,3,4,5] (a4T g l gf gl gt al ga nd st lost p qg ql now swept) (oO 17 0 0 0) (c7J g l gf gl gt al ga nd st lost p qg ql now swept) (a8I l g al ga gf gl gt nd st now oa oa) (rlA) (⟨rfl,⟨Ob.ren0 (Entry.y8 0 _),⟨rfl,⟨rfl,⟨Ob.ren0 (Key.y8 0 _),⟨rfl,⟨rfl,⟨Ob.ren0 (Entry.y8 0 _),⟨rfl,⟨rfl,⟨Ob.ren0 (Key.y8 0 _),⟨rfl,trivial⟩⟩⟩⟩⟩⟩⟩⟩⟩⟩⟩⟩)) (.s (.ch 5 (c7I g l gf gl gt al ga nd st lost p qg ql now swept) (l6.put2 [] [(o_ 0 2 (a0y g l)),(o_ g 10 (mE l)),(o_ 0 3 (gT gf gl gt)),(o_ 0 2 (jO al ga)),(o_ ga 2 (mK (l5 al))),(o_ 0 7 (sZ nd st)),(o_ 0 3 (c5q lost)),(o_ 0 1 (List.map A9 [p])),(o_ 0 1 [[(AV.osl 9 qg 9 0 (List.length ql))]]),(o_ qg 9 (mC ql)),(o_ 1 1 []),(o_ 0 6 [[(iI now),(iI swept),(sA 1 [[(iI p)]]),z_,(oO 17 0 0 0),(oO 6 0 0 0)]]),(o_ 0 2 [[(iI (q9 32)),(AV.osl 13 0 10 0 (List.length ([]:l9E)))]]),(o_ 0 10 (mE ([]:l9E))),(o_ 0 3 [[(iI (d9 now)),z_,z_]]),(o_ 0 2 [[(iN ((List.length ([]:l9K)))),(AV.osl 16 0 2 0 (List.length (l5 ([]:l9K))))]]),(o_ 0 2 (mK (l5 ([]:l9K)))),(o_ 0 7 [[(iI nd),(iI st.t),(iI st.node),(iI st.n),(oO 12 0 0 0),(oO 14 0 0 0),(oO 15 0 0 0)]])] (oO 18 0 0 0) (c7I g l gf gl gt al ga nd st lost p qg ql now swept) (a2V p ) (trivial) (rlC)) (.s (.s (.g (.h' (c7K g l gf gl gt al ga nd st lost p qg ql now) (.q 22 (AV.tup []))))))))))
structure aS where
 kind:Int
 op:Int
 status:Int
 code:Int
 tag:Int
 n:Int
 seq:Int
 key:Key
 full:Bool
 sum:Int
 cards:List j5
 deriving Inhabited
def aS.row (x:aS):List AV:=[(iI x.kind),(iI x.op),(iI x.status),(iI x.code),(iI x.tag),(iI x.n),(iI x.seq),(AV.str x.key.app),(AV.str x.key.id),(bB x.full),(AV.int .u32 x.sum),(sA 9 (mC x.cards)),(AV.sl .nil 0 [])]
@[simp] theorem aS.R7 (n:Nat) (x:aS):AV.bdds n x.row=true:=by simp [aS.row,AV.bdds,AV.bdd]
@[simp] theorem aS.y8 (n:Nat) (l:List aS):AV.D7 n (l.map aS.row)=true:=by induction l with | nil=>rfl | cons x l ih=>simp [AV.D7,aS.R7,ih]
structure z8 where
 to:Int
 m:aS
 deriving Inhabited
def z8.row (x:z8):List AV:=[(iI x.to),(iI x.m.kind),(iI x.m.op),(iI x.m.status),(iI x.m.code),(iI x.m.tag),(iI x.m.n),(iI x.m.seq),(AV.str x.m.key.app),(AV.str x.m.key.id),(bB x.m.full),(AV.int .u32 x.m.sum),(sA 9 (mC x.m.cards)),(AV.sl .nil 0 [])]
@[simp] theorem z8.R7 (n:Nat) (x:z8):AV.bdds n x.row=true:=by simp [z8.row,AV.bdds,AV.bdd]
@[simp] theorem z8.y8 (n:Nat) (l:List z8):AV.D7 n (l.map z8.row)=true:=by induction l with | nil=>rfl | cons x l ih=>simp [AV.D7,z8.R7,ih]
def xR (cs:List j5):aS:=⟨3,0,0,0,0,0,0,⟨⟨#[]⟩,⟨#[]⟩⟩,false,0,cs⟩
def b4G (cs:List j5):aS:=⟨4,0,0,0,0,0,0,⟨⟨#[]⟩,⟨#[]⟩⟩,false,0,cs⟩
def I5 (p:Int) (cs:List j5):List z8:=if cs.length=0 then [] else [⟨p,xR cs⟩]
def b8A:Ann:={ fin:=some 0 }
theorem a2Z (p:Int) (cs:l9C) (h:cs.length=0):AC 35 [(iI p),(sA 9 (mC cs))] [] ((AV.sl .nil 0 []),[]) :=
 r9 (fn:=Tryz.f35) (ann:=b8A) (Has.o Tryz.func35) (.r (.s (.y 1 (.int .i64 ((List.length (mC cs):Nat):Int)) (iN cs.length) (Yes.len _ _ _) (.y 2 (bB ((cs.length:Int) == 0)) bT (Yes.b (by simp [h])) (.g (.u (.qr 0 (AV.sl .nil 0 []))))))))
def b8B:Ann:={ fin:=some 0 }
theorem a3a (p:Int) (cs:l9C) (h:¬ cs.length=0):AC 35 [(iI p),(sA 9 (mC cs))] [] ((AV.sl .clip 14 (List.map z8.row [z8.mk p (xR cs)])),[]) :=
 r9 (fn:=Tryz.f35) (ann:=b8B) (Has.o Tryz.func35) (.r (.s (.y 1 (.int .i64 ((List.length (mC cs):Nat):Int)) (iN cs.length) (Yes.len _ _ _) (.y 2 (bB ((cs.length:Int) == 0)) bF (Yes.b yj_) (.g (.n (.qr 0 (AV.sl .clip 14 [[(iI p),(iI 3),z_,z_,z_,z_,z_,z_,e_,e_,bF,(AV.int .u32 0),(sA 9 (mC cs)),(AV.sl .nil 0 [])]]))))))))
theorem jT (p:Int) (cs:l9C) :AC 35 [(iI p),(sA 9 (mC cs))] [] ((sA 14 (List.map z8.row (I5 p cs))),[]):=by
 unfold I5
 by_cases h:cs.length=0
 · rw [if_pos h]; exact (a2Z p cs h).post ⟨rfl,rfl,.inr rfl⟩
 · rw [if_neg h]; exact (a3a p cs h).post ⟨rfl,rfl,.inl rfl⟩
theorem dJ (p:Int) (cs:l9C):(I5 p cs).length<=1:=by unfold I5; split <;> simp
attribute [local irreducible] I5 M5 cZ
def b2f:Ann:={ own:=[136,103],gh:=[(16,.frz 3)],gha:=[(7,.vir 3 14)],base:=12,fin:=some 12 }
@[simp] abbrev oU (a:Int) (b:Int) (c:Int) (d:Int):Ob:=(o_ 0 3 [[(iI (tkF a (b+1))),(iI (tkL a c d (b+1))),(iI (tkT a d (b+1)))]])
@[simp] abbrev a0L (a:Nat) (b:l9C):Ob:=(o_ 0 1 [[(AV.osl 9 a 9 0 (List.length (cZ b)))]])
@[simp] abbrev iD (a:Int) (b:Int) (c:Int):Ob:=(o_ 0 6 [[(iI (a+1)),(iI b),(sA 1 [[(iI c)]]),z_,(oO 5 0 0 0),(oO 6 0 0 0)]])
@[simp] abbrev a6J (a:Nat) (b:l9E) (c:Int) (d:Int) (e:Int) (f:Int) (g:l9K) (h:Nat) (i:Int) (j:p9) (k:Int) (l:Int) (m:Nat) (n:l9C) (o:Int):Heap:=[Q9 a b,(o_ a 10 (mE b)),oU c d e f,M4 g h,(o_ h 2 (mK (l5 g))),P7 i j,dP k,(o_ 0 1 (List.map A9 [l])),a0L m n,(o_ m 9 (mC (cZ n))),(o_ 1 1 []),iD d o l]
@[simp] abbrev eG (a:Nat) (b:l9E) (c:Int) (d:Int) (e:Int) (f:l9K) (g:Nat) (h:Int) (i:p9) (j:Int) (k:Int) (l:Nat) (m:l9C) (n:Int) (o:Int):Heap:=[Q9 a b,(o_ a 10 (mE b)),J3 c d e,M4 f g,(o_ g 2 (mK (l5 f))),P7 h i,dP j,(o_ 0 1 (List.map A9 [k])),mD l m,(o_ l 9 (mC m)),(o_ 1 1 []),iD n o k]
@[simp] abbrev oC (a:Nat) (b:l9E) (c:Int) (d:Int) (e:Int) (f:Int) (g:l9K) (h:Nat) (i:Int) (j:p9) (k:Int) (l:Int) (m:Nat) (n:l9C) (o:Int):Heap:=[Q9 a b,(o_ a 10 (mE b)),oU c d e f,M4 g h,(o_ h 2 (mK (l5 g))),P7 i j,dP k,(o_ 0 1 (List.map A9 [l])),mD m n,(o_ m 9 (mC n)),(o_ 1 1 []),iD d o l]
@[simp] abbrev jD (a:Nat) (b:l9E) (c:Int) (d:Int) (e:Int) (f:Int) (g:l9K) (h:Nat) (i:Int) (j:p9) (k:Int) (l:Int) (m:Nat) (n:l9C) (o:Int):Heap:=[Q9 a b,(o_ a 10 (mE b)),oU c d e f,M4 g h,(o_ h 2 (mK (l5 g))),P7 i j,dP k,(o_ 0 1 (List.map A9 [l])),mD m n,(o_ m 9 (mC n)),(o_ 1 1 []),iD d o l,(o_ 0 14 (List.map z8.row []))]
@[simp] abbrev b6t (a:Nat) (b:l9E) (c:Int) (d:Int) (e:Int) (f:Int) (g:l9K) (h:Nat) (i:Int) (j:p9) (k:Int) (l:Int) (m:Nat) (n:l9C) (o:Int):Heap:=[Q9 a b,(o_ a 10 (mE b)),oU c d e f,M4 g h,(o_ h 2 (mK (l5 g))),P7 i j,dP k,(o_ 0 1 (List.map A9 [l])),a0L m n,(o_ m 9 (mC (cZ n))),(o_ 1 1 []),iD d o l,(o_ 0 14 (List.map z8.row []))]
@[simp] abbrev c7H (a:Nat) (b:l9E) (c:Int) (d:Int) (e:Int) (f:Int) (g:l9K) (h:Nat) (i:Int) (j:p9) (k:Int) (l:Int) (m:Nat) (n:l9C) (o:Int):Heap:=[Q9 a b,(o_ a 10 (mE b)),oU c d e f,M4 g h,(o_ h 2 (mK (l5 g))),P7 i j,dP k,(o_ 0 1 (List.map A9 [l])),a0L m n,(o_ m 9 (mC (cZ n))),(o_ 1 1 []),iD d o l,(o_ 1 14 (List.map z8.row ([]++(I5 l (M5 n)))))]
theorem zN {p:Prop} (h:p:=by first | omega | (show _ * 152<=_; omega) | (simp; done) | (simp; omega)):p:=h
@[reducible] def zR:TI:={ d:=.struct [(3,0),(33,1)],size:=14,bytes:=152,zero:=[.int .i64 0,.int .i64 0,.int .i64 0,.int .i64 0,.int .i64 0,.int .i64 0,.int .i64 0,.int .i64 0,.str ⟨#[]⟩,.str ⟨#[]⟩,.bool false,.int .u32 0,.sl .nil 0 [],.sl .nil 0 []] }
theorem a9N (l:l9E) (g:Nat) (al:l9K) (ga:Nat) (gf gl gt nd:Int) (st:p9) (p lost:Int) (qg:Nat) (ql:l9C) (now swept nxt:Int) (hn:0<=now) (hn2:now < 1099511627776) (hq:ql.length<=16) (h1:(Int.tmod (now+1) 20 == 0)=false) (h2:(Int.tmod (now+1) 15 == 0)=false):AC 37 [(oO 11 0 0 0)] (a4T g l gf gl gt al ga nd st lost p qg ql now swept) ((sA 14 (List.map z8.row ([]++(I5 p (M5 ql))))),(a6J g l gf now gl gt al ga nd st lost p qg ql swept)):=by
 have hpl:=dJ p (M5 ql)
 exact r9 (fn:=Tryz.f37) (ann:=b2f) (Has.o Tryz.func37) (.r (.s (.y 4 (.int .i64 (a2l now)) (iI (now+1)) Yes.o (.s (.c 4 (l6.put2 [0,1,2,3,4,5] (eG g l gf gl gt al ga nd st lost p qg ql now swept) (oO 2 0 0 0) (eG g l gf gl gt al ga nd st lost p qg ql now swept) (iT l g al ga gf gl gt nd st ) (rlA) (rlA)) (.ch 9 (oC g l gf now gl gt al ga nd st lost p qg ql swept) (l6.put2 [2] (eG g l gf gl gt al ga nd st lost p qg ql now swept) (AV.tup []) (oC g l gf now gl gt al ga nd st lost p qg ql swept) (kL gf gl gt (now+1) ) (⟨rfl,trivial⟩) (⟨rfl,trivial⟩)) (.rd (iI (now+1)) (eG g l gf gl gt al ga nd st lost p qg ql now swept) (.s (.y 5 (bB ((Int.tmod (now+1) 20) == 0)) bF (Yes.b (h1)) (.rn (.s (.h' (jD g l gf now gl gt al ga nd st lost p qg ql swept) (.y 5 (bB ((Int.tmod (now+1) 15) == 0)) bF (Yes.b (h2)) (.n6 (.rn (.g (.roll 2 (.r (.ru (.s (.ch 7 (b6t g l gf now gl gt al ga nd st lost p qg ql swept) (l6.put2 [6,7,8,9] (jD g l gf now gl gt al ga nd st lost p qg ql swept) (sA 9 (mC (M5 ql))) (b6t g l gf now gl gt al ga nd st lost p qg ql swept) (qL p lost qg ql oa) (rlC) (rlC)) (.c 8 ((jT p (M5 ql)).lift kr kr (b6t g l gf now gl gt al ga nd st lost p qg ql swept)) (.ao 9 36 (AV.osl 12 0 14 0 0) (sA 14 (List.map z8.row (I5 p (M5 ql)))) (AV.osl 12 1 14 0 (0+(I5 p (M5 ql)).length)) (c7H g l gf now gl gt al ga nd st lost p qg ql swept) (K4 (T:=tt) (e:=56) (te:=zR) (z:=1) (b:=24) (y:=[.sl .nil 0 []]) (row:=z8.row) (l:=[]) kr kr rfl E5 E5 kr bH om rfl rfl zN) (.s (.s (.rn (.w 3 (List.map z8.row ([]++(I5 p (M5 ql)))) (And.intro (G8 (room:=none) kr om) (z8.y8 _ _):G6 (c7H g l gf now gl gt al ga nd st lost p qg ql swept) 14 (AV.osl 12 1 14 0 (0+(I5 p (M5 ql)).length))=some (List.map z8.row ([]++(I5 p (M5 ql))))/\AV.D7 0 (List.map z8.row ([]++(I5 p (M5 ql))))=true) (.g (.h' (a6J g l gf now gl gt al ga nd st lost p qg ql swept) (.q 12 (sA 14 (List.map z8.row ([]++(I5 p (M5 ql)))))))))))))))))))))))))))))))))))
attribute [local simp] z8.row
def b2e:Ann:={ own:=[136,103],gh:=[(16,.frz 3)],gha:=[(7,.vir 3 14)],base:=12,fin:=some 12 }
@[simp] abbrev c1K (a:Int) (b:l9E):Ob:=(o_ 1 14 (List.map z8.row ([]++([(z8.mk a (aS.mk 4 0 0 0 0 0 0 (Key.mk (ByteArray.mk #[]) (ByteArray.mk #[])) false 0 (bE (b.map (·.card)))))]))))
@[simp] abbrev c7G (a:Nat) (b:l9E) (c:Int) (d:Int) (e:Int) (f:Int) (g:l9K) (h:Nat) (i:Int) (j:p9) (k:Int) (l:Int) (m:Nat) (n:l9C) (o:Int):Heap:=[Q9 a b,(o_ a 10 (mE b)),oU c d e f,M4 g h,(o_ h 2 (mK (l5 g))),P7 i j,dP k,(o_ 0 1 (List.map A9 [l])),mD m n,(o_ m 9 (mC n)),(o_ 1 1 []),iD d o l,c1K l b]
@[simp] abbrev b6s (a:Nat) (b:l9E) (c:Int) (d:Int) (e:Int) (f:Int) (g:l9K) (h:Nat) (i:Int) (j:p9) (k:Int) (l:Int) (m:Nat) (n:l9C) (o:Int):Heap:=[Q9 a b,(o_ a 10 (mE b)),oU c d e f,M4 g h,(o_ h 2 (mK (l5 g))),P7 i j,dP k,(o_ 0 1 (List.map A9 [l])),a0L m n,(o_ m 9 (mC (cZ n))),(o_ 1 1 []),iD d o l,c1K l b]
@[simp] abbrev c7F (a:Nat) (b:l9E) (c:Int) (d:Int) (e:Int) (f:Int) (g:l9K) (h:Nat) (i:Int) (j:p9) (k:Int) (l:Int) (m:Nat) (n:l9C) (o:Int):Heap:=[Q9 a b,(o_ a 10 (mE b)),oU c d e f,M4 g h,(o_ h 2 (mK (l5 g))),P7 i j,dP k,(o_ 0 1 (List.map A9 [l])),a0L m n,(o_ m 9 (mC (cZ n))),(o_ 1 1 []),iD d o l,(o_ 2 14 (List.map z8.row (([]++([(z8.mk l (aS.mk 4 0 0 0 0 0 0 (Key.mk (ByteArray.mk #[]) (ByteArray.mk #[])) false 0 (bE (b.map (·.card)))))]))++(I5 l (M5 n)))))]
theorem a9M (l:l9E) (g:Nat) (al:l9K) (ga:Nat) (gf gl gt nd:Int) (st:p9) (p lost:Int) (qg:Nat) (ql:l9C) (now swept nxt:Int) (hn:0<=now) (hn2:now < 1099511627776) (hq:ql.length<=16) (hl:l.length<=32) (h1:(Int.tmod (now+1) 20 == 0)=false) (h2:(Int.tmod (now+1) 15 == 0)=true):AC 37 [(oO 11 0 0 0)] (a4T g l gf gl gt al ga nd st lost p qg ql now swept) ((sA 14 (List.map z8.row ([(z8.mk p (b4G (bE (List.map Entry.card l))))]++(I5 p (M5 ql))))),(a6J g l gf now gl gt al ga nd st lost p qg ql swept)):=by
 have hpl:=dJ p (M5 ql)
 exact r9 (fn:=Tryz.f37) (ann:=b2e) (Has.o Tryz.func37) (.r (.s (.y 4 (.int .i64 (a2l now)) (iI (now+1)) Yes.o (.s (.c 4 (l6.put2 [0,1,2,3,4,5] (eG g l gf gl gt al ga nd st lost p qg ql now swept) (oO 2 0 0 0) (eG g l gf gl gt al ga nd st lost p qg ql now swept) (iT l g al ga gf gl gt nd st ) (rlA) (rlA)) (.ch 9 (oC g l gf now gl gt al ga nd st lost p qg ql swept) (l6.put2 [2] (eG g l gf gl gt al ga nd st lost p qg ql now swept) (AV.tup []) (oC g l gf now gl gt al ga nd st lost p qg ql swept) (kL gf gl gt (now+1) ) (⟨rfl,trivial⟩) (⟨rfl,trivial⟩)) (.rd (iI (now+1)) (eG g l gf gl gt al ga nd st lost p qg ql now swept) (.s (.y 5 (bB ((Int.tmod (now+1) 20) == 0)) bF (Yes.b (h1)) (.rn (.s (.h' (jD g l gf now gl gt al ga nd st lost p qg ql swept) (.y 5 (bB ((Int.tmod (now+1) 15) == 0)) bT (Yes.b (h2)) (.u6 (.ru (.c 15 (l6.put2 [0,1,2,3,4,5] (jD g l gf now gl gt al ga nd st lost p qg ql swept) (oO 0 0 0 0) (jD g l gf now gl gt al ga nd st lost p qg ql swept) (Y2 l g al ga (tkF gf (now+1)) (tkL gf gl gt (now+1)) (tkT gf gt (now+1)) nd st.t st.node st.n ) (rlA) (rlA)) (.c 16 (fB (q9 32) l g (List.length l) oa oa [(o_ 0 3 [[(iI (tkF gf (now+1))),(iI (tkL gf gl gt (now+1))),(iI (tkT gf gt (now+1)))]]),(o_ 0 2 (jO al ga)),(o_ ga 2 (mK (l5 al))),(o_ 0 7 (sZ nd st)),(o_ 0 3 (c5q lost)),(o_ 0 1 (List.map A9 [p])),(o_ 0 1 [[(AV.osl 9 qg 9 0 (List.length ql))]]),(o_ qg 9 (mC ql)),(o_ 1 1 []),(o_ 0 6 [[(iI (now+1)),(iI swept),(sA 1 [[(iI p)]]),z_,(oO 5 0 0 0),(oO 6 0 0 0)]]),(o_ 0 14 (List.map z8.row []))]) (.c 17 ((a0u (l.map (·.card)) oa).lift kr kr (jD g l gf now gl gt al ga nd st lost p qg ql swept)) (.ao 20 36 (AV.osl 12 0 14 0 0) (AV.sl .clip 14 [[(iI p),(iI 4),z_,z_,z_,z_,z_,z_,e_,e_,bF,(AV.int .u32 0),(sA 9 (mC (bE (l.map (·.card))))),(AV.sl .nil 0 [])]]) (AV.osl 12 1 14 0 (0+1)) (c7G g l gf now gl gt al ga nd st lost p qg ql swept) (K4 (T:=tt) (e:=56) (te:=zR) (z:=1) (b:=24) (y:=[.sl .nil 0 []]) (row:=z8.row) (l:=[]) kr kr rfl E5 E5 kr bH om rfl rfl zN) (.rd z_ (jD g l gf now gl gt al ga nd st lost p qg ql swept) (.rd z_ (jD g l gf now gl gt al ga nd st lost p qg ql swept) (.rd z_ (jD g l gf now gl gt al ga nd st lost p qg ql swept) (.rd (sA 1 [[(iI p)]]) (jD g l gf now gl gt al ga nd st lost p qg ql swept) (.rd (sA 1 [[(iI p)]]) (jD g l gf now gl gt al ga nd st lost p qg ql swept) (.rd (sA 1 [[(iI p)]]) (jD g l gf now gl gt al ga nd st lost p qg ql swept) (.s (.s (.g (.roll 2 (.r (.ru (.s (.ch 7 (b6s g l gf now gl gt al ga nd st lost p qg ql swept) (l6.put2 [6,7,8,9] (c7G g l gf now gl gt al ga nd st lost p qg ql swept) (sA 9 (mC (M5 ql))) (b6s g l gf now gl gt al ga nd st lost p qg ql swept) (qL p lost qg ql oa) (rlC) (rlC)) (.c 8 ((jT p (M5 ql)).lift kr kr (b6s g l gf now gl gt al ga nd st lost p qg ql swept)) (.ao 9 36 (AV.osl 12 1 14 0 (0+1)) (sA 14 (List.map z8.row (I5 p (M5 ql)))) (AV.osl 12 2 14 0 ((0+1)+(I5 p (M5 ql)).length)) (c7F g l gf now gl gt al ga nd st lost p qg ql swept) (K4 (T:=tt) (e:=56) (te:=zR) (z:=1) (b:=24) (y:=[.sl .nil 0 []]) (row:=z8.row) (l:=[]++([(z8.mk p (aS.mk 4 0 0 0 0 0 0 (Key.mk (ByteArray.mk #[]) (ByteArray.mk #[])) false 0 (bE (l.map (·.card)))))])) kr kr rfl E5 E5 kr bH om rfl rfl zN) (.s (.s (.rn (.w 3 (List.map z8.row (([]++([(z8.mk p (aS.mk 4 0 0 0 0 0 0 (Key.mk (ByteArray.mk #[]) (ByteArray.mk #[])) false 0 (bE (l.map (·.card)))))]))++(I5 p (M5 ql)))) (And.intro (G8 (room:=none) kr om) (z8.y8 _ _):G6 (c7F g l gf now gl gt al ga nd st lost p qg ql swept) 14 (AV.osl 12 2 14 0 ((0+1)+(I5 p (M5 ql)).length))=some (List.map z8.row (([]++([(z8.mk p (aS.mk 4 0 0 0 0 0 0 (Key.mk (ByteArray.mk #[]) (ByteArray.mk #[])) false 0 (bE (l.map (·.card)))))]))++(I5 p (M5 ql))))/\AV.D7 0 (List.map z8.row (([]++([(z8.mk p (aS.mk 4 0 0 0 0 0 0 (Key.mk (ByteArray.mk #[]) (ByteArray.mk #[])) false 0 (bE (l.map (·.card)))))]))++(I5 p (M5 ql))))=true) (.g (.h' (a6J g l gf now gl gt al ga nd st lost p qg ql swept) (.q 12 (sA 14 (List.map z8.row (([]++([(z8.mk p (aS.mk 4 0 0 0 0 0 0 (Key.mk (ByteArray.mk #[]) (ByteArray.mk #[])) false 0 (bE (l.map (·.card)))))]))++(I5 p (M5 ql)))))))))))))))))))))))))))))))))))))))))))))))
def stT (now:Int) (s:DS):DS:=⟨s.l,s.g,s.al,s.ga,tkF s.gf (now+1),tkL s.gf s.gl s.gt (now+1),tkT s.gf s.gt (now+1),s.st⟩
def stK (now swept:Int) (s:DS):List Key:=y7 (stT now s) (d9 (now+1)) (now+1 - swept - 20)
def stW (nd now swept:Int) (s:DS):DS:=swF nd (d9 (now+1)) (stK now swept s) (stT now s)
def stC (nd now swept:Int) (s:DS):List j5:=swC nd (d9 (now+1)) (stK now swept s) (stT now s)
def stP (nd now swept:Int) (s:DS):DS:=⟨List.foldl K9 (stW nd now swept s).l (O4 (stW nd now swept s).l (d9 (now+1))),(stW nd now swept s).g,(stW nd now swept s).al,(stW nd now swept s).ga,(stW nd now swept s).gf,(stW nd now swept s).gl,(stW nd now swept s).gt,(stW nd now swept s).st⟩
def b2d:Ann:={ own:=[136,103],gh:=[(16,.frz 3)],gha:=[(7,.vir 3 14)],base:=12,fin:=some 12 }
@[simp] abbrev iX (a:Int) (b:Int):Ob:=(o_ 0 6 [[(iI (a+1)),(iI (a+1)),(sA 1 [[(iI b)]]),z_,(oO 5 0 0 0),(oO 6 0 0 0)]])
@[simp] abbrev c7E (a:Int) (b:Int) (c:Int) (d:l9E) (e:Nat) (f:l9K) (h:Nat) (i:Int) (j:Int) (k:Int) (m:p9) (o:Int) (p:l9C) (q:Nat) (r:Int):Heap:=[(o_ 0 2 [[(iI (q9 32)),(AV.osl 1 (stP a b c (DS.mk d e f h i j k m)).g 10 0 (List.length (stP a b c (DS.mk d e f h i j k m)).l))]]),(o_ ((stP a b c (DS.mk d e f h i j k m)).g) 10 (mE (stP a b c (DS.mk d e f h i j k m)).l)),(o_ 0 3 [[(iI (stP a b c (DS.mk d e f h i j k m)).gf),(iI (stP a b c (DS.mk d e f h i j k m)).gl),(iI (stP a b c (DS.mk d e f h i j k m)).gt)]]),(o_ 0 2 [[(iN ((List.length (stP a b c (DS.mk d e f h i j k m)).al))),(AV.osl 4 (stP a b c (DS.mk d e f h i j k m)).ga 2 0 (List.length (l5 (stP a b c (DS.mk d e f h i j k m)).al)))]]),(o_ ((stP a b c (DS.mk d e f h i j k m)).ga) 2 (mK (l5 (stP a b c (DS.mk d e f h i j k m)).al))),(o_ 0 7 [[(iI a),(iI (stP a b c (DS.mk d e f h i j k m)).st.t),(iI (stP a b c (DS.mk d e f h i j k m)).st.node),(iI (stP a b c (DS.mk d e f h i j k m)).st.n),(oO 0 0 0 0),(oO 2 0 0 0),(oO 3 0 0 0)]]),(o_ 0 3 [[(AV.osl 7 0 1 0 1),(AV.osl 8 0 1 0 1),(iI (qA o (stC a b c (DS.mk d e f h i j k m)) p q r).2.2)]]),(o_ 0 1 (List.map A9 [o])),(o_ 0 1 [[(AV.osl 9 (qA o (stC a b c (DS.mk d e f h i j k m)) p q r).2.1 9 0 (List.length (cZ (qA o (stC a b c (DS.mk d e f h i j k m)) p q r).1)))]]),(o_ ((qA o (stC a b c (DS.mk d e f h i j k m)) p q r).2.1) 9 (mC (cZ (qA o (stC a b c (DS.mk d e f h i j k m)) p q r).1))),(o_ 1 1 []),iX b o]
@[simp] abbrev a9v (a:Int) (b:Int) (c:l9E) (d:Nat) (e:l9K) (f:Nat) (h:Int) (i:Int) (j:Int) (k:p9) (m:Int):Ob:=(o_ 0 2 [[(iI (q9 32)),(AV.osl 1 (swF a (d9 (b+1)) (y7 (DS.mk c d e f (tkF h (b+1)) (tkL h i j (b+1)) (tkT h j (b+1)) k) (d9 (b+1)) (((b+1) - m) - 20)) (DS.mk c d e f (tkF h (b+1)) (tkL h i j (b+1)) (tkT h j (b+1)) k)).g 10 0 (List.length (swF a (d9 (b+1)) (y7 (DS.mk c d e f (tkF h (b+1)) (tkL h i j (b+1)) (tkT h j (b+1)) k) (d9 (b+1)) (((b+1) - m) - 20)) (DS.mk c d e f (tkF h (b+1)) (tkL h i j (b+1)) (tkT h j (b+1)) k)).l))]])
@[simp] abbrev a9u (a:Int) (b:Int) (c:l9E) (d:Nat) (e:l9K) (f:Nat) (h:Int) (i:Int) (j:Int) (k:p9) (m:Int):Ob:=(o_ ((swF a (d9 (b+1)) (y7 (DS.mk c d e f (tkF h (b+1)) (tkL h i j (b+1)) (tkT h j (b+1)) k) (d9 (b+1)) (((b+1) - m) - 20)) (DS.mk c d e f (tkF h (b+1)) (tkL h i j (b+1)) (tkT h j (b+1)) k)).g) 10 (mE (swF a (d9 (b+1)) (y7 (DS.mk c d e f (tkF h (b+1)) (tkL h i j (b+1)) (tkT h j (b+1)) k) (d9 (b+1)) (((b+1) - m) - 20)) (DS.mk c d e f (tkF h (b+1)) (tkL h i j (b+1)) (tkT h j (b+1)) k)).l))
@[simp] abbrev d0U (a b:Int) (c:l9E) (d:Nat) (e:l9K) (f:Nat) (g h i:Int) (j:p9) (k:Int):=[[(iI (swF a (d9 (b+1)) (y7 (DS.mk c d e f (tkF g (b+1)) (tkL g h i (b+1)) (tkT g i (b+1)) j) (d9 (b+1)) (((b+1) - k) - 20)) (DS.mk c d e f (tkF g (b+1)) (tkL g h i (b+1)) (tkT g i (b+1)) j)).gf),(iI (swF a (d9 (b+1)) (y7 (DS.mk c d e f (tkF g (b+1)) (tkL g h i (b+1)) (tkT g i (b+1)) j) (d9 (b+1)) (((b+1) - k) - 20)) (DS.mk c d e f (tkF g (b+1)) (tkL g h i (b+1)) (tkT g i (b+1)) j)).gl),(iI (swF a (d9 (b+1)) (y7 (DS.mk c d e f (tkF g (b+1)) (tkL g h i (b+1)) (tkT g i (b+1)) j) (d9 (b+1)) (((b+1) - k) - 20)) (DS.mk c d e f (tkF g (b+1)) (tkL g h i (b+1)) (tkT g i (b+1)) j)).gt)]]
@[simp] abbrev iC (a:Int) (b:Int) (c:l9E) (d:Nat) (e:l9K) (f:Nat) (g:Int) (h:Int) (i:Int) (j:p9) (k:Int):Ob:=(o_ 0 3 (d0U a b c d e f g h i j k))
@[simp] abbrev d0T (a b:Int) (c:l9E) (d:Nat) (e:l9K) (f:Nat) (g h i:Int) (j:p9) (k:Int):=[[(iN ((List.length (swF a (d9 (b+1)) (y7 (DS.mk c d e f (tkF g (b+1)) (tkL g h i (b+1)) (tkT g i (b+1)) j) (d9 (b+1)) (((b+1) - k) - 20)) (DS.mk c d e f (tkF g (b+1)) (tkL g h i (b+1)) (tkT g i (b+1)) j)).al))),(AV.osl 4 (swF a (d9 (b+1)) (y7 (DS.mk c d e f (tkF g (b+1)) (tkL g h i (b+1)) (tkT g i (b+1)) j) (d9 (b+1)) (((b+1) - k) - 20)) (DS.mk c d e f (tkF g (b+1)) (tkL g h i (b+1)) (tkT g i (b+1)) j)).ga 2 0 (List.length (l5 (swF a (d9 (b+1)) (y7 (DS.mk c d e f (tkF g (b+1)) (tkL g h i (b+1)) (tkT g i (b+1)) j) (d9 (b+1)) (((b+1) - k) - 20)) (DS.mk c d e f (tkF g (b+1)) (tkL g h i (b+1)) (tkT g i (b+1)) j)).al)))]]
@[simp] abbrev iB (a:Int) (b:Int) (c:l9E) (d:Nat) (e:l9K) (f:Nat) (g:Int) (h:Int) (i:Int) (j:p9) (k:Int):Ob:=(o_ 0 2 (d0T a b c d e f g h i j k))
@[simp] abbrev iA (a:Int) (b:Int) (c:l9E) (d:Nat) (e:l9K) (f:Nat) (g:Int) (h:Int) (i:Int) (j:p9) (k:Int):Ob:=(o_ ((swF a (d9 (b+1)) (y7 (DS.mk c d e f (tkF g (b+1)) (tkL g h i (b+1)) (tkT g i (b+1)) j) (d9 (b+1)) (((b+1) - k) - 20)) (DS.mk c d e f (tkF g (b+1)) (tkL g h i (b+1)) (tkT g i (b+1)) j)).ga) 2 (mK (l5 (swF a (d9 (b+1)) (y7 (DS.mk c d e f (tkF g (b+1)) (tkL g h i (b+1)) (tkT g i (b+1)) j) (d9 (b+1)) (((b+1) - k) - 20)) (DS.mk c d e f (tkF g (b+1)) (tkL g h i (b+1)) (tkT g i (b+1)) j)).al)))
@[simp] abbrev d0S (a b:Int) (c:l9E) (d:Nat) (e:l9K) (f:Nat) (g h i:Int) (j:p9) (k:Int):=[[(iI a),(iI (swF a (d9 (b+1)) (y7 (DS.mk c d e f (tkF g (b+1)) (tkL g h i (b+1)) (tkT g i (b+1)) j) (d9 (b+1)) (((b+1) - k) - 20)) (DS.mk c d e f (tkF g (b+1)) (tkL g h i (b+1)) (tkT g i (b+1)) j)).st.t),(iI (swF a (d9 (b+1)) (y7 (DS.mk c d e f (tkF g (b+1)) (tkL g h i (b+1)) (tkT g i (b+1)) j) (d9 (b+1)) (((b+1) - k) - 20)) (DS.mk c d e f (tkF g (b+1)) (tkL g h i (b+1)) (tkT g i (b+1)) j)).st.node),(iI (swF a (d9 (b+1)) (y7 (DS.mk c d e f (tkF g (b+1)) (tkL g h i (b+1)) (tkT g i (b+1)) j) (d9 (b+1)) (((b+1) - k) - 20)) (DS.mk c d e f (tkF g (b+1)) (tkL g h i (b+1)) (tkT g i (b+1)) j)).st.n),(oO 0 0 0 0),(oO 2 0 0 0),(oO 3 0 0 0)]]
@[simp] abbrev gZ (a:Int) (b:Int) (c:l9E) (d:Nat) (e:l9K) (f:Nat) (g:Int) (h:Int) (i:Int) (j:p9) (k:Int):Ob:=(o_ 0 7 (d0S a b c d e f g h i j k))
@[simp] abbrev uT (a:Int) (b:Int) (c:l9E) (d:Nat) (e:l9K) (f:Nat) (g:Int) (h:Int) (i:Int) (j:p9) (k:Int) (l:Int) (m:Int) (n:Nat) (o:l9C):Heap:=[a9v a b c d e f g h i j k,a9u a b c d e f g h i j k,iC a b c d e f g h i j k,iB a b c d e f g h i j k,iA a b c d e f g h i j k,gZ a b c d e f g h i j k,dP l,(o_ 0 1 (List.map A9 [m])),mD n o,(o_ n 9 (mC o)),(o_ 1 1 []),iD b k m]
@[simp] abbrev iV (a:Int) (b:Int) (c:Int) (d:l9E) (e:Nat) (f:l9K) (g:Nat) (h:Int) (i:Int) (j:Int) (k:p9) (l:Int) (m:l9C) (n:Nat) (o:Int):Ob:=(o_ 0 3 [[(AV.osl 7 0 1 0 1),(AV.osl 8 0 1 0 1),(iI (qA a (swC b (d9 (c+1)) (y7 (DS.mk d e f g (tkF h (c+1)) (tkL h i j (c+1)) (tkT h j (c+1)) k) (d9 (c+1)) (((c+1) - l) - 20)) (DS.mk d e f g (tkF h (c+1)) (tkL h i j (c+1)) (tkT h j (c+1)) k)) m n o).2.2)]])
@[simp] abbrev d0R (a b c:Int) (d:l9E) (e:Nat) (f:l9K) (g:Nat) (h i j:Int) (k:p9) (l:Int) (m:l9C) (n:Nat) (o:Int):=[[(AV.osl 9 (qA a (swC b (d9 (c+1)) (y7 (DS.mk d e f g (tkF h (c+1)) (tkL h i j (c+1)) (tkT h j (c+1)) k) (d9 (c+1)) (((c+1) - l) - 20)) (DS.mk d e f g (tkF h (c+1)) (tkL h i j (c+1)) (tkT h j (c+1)) k)) m n o).2.1 9 0 (List.length (qA a (swC b (d9 (c+1)) (y7 (DS.mk d e f g (tkF h (c+1)) (tkL h i j (c+1)) (tkT h j (c+1)) k) (d9 (c+1)) (((c+1) - l) - 20)) (DS.mk d e f g (tkF h (c+1)) (tkL h i j (c+1)) (tkT h j (c+1)) k)) m n o).1))]]
@[simp] abbrev a0K (a:Int) (b:Int) (c:Int) (d:l9E) (e:Nat) (f:l9K) (g:Nat) (h:Int) (i:Int) (j:Int) (k:p9) (l:Int) (m:l9C) (n:Nat) (o:Int):Ob:=(o_ 0 1 (d0R a b c d e f g h i j k l m n o))
@[simp] abbrev a0J (a:Int) (b:Int) (c:Int) (d:l9E) (e:Nat) (f:l9K) (g:Nat) (h:Int) (i:Int) (j:Int) (k:p9) (l:Int) (m:l9C) (n:Nat) (o:Int):Ob:=(o_ ((qA a (swC b (d9 (c+1)) (y7 (DS.mk d e f g (tkF h (c+1)) (tkL h i j (c+1)) (tkT h j (c+1)) k) (d9 (c+1)) (((c+1) - l) - 20)) (DS.mk d e f g (tkF h (c+1)) (tkL h i j (c+1)) (tkT h j (c+1)) k)) m n o).2.1) 9 (mC (qA a (swC b (d9 (c+1)) (y7 (DS.mk d e f g (tkF h (c+1)) (tkL h i j (c+1)) (tkT h j (c+1)) k) (d9 (c+1)) (((c+1) - l) - 20)) (DS.mk d e f g (tkF h (c+1)) (tkL h i j (c+1)) (tkT h j (c+1)) k)) m n o).1))
@[simp] abbrev a6I (a:Int) (b:Int) (c:l9E) (d:Nat) (e:l9K) (f:Nat) (g:Int) (h:Int) (i:Int) (j:p9) (k:Int) (l:Int) (m:l9C) (n:Nat) (o:Int):Heap:=[a9v a b c d e f g h i j k,a9u a b c d e f g h i j k,iC a b c d e f g h i j k,iB a b c d e f g h i j k,iA a b c d e f g h i j k,gZ a b c d e f g h i j k,iV l a b c d e f g h i j k m n o,(o_ 0 1 (List.map A9 [l])),a0K l a b c d e f g h i j k m n o,a0J l a b c d e f g h i j k m n o,(o_ 1 1 []),iD b k l]
@[simp] abbrev oQ (a:Int) (b:Int) (c:l9E) (d:Nat) (e:l9K) (f:Nat) (h:Int) (i:Int) (j:Int) (k:p9) (m:Int):Ob:=(o_ 0 2 [[(iI (q9 32)),(AV.osl 1 (swF a (d9 (b+1)) (y7 (DS.mk c d e f (tkF h (b+1)) (tkL h i j (b+1)) (tkT h j (b+1)) k) (d9 (b+1)) (((b+1) - m) - 20)) (DS.mk c d e f (tkF h (b+1)) (tkL h i j (b+1)) (tkT h j (b+1)) k)).g 10 0 (List.length (List.foldl K9 (swF a (d9 (b+1)) (y7 (DS.mk c d e f (tkF h (b+1)) (tkL h i j (b+1)) (tkT h j (b+1)) k) (d9 (b+1)) (((b+1) - m) - 20)) (DS.mk c d e f (tkF h (b+1)) (tkL h i j (b+1)) (tkT h j (b+1)) k)).l (O4 (swF a (d9 (b+1)) (y7 (DS.mk c d e f (tkF h (b+1)) (tkL h i j (b+1)) (tkT h j (b+1)) k) (d9 (b+1)) (((b+1) - m) - 20)) (DS.mk c d e f (tkF h (b+1)) (tkL h i j (b+1)) (tkT h j (b+1)) k)).l (d9 (b+1))))))]])
@[simp] abbrev oP (a:Int) (b:Int) (c:l9E) (d:Nat) (e:l9K) (f:Nat) (h:Int) (i:Int) (j:Int) (k:p9) (m:Int):Ob:=(o_ ((swF a (d9 (b+1)) (y7 (DS.mk c d e f (tkF h (b+1)) (tkL h i j (b+1)) (tkT h j (b+1)) k) (d9 (b+1)) (((b+1) - m) - 20)) (DS.mk c d e f (tkF h (b+1)) (tkL h i j (b+1)) (tkT h j (b+1)) k)).g) 10 (mE (List.foldl K9 (swF a (d9 (b+1)) (y7 (DS.mk c d e f (tkF h (b+1)) (tkL h i j (b+1)) (tkT h j (b+1)) k) (d9 (b+1)) (((b+1) - m) - 20)) (DS.mk c d e f (tkF h (b+1)) (tkL h i j (b+1)) (tkT h j (b+1)) k)).l (O4 (swF a (d9 (b+1)) (y7 (DS.mk c d e f (tkF h (b+1)) (tkL h i j (b+1)) (tkT h j (b+1)) k) (d9 (b+1)) (((b+1) - m) - 20)) (DS.mk c d e f (tkF h (b+1)) (tkL h i j (b+1)) (tkT h j (b+1)) k)).l (d9 (b+1))))))
@[simp] abbrev a6H (a:Int) (b:Int) (c:l9E) (d:Nat) (e:l9K) (f:Nat) (g:Int) (h:Int) (i:Int) (j:p9) (k:Int) (l:Int) (m:l9C) (n:Nat) (o:Int):Heap:=[oQ a b c d e f g h i j k,oP a b c d e f g h i j k,iC a b c d e f g h i j k,iB a b c d e f g h i j k,iA a b c d e f g h i j k,gZ a b c d e f g h i j k,iV l a b c d e f g h i j k m n o,(o_ 0 1 (List.map A9 [l])),a0K l a b c d e f g h i j k m n o,a0J l a b c d e f g h i j k m n o,(o_ 1 1 []),iX b l]
@[simp] abbrev c7D (a:Int) (b:Int) (c:l9E) (d:Nat) (e:l9K) (f:Nat) (g:Int) (h:Int) (i:Int) (j:p9) (k:Int) (l:Int) (m:l9C) (n:Nat) (o:Int):Heap:=[a9v a b c d e f g h i j k,a9u a b c d e f g h i j k,iC a b c d e f g h i j k,iB a b c d e f g h i j k,iA a b c d e f g h i j k,gZ a b c d e f g h i j k,iV l a b c d e f g h i j k m n o,(o_ 0 1 (List.map A9 [l])),a0K l a b c d e f g h i j k m n o,a0J l a b c d e f g h i j k m n o,(o_ 1 1 []),iX b l]
@[simp] abbrev jC (a:Int) (b:Int) (c:l9E) (d:Nat) (e:l9K) (f:Nat) (g:Int) (h:Int) (i:Int) (j:p9) (k:Int) (l:Int) (m:l9C) (n:Nat) (o:Int):Heap:=[oQ a b c d e f g h i j k,oP a b c d e f g h i j k,iC a b c d e f g h i j k,iB a b c d e f g h i j k,iA a b c d e f g h i j k,gZ a b c d e f g h i j k,iV l a b c d e f g h i j k m n o,(o_ 0 1 (List.map A9 [l])),a0K l a b c d e f g h i j k m n o,a0J l a b c d e f g h i j k m n o,(o_ 1 1 []),iX b l,(o_ 0 14 (List.map z8.row []))]
@[simp] abbrev a0I (a:Int) (b:Int) (c:Int) (d:l9E) (e:Nat) (f:l9K) (g:Nat) (h:Int) (i:Int) (j:Int) (k:p9) (l:Int) (m:l9C) (n:Nat) (o:Int):Ob:=(o_ 0 1 [[(AV.osl 9 (qA a (swC b (d9 (c+1)) (y7 (DS.mk d e f g (tkF h (c+1)) (tkL h i j (c+1)) (tkT h j (c+1)) k) (d9 (c+1)) (((c+1) - l) - 20)) (DS.mk d e f g (tkF h (c+1)) (tkL h i j (c+1)) (tkT h j (c+1)) k)) m n o).2.1 9 0 (List.length (cZ (qA a (swC b (d9 (c+1)) (y7 (DS.mk d e f g (tkF h (c+1)) (tkL h i j (c+1)) (tkT h j (c+1)) k) (d9 (c+1)) (((c+1) - l) - 20)) (DS.mk d e f g (tkF h (c+1)) (tkL h i j (c+1)) (tkT h j (c+1)) k)) m n o).1)))]])
@[simp] abbrev a0H (a:Int) (b:Int) (c:Int) (d:l9E) (e:Nat) (f:l9K) (g:Nat) (h:Int) (i:Int) (j:Int) (k:p9) (l:Int) (m:l9C) (n:Nat) (o:Int):Ob:=(o_ ((qA a (swC b (d9 (c+1)) (y7 (DS.mk d e f g (tkF h (c+1)) (tkL h i j (c+1)) (tkT h j (c+1)) k) (d9 (c+1)) (((c+1) - l) - 20)) (DS.mk d e f g (tkF h (c+1)) (tkL h i j (c+1)) (tkT h j (c+1)) k)) m n o).2.1) 9 (mC (cZ (qA a (swC b (d9 (c+1)) (y7 (DS.mk d e f g (tkF h (c+1)) (tkL h i j (c+1)) (tkT h j (c+1)) k) (d9 (c+1)) (((c+1) - l) - 20)) (DS.mk d e f g (tkF h (c+1)) (tkL h i j (c+1)) (tkT h j (c+1)) k)) m n o).1)))
@[simp] abbrev b6r (a:Int) (b:Int) (c:l9E) (d:Nat) (e:l9K) (f:Nat) (g:Int) (h:Int) (i:Int) (j:p9) (k:Int) (l:Int) (m:l9C) (n:Nat) (o:Int):Heap:=[oQ a b c d e f g h i j k,oP a b c d e f g h i j k,iC a b c d e f g h i j k,iB a b c d e f g h i j k,iA a b c d e f g h i j k,gZ a b c d e f g h i j k,iV l a b c d e f g h i j k m n o,(o_ 0 1 (List.map A9 [l])),a0I l a b c d e f g h i j k m n o,a0H l a b c d e f g h i j k m n o,(o_ 1 1 []),iX b l,(o_ 0 14 (List.map z8.row []))]
@[simp] abbrev c7C (a:Int) (b:Int) (c:l9E) (d:Nat) (e:l9K) (f:Nat) (g:Int) (h:Int) (i:Int) (j:p9) (k:Int) (l:Int) (m:l9C) (n:Nat) (o:Int):Heap:=[oQ a b c d e f g h i j k,oP a b c d e f g h i j k,iC a b c d e f g h i j k,iB a b c d e f g h i j k,iA a b c d e f g h i j k,gZ a b c d e f g h i j k,iV l a b c d e f g h i j k m n o,(o_ 0 1 (List.map A9 [l])),a0I l a b c d e f g h i j k m n o,a0H l a b c d e f g h i j k m n o,(o_ 1 1 []),iX b l,(o_ 1 14 (List.map z8.row ([]++(I5 l (M5 (qA l (swC a (d9 (b+1)) (y7 (DS.mk c d e f (tkF g (b+1)) (tkL g h i (b+1)) (tkT g i (b+1)) j) (d9 (b+1)) (((b+1) - k) - 20)) (DS.mk c d e f (tkF g (b+1)) (tkL g h i (b+1)) (tkT g i (b+1)) j)) m n o).1)))))]
@[simp] abbrev c7B (a:Int) (b:Int) (c:l9E) (d:Nat) (e:l9K) (f:Nat) (g:Int) (h:Int) (i:Int) (j:p9) (k:Int) (l:Int) (m:l9C) (n:Nat) (o:Int):Heap:=[oQ a b c d e f g h i j k,oP a b c d e f g h i j k,iC a b c d e f g h i j k,iB a b c d e f g h i j k,iA a b c d e f g h i j k,gZ a b c d e f g h i j k,iV l a b c d e f g h i j k m n o,(o_ 0 1 (List.map A9 [l])),a0I l a b c d e f g h i j k m n o,a0H l a b c d e f g h i j k m n o,(o_ 1 1 []),iX b l]
@[simp] abbrev a4G (a b:Int) (c:l9E) (d:Nat) (e:l9K) (f:Nat) (g h i:Int) (j:p9) (k:Int):=(sA 9 (mC (swC a (d9 (b+1)) (y7 (DS.mk c d e f (tkF g (b+1)) (tkL g h i (b+1)) (tkT g i (b+1)) j) (d9 (b+1)) (((b+1) - k) - 20)) (DS.mk c d e f (tkF g (b+1)) (tkL g h i (b+1)) (tkT g i (b+1)) j))))
@[simp] abbrev d0Q (a b:Int) (c:l9E) (d:Nat) (e:l9K) (f:Nat) (g h i:Int) (j:p9) (k:Int):=(iN ((List.length (O4 (swF a (d9 (b+1)) (y7 (DS.mk c d e f (tkF g (b+1)) (tkL g h i (b+1)) (tkT g i (b+1)) j) (d9 (b+1)) (((b+1) - k) - 20)) (DS.mk c d e f (tkF g (b+1)) (tkL g h i (b+1)) (tkT g i (b+1)) j)).l (d9 (b+1))))))
theorem a9L (l:l9E) (g:Nat) (al:l9K) (ga:Nat) (gf gl gt nd:Int) (st:p9) (p lost:Int) (qg:Nat) (ql:l9C) (now swept nxt:Int) (hn:0<=now) (hn2:now < 1099511627776) (hq:ql.length<=16) (hs0:0<=swept) (hs1:swept<=now) (hs:aR l) (hl:l.length<=32) (ha:al.length < 10000) (hgt:0<=tkT gf gt (now+1)/\tkT gf gt (now+1)<=1048576) (hc1:(stC nd now swept (DS.mk l g al ga gf gl gt st)).length < 100) (hw:(stW nd now swept (DS.mk l g al ga gf gl gt st)).l.length < 1000) (h1:(Int.tmod (now+1) 20 == 0)=true) (h2:(Int.tmod (now+1) 15 == 0)=false):AC 37 [(oO 11 0 0 0)] (a4T g l gf gl gt al ga nd st lost p qg ql now swept) ((sA 14 (List.map z8.row ([]++(I5 p (M5 (qA p (stC nd now swept (DS.mk l g al ga gf gl gt st)) ql qg lost).1))))),(c7E nd now swept l g al ga gf gl gt st p ql qg lost)):=by
 have hqr:(qA p (swC nd (d9 (now+1)) (y7 (DS.mk l g al ga (tkF gf (now+1)) (tkL gf gl gt (now+1)) (tkT gf gt (now+1)) st) (d9 (now+1)) (((now+1) - swept) - 20)) (DS.mk l g al ga (tkF gf (now+1)) (tkL gf gl gt (now+1)) (tkT gf gt (now+1)) st)) ql qg lost).1.length<=16:=wG _ _ _ _ _ hq
 have hpr:=dJ p (M5 (qA p (swC nd (d9 (now+1)) (y7 (DS.mk l g al ga (tkF gf (now+1)) (tkL gf gl gt (now+1)) (tkT gf gt (now+1)) st) (d9 (now+1)) (((now+1) - swept) - 20)) (DS.mk l g al ga (tkF gf (now+1)) (tkL gf gl gt (now+1)) (tkT gf gt (now+1)) st)) ql qg lost).1)
 have hqa:=wG p (stC nd now swept (DS.mk l g al ga gf gl gt st)) ql qg lost hq
 have hpl:=dJ p (M5 (qA p (stC nd now swept (DS.mk l g al ga gf gl gt st)) ql qg lost).1)
 exact r9 (fn:=Tryz.f37) (ann:=b2d) (Has.o Tryz.func37) (.r (.s (.y 4 (.int .i64 (a2l now)) (iI (now+1)) Yes.o (.s (.c 4 (l6.put2 [0,1,2,3,4,5] (eG g l gf gl gt al ga nd st lost p qg ql now swept) (oO 2 0 0 0) (eG g l gf gl gt al ga nd st lost p qg ql now swept) (iT l g al ga gf gl gt nd st ) (rlA) (rlA)) (.ch 9 (oC g l gf now gl gt al ga nd st lost p qg ql swept) (l6.put2 [2] (eG g l gf gl gt al ga nd st lost p qg ql now swept) (AV.tup []) (oC g l gf now gl gt al ga nd st lost p qg ql swept) (kL gf gl gt (now+1) ) (⟨rfl,trivial⟩) (⟨rfl,trivial⟩)) (.rd (iI (now+1)) (eG g l gf gl gt al ga nd st lost p qg ql now swept) (.s (.y 5 (bB ((Int.tmod (now+1) 20) == 0)) bT (Yes.b (h1)) (.ru (.y 20 (iW ((now+1) - swept)) (iI ((now+1) - swept)) Yes.o (.y 21 (iW (((now+1) - swept) - 20)) (iI (((now+1) - swept) - 20)) Yes.o (.ch 22 (uT nd now l g al ga gf gl gt st swept lost p qg ql) (l6.put2 [0,1,2,3,4,5] (oC g l gf now gl gt al ga nd st lost p qg ql swept) (a4G nd now l g al ga gf gl gt st swept) (uT nd now l g al ga gf gl gt st swept lost p qg ql) (a8y l g al ga (tkF gf (now+1)) (tkL gf gl gt (now+1)) (tkT gf gt (now+1)) nd st (now+1) (((now+1) - swept) - 20) (hs) (hl) (ha) (hgt)) (rlA) (rlA)) (.ch 23 (a6I nd now l g al ga gf gl gt st swept p ql qg lost) (l6.pre (args:=[(oO 6 0 0 0),(a4G nd now l g al ga gf gl gt st swept)]) (args':=[(oO 6 0 0 0),(a4G nd now l g al ga gf gl gt st swept)]) (l6.put2 [6,7,8,9] (uT nd now l g al ga gf gl gt st swept lost p qg ql) (AV.tup []) (a6I nd now l g al ga gf gl gt st swept p ql qg lost) (xQ (swC nd (d9 (now+1)) (y7 (DS.mk l g al ga (tkF gf (now+1)) (tkL gf gl gt (now+1)) (tkT gf gt (now+1)) st) (d9 (now+1)) (((now+1) - swept) - 20)) (DS.mk l g al ga (tkF gf (now+1)) (tkL gf gl gt (now+1)) (tkT gf gt (now+1)) st)) p lost qg ql (hq) (hc1)) (rlC) (rlC)) ⟨AV.j4 _,⟨rfl,rfl,.inl rfl⟩,trivial⟩) (.rd (oO 6 0 0 0) (uT nd now l g al ga gf gl gt st swept lost p qg ql) (.s (.s (.ch 8 (a6H nd now l g al ga gf gl gt st swept p ql qg lost) (l6.put2 [0,1,2,3,4,5] (c7D nd now l g al ga gf gl gt st swept p ql qg lost) (d0Q nd now l g al ga gf gl gt st swept) (a6H nd now l g al ga gf gl gt st swept p ql qg lost) (a8C (swF nd (d9 (now+1)) (y7 (DS.mk l g al ga (tkF gf (now+1)) (tkL gf gl gt (now+1)) (tkT gf gt (now+1)) st) (d9 (now+1)) (((now+1) - swept) - 20)) (DS.mk l g al ga (tkF gf (now+1)) (tkL gf gl gt (now+1)) (tkT gf gt (now+1)) st)).l (swF nd (d9 (now+1)) (y7 (DS.mk l g al ga (tkF gf (now+1)) (tkL gf gl gt (now+1)) (tkT gf gt (now+1)) st) (d9 (now+1)) (((now+1) - swept) - 20)) (DS.mk l g al ga (tkF gf (now+1)) (tkL gf gl gt (now+1)) (tkT gf gt (now+1)) st)).g (swF nd (d9 (now+1)) (y7 (DS.mk l g al ga (tkF gf (now+1)) (tkL gf gl gt (now+1)) (tkT gf gt (now+1)) st) (d9 (now+1)) (((now+1) - swept) - 20)) (DS.mk l g al ga (tkF gf (now+1)) (tkL gf gl gt (now+1)) (tkT gf gt (now+1)) st)).al (swF nd (d9 (now+1)) (y7 (DS.mk l g al ga (tkF gf (now+1)) (tkL gf gl gt (now+1)) (tkT gf gt (now+1)) st) (d9 (now+1)) (((now+1) - swept) - 20)) (DS.mk l g al ga (tkF gf (now+1)) (tkL gf gl gt (now+1)) (tkT gf gt (now+1)) st)).ga (swF nd (d9 (now+1)) (y7 (DS.mk l g al ga (tkF gf (now+1)) (tkL gf gl gt (now+1)) (tkT gf gt (now+1)) st) (d9 (now+1)) (((now+1) - swept) - 20)) (DS.mk l g al ga (tkF gf (now+1)) (tkL gf gl gt (now+1)) (tkT gf gt (now+1)) st)).gf (swF nd (d9 (now+1)) (y7 (DS.mk l g al ga (tkF gf (now+1)) (tkL gf gl gt (now+1)) (tkT gf gt (now+1)) st) (d9 (now+1)) (((now+1) - swept) - 20)) (DS.mk l g al ga (tkF gf (now+1)) (tkL gf gl gt (now+1)) (tkT gf gt (now+1)) st)).gl (swF nd (d9 (now+1)) (y7 (DS.mk l g al ga (tkF gf (now+1)) (tkL gf gl gt (now+1)) (tkT gf gt (now+1)) st) (d9 (now+1)) (((now+1) - swept) - 20)) (DS.mk l g al ga (tkF gf (now+1)) (tkL gf gl gt (now+1)) (tkT gf gt (now+1)) st)).gt nd (swF nd (d9 (now+1)) (y7 (DS.mk l g al ga (tkF gf (now+1)) (tkL gf gl gt (now+1)) (tkT gf gt (now+1)) st) (d9 (now+1)) (((now+1) - swept) - 20)) (DS.mk l g al ga (tkF gf (now+1)) (tkL gf gl gt (now+1)) (tkT gf gt (now+1)) st)).st (now+1) (hw)) (rlA) (rlA)) (.s (.s (.h' (jC nd now l g al ga gf gl gt st swept p ql qg lost) (.y 5 (bB ((Int.tmod (now+1) 15) == 0)) bF (Yes.b (h2)) (.n6 (.rn (.g (.roll 2 (.r (.ru (.s (.ch 7 (b6r nd now l g al ga gf gl gt st swept p ql qg lost) (l6.put2 [6,7,8,9] (jC nd now l g al ga gf gl gt st swept p ql qg lost) (sA 9 (mC (M5 (qA p (swC nd (d9 (now+1)) (y7 (DS.mk l g al ga (tkF gf (now+1)) (tkL gf gl gt (now+1)) (tkT gf gt (now+1)) st) (d9 (now+1)) (((now+1) - swept) - 20)) (DS.mk l g al ga (tkF gf (now+1)) (tkL gf gl gt (now+1)) (tkT gf gt (now+1)) st)) ql qg lost).1))) (b6r nd now l g al ga gf gl gt st swept p ql qg lost) (qL p (qA p (swC nd (d9 (now+1)) (y7 (DS.mk l g al ga (tkF gf (now+1)) (tkL gf gl gt (now+1)) (tkT gf gt (now+1)) st) (d9 (now+1)) (((now+1) - swept) - 20)) (DS.mk l g al ga (tkF gf (now+1)) (tkL gf gl gt (now+1)) (tkT gf gt (now+1)) st)) ql qg lost).2.2 (qA p (swC nd (d9 (now+1)) (y7 (DS.mk l g al ga (tkF gf (now+1)) (tkL gf gl gt (now+1)) (tkT gf gt (now+1)) st) (d9 (now+1)) (((now+1) - swept) - 20)) (DS.mk l g al ga (tkF gf (now+1)) (tkL gf gl gt (now+1)) (tkT gf gt (now+1)) st)) ql qg lost).2.1 (qA p (swC nd (d9 (now+1)) (y7 (DS.mk l g al ga (tkF gf (now+1)) (tkL gf gl gt (now+1)) (tkT gf gt (now+1)) st) (d9 (now+1)) (((now+1) - swept) - 20)) (DS.mk l g al ga (tkF gf (now+1)) (tkL gf gl gt (now+1)) (tkT gf gt (now+1)) st)) ql qg lost).1 oa) (rlC) (rlC)) (.c 8 ((jT p (M5 (qA p (swC nd (d9 (now+1)) (y7 (DS.mk l g al ga (tkF gf (now+1)) (tkL gf gl gt (now+1)) (tkT gf gt (now+1)) st) (d9 (now+1)) (((now+1) - swept) - 20)) (DS.mk l g al ga (tkF gf (now+1)) (tkL gf gl gt (now+1)) (tkT gf gt (now+1)) st)) ql qg lost).1)).lift kr kr (b6r nd now l g al ga gf gl gt st swept p ql qg lost)) (.ao 9 36 (AV.osl 12 0 14 0 0) (sA 14 (List.map z8.row (I5 p (M5 (qA p (swC nd (d9 (now+1)) (y7 (DS.mk l g al ga (tkF gf (now+1)) (tkL gf gl gt (now+1)) (tkT gf gt (now+1)) st) (d9 (now+1)) (((now+1) - swept) - 20)) (DS.mk l g al ga (tkF gf (now+1)) (tkL gf gl gt (now+1)) (tkT gf gt (now+1)) st)) ql qg lost).1)))) (AV.osl 12 1 14 0 (0+(I5 p (M5 (qA p (swC nd (d9 (now+1)) (y7 (DS.mk l g al ga (tkF gf (now+1)) (tkL gf gl gt (now+1)) (tkT gf gt (now+1)) st) (d9 (now+1)) (((now+1) - swept) - 20)) (DS.mk l g al ga (tkF gf (now+1)) (tkL gf gl gt (now+1)) (tkT gf gt (now+1)) st)) ql qg lost).1)).length)) (c7C nd now l g al ga gf gl gt st swept p ql qg lost) (K4 (T:=tt) (e:=56) (te:=zR) (z:=1) (b:=24) (y:=[.sl .nil 0 []]) (row:=z8.row) (l:=[]) kr kr rfl E5 E5 kr bH om rfl rfl zN) (.s (.s (.rn (.w 3 (List.map z8.row ([]++(I5 p (M5 (qA p (swC nd (d9 (now+1)) (y7 (DS.mk l g al ga (tkF gf (now+1)) (tkL gf gl gt (now+1)) (tkT gf gt (now+1)) st) (d9 (now+1)) (((now+1) - swept) - 20)) (DS.mk l g al ga (tkF gf (now+1)) (tkL gf gl gt (now+1)) (tkT gf gt (now+1)) st)) ql qg lost).1)))) (And.intro (G8 (room:=none) kr om) (z8.y8 _ _):G6 (c7C nd now l g al ga gf gl gt st swept p ql qg lost) 14 (AV.osl 12 1 14 0 (0+(I5 p (M5 (qA p (swC nd (d9 (now+1)) (y7 (DS.mk l g al ga (tkF gf (now+1)) (tkL gf gl gt (now+1)) (tkT gf gt (now+1)) st) (d9 (now+1)) (((now+1) - swept) - 20)) (DS.mk l g al ga (tkF gf (now+1)) (tkL gf gl gt (now+1)) (tkT gf gt (now+1)) st)) ql qg lost).1)).length))=some (List.map z8.row ([]++(I5 p (M5 (qA p (swC nd (d9 (now+1)) (y7 (DS.mk l g al ga (tkF gf (now+1)) (tkL gf gl gt (now+1)) (tkT gf gt (now+1)) st) (d9 (now+1)) (((now+1) - swept) - 20)) (DS.mk l g al ga (tkF gf (now+1)) (tkL gf gl gt (now+1)) (tkT gf gt (now+1)) st)) ql qg lost).1))))/\AV.D7 0 (List.map z8.row ([]++(I5 p (M5 (qA p (swC nd (d9 (now+1)) (y7 (DS.mk l g al ga (tkF gf (now+1)) (tkL gf gl gt (now+1)) (tkT gf gt (now+1)) st) (d9 (now+1)) (((now+1) - swept) - 20)) (DS.mk l g al ga (tkF gf (now+1)) (tkL gf gl gt (now+1)) (tkT gf gt (now+1)) st)) ql qg lost).1))))=true) (.g (.h' (c7B nd now l g al ga gf gl gt st swept p ql qg lost) (.q 12 (sA 14 (List.map z8.row ([]++(I5 p (M5 (qA p (swC nd (d9 (now+1)) (y7 (DS.mk l g al ga (tkF gf (now+1)) (tkL gf gl gt (now+1)) (tkT gf gt (now+1)) st) (d9 (now+1)) (((now+1) - swept) - 20)) (DS.mk l g al ga (tkF gf (now+1)) (tkL gf gl gt (now+1)) (tkT gf gt (now+1)) st)) ql qg lost).1))))))))))))))))))))))))))))))))))))))))))))
def b2c:Ann:={ own:=[136,103],gh:=[(16,.frz 3)],gha:=[(7,.vir 3 14)],base:=12,fin:=some 12 }
@[simp] abbrev c1J (a:Int) (b:Int) (c:Int) (d:l9E) (e:Nat) (f:l9K) (g:Nat) (h:Int) (i:Int) (j:Int) (k:p9) (m:Int):Ob:=(o_ 1 14 (List.map z8.row ([]++([(z8.mk a (aS.mk 4 0 0 0 0 0 0 (Key.mk (ByteArray.mk #[]) (ByteArray.mk #[])) false 0 (bE ((List.foldl K9 (swF b (d9 (c+1)) (y7 (DS.mk d e f g (tkF h (c+1)) (tkL h i j (c+1)) (tkT h j (c+1)) k) (d9 (c+1)) (((c+1) - m) - 20)) (DS.mk d e f g (tkF h (c+1)) (tkL h i j (c+1)) (tkT h j (c+1)) k)).l (O4 (swF b (d9 (c+1)) (y7 (DS.mk d e f g (tkF h (c+1)) (tkL h i j (c+1)) (tkT h j (c+1)) k) (d9 (c+1)) (((c+1) - m) - 20)) (DS.mk d e f g (tkF h (c+1)) (tkL h i j (c+1)) (tkT h j (c+1)) k)).l (d9 (c+1)))).map (·.card)))))]))))
@[simp] abbrev c7A (a:Int) (b:Int) (c:l9E) (d:Nat) (e:l9K) (f:Nat) (g:Int) (h:Int) (i:Int) (j:p9) (k:Int) (l:Int) (m:l9C) (n:Nat) (o:Int):Heap:=[oQ a b c d e f g h i j k,oP a b c d e f g h i j k,iC a b c d e f g h i j k,iB a b c d e f g h i j k,iA a b c d e f g h i j k,gZ a b c d e f g h i j k,iV l a b c d e f g h i j k m n o,(o_ 0 1 (List.map A9 [l])),a0K l a b c d e f g h i j k m n o,a0J l a b c d e f g h i j k m n o,(o_ 1 1 []),iX b l,c1J l a b c d e f g h i j k]
@[simp] abbrev b6q (a:Int) (b:Int) (c:l9E) (d:Nat) (e:l9K) (f:Nat) (g:Int) (h:Int) (i:Int) (j:p9) (k:Int) (l:Int) (m:l9C) (n:Nat) (o:Int):Heap:=[oQ a b c d e f g h i j k,oP a b c d e f g h i j k,iC a b c d e f g h i j k,iB a b c d e f g h i j k,iA a b c d e f g h i j k,gZ a b c d e f g h i j k,iV l a b c d e f g h i j k m n o,(o_ 0 1 (List.map A9 [l])),a0I l a b c d e f g h i j k m n o,a0H l a b c d e f g h i j k m n o,(o_ 1 1 []),iX b l,c1J l a b c d e f g h i j k]
@[simp] abbrev c7z (a:Int) (b:Int) (c:l9E) (d:Nat) (e:l9K) (f:Nat) (g:Int) (h:Int) (i:Int) (j:p9) (k:Int) (m:Int) (n:l9C) (o:Nat) (p:Int):Heap:=[oQ a b c d e f g h i j k,oP a b c d e f g h i j k,iC a b c d e f g h i j k,iB a b c d e f g h i j k,iA a b c d e f g h i j k,gZ a b c d e f g h i j k,iV m a b c d e f g h i j k n o p,(o_ 0 1 (List.map A9 [m])),a0I m a b c d e f g h i j k n o p,a0H m a b c d e f g h i j k n o p,(o_ 1 1 []),iX b m,(o_ 2 14 (List.map z8.row (([]++([(z8.mk m (aS.mk 4 0 0 0 0 0 0 (Key.mk (ByteArray.mk #[]) (ByteArray.mk #[])) false 0 (bE ((List.foldl K9 (swF a (d9 (b+1)) (y7 (DS.mk c d e f (tkF g (b+1)) (tkL g h i (b+1)) (tkT g i (b+1)) j) (d9 (b+1)) (((b+1) - k) - 20)) (DS.mk c d e f (tkF g (b+1)) (tkL g h i (b+1)) (tkT g i (b+1)) j)).l (O4 (swF a (d9 (b+1)) (y7 (DS.mk c d e f (tkF g (b+1)) (tkL g h i (b+1)) (tkT g i (b+1)) j) (d9 (b+1)) (((b+1) - k) - 20)) (DS.mk c d e f (tkF g (b+1)) (tkL g h i (b+1)) (tkT g i (b+1)) j)).l (d9 (b+1)))).map (·.card)))))]))++(I5 m (M5 (qA m (swC a (d9 (b+1)) (y7 (DS.mk c d e f (tkF g (b+1)) (tkL g h i (b+1)) (tkT g i (b+1)) j) (d9 (b+1)) (((b+1) - k) - 20)) (DS.mk c d e f (tkF g (b+1)) (tkL g h i (b+1)) (tkT g i (b+1)) j)) n o p).1)))))]
theorem a9K (l:l9E) (g:Nat) (al:l9K) (ga:Nat) (gf gl gt nd:Int) (st:p9) (p lost:Int) (qg:Nat) (ql:l9C) (now swept nxt:Int) (hn:0<=now) (hn2:now < 1099511627776) (hq:ql.length<=16) (hs0:0<=swept) (hs1:swept<=now) (hs:aR l) (hl:l.length<=32) (ha:al.length < 10000) (hgt:0<=tkT gf gt (now+1)/\tkT gf gt (now+1)<=1048576) (hc1:(stC nd now swept (DS.mk l g al ga gf gl gt st)).length < 100) (hw:(stW nd now swept (DS.mk l g al ga gf gl gt st)).l.length < 1000) (h1:(Int.tmod (now+1) 20 == 0)=true) (h2:(Int.tmod (now+1) 15 == 0)=true):AC 37 [(oO 11 0 0 0)] (a4T g l gf gl gt al ga nd st lost p qg ql now swept) ((sA 14 (List.map z8.row ([(z8.mk p (b4G (bE (List.map Entry.card (stP nd now swept (DS.mk l g al ga gf gl gt st)).l))))]++(I5 p (M5 (qA p (stC nd now swept (DS.mk l g al ga gf gl gt st)) ql qg lost).1))))),(c7E nd now swept l g al ga gf gl gt st p ql qg lost)):=by
 have hqr:(qA p (swC nd (d9 (now+1)) (y7 (DS.mk l g al ga (tkF gf (now+1)) (tkL gf gl gt (now+1)) (tkT gf gt (now+1)) st) (d9 (now+1)) (((now+1) - swept) - 20)) (DS.mk l g al ga (tkF gf (now+1)) (tkL gf gl gt (now+1)) (tkT gf gt (now+1)) st)) ql qg lost).1.length<=16:=wG _ _ _ _ _ hq
 have hpr:=dJ p (M5 (qA p (swC nd (d9 (now+1)) (y7 (DS.mk l g al ga (tkF gf (now+1)) (tkL gf gl gt (now+1)) (tkT gf gt (now+1)) st) (d9 (now+1)) (((now+1) - swept) - 20)) (DS.mk l g al ga (tkF gf (now+1)) (tkL gf gl gt (now+1)) (tkT gf gt (now+1)) st)) ql qg lost).1)
 have hqa:=wG p (stC nd now swept (DS.mk l g al ga gf gl gt st)) ql qg lost hq
 have hpl:=dJ p (M5 (qA p (stC nd now swept (DS.mk l g al ga gf gl gt st)) ql qg lost).1)
 have hwr:(List.foldl K9 (swF nd (d9 (now+1)) (y7 (DS.mk l g al ga (tkF gf (now+1)) (tkL gf gl gt (now+1)) (tkT gf gt (now+1)) st) (d9 (now+1)) (((now+1) - swept) - 20)) (DS.mk l g al ga (tkF gf (now+1)) (tkL gf gl gt (now+1)) (tkT gf gt (now+1)) st)).l (O4 (swF nd (d9 (now+1)) (y7 (DS.mk l g al ga (tkF gf (now+1)) (tkL gf gl gt (now+1)) (tkT gf gt (now+1)) st) (d9 (now+1)) (((now+1) - swept) - 20)) (DS.mk l g al ga (tkF gf (now+1)) (tkL gf gl gt (now+1)) (tkT gf gt (now+1)) st)).l (d9 (now+1)))).length < 1000:=Nat.lt_of_le_of_lt (b4C _ _) hw
 exact r9 (fn:=Tryz.f37) (ann:=b2c) (Has.o Tryz.func37) (.r (.s (.y 4 (.int .i64 (a2l now)) (iI (now+1)) Yes.o (.s (.c 4 (l6.put2 [0,1,2,3,4,5] (eG g l gf gl gt al ga nd st lost p qg ql now swept) (oO 2 0 0 0) (eG g l gf gl gt al ga nd st lost p qg ql now swept) (iT l g al ga gf gl gt nd st ) (rlA) (rlA)) (.ch 9 (oC g l gf now gl gt al ga nd st lost p qg ql swept) (l6.put2 [2] (eG g l gf gl gt al ga nd st lost p qg ql now swept) (AV.tup []) (oC g l gf now gl gt al ga nd st lost p qg ql swept) (kL gf gl gt (now+1) ) (⟨rfl,trivial⟩) (⟨rfl,trivial⟩)) (.rd (iI (now+1)) (eG g l gf gl gt al ga nd st lost p qg ql now swept) (.s (.y 5 (bB ((Int.tmod (now+1) 20) == 0)) bT (Yes.b (h1)) (.ru (.y 20 (iW ((now+1) - swept)) (iI ((now+1) - swept)) Yes.o (.y 21 (iW (((now+1) - swept) - 20)) (iI (((now+1) - swept) - 20)) Yes.o (.ch 22 (uT nd now l g al ga gf gl gt st swept lost p qg ql) (l6.put2 [0,1,2,3,4,5] (oC g l gf now gl gt al ga nd st lost p qg ql swept) (a4G nd now l g al ga gf gl gt st swept) (uT nd now l g al ga gf gl gt st swept lost p qg ql) (a8y l g al ga (tkF gf (now+1)) (tkL gf gl gt (now+1)) (tkT gf gt (now+1)) nd st (now+1) (((now+1) - swept) - 20) (hs) (hl) (ha) (hgt)) (rlA) (rlA)) (.ch 23 (a6I nd now l g al ga gf gl gt st swept p ql qg lost) (l6.pre (args:=[(oO 6 0 0 0),(a4G nd now l g al ga gf gl gt st swept)]) (args':=[(oO 6 0 0 0),(a4G nd now l g al ga gf gl gt st swept)]) (l6.put2 [6,7,8,9] (uT nd now l g al ga gf gl gt st swept lost p qg ql) (AV.tup []) (a6I nd now l g al ga gf gl gt st swept p ql qg lost) (xQ (swC nd (d9 (now+1)) (y7 (DS.mk l g al ga (tkF gf (now+1)) (tkL gf gl gt (now+1)) (tkT gf gt (now+1)) st) (d9 (now+1)) (((now+1) - swept) - 20)) (DS.mk l g al ga (tkF gf (now+1)) (tkL gf gl gt (now+1)) (tkT gf gt (now+1)) st)) p lost qg ql (hq) (hc1)) (rlC) (rlC)) ⟨AV.j4 _,⟨rfl,rfl,.inl rfl⟩,trivial⟩) (.rd (oO 6 0 0 0) (uT nd now l g al ga gf gl gt st swept lost p qg ql) (.s (.s (.ch 8 (a6H nd now l g al ga gf gl gt st swept p ql qg lost) (l6.put2 [0,1,2,3,4,5] (c7D nd now l g al ga gf gl gt st swept p ql qg lost) (d0Q nd now l g al ga gf gl gt st swept) (a6H nd now l g al ga gf gl gt st swept p ql qg lost) (a8C (swF nd (d9 (now+1)) (y7 (DS.mk l g al ga (tkF gf (now+1)) (tkL gf gl gt (now+1)) (tkT gf gt (now+1)) st) (d9 (now+1)) (((now+1) - swept) - 20)) (DS.mk l g al ga (tkF gf (now+1)) (tkL gf gl gt (now+1)) (tkT gf gt (now+1)) st)).l (swF nd (d9 (now+1)) (y7 (DS.mk l g al ga (tkF gf (now+1)) (tkL gf gl gt (now+1)) (tkT gf gt (now+1)) st) (d9 (now+1)) (((now+1) - swept) - 20)) (DS.mk l g al ga (tkF gf (now+1)) (tkL gf gl gt (now+1)) (tkT gf gt (now+1)) st)).g (swF nd (d9 (now+1)) (y7 (DS.mk l g al ga (tkF gf (now+1)) (tkL gf gl gt (now+1)) (tkT gf gt (now+1)) st) (d9 (now+1)) (((now+1) - swept) - 20)) (DS.mk l g al ga (tkF gf (now+1)) (tkL gf gl gt (now+1)) (tkT gf gt (now+1)) st)).al (swF nd (d9 (now+1)) (y7 (DS.mk l g al ga (tkF gf (now+1)) (tkL gf gl gt (now+1)) (tkT gf gt (now+1)) st) (d9 (now+1)) (((now+1) - swept) - 20)) (DS.mk l g al ga (tkF gf (now+1)) (tkL gf gl gt (now+1)) (tkT gf gt (now+1)) st)).ga (swF nd (d9 (now+1)) (y7 (DS.mk l g al ga (tkF gf (now+1)) (tkL gf gl gt (now+1)) (tkT gf gt (now+1)) st) (d9 (now+1)) (((now+1) - swept) - 20)) (DS.mk l g al ga (tkF gf (now+1)) (tkL gf gl gt (now+1)) (tkT gf gt (now+1)) st)).gf (swF nd (d9 (now+1)) (y7 (DS.mk l g al ga (tkF gf (now+1)) (tkL gf gl gt (now+1)) (tkT gf gt (now+1)) st) (d9 (now+1)) (((now+1) - swept) - 20)) (DS.mk l g al ga (tkF gf (now+1)) (tkL gf gl gt (now+1)) (tkT gf gt (now+1)) st)).gl (swF nd (d9 (now+1)) (y7 (DS.mk l g al ga (tkF gf (now+1)) (tkL gf gl gt (now+1)) (tkT gf gt (now+1)) st) (d9 (now+1)) (((now+1) - swept) - 20)) (DS.mk l g al ga (tkF gf (now+1)) (tkL gf gl gt (now+1)) (tkT gf gt (now+1)) st)).gt nd (swF nd (d9 (now+1)) (y7 (DS.mk l g al ga (tkF gf (now+1)) (tkL gf gl gt (now+1)) (tkT gf gt (now+1)) st) (d9 (now+1)) (((now+1) - swept) - 20)) (DS.mk l g al ga (tkF gf (now+1)) (tkL gf gl gt (now+1)) (tkT gf gt (now+1)) st)).st (now+1) (hw)) (rlA) (rlA)) (.s (.s (.h' (jC nd now l g al ga gf gl gt st swept p ql qg lost) (.y 5 (bB ((Int.tmod (now+1) 15) == 0)) bT (Yes.b (h2)) (.u6 (.ru (.c 15 (l6.put2 [0,1,2,3,4,5] (jC nd now l g al ga gf gl gt st swept p ql qg lost) (oO 0 0 0 0) (jC nd now l g al ga gf gl gt st swept p ql qg lost) (Y2 (List.foldl K9 (swF nd (d9 (now+1)) (y7 (DS.mk l g al ga (tkF gf (now+1)) (tkL gf gl gt (now+1)) (tkT gf gt (now+1)) st) (d9 (now+1)) (((now+1) - swept) - 20)) (DS.mk l g al ga (tkF gf (now+1)) (tkL gf gl gt (now+1)) (tkT gf gt (now+1)) st)).l (O4 (swF nd (d9 (now+1)) (y7 (DS.mk l g al ga (tkF gf (now+1)) (tkL gf gl gt (now+1)) (tkT gf gt (now+1)) st) (d9 (now+1)) (((now+1) - swept) - 20)) (DS.mk l g al ga (tkF gf (now+1)) (tkL gf gl gt (now+1)) (tkT gf gt (now+1)) st)).l (d9 (now+1)))) (swF nd (d9 (now+1)) (y7 (DS.mk l g al ga (tkF gf (now+1)) (tkL gf gl gt (now+1)) (tkT gf gt (now+1)) st) (d9 (now+1)) (((now+1) - swept) - 20)) (DS.mk l g al ga (tkF gf (now+1)) (tkL gf gl gt (now+1)) (tkT gf gt (now+1)) st)).g (swF nd (d9 (now+1)) (y7 (DS.mk l g al ga (tkF gf (now+1)) (tkL gf gl gt (now+1)) (tkT gf gt (now+1)) st) (d9 (now+1)) (((now+1) - swept) - 20)) (DS.mk l g al ga (tkF gf (now+1)) (tkL gf gl gt (now+1)) (tkT gf gt (now+1)) st)).al (swF nd (d9 (now+1)) (y7 (DS.mk l g al ga (tkF gf (now+1)) (tkL gf gl gt (now+1)) (tkT gf gt (now+1)) st) (d9 (now+1)) (((now+1) - swept) - 20)) (DS.mk l g al ga (tkF gf (now+1)) (tkL gf gl gt (now+1)) (tkT gf gt (now+1)) st)).ga (swF nd (d9 (now+1)) (y7 (DS.mk l g al ga (tkF gf (now+1)) (tkL gf gl gt (now+1)) (tkT gf gt (now+1)) st) (d9 (now+1)) (((now+1) - swept) - 20)) (DS.mk l g al ga (tkF gf (now+1)) (tkL gf gl gt (now+1)) (tkT gf gt (now+1)) st)).gf (swF nd (d9 (now+1)) (y7 (DS.mk l g al ga (tkF gf (now+1)) (tkL gf gl gt (now+1)) (tkT gf gt (now+1)) st) (d9 (now+1)) (((now+1) - swept) - 20)) (DS.mk l g al ga (tkF gf (now+1)) (tkL gf gl gt (now+1)) (tkT gf gt (now+1)) st)).gl (swF nd (d9 (now+1)) (y7 (DS.mk l g al ga (tkF gf (now+1)) (tkL gf gl gt (now+1)) (tkT gf gt (now+1)) st) (d9 (now+1)) (((now+1) - swept) - 20)) (DS.mk l g al ga (tkF gf (now+1)) (tkL gf gl gt (now+1)) (tkT gf gt (now+1)) st)).gt nd (swF nd (d9 (now+1)) (y7 (DS.mk l g al ga (tkF gf (now+1)) (tkL gf gl gt (now+1)) (tkT gf gt (now+1)) st) (d9 (now+1)) (((now+1) - swept) - 20)) (DS.mk l g al ga (tkF gf (now+1)) (tkL gf gl gt (now+1)) (tkT gf gt (now+1)) st)).st.t (swF nd (d9 (now+1)) (y7 (DS.mk l g al ga (tkF gf (now+1)) (tkL gf gl gt (now+1)) (tkT gf gt (now+1)) st) (d9 (now+1)) (((now+1) - swept) - 20)) (DS.mk l g al ga (tkF gf (now+1)) (tkL gf gl gt (now+1)) (tkT gf gt (now+1)) st)).st.node (swF nd (d9 (now+1)) (y7 (DS.mk l g al ga (tkF gf (now+1)) (tkL gf gl gt (now+1)) (tkT gf gt (now+1)) st) (d9 (now+1)) (((now+1) - swept) - 20)) (DS.mk l g al ga (tkF gf (now+1)) (tkL gf gl gt (now+1)) (tkT gf gt (now+1)) st)).st.n ) (rlA) (rlA)) (.c 16 (fB (q9 32) (List.foldl K9 (swF nd (d9 (now+1)) (y7 (DS.mk l g al ga (tkF gf (now+1)) (tkL gf gl gt (now+1)) (tkT gf gt (now+1)) st) (d9 (now+1)) (((now+1) - swept) - 20)) (DS.mk l g al ga (tkF gf (now+1)) (tkL gf gl gt (now+1)) (tkT gf gt (now+1)) st)).l (O4 (swF nd (d9 (now+1)) (y7 (DS.mk l g al ga (tkF gf (now+1)) (tkL gf gl gt (now+1)) (tkT gf gt (now+1)) st) (d9 (now+1)) (((now+1) - swept) - 20)) (DS.mk l g al ga (tkF gf (now+1)) (tkL gf gl gt (now+1)) (tkT gf gt (now+1)) st)).l (d9 (now+1)))) (swF nd (d9 (now+1)) (y7 (DS.mk l g al ga (tkF gf (now+1)) (tkL gf gl gt (now+1)) (tkT gf gt (now+1)) st) (d9 (now+1)) (((now+1) - swept) - 20)) (DS.mk l g al ga (tkF gf (now+1)) (tkL gf gl gt (now+1)) (tkT gf gt (now+1)) st)).g (List.length (List.foldl K9 (swF nd (d9 (now+1)) (y7 (DS.mk l g al ga (tkF gf (now+1)) (tkL gf gl gt (now+1)) (tkT gf gt (now+1)) st) (d9 (now+1)) (((now+1) - swept) - 20)) (DS.mk l g al ga (tkF gf (now+1)) (tkL gf gl gt (now+1)) (tkT gf gt (now+1)) st)).l (O4 (swF nd (d9 (now+1)) (y7 (DS.mk l g al ga (tkF gf (now+1)) (tkL gf gl gt (now+1)) (tkT gf gt (now+1)) st) (d9 (now+1)) (((now+1) - swept) - 20)) (DS.mk l g al ga (tkF gf (now+1)) (tkL gf gl gt (now+1)) (tkT gf gt (now+1)) st)).l (d9 (now+1))))) oa oa [(o_ 0 3 (d0U nd now l g al ga gf gl gt st swept)),(o_ 0 2 (d0T nd now l g al ga gf gl gt st swept)),(o_ ((swF nd (d9 (now+1)) (y7 (DS.mk l g al ga (tkF gf (now+1)) (tkL gf gl gt (now+1)) (tkT gf gt (now+1)) st) (d9 (now+1)) (((now+1) - swept) - 20)) (DS.mk l g al ga (tkF gf (now+1)) (tkL gf gl gt (now+1)) (tkT gf gt (now+1)) st)).ga) 2 (mK (l5 (swF nd (d9 (now+1)) (y7 (DS.mk l g al ga (tkF gf (now+1)) (tkL gf gl gt (now+1)) (tkT gf gt (now+1)) st) (d9 (now+1)) (((now+1) - swept) - 20)) (DS.mk l g al ga (tkF gf (now+1)) (tkL gf gl gt (now+1)) (tkT gf gt (now+1)) st)).al))),(o_ 0 7 (d0S nd now l g al ga gf gl gt st swept)),(o_ 0 3 [[(AV.osl 7 0 1 0 1),(AV.osl 8 0 1 0 1),(iI (qA p (swC nd (d9 (now+1)) (y7 (DS.mk l g al ga (tkF gf (now+1)) (tkL gf gl gt (now+1)) (tkT gf gt (now+1)) st) (d9 (now+1)) (((now+1) - swept) - 20)) (DS.mk l g al ga (tkF gf (now+1)) (tkL gf gl gt (now+1)) (tkT gf gt (now+1)) st)) ql qg lost).2.2)]]),(o_ 0 1 (List.map A9 [p])),(o_ 0 1 (d0R p nd now l g al ga gf gl gt st swept ql qg lost)),(o_ ((qA p (swC nd (d9 (now+1)) (y7 (DS.mk l g al ga (tkF gf (now+1)) (tkL gf gl gt (now+1)) (tkT gf gt (now+1)) st) (d9 (now+1)) (((now+1) - swept) - 20)) (DS.mk l g al ga (tkF gf (now+1)) (tkL gf gl gt (now+1)) (tkT gf gt (now+1)) st)) ql qg lost).2.1) 9 (mC (qA p (swC nd (d9 (now+1)) (y7 (DS.mk l g al ga (tkF gf (now+1)) (tkL gf gl gt (now+1)) (tkT gf gt (now+1)) st) (d9 (now+1)) (((now+1) - swept) - 20)) (DS.mk l g al ga (tkF gf (now+1)) (tkL gf gl gt (now+1)) (tkT gf gt (now+1)) st)) ql qg lost).1)),(o_ 1 1 []),(o_ 0 6 [[(iI (now+1)),(iI (now+1)),(sA 1 [[(iI p)]]),z_,(oO 5 0 0 0),(oO 6 0 0 0)]]),(o_ 0 14 (List.map z8.row []))]) (.c 17 ((a0u ((List.foldl K9 (swF nd (d9 (now+1)) (y7 (DS.mk l g al ga (tkF gf (now+1)) (tkL gf gl gt (now+1)) (tkT gf gt (now+1)) st) (d9 (now+1)) (((now+1) - swept) - 20)) (DS.mk l g al ga (tkF gf (now+1)) (tkL gf gl gt (now+1)) (tkT gf gt (now+1)) st)).l (O4 (swF nd (d9 (now+1)) (y7 (DS.mk l g al ga (tkF gf (now+1)) (tkL gf gl gt (now+1)) (tkT gf gt (now+1)) st) (d9 (now+1)) (((now+1) - swept) - 20)) (DS.mk l g al ga (tkF gf (now+1)) (tkL gf gl gt (now+1)) (tkT gf gt (now+1)) st)).l (d9 (now+1)))).map (·.card)) oa).lift kr kr (jC nd now l g al ga gf gl gt st swept p ql qg lost)) (.ao 20 36 (AV.osl 12 0 14 0 0) (AV.sl .clip 14 [[(iI p),(iI 4),z_,z_,z_,z_,z_,z_,e_,e_,bF,(AV.int .u32 0),(sA 9 (mC (bE ((List.foldl K9 (swF nd (d9 (now+1)) (y7 (DS.mk l g al ga (tkF gf (now+1)) (tkL gf gl gt (now+1)) (tkT gf gt (now+1)) st) (d9 (now+1)) (((now+1) - swept) - 20)) (DS.mk l g al ga (tkF gf (now+1)) (tkL gf gl gt (now+1)) (tkT gf gt (now+1)) st)).l (O4 (swF nd (d9 (now+1)) (y7 (DS.mk l g al ga (tkF gf (now+1)) (tkL gf gl gt (now+1)) (tkT gf gt (now+1)) st) (d9 (now+1)) (((now+1) - swept) - 20)) (DS.mk l g al ga (tkF gf (now+1)) (tkL gf gl gt (now+1)) (tkT gf gt (now+1)) st)).l (d9 (now+1)))).map (·.card))))),(AV.sl .nil 0 [])]]) (AV.osl 12 1 14 0 (0+1)) (c7A nd now l g al ga gf gl gt st swept p ql qg lost) (K4 (T:=tt) (e:=56) (te:=zR) (z:=1) (b:=24) (y:=[.sl .nil 0 []]) (row:=z8.row) (l:=[]) kr kr rfl E5 E5 kr bH om rfl rfl zN) (.rd z_ (jC nd now l g al ga gf gl gt st swept p ql qg lost) (.rd z_ (jC nd now l g al ga gf gl gt st swept p ql qg lost) (.rd z_ (jC nd now l g al ga gf gl gt st swept p ql qg lost) (.rd (sA 1 [[(iI p)]]) (jC nd now l g al ga gf gl gt st swept p ql qg lost) (.rd (sA 1 [[(iI p)]]) (jC nd now l g al ga gf gl gt st swept p ql qg lost) (.rd (sA 1 [[(iI p)]]) (jC nd now l g al ga gf gl gt st swept p ql qg lost) (.s (.s (.g (.roll 2 (.r (.ru (.s (.ch 7 (b6q nd now l g al ga gf gl gt st swept p ql qg lost) (l6.put2 [6,7,8,9] (c7A nd now l g al ga gf gl gt st swept p ql qg lost) (sA 9 (mC (M5 (qA p (swC nd (d9 (now+1)) (y7 (DS.mk l g al ga (tkF gf (now+1)) (tkL gf gl gt (now+1)) (tkT gf gt (now+1)) st) (d9 (now+1)) (((now+1) - swept) - 20)) (DS.mk l g al ga (tkF gf (now+1)) (tkL gf gl gt (now+1)) (tkT gf gt (now+1)) st)) ql qg lost).1))) (b6q nd now l g al ga gf gl gt st swept p ql qg lost) (qL p (qA p (swC nd (d9 (now+1)) (y7 (DS.mk l g al ga (tkF gf (now+1)) (tkL gf gl gt (now+1)) (tkT gf gt (now+1)) st) (d9 (now+1)) (((now+1) - swept) - 20)) (DS.mk l g al ga (tkF gf (now+1)) (tkL gf gl gt (now+1)) (tkT gf gt (now+1)) st)) ql qg lost).2.2 (qA p (swC nd (d9 (now+1)) (y7 (DS.mk l g al ga (tkF gf (now+1)) (tkL gf gl gt (now+1)) (tkT gf gt (now+1)) st) (d9 (now+1)) (((now+1) - swept) - 20)) (DS.mk l g al ga (tkF gf (now+1)) (tkL gf gl gt (now+1)) (tkT gf gt (now+1)) st)) ql qg lost).2.1 (qA p (swC nd (d9 (now+1)) (y7 (DS.mk l g al ga (tkF gf (now+1)) (tkL gf gl gt (now+1)) (tkT gf gt (now+1)) st) (d9 (now+1)) (((now+1) - swept) - 20)) (DS.mk l g al ga (tkF gf (now+1)) (tkL gf gl gt (now+1)) (tkT gf gt (now+1)) st)) ql qg lost).1 oa) (rlC) (rlC)) (.c 8 ((jT p (M5 (qA p (swC nd (d9 (now+1)) (y7 (DS.mk l g al ga (tkF gf (now+1)) (tkL gf gl gt (now+1)) (tkT gf gt (now+1)) st) (d9 (now+1)) (((now+1) - swept) - 20)) (DS.mk l g al ga (tkF gf (now+1)) (tkL gf gl gt (now+1)) (tkT gf gt (now+1)) st)) ql qg lost).1)).lift kr kr (b6q nd now l g al ga gf gl gt st swept p ql qg lost)) (.ao 9 36 (AV.osl 12 1 14 0 (0+1)) (sA 14 (List.map z8.row (I5 p (M5 (qA p (swC nd (d9 (now+1)) (y7 (DS.mk l g al ga (tkF gf (now+1)) (tkL gf gl gt (now+1)) (tkT gf gt (now+1)) st) (d9 (now+1)) (((now+1) - swept) - 20)) (DS.mk l g al ga (tkF gf (now+1)) (tkL gf gl gt (now+1)) (tkT gf gt (now+1)) st)) ql qg lost).1)))) (AV.osl 12 2 14 0 ((0+1)+(I5 p (M5 (qA p (swC nd (d9 (now+1)) (y7 (DS.mk l g al ga (tkF gf (now+1)) (tkL gf gl gt (now+1)) (tkT gf gt (now+1)) st) (d9 (now+1)) (((now+1) - swept) - 20)) (DS.mk l g al ga (tkF gf (now+1)) (tkL gf gl gt (now+1)) (tkT gf gt (now+1)) st)) ql qg lost).1)).length)) (c7z nd now l g al ga gf gl gt st swept p ql qg lost) (K4 (T:=tt) (e:=56) (te:=zR) (z:=1) (b:=24) (y:=[.sl .nil 0 []]) (row:=z8.row) (l:=[]++([(z8.mk p (aS.mk 4 0 0 0 0 0 0 (Key.mk (ByteArray.mk #[]) (ByteArray.mk #[])) false 0 (bE ((List.foldl K9 (swF nd (d9 (now+1)) (y7 (DS.mk l g al ga (tkF gf (now+1)) (tkL gf gl gt (now+1)) (tkT gf gt (now+1)) st) (d9 (now+1)) (((now+1) - swept) - 20)) (DS.mk l g al ga (tkF gf (now+1)) (tkL gf gl gt (now+1)) (tkT gf gt (now+1)) st)).l (O4 (swF nd (d9 (now+1)) (y7 (DS.mk l g al ga (tkF gf (now+1)) (tkL gf gl gt (now+1)) (tkT gf gt (now+1)) st) (d9 (now+1)) (((now+1) - swept) - 20)) (DS.mk l g al ga (tkF gf (now+1)) (tkL gf gl gt (now+1)) (tkT gf gt (now+1)) st)).l (d9 (now+1)))).map (·.card)))))])) kr kr rfl E5 E5 kr bH om rfl rfl zN) (.s (.s (.rn (.w 3 (List.map z8.row (([]++([(z8.mk p (aS.mk 4 0 0 0 0 0 0 (Key.mk (ByteArray.mk #[]) (ByteArray.mk #[])) false 0 (bE ((List.foldl K9 (swF nd (d9 (now+1)) (y7 (DS.mk l g al ga (tkF gf (now+1)) (tkL gf gl gt (now+1)) (tkT gf gt (now+1)) st) (d9 (now+1)) (((now+1) - swept) - 20)) (DS.mk l g al ga (tkF gf (now+1)) (tkL gf gl gt (now+1)) (tkT gf gt (now+1)) st)).l (O4 (swF nd (d9 (now+1)) (y7 (DS.mk l g al ga (tkF gf (now+1)) (tkL gf gl gt (now+1)) (tkT gf gt (now+1)) st) (d9 (now+1)) (((now+1) - swept) - 20)) (DS.mk l g al ga (tkF gf (now+1)) (tkL gf gl gt (now+1)) (tkT gf gt (now+1)) st)).l (d9 (now+1)))).map (·.card)))))]))++(I5 p (M5 (qA p (swC nd (d9 (now+1)) (y7 (DS.mk l g al ga (tkF gf (now+1)) (tkL gf gl gt (now+1)) (tkT gf gt (now+1)) st) (d9 (now+1)) (((now+1) - swept) - 20)) (DS.mk l g al ga (tkF gf (now+1)) (tkL gf gl gt (now+1)) (tkT gf gt (now+1)) st)) ql qg lost).1)))) (And.intro (G8 (room:=none) kr om) (z8.y8 _ _):G6 (c7z nd now l g al ga gf gl gt st swept p ql qg lost) 14 (AV.osl 12 2 14 0 ((0+1)+(I5 p (M5 (qA p (swC nd (d9 (now+1)) (y7 (DS.mk l g al ga (tkF gf (now+1)) (tkL gf gl gt (now+1)) (tkT gf gt (now+1)) st) (d9 (now+1)) (((now+1) - swept) - 20)) (DS.mk l g al ga (tkF gf (now+1)) (tkL gf gl gt (now+1)) (tkT gf gt (now+1)) st)) ql qg lost).1)).length))=some (List.map z8.row (([]++([(z8.mk p (aS.mk 4 0 0 0 0 0 0 (Key.mk (ByteArray.mk #[]) (ByteArray.mk #[])) false 0 (bE ((List.foldl K9 (swF nd (d9 (now+1)) (y7 (DS.mk l g al ga (tkF gf (now+1)) (tkL gf gl gt (now+1)) (tkT gf gt (now+1)) st) (d9 (now+1)) (((now+1) - swept) - 20)) (DS.mk l g al ga (tkF gf (now+1)) (tkL gf gl gt (now+1)) (tkT gf gt (now+1)) st)).l (O4 (swF nd (d9 (now+1)) (y7 (DS.mk l g al ga (tkF gf (now+1)) (tkL gf gl gt (now+1)) (tkT gf gt (now+1)) st) (d9 (now+1)) (((now+1) - swept) - 20)) (DS.mk l g al ga (tkF gf (now+1)) (tkL gf gl gt (now+1)) (tkT gf gt (now+1)) st)).l (d9 (now+1)))).map (·.card)))))]))++(I5 p (M5 (qA p (swC nd (d9 (now+1)) (y7 (DS.mk l g al ga (tkF gf (now+1)) (tkL gf gl gt (now+1)) (tkT gf gt (now+1)) st) (d9 (now+1)) (((now+1) - swept) - 20)) (DS.mk l g al ga (tkF gf (now+1)) (tkL gf gl gt (now+1)) (tkT gf gt (now+1)) st)) ql qg lost).1))))/\AV.D7 0 (List.map z8.row (([]++([(z8.mk p (aS.mk 4 0 0 0 0 0 0 (Key.mk (ByteArray.mk #[]) (ByteArray.mk #[])) false 0 (bE ((List.foldl K9 (swF nd (d9 (now+1)) (y7 (DS.mk l g al ga (tkF gf (now+1)) (tkL gf gl gt (now+1)) (tkT gf gt (now+1)) st) (d9 (now+1)) (((now+1) - swept) - 20)) (DS.mk l g al ga (tkF gf (now+1)) (tkL gf gl gt (now+1)) (tkT gf gt (now+1)) st)).l (O4 (swF nd (d9 (now+1)) (y7 (DS.mk l g al ga (tkF gf (now+1)) (tkL gf gl gt (now+1)) (tkT gf gt (now+1)) st) (d9 (now+1)) (((now+1) - swept) - 20)) (DS.mk l g al ga (tkF gf (now+1)) (tkL gf gl gt (now+1)) (tkT gf gt (now+1)) st)).l (d9 (now+1)))).map (·.card)))))]))++(I5 p (M5 (qA p (swC nd (d9 (now+1)) (y7 (DS.mk l g al ga (tkF gf (now+1)) (tkL gf gl gt (now+1)) (tkT gf gt (now+1)) st) (d9 (now+1)) (((now+1) - swept) - 20)) (DS.mk l g al ga (tkF gf (now+1)) (tkL gf gl gt (now+1)) (tkT gf gt (now+1)) st)) ql qg lost).1))))=true) (.g (.h' (c7B nd now l g al ga gf gl gt st swept p ql qg lost) (.q 12 (sA 14 (List.map z8.row (([]++([(z8.mk p (aS.mk 4 0 0 0 0 0 0 (Key.mk (ByteArray.mk #[]) (ByteArray.mk #[])) false 0 (bE ((List.foldl K9 (swF nd (d9 (now+1)) (y7 (DS.mk l g al ga (tkF gf (now+1)) (tkL gf gl gt (now+1)) (tkT gf gt (now+1)) st) (d9 (now+1)) (((now+1) - swept) - 20)) (DS.mk l g al ga (tkF gf (now+1)) (tkL gf gl gt (now+1)) (tkT gf gt (now+1)) st)).l (O4 (swF nd (d9 (now+1)) (y7 (DS.mk l g al ga (tkF gf (now+1)) (tkL gf gl gt (now+1)) (tkT gf gt (now+1)) st) (d9 (now+1)) (((now+1) - swept) - 20)) (DS.mk l g al ga (tkF gf (now+1)) (tkL gf gl gt (now+1)) (tkT gf gt (now+1)) st)).l (d9 (now+1)))).map (·.card)))))]))++(I5 p (M5 (qA p (swC nd (d9 (now+1)) (y7 (DS.mk l g al ga (tkF gf (now+1)) (tkL gf gl gt (now+1)) (tkT gf gt (now+1)) st) (d9 (now+1)) (((now+1) - swept) - 20)) (DS.mk l g al ga (tkF gf (now+1)) (tkL gf gl gt (now+1)) (tkT gf gt (now+1)) st)) ql qg lost).1))))))))))))))))))))))))))))))))))))))))))))))))))))))))
structure SS where
 d:DS
 ql:List j5
 qg:Nat
 lost:Int
 now:Int
 swept:Int
def ssQ (nd p:Int) (s:SS):List j5 × Nat × Int:=qA p (stC nd s.now s.swept s.d) s.ql s.qg s.lost
def E8 (nd p:Int) (s:SS):SS:=if (Int.tmod (s.now+1) 20 == 0)=true then ⟨stP nd s.now s.swept s.d,cZ (ssQ nd p s).1,(ssQ nd p s).2.1,(ssQ nd p s).2.2,s.now+1,s.now+1⟩ else ⟨stT s.now s.d,cZ s.ql,s.qg,s.lost,s.now+1,s.swept⟩
def aT (nd p:Int) (s:SS):List z8:=(if (Int.tmod (s.now+1) 15 == 0)=true then [z8.mk p (b4G (bE (List.map Entry.card (E8 nd p s).d.l)))] else [])++I5 p (M5 (if (Int.tmod (s.now+1) 20 == 0)=true then (ssQ nd p s).1 else s.ql))
structure c6S (nd:Int) (s:SS):Prop where
 hn:0<=s.now
 hn2:s.now < 1099511627776
 hq:s.ql.length<=16
 hs0:0<=s.swept
 hs1:s.swept<=s.now
 hs:aR s.d.l
 hl:s.d.l.length<=32
 ha:s.d.al.length < 10000
 hgt:0<=tkT s.d.gf s.d.gt (s.now+1)/\tkT s.d.gf s.d.gt (s.now+1)<=1048576
 hc1:(stC nd s.now s.swept s.d).length < 100
 hw:(stW nd s.now s.swept s.d).l.length < 1000
theorem b2k (nd p:Int) (s:SS) (h:c6S nd s):AC 37 [(oO 11 0 0 0)] [(o_ 0 2 [[(iI (q9 32)),(AV.osl 1 s.d.g 10 0 (List.length s.d.l))]]),(o_ s.d.g 10 (mE s.d.l)),(o_ 0 3 [[(iI s.d.gf),(iI s.d.gl),(iI s.d.gt)]]),(o_ 0 2 [[(iN ((List.length s.d.al))),(AV.osl 4 s.d.ga 2 0 (List.length (l5 s.d.al)))]]),(o_ s.d.ga 2 (mK (l5 s.d.al))),(o_ 0 7 [[(iI nd),(iI s.d.st.t),(iI s.d.st.node),(iI s.d.st.n),(oO 0 0 0 0),(oO 2 0 0 0),(oO 3 0 0 0)]]),(o_ 0 3 [[(AV.osl 7 0 1 0 1),(AV.osl 8 0 1 0 1),(iI s.lost)]]),(o_ 0 1 (List.map A9 [p])),(o_ 0 1 [[(AV.osl 9 s.qg 9 0 (List.length s.ql))]]),(o_ s.qg 9 (mC s.ql)),(o_ 1 1 []),(o_ 0 6 [[(iI s.now),(iI s.swept),(sA 1 [[(iI p)]]),z_,(oO 5 0 0 0),(oO 6 0 0 0)]])] ((sA 14 (List.map z8.row (aT nd p s))),[(o_ 0 2 [[(iI (q9 32)),(AV.osl 1 (E8 nd p s).d.g 10 0 (List.length (E8 nd p s).d.l))]]),(o_ ((E8 nd p s).d.g) 10 (mE (E8 nd p s).d.l)),(o_ 0 3 [[(iI (E8 nd p s).d.gf),(iI (E8 nd p s).d.gl),(iI (E8 nd p s).d.gt)]]),(o_ 0 2 [[(iN ((List.length (E8 nd p s).d.al))),(AV.osl 4 (E8 nd p s).d.ga 2 0 (List.length (l5 (E8 nd p s).d.al)))]]),(o_ ((E8 nd p s).d.ga) 2 (mK (l5 (E8 nd p s).d.al))),(o_ 0 7 [[(iI nd),(iI (E8 nd p s).d.st.t),(iI (E8 nd p s).d.st.node),(iI (E8 nd p s).d.st.n),(oO 0 0 0 0),(oO 2 0 0 0),(oO 3 0 0 0)]]),(o_ 0 3 [[(AV.osl 7 0 1 0 1),(AV.osl 8 0 1 0 1),(iI (E8 nd p s).lost)]]),(o_ 0 1 (List.map A9 [p])),(o_ 0 1 [[(AV.osl 9 (E8 nd p s).qg 9 0 (List.length (E8 nd p s).ql))]]),(o_ ((E8 nd p s).qg) 9 (mC (E8 nd p s).ql)),(o_ 1 1 []),(o_ 0 6 [[(iI (E8 nd p s).now),(iI (E8 nd p s).swept),(sA 1 [[(iI p)]]),z_,(oO 5 0 0 0),(oO 6 0 0 0)]])]):=by
 have _:0+0=0:=by rw [Nat.add_zero]
 obtain ⟨⟨l,g,al,ga,gf,gl,gt,st⟩,ql,qg,lost,now,swept⟩:=s
 obtain ⟨hn,hn2,hq,hs0,hs1,hs,hl,ha,hgt,hc1,hw⟩:=h
 simp only at hn hn2 hq hs0 hs1 hs hl ha hgt hc1 hw
 unfold aT E8
 simp only
 cases h1:(Int.tmod (now+1) 20 == 0) <;> cases h2:(Int.tmod (now+1) 15 == 0) <;> simp only [if_true,Bool.false_eq_true,if_false]
 · exact a9N l g al ga gf gl gt nd st p lost qg ql now swept 0 hn hn2 hq h1 h2
 · exact a9M l g al ga gf gl gt nd st p lost qg ql now swept 0 hn hn2 hq hl h1 h2
 · exact a9L l g al ga gf gl gt nd st p lost qg ql now swept 0 hn hn2 hq hs0 hs1 hs hl ha hgt hc1 hw h1 h2
 · exact a9K l g al ga gf gl gt nd st p lost qg ql now swept 0 hn hn2 hq hs0 hs1 hs hl ha hgt hc1 hw h1 h2
theorem c2O (nd p:Int) (s:SS) (h:c6S nd s) (H:Heap):AC 37 [(oO 11 0 0 0)] (([(o_ 0 2 [[(iI (q9 32)),(AV.osl 1 s.d.g 10 0 (List.length s.d.l))]]),(o_ s.d.g 10 (mE s.d.l)),(o_ 0 3 [[(iI s.d.gf),(iI s.d.gl),(iI s.d.gt)]]),(o_ 0 2 [[(iN ((List.length s.d.al))),(AV.osl 4 s.d.ga 2 0 (List.length (l5 s.d.al)))]]),(o_ s.d.ga 2 (mK (l5 s.d.al))),(o_ 0 7 [[(iI nd),(iI s.d.st.t),(iI s.d.st.node),(iI s.d.st.n),(oO 0 0 0 0),(oO 2 0 0 0),(oO 3 0 0 0)]]),(o_ 0 3 [[(AV.osl 7 0 1 0 1),(AV.osl 8 0 1 0 1),(iI s.lost)]]),(o_ 0 1 (List.map A9 [p])),(o_ 0 1 [[(AV.osl 9 s.qg 9 0 (List.length s.ql))]]),(o_ s.qg 9 (mC s.ql)),(o_ 1 1 []),(o_ 0 6 [[(iI s.now),(iI s.swept),(sA 1 [[(iI p)]]),z_,(oO 5 0 0 0),(oO 6 0 0 0)]])]:Heap)++H) ((sA 14 (List.map z8.row (aT nd p s))),([(o_ 0 2 [[(iI (q9 32)),(AV.osl 1 (E8 nd p s).d.g 10 0 (List.length (E8 nd p s).d.l))]]),(o_ ((E8 nd p s).d.g) 10 (mE (E8 nd p s).d.l)),(o_ 0 3 [[(iI (E8 nd p s).d.gf),(iI (E8 nd p s).d.gl),(iI (E8 nd p s).d.gt)]]),(o_ 0 2 [[(iN ((List.length (E8 nd p s).d.al))),(AV.osl 4 (E8 nd p s).d.ga 2 0 (List.length (l5 (E8 nd p s).d.al)))]]),(o_ ((E8 nd p s).d.ga) 2 (mK (l5 (E8 nd p s).d.al))),(o_ 0 7 [[(iI nd),(iI (E8 nd p s).d.st.t),(iI (E8 nd p s).d.st.node),(iI (E8 nd p s).d.st.n),(oO 0 0 0 0),(oO 2 0 0 0),(oO 3 0 0 0)]]),(o_ 0 3 [[(AV.osl 7 0 1 0 1),(AV.osl 8 0 1 0 1),(iI (E8 nd p s).lost)]]),(o_ 0 1 (List.map A9 [p])),(o_ 0 1 [[(AV.osl 9 (E8 nd p s).qg 9 0 (List.length (E8 nd p s).ql))]]),(o_ ((E8 nd p s).qg) 9 (mC (E8 nd p s).ql)),(o_ 1 1 []),(o_ 0 6 [[(iI (E8 nd p s).now),(iI (E8 nd p s).swept),(sA 1 [[(iI p)]]),z_,(oO 5 0 0 0),(oO 6 0 0 0)]])]:Heap)++H):=(b2k nd p s h).ext kr kr ob ob kr H
attribute [local irreducible] A8 D9 F3 F6 H9 I6 J2 J4 K9 L8 L9 O1 O4 Q6 aK jL jM l7 opM qN tuR y7
theorem b7t (gf:Int) (w:Int) {gt:Int} (h:0<=gt/\gt<=1048576):0<=tkT gf gt w/\tkT gf gt w<=1048576:=by
 with_unfolding_all
  unfold tkT
  split
  · exact h
  · exact ⟨Int.le_refl _,by decide⟩
end Go.Proofs.YtmghjcbabebanaaGreat.AM
namespace Go.Proofs.YtmghjcbabebanaaGreat.AM
open Go Go.Proofs.YtmghjcbabebanaaGreat
attribute [local irreducible] F5 J6 j6 l6 l9
structure SSI (n:Nat) (b:Int) (s:SS):Prop where
 d:aG n s.d
 hn:0<=s.now
 hn2:s.now<=b
 hq:s.ql.length<=16
 hs0:0<=s.swept
 hs1:s.swept<=s.now
theorem b7z {s:DS} (h:s.l.length<=32) (now late:Int):(y7 s now late).length<=32:=by
 with_unfolding_all unfold y7
 split
 · simp
 · exact a3c h now late
theorem c4S (l:l9E) (k:Key):List.Sublist (K9 l k) l:=by
 unfold K9
 split
 · have h1:List.Sublist (l.drop (E9 l k+1)) (l.drop (E9 l k)):=by
    rw [<- List.drop_drop]; exact List.drop_sublist _ _
   have h2:=List.Sublist.append (List.Sublist.refl (l.take (E9 l k))) h1
   rwa [List.take_append_drop] at h2
 · exact List.Sublist.refl _
theorem a8A (ks:l9K):∀ (l:l9E),List.Sublist (ks.foldl K9 l) l:=by
 induction ks with
 | nil=>intro l; exact List.Sublist.refl _
 | cons k ks ih=>intro l; rw [List.foldl_cons]; exact (ih _).trans (c4S l k)
theorem zU {n:Nat} {s:DS} (h:aG n s) (now:Int):aG n (stT now s) :=
 have ht:=b7t s.gf (now+1) (gt:=s.gt) ⟨h.g0,h.g1⟩
 ⟨h.srt,h.len,h.al,ht.1,ht.2⟩
theorem a7i {n:Nat} {s:DS} (h:aG n s) (now swept:Int):(stK now swept s).length<=32:=b7z (zU h now).len _ _
theorem b7G {n:Nat} {s:DS} (h:aG n s) (nd now swept:Int):aG (n+32) (stW nd now swept s) :=
 (b7C nd (d9 (now+1)) _ (zU h now)).mono (by have:=a7i h now swept; omega)
theorem d0c {n:Nat} {s:DS} (h:aG n s) (nd now swept:Int):(stC nd now swept s).length<=32:=by
 unfold stC
 rw [a4i]
 exact a7i h now swept
theorem b7H {n:Nat} {s:DS} (h:aG n s) (nd now swept:Int):aG (n+32) (stP nd now swept s):=by
 have hw:=b7G h nd now swept
 have hs:=a8A (O4 (stW nd now swept s).l (d9 (now+1))) (stW nd now swept s).l
 exact ⟨List.Pairwise.sublist (hs.map kE) hw.srt,Nat.le_trans hs.length_le hw.len,hw.al,hw.g0,hw.g1⟩
theorem SSI.ok {n:Nat} {b:Int} {s:SS} (h:SSI n b s) (hn:n < 10000) (hb:b < 1099511627776) (nd:Int):c6S nd s :=
 have h1:=d0c h.d nd s.now s.swept
 have h2:=(b7G h.d nd s.now s.swept).len
 have h3:=h.hn2
 have h4:=h.d.al
 ⟨h.hn,by omega,h.hq,h.hs0,h.hs1,h.d.srt,h.d.len,by omega,b7t s.d.gf (s.now+1) ⟨h.d.g0,h.d.g1⟩,by omega,by omega⟩
theorem a7M (l:l9C):(cZ l).length<=l.length:=by
 with_unfolding_all unfold cZ
 have:=a0s (min l.length 4) l
 omega
theorem SSI.step {n:Nat} {b:Int} {s:SS} (h:SSI n b s) (nd p:Int):SSI (n+32) (b+1) (E8 nd p s):=by
 have h3:=h.hn2
 have h5:=h.hn
 have h6:=h.hs0
 have h7:=h.hs1
 unfold E8
 split
 · have h8:=a7M (ssQ nd p s).1
   have h9:=wG p (stC nd s.now s.swept s.d) s.ql s.qg s.lost h.hq
   exact ⟨b7H h.d nd s.now s.swept,by show 0<=s.now+1; omega,by show s.now+1<=b+1; omega,Nat.le_trans h8 h9,by show 0<=s.now+1; omega,Int.le_refl _⟩
 · exact ⟨(zU h.d s.now).mono ow,by show 0<=s.now+1; omega,by show s.now+1<=b+1; omega,Nat.le_trans (a7M s.ql) h.hq,h.hs0,by show s.swept<=s.now+1; omega⟩
theorem SSI.nx {n0 i:Nat} {b0:Int} {s:SS} (h:SSI (n0+32 * i) (b0+(i:Int)) s) (nd p:Int):SSI (n0+32 * (i+1)) (b0+((i+1:Nat):Int)) (E8 nd p s) :=
 have q:=h.step nd p
 ⟨q.d.mono ow,q.hn,by have:=q.hn2; omega,q.hq,q.hs0,q.hs1⟩
theorem zT (nd p:Int) (s:SS):(aT nd p s).length<=2:=by
 unfold aT
 rw [List.length_append]
 have h1:=dJ p (M5 (if (Int.tmod (s.now+1) 20 == 0)=true then (ssQ nd p s).1 else s.ql))
 have h2:(if (Int.tmod (s.now+1) 15 == 0)=true then [z8.mk p (b4G (bE (List.map Entry.card (E8 nd p s).d.l)))] else []).length<=1:=by split <;> simp
 omega
attribute [local irreducible] aT E8 stP stW stC
def a0S:Ann:={ own:=[14],gh:=[(6,.frz 5)],gha:=[(1,.vir 5 14)],base:=12,fin:=some 12,live:=[(3,[0,5,8,9])],out:=[(3,[5])] }
@[simp] abbrev d0P (a b:Int) (c:SS):=[[(iI a),(iI (E8 a b c).d.st.t),(iI (E8 a b c).d.st.node),(iI (E8 a b c).d.st.n),(oO 0 0 0 0),(oO 2 0 0 0),(oO 3 0 0 0)]]
@[simp] abbrev d1M (a:Int) (b:Int) (c:SS) (e:Nat) (f:List z8):Heap:=[(o_ 0 2 [[(iI (q9 32)),(AV.osl 1 (E8 a b c).d.g 10 0 (List.length (E8 a b c).d.l))]]),(o_ ((E8 a b c).d.g) 10 (mE (E8 a b c).d.l)),(o_ 0 3 [[(iI (E8 a b c).d.gf),(iI (E8 a b c).d.gl),(iI (E8 a b c).d.gt)]]),(o_ 0 2 [[(iN ((List.length (E8 a b c).d.al))),(AV.osl 4 (E8 a b c).d.ga 2 0 (List.length (l5 (E8 a b c).d.al)))]]),(o_ ((E8 a b c).d.ga) 2 (mK (l5 (E8 a b c).d.al))),(o_ 0 7 (d0P a b c)),(o_ 0 3 [[(AV.osl 7 0 1 0 1),(AV.osl 8 0 1 0 1),(iI (E8 a b c).lost)]]),(o_ 0 1 (List.map A9 [b])),(o_ 0 1 [[(AV.osl 9 (E8 a b c).qg 9 0 (List.length (E8 a b c).ql))]]),(o_ ((E8 a b c).qg) 9 (mC (E8 a b c).ql)),(o_ 1 1 []),(o_ 0 6 [[(iI (E8 a b c).now),(iI (E8 a b c).swept),(sA 1 [[(iI b)]]),z_,(oO 5 0 0 0),(oO 6 0 0 0)]]),(o_ (e+1) 14 (List.map z8.row (f++(aT a b c))))]
@[simp] abbrev c5p (a:SS):=[[(iI (q9 32)),(AV.osl 1 a.d.g 10 0 (List.length a.d.l))]]
@[simp] abbrev yT (a:SS):Ob:=(o_ 0 2 (c5p a))
@[simp] abbrev rG (a:SS):Ob:=(o_ 0 3 [[(iI a.d.gf),(iI a.d.gl),(iI a.d.gt)]])
@[simp] abbrev c5o (a:SS):=[[(iN ((List.length a.d.al))),(AV.osl 4 a.d.ga 2 0 (List.length (l5 a.d.al)))]]
@[simp] abbrev uS (a:SS):Ob:=(o_ 0 2 (c5o a))
@[simp] abbrev uR (a:SS):Ob:=(o_ a.d.ga 2 (mK (l5 a.d.al)))
@[simp] abbrev c5n (a:Int) (b:SS):=[[(iI a),(iI b.d.st.t),(iI b.d.st.node),(iI b.d.st.n),(oO 0 0 0 0),(oO 2 0 0 0),(oO 3 0 0 0)]]
@[simp] abbrev yS (a:Int) (b:SS):Ob:=(o_ 0 7 (c5n a b))
@[simp] abbrev a4F (a:SS):=[[(AV.osl 7 0 1 0 1),(AV.osl 8 0 1 0 1),(iI a.lost)]]
@[simp] abbrev rF (a:SS):Ob:=(o_ 0 3 (a4F a))
@[simp] abbrev a4E (a:SS):=[[(AV.osl 9 a.qg 9 0 (List.length a.ql))]]
@[simp] abbrev rE (a:SS):Ob:=(o_ 0 1 (a4E a))
@[simp] abbrev a4D (a:SS) (b:Int):=[[(iI a.now),(iI a.swept),(sA 1 [[(iI b)]]),z_,(oO 5 0 0 0),(oO 6 0 0 0)]]
@[simp] abbrev rD (a:SS) (b:Int):Ob:=(o_ 0 6 (a4D a b))
@[simp] abbrev c6h (a:SS) (b:Int) (c:Int) (e:Nat) (f:List z8):Heap:=[yT a,(o_ a.d.g 10 (mE a.d.l)),rG a,uS a,uR a,yS b a,rF a,(o_ 0 1 (List.map A9 [c])),rE a,(o_ a.qg 9 (mC a.ql)),(o_ 1 1 []),rD a c,(o_ e 14 (List.map z8.row f))]
theorem a7f (nd:Int) (p:Int) (m:Nat) (n0:Nat) (b0:Int) (s:SS) (out:List z8) (k:Nat) (g:Nat) (i:Nat) (hm:m<=1024) (hmx:(max 0 (min m 1024))=m) (hn0:n0+32 * m < 10000) (hb0:b0+(m:Int) < 1099511627776) (hI:SSI (n0+32 * i) (b0+(i:Int)) s) (hk:k=out.length) (hki:k<=2 * i) (hle_:i<=(max 0 (min m 1024))) {eX:Ex} {FX:Fr} {HX:Heap} (k1:(decide ((i:Int) < (((max 0 (min m 1024)):Nat):Int)))=true->j6 (l9 Tryz.prog (X a0S) (x9 Tryz.f11 0)) (some [0,5,8,9]) (some [5]) (mkF 17 [(0,(oO 11 0 0 0)),(5,(AV.osl 12 (g+1) 14 0 (k+(aT nd p s).length))),(8,(iN ((max 0 (min m 1024))))),(9,(iN (i+1)))]) (d1M nd p s g out) eX FX HX) (k2:(decide ((i:Int) < (((max 0 (min m 1024)):Nat):Int)))=false->((.exit 0:Ex),(mkF 17 [(5,(AV.osl 12 g 14 0 k))]),(c6h s nd p g out))=(eX,FX,HX)):j6 (l9 Tryz.prog (X a0S) (x9 Tryz.f11 0)) (some [0,5,8,9]) (some [5]) (mkF 17 [(0,(oO 11 0 0 0)),(5,(AV.osl 12 g 14 0 k)),(8,(iN ((max 0 (min m 1024))))),(9,(iN i))]) (c6h s nd p g out) eX FX HX:=by
 have hsl:=zT nd p s
 exact I9 (.r (.g (.two (decide ((i:Int) < (((max 0 (min m 1024)):Nat):Int))) (fun h1 h1'=>(.r (.ch 2 [(o_ 0 2 [[(iI (q9 32)),(AV.osl 1 (E8 nd p s).d.g 10 0 (List.length (E8 nd p s).d.l))]]),(o_ ((E8 nd p s).d.g) 10 (mE (E8 nd p s).d.l)),(o_ 0 3 [[(iI (E8 nd p s).d.gf),(iI (E8 nd p s).d.gl),(iI (E8 nd p s).d.gt)]]),(o_ 0 2 [[(iN ((List.length (E8 nd p s).d.al))),(AV.osl 4 (E8 nd p s).d.ga 2 0 (List.length (l5 (E8 nd p s).d.al)))]]),(o_ ((E8 nd p s).d.ga) 2 (mK (l5 (E8 nd p s).d.al))),(o_ 0 7 (d0P nd p s)),(o_ 0 3 [[(AV.osl 7 0 1 0 1),(AV.osl 8 0 1 0 1),(iI (E8 nd p s).lost)]]),(o_ 0 1 (List.map A9 [p])),(o_ 0 1 [[(AV.osl 9 (E8 nd p s).qg 9 0 (List.length (E8 nd p s).ql))]]),(o_ ((E8 nd p s).qg) 9 (mC (E8 nd p s).ql)),(o_ 1 1 []),(o_ 0 6 [[(iI (E8 nd p s).now),(iI (E8 nd p s).swept),(sA 1 [[(iI p)]]),z_,(oO 5 0 0 0),(oO 6 0 0 0)]]),(o_ g 14 (List.map z8.row out))] (c2O nd p s (hI.ok ow ow nd) [(o_ g 14 (List.map z8.row out))]) (.ao 3 36 (AV.osl 12 g 14 0 k) (sA 14 (List.map z8.row (aT nd p s))) (AV.osl 12 (g+1) 14 0 (k+(aT nd p s).length)) (d1M nd p s g out) (K4 (T:=tt) (e:=56) (te:=zR) (z:=1) (b:=24) (y:=[.sl .nil 0 []]) (row:=z8.row) (l:=out) kr kr rfl E5 E5 kr bH om rfl rfl zN) (.s (.y 0 (iW ((i:Int)+1)) (iN (i+1)) Yes.o (.g (.l (k1 h1))))))))) (fun h1 h1'=>(.l (k2 h1))))))
def a2x (nd:Int) (p:Int) (m:Nat) (n0:Nat) (b0:Int) (i:Nat) (s:SS × (List z8) × Nat × Nat):SS × (List z8) × Nat × Nat:=(E8 nd p s.1,s.2.1++(aT nd p s.1),(s.2.2.1+(aT nd p s.1).length),(s.2.2.2+1))
theorem c2q {p:Prop} (h:p:=by have hsl:=zT nd p s; have hIn:=hI.nx nd p; first | omega | assumption | (simp; done) | (simp; omega) | (simp [*]; done) | (simp [*]; omega)):p:=h
theorem c2E (nd:Int) (p:Int) (m:Nat) (n0:Nat) (b0:Int) (hm:m<=1024) (hmx:(max 0 (min m 1024))=m) (hn0:n0+32 * m < 10000) (hb0:b0+(m:Int) < 1099511627776)  (r_:Nat):∀ (s:SS) (out:List z8) (k:Nat) (g:Nat) (i:Nat) (sF:SS × (List z8) × Nat × Nat),i+r_=(max 0 (min m 1024))->SSI (n0+32 * i) (b0+(i:Int)) s->k=out.length->k<=2 * i->sF=iter (a2x nd p m n0 b0) r_ i (s,out,k,g) ->
 j6 (l9 Tryz.prog (X a0S) (x9 Tryz.f11 0)) (some [0,5,8,9]) (some [5]) (mkF 17 [(0,(oO 11 0 0 0)),(5,(AV.osl 12 g 14 0 k)),(8,(iN ((max 0 (min m 1024))))),(9,(iN i))]) (c6h s nd p g out) (.exit 0) (mkF 17 [(5,(AV.osl 12 sF.2.2.2 14 0 sF.2.2.1))]) [(o_ 0 2 [[(iI (q9 32)),(AV.osl 1 sF.1.d.g 10 0 (List.length sF.1.d.l))]]),(o_ sF.1.d.g 10 (mE sF.1.d.l)),(o_ 0 3 [[(iI sF.1.d.gf),(iI sF.1.d.gl),(iI sF.1.d.gt)]]),(o_ 0 2 [[(iN ((List.length sF.1.d.al))),(AV.osl 4 sF.1.d.ga 2 0 (List.length (l5 sF.1.d.al)))]]),(o_ sF.1.d.ga 2 (mK (l5 sF.1.d.al))),(o_ 0 7 [[(iI nd),(iI sF.1.d.st.t),(iI sF.1.d.st.node),(iI sF.1.d.st.n),(oO 0 0 0 0),(oO 2 0 0 0),(oO 3 0 0 0)]]),(o_ 0 3 [[(AV.osl 7 0 1 0 1),(AV.osl 8 0 1 0 1),(iI sF.1.lost)]]),(o_ 0 1 (List.map A9 [p])),(o_ 0 1 [[(AV.osl 9 sF.1.qg 9 0 (List.length sF.1.ql))]]),(o_ sF.1.qg 9 (mC sF.1.ql)),(o_ 1 1 []),(o_ 0 6 [[(iI sF.1.now),(iI sF.1.swept),(sA 1 [[(iI p)]]),z_,(oO 5 0 0 0),(oO 6 0 0 0)]]),(o_ sF.2.2.2 14 (List.map z8.row sF.2.1))]:=by
 induction r_ with
 | zero =>
  intro s out k g i sF hi_ hI hk hki  hF
  obtain rfl:(max 0 (min m 1024))=i:=by omega
  have e_:sF=(s,out,k,g):=hF
  refine a7f nd p m n0 b0 s out k g (max 0 (min m 1024)) hm hmx hn0 hb0 hI hk hki (Nat.le_refl _) (fun h=>by simp at h <;> omega) (fun _=>?_)
  first | done | rfl | (rw [e_]; done) | (rw [e_]; rfl)
 | succ r_ ih =>
  intro s out k g i sF hi_ hI hk hki  hF
  refine a7f nd p m n0 b0 s out k g i hm hmx hn0 hb0 hI hk hki ow (fun h1=>?_) (fun h=>by simp at h <;> omega)
  · exact ih (E8 nd p s) (out++(aT nd p s)) (k+(aT nd p s).length) (g+1) (i+1) sF ow c2q c2q c2q  (by rw [hF] <;> simp only [iter,a2x,if_true,Bool.false_eq_true,if_false])
def j3 (nd p:Int) (m n0:Nat) (b0:Int) (s:SS):SS × List z8 × Nat × Nat:=iter (a2x nd p m n0 b0) m 0 (s,[],0,0)
theorem c2C (nd p:Int) (m n0:Nat) (b0:Int) (s:SS) (hI:SSI n0 b0 s):(j3 nd p m n0 b0 s).2.2.1=(j3 nd p m n0 b0 s).2.1.length/\(j3 nd p m n0 b0 s).2.2.1<=2 * m/\SSI (n0+32 * m) (b0+(m:Int)) (j3 nd p m n0 b0 s).1:=by
 have h:=sQ (a2x nd p m n0 b0) (fun i t=>t.2.2.1=t.2.1.length/\t.2.2.1<=2 * i/\SSI (n0+32 * i) (b0+(i:Int)) t.1) m (fun i t _ ht=>by
  have hl:=zT nd p t.1
  have h2:=ht.2.1
  refine ⟨?_,?_,ht.2.2.nx nd p⟩
  · show t.2.2.1+(aT nd p t.1).length=(t.2.1++aT nd p t.1).length
    rw [List.length_append,ht.1]
  · show t.2.2.1+(aT nd p t.1).length<=2 * (i+1)
    omega) m 0 (s,[],0,0) ow ⟨rfl,Nat.le_refl _,by simpa using hI⟩
 simp only [Nat.zero_add] at h
 exact h
attribute [local irreducible] j3
@[simp] abbrev c6g (a:SS) (b:Int) (c:Int):Heap:=[yT a,(o_ a.d.g 10 (mE a.d.l)),rG a,uS a,uR a,yS b a,rF a,(o_ 0 1 (List.map A9 [c])),rE a,(o_ a.qg 9 (mC a.ql)),(o_ 1 1 []),rD a c,(o_ 0 14 (List.map z8.row []))]
theorem xE (nd p:Int) (m n0:Nat) (b0:Int) (s:SS) (hm:m<=1024) (hmx:(max 0 (min m 1024))=m) (hn0:n0+32 * m < 10000) (hb0:b0+(m:Int) < 1099511627776) (hI:SSI n0 b0 s):AC 11 [(oO 11 0 0 0),(iN m)] [(o_ 0 2 (c5p s)),(o_ s.d.g 10 (mE s.d.l)),(o_ 0 3 [[(iI s.d.gf),(iI s.d.gl),(iI s.d.gt)]]),(o_ 0 2 (c5o s)),(o_ s.d.ga 2 (mK (l5 s.d.al))),(o_ 0 7 (c5n nd s)),(o_ 0 3 (a4F s)),(o_ 0 1 (List.map A9 [p])),(o_ 0 1 (a4E s)),(o_ s.qg 9 (mC s.ql)),(o_ 1 1 []),(o_ 0 6 (a4D s p))] ((sA 14 (List.map z8.row (j3 nd p m n0 b0 s).2.1)),[(o_ 0 2 [[(iI (q9 32)),(AV.osl 1 (j3 nd p m n0 b0 s).1.d.g 10 0 (List.length (j3 nd p m n0 b0 s).1.d.l))]]),(o_ ((j3 nd p m n0 b0 s).1.d.g) 10 (mE (j3 nd p m n0 b0 s).1.d.l)),(o_ 0 3 [[(iI (j3 nd p m n0 b0 s).1.d.gf),(iI (j3 nd p m n0 b0 s).1.d.gl),(iI (j3 nd p m n0 b0 s).1.d.gt)]]),(o_ 0 2 [[(iN ((List.length (j3 nd p m n0 b0 s).1.d.al))),(AV.osl 4 (j3 nd p m n0 b0 s).1.d.ga 2 0 (List.length (l5 (j3 nd p m n0 b0 s).1.d.al)))]]),(o_ ((j3 nd p m n0 b0 s).1.d.ga) 2 (mK (l5 (j3 nd p m n0 b0 s).1.d.al))),(o_ 0 7 [[(iI nd),(iI (j3 nd p m n0 b0 s).1.d.st.t),(iI (j3 nd p m n0 b0 s).1.d.st.node),(iI (j3 nd p m n0 b0 s).1.d.st.n),(oO 0 0 0 0),(oO 2 0 0 0),(oO 3 0 0 0)]]),(o_ 0 3 [[(AV.osl 7 0 1 0 1),(AV.osl 8 0 1 0 1),(iI (j3 nd p m n0 b0 s).1.lost)]]),(o_ 0 1 (List.map A9 [p])),(o_ 0 1 [[(AV.osl 9 (j3 nd p m n0 b0 s).1.qg 9 0 (List.length (j3 nd p m n0 b0 s).1.ql))]]),(o_ ((j3 nd p m n0 b0 s).1.qg) 9 (mC (j3 nd p m n0 b0 s).1.ql)),(o_ 1 1 []),(o_ 0 6 [[(iI (j3 nd p m n0 b0 s).1.now),(iI (j3 nd p m n0 b0 s).1.swept),(sA 1 [[(iI p)]]),z_,(oO 5 0 0 0),(oO 6 0 0 0)]])]):=by
 have ht:=c2C nd p m n0 b0 s hI
 have ht1:=ht.1
 have ht2:=ht.2.1
 exact r9 (fn:=Tryz.f11) (ann:=a0S) (Has.o Tryz.func11) (.r (.s (.s (.h' (c6g s nd p) (.y 1 (.int .i64 (if 1024 < (m:Int) then 1024 else (m:Int))) (iN (min m 1024)) (Yes.int yv_) (.y 2 (.int .i64 (if ((min m 1024:Nat):Int) > 0 then ((min m 1024:Nat):Int) else 0)) (iN (max 0 (min m 1024))) (Yes.int yv_) (.g (.loop (mkF 17 [(5,(AV.osl 12 (j3 nd p m n0 b0 s).2.2.2 14 0 (j3 nd p m n0 b0 s).2.2.1))]) (c2E nd p m n0 b0 hm hmx hn0 hb0 m s [] 0 0 0 (j3 nd p m n0 b0 s) ow (by simpa using hI) rfl ow wZ) (.r (.w 5 (List.map z8.row (j3 nd p m n0 b0 s).2.1) (And.intro (G8 (room:=none) kr om) (z8.y8 _ _):G6 [(o_ 0 2 [[(iI (q9 32)),(AV.osl 1 (j3 nd p m n0 b0 s).1.d.g 10 0 (List.length (j3 nd p m n0 b0 s).1.d.l))]]),(o_ ((j3 nd p m n0 b0 s).1.d.g) 10 (mE (j3 nd p m n0 b0 s).1.d.l)),(o_ 0 3 [[(iI (j3 nd p m n0 b0 s).1.d.gf),(iI (j3 nd p m n0 b0 s).1.d.gl),(iI (j3 nd p m n0 b0 s).1.d.gt)]]),(o_ 0 2 [[(iN ((List.length (j3 nd p m n0 b0 s).1.d.al))),(AV.osl 4 (j3 nd p m n0 b0 s).1.d.ga 2 0 (List.length (l5 (j3 nd p m n0 b0 s).1.d.al)))]]),(o_ ((j3 nd p m n0 b0 s).1.d.ga) 2 (mK (l5 (j3 nd p m n0 b0 s).1.d.al))),(o_ 0 7 [[(iI nd),(iI (j3 nd p m n0 b0 s).1.d.st.t),(iI (j3 nd p m n0 b0 s).1.d.st.node),(iI (j3 nd p m n0 b0 s).1.d.st.n),(oO 0 0 0 0),(oO 2 0 0 0),(oO 3 0 0 0)]]),(o_ 0 3 [[(AV.osl 7 0 1 0 1),(AV.osl 8 0 1 0 1),(iI (j3 nd p m n0 b0 s).1.lost)]]),(o_ 0 1 (List.map A9 [p])),(o_ 0 1 [[(AV.osl 9 (j3 nd p m n0 b0 s).1.qg 9 0 (List.length (j3 nd p m n0 b0 s).1.ql))]]),(o_ ((j3 nd p m n0 b0 s).1.qg) 9 (mC (j3 nd p m n0 b0 s).1.ql)),(o_ 1 1 []),(o_ 0 6 [[(iI (j3 nd p m n0 b0 s).1.now),(iI (j3 nd p m n0 b0 s).1.swept),(sA 1 [[(iI p)]]),z_,(oO 5 0 0 0),(oO 6 0 0 0)]]),(o_ ((j3 nd p m n0 b0 s).2.2.2) 14 (List.map z8.row (j3 nd p m n0 b0 s).2.1))] 14 (AV.osl 12 (j3 nd p m n0 b0 s).2.2.2 14 0 (j3 nd p m n0 b0 s).2.2.1)=some (List.map z8.row (j3 nd p m n0 b0 s).2.1)/\AV.D7 0 (List.map z8.row (j3 nd p m n0 b0 s).2.1)=true) (.g (.h' [(o_ 0 2 [[(iI (q9 32)),(AV.osl 1 (j3 nd p m n0 b0 s).1.d.g 10 0 (List.length (j3 nd p m n0 b0 s).1.d.l))]]),(o_ ((j3 nd p m n0 b0 s).1.d.g) 10 (mE (j3 nd p m n0 b0 s).1.d.l)),(o_ 0 3 [[(iI (j3 nd p m n0 b0 s).1.d.gf),(iI (j3 nd p m n0 b0 s).1.d.gl),(iI (j3 nd p m n0 b0 s).1.d.gt)]]),(o_ 0 2 [[(iN ((List.length (j3 nd p m n0 b0 s).1.d.al))),(AV.osl 4 (j3 nd p m n0 b0 s).1.d.ga 2 0 (List.length (l5 (j3 nd p m n0 b0 s).1.d.al)))]]),(o_ ((j3 nd p m n0 b0 s).1.d.ga) 2 (mK (l5 (j3 nd p m n0 b0 s).1.d.al))),(o_ 0 7 [[(iI nd),(iI (j3 nd p m n0 b0 s).1.d.st.t),(iI (j3 nd p m n0 b0 s).1.d.st.node),(iI (j3 nd p m n0 b0 s).1.d.st.n),(oO 0 0 0 0),(oO 2 0 0 0),(oO 3 0 0 0)]]),(o_ 0 3 [[(AV.osl 7 0 1 0 1),(AV.osl 8 0 1 0 1),(iI (j3 nd p m n0 b0 s).1.lost)]]),(o_ 0 1 (List.map A9 [p])),(o_ 0 1 [[(AV.osl 9 (j3 nd p m n0 b0 s).1.qg 9 0 (List.length (j3 nd p m n0 b0 s).1.ql))]]),(o_ ((j3 nd p m n0 b0 s).1.qg) 9 (mC (j3 nd p m n0 b0 s).1.ql)),(o_ 1 1 []),(o_ 0 6 [[(iI (j3 nd p m n0 b0 s).1.now),(iI (j3 nd p m n0 b0 s).1.swept),(sA 1 [[(iI p)]]),z_,(oO 5 0 0 0),(oO 6 0 0 0)]])] (.q 12 (sA 14 (List.map z8.row (j3 nd p m n0 b0 s).2.1)))))))))))))))
attribute [local irreducible] C9 D5 D8 D9 F3 G9 I4 I6 K8 L8 L9 N9 O5 P6 Q6 R3 R4 R8 R9 Tp.H7 Tp.J8 Tp.card Tp.cards Tp.key Tp.keyT Tp.next Tp.step X8 cmpL inC isKey ixI opM sink y5
def rP:Ann:={ fin:=some 0,live:=[(2,[0,1,7,8])],out:=[(2,[4])] }
theorem yD (p:Key->Bool) (f:Nat) (xs:List AV) (l:l9K) (i:Nat) (hc:∀ (x:Key) (H:Heap),AC f ([AV.agg (Key.row x)]++xs) H (bB (p x),H)) (hl:l.length < 1099511627776) (hi:i<=l.length) {eX:Ex} {FX:Fr} {HX:Heap} (k1:(decide ((i:Int) < (l.length:Int)))=true->(p (nth l i))=true->((.ret:Ex),(mkF 19 [(4,(iN i))]),[])=(eX,FX,HX)) (k2:(decide ((i:Int) < (l.length:Int)))=true->(p (nth l i))=false->j6 (l9 Tryz.prog (X rP) (x9 Tryz.f108 0)) (some [0,1,7,8]) (some [4]) (mkF 19 [(0,(sA 2 (mK l))),(1,(AV.func f xs)),(7,(iN l.length)),(8,(iN (i+1)))]) [] eX FX HX) (k3:(decide ((i:Int) < (l.length:Int)))=false->((.exit 0:Ex),(mkF 19 []),[])=(eX,FX,HX)):j6 (l9 Tryz.prog (X rP) (x9 Tryz.f108 0)) (some [0,1,7,8]) (some [4]) (mkF 19 [(0,(sA 2 (mK l))),(1,(AV.func f xs)),(7,(iN l.length)),(8,(iN i))]) [] eX FX HX :=
 I9 (.r (.g (.two (decide ((i:Int) < (l.length:Int))) (fun h1 h1'=>(.r (.s (.is 3 2 2 (mK l) (i:Int) (Key.row (nth l i)) (N7.mk _ ow ow) (.c 5 (hc (nth l i) []) (.g (.two (p (nth l i)) (fun h2 h2'=>(.r (.g (.l (k1 h1 h2))))) (fun h2 h2'=>(.r (.y 0 (.int .i64 (cb_ i)) (iN (i+1)) Yes.o (.g (.l (k2 h1 h2))))))))))))) (fun h1 h1'=>(.l (k3 h1))))))
theorem c4w (p:Key->Bool) (f:Nat) (xs:List AV) (l:l9K) (hc:∀ (x:Key) (H:Heap),AC f ([AV.agg (Key.row x)]++xs) H (bB (p x),H)) (hl:l.length < 1099511627776) (n:Nat) (hn:n < l.length) (hp:p (nth l n)=true) (r:Nat):∀ (i:Nat),i+r=n->(∀ j,i<=j->j < n->p (nth l j)=false) ->
 j6 (l9 Tryz.prog (X rP) (x9 Tryz.f108 0)) (some [0,1,7,8]) (some [4]) (mkF 19 [(0,(sA 2 (mK l))),(1,(AV.func f xs)),(7,(iN l.length)),(8,(iN i))]) [] (.ret) (mkF 19 [(4,(iN n))]) []:=by
 induction r with
 | zero =>
  intro i hi h
  obtain rfl:i=n:=by omega
  refine yD p f xs l i hc hl ow (fun _ _=>rfl) (fun _ h2=>?_) (fun h1=>?_)
  · rw [hp] at h2; simp at h2
  · simp at h1; omega
 | succ r ih =>
  intro i hi h
  refine yD p f xs l i hc hl ow (fun _ h2=>?_) (fun _ h2=>?_) (fun h1=>?_)
  · rw [h i (Nat.le_refl _) ow] at h2; simp at h2
  · exact ih (i+1) ow (fun j h3 h4=>h j ow h4)
  · simp at h1; omega
theorem c4x (p:Key->Bool) (f:Nat) (xs:List AV) (l:l9K) (hc:∀ (x:Key) (H:Heap),AC f ([AV.agg (Key.row x)]++xs) H (bB (p x),H)) (hl:l.length < 1099511627776) (r:Nat):∀ (i:Nat),i+r=l.length->(∀ j,i<=j->j < l.length->p (nth l j)=false) ->
 j6 (l9 Tryz.prog (X rP) (x9 Tryz.f108 0)) (some [0,1,7,8]) (some [4]) (mkF 19 [(0,(sA 2 (mK l))),(1,(AV.func f xs)),(7,(iN l.length)),(8,(iN i))]) [] (.exit 0) (mkF 19 []) []:=by
 induction r with
 | zero =>
  intro i hi h
  refine yD p f xs l i hc hl ow (fun h1 _=>?_) (fun h1 h2=>?_) (fun h1=>rfl)
  · simp at h1; omega
  · simp at h1; omega
 | succ r ih =>
  intro i hi h
  refine yD p f xs l i hc hl ow (fun _ h2=>?_) (fun _ h2=>?_) (fun h1=>?_)
  · rw [h i (Nat.le_refl _) ow] at h2; simp at h2
  · exact ih (i+1) ow (fun j h3 h4=>h j ow h4)
  · simp at h1; omega
@[simp] abbrev d4K (a:l9K) (b:Nat) (c:List AV):Fr:=(mkF 19 [(0,(sA 2 (mK a))),(1,(AV.func b c)),(7,(iN a.length)),(8,z_)])
theorem b9m (p:Key->Bool) (f:Nat) (xs:List AV) (l:l9K) (n:Nat) (hc:∀ (x:Key) (H:Heap),AC f ([AV.agg (Key.row x)]++xs) H (bB (p x),H)) (hxs:AV.bdds 0 xs=true) (hl:l.length < 1099511627776) (hn:n < l.length) (hp:p (nth l n)=true) (h:∀ j,0<=j->j < n->p (nth l j)=false):AC 108 [(sA 2 (mK l)),(AV.func f xs)] [] ((iN n),[]) :=
 r9 (fn:=Tryz.f108) (ann:=rP) (Has.o Tryz.func108) (.r (.s (.y 1 (.int .i64 ((List.length (mK l):Nat):Int)) (iN l.length) (Yes.len _ _ _) (.g (.loop (mkF 19 [(4,(iN n))]) (c4w p f xs l hc hl n hn hp n 0 ow h) (.q 0 (iN n)))))))
theorem b9n (p:Key->Bool) (f:Nat) (xs:List AV) (l:l9K) (hc:∀ (x:Key) (H:Heap),AC f ([AV.agg (Key.row x)]++xs) H (bB (p x),H)) (hxs:AV.bdds 0 xs=true) (hl:l.length < 1099511627776) (h:∀ j,0<=j->j < l.length->p (nth l j)=false):AC 108 [(sA 2 (mK l)),(AV.func f xs)] [] ((iI (-1)),[]) :=
 r9 (fn:=Tryz.f108) (ann:=rP) (Has.o Tryz.func108) (.r (.s (.y 1 (.int .i64 ((List.length (mK l):Nat):Int)) (iN l.length) (Yes.len _ _ _) (.g (.loop (mkF 19 []) (c4x p f xs l hc hl l.length 0 ow h) (.qr 0 (iI (-1))))))))
theorem c4v (p:Key->Bool) (f:Nat) (xs:List AV) (l:l9K) (hc:∀ (x:Key) (H:Heap),AC f ([AV.agg (Key.row x)]++xs) H (bB (p x),H)) (hxs:AV.bdds 0 xs=true) (hl:l.length < 1099511627776):AC 108 [(sA 2 (mK l)),(AV.func f xs)] [] ((iI (ixI p l)),[]):=by
 unfold ixI
 cases h:kK p l 0 with
 | none=>exact b9n p f xs l hc hxs hl (fun j _ hj=>oI l 0 h j hj)
 | some n =>
  obtain ⟨_,h2,h3,h4⟩:=oH l 0 n h
  exact b9m p f xs l n hc hxs hl ow h3 (fun j _ hj=>h4 j hj)
theorem d0m (p:Key->Bool) (f:Nat) (xs:List AV) (l:l9K) (hc:∀ (x:Key) (H:Heap),AC f ([AV.agg (Key.row x)]++xs) H (bB (p x),H)) (hxs:AV.bdds 0 xs=true) (hl:l.length < 1099511627776) (H:Heap):AC 108 [(sA 2 (mK l)),(AV.func f xs)] H ((iI (ixI p l)),H):=(c4v p f xs l hc hxs hl).lift jX kr H
def c5Y:Ann:={ fin:=some 0 }
theorem a6h (l:l9C) (hl:l.length < 1048576):AC 57 [(sA 9 (mC l)),(AV.func 58 [])] [] ((bB (decide (ixI (fun c:j5=>!(O5 c)) l >= 0))),[]) :=
 r9 (fn:=Tryz.f57) (ann:=c5Y) (Has.o Tryz.func57) (.r (.s (.c 2 (b9s (fun c:j5=>!(O5 c)) 58 [] l (fun x H=>a8h x H) (rfl) oa []) (.q 0 (bB (decide ((ixI (fun c:j5=>!(O5 c)) l) >= 0)))))))
def c5X:Ann:={ fin:=some 0 }
theorem c0T (l:l9K) (hl:l.length < 1048576):AC 60 [(sA 2 (mK l)),(AV.func 61 [])] [] ((bB (decide (ixI (fun k:Key=>!(Q6 k)) l >= 0))),[]) :=
 r9 (fn:=Tryz.f60) (ann:=c5X) (Has.o Tryz.func60) (.r (.s (.c 2 (d0m (fun k:Key=>!(Q6 k)) 61 [] l (fun x H=>a8g x H) (rfl) oa []) (.q 0 (bB (decide ((ixI (fun k:Key=>!(Q6 k)) l) >= 0)))))))
def c4a:Ann:={ refs:=[1],fin:=some 0 }
@[simp] abbrev b5w :=(AV.ref [(AV.str (ByteArray.mk #[107,105,110,100])),(AV.iface 109 (iI 12))] 0)
theorem b9b (q:Msg) (h:q.kind < 1):AC 30 [(AV.agg (Msg.row q))] [] ((AV.iface 166 b5w),[]) :=
 r9 (fn:=Tryz.f30) (ann:=c4a) (Has.o Tryz.func30) (.r (.s (.y 2 (iO q) bT (Yes.b (decide_eq_true h)) (.u3 (.ru (.c 0 ((V7 (ByteArray.mk #[107,105,110,100]) 12 oa).lift kr kr []) (.q 0 (AV.iface 166 b5w))))))))
def c3Z:Ann:={ refs:=[1],fin:=some 0 }
theorem b9a (q:Msg) (k1:1<=q.kind) (h:5 < q.kind):AC 30 [(AV.agg (Msg.row q))] [] ((AV.iface 166 b5w),[]) :=
 r9 (fn:=Tryz.f30) (ann:=c3Z) (Has.o Tryz.func30) (.r (.s (.y 2 (iO q) bF (Yes.b yg_) (.n3 (.y 6 (jN q) bT (Yes.b (decide_eq_true h)) (.ru (.c 0 ((V7 (ByteArray.mk #[107,105,110,100]) 12 oa).lift kr kr []) (.q 0 (AV.iface 166 b5w)))))))))
def c9D:Ann:={ refs:=[1],fin:=some 0 }
theorem c3S (q:Msg) (k1:1<=q.kind) (k2:q.kind<=5) (hz:L9 q=false):AC 30 [(AV.agg (Msg.row q))] [] ((AV.iface 166 b5C),[]) :=
 r9 (fn:=Tryz.f30) (ann:=c9D) (Has.o Tryz.func30) (.r (.s (.y 2 (iO q) bF (Yes.b yg_) (.n3 (.y 6 (jN q) bF (Yes.b yg_) (.rn (.c 1 (Z8 q  ([]:Heap)) (.y 2 (bB (!(L9 q))) bT (Yes.b mI) (.ru (.c 0 ((V7 (ByteArray.mk #[122,101,114,111]) 12 oa).lift kr kr []) (.q 0 (AV.iface 166 b5C))))))))))))
def c9E:Ann:={ refs:=[1],fin:=some 0 }
theorem c3T (q:Msg) (k1:1<=q.kind) (k2:q.kind<=5) (hz:L9 q=true) (ho:opM q=false):AC 30 [(AV.agg (Msg.row q))] [] ((AV.iface 166 b5B),[]) :=
 r9 (fn:=Tryz.f30) (ann:=c9E) (Has.o Tryz.func30) (.r (.s (.y 2 (iO q) bF (Yes.b yg_) (.n3 (.y 6 (jN q) bF (Yes.b yg_) (.rn (.c 1 (Z8 q  ([]:Heap)) (.y 2 (bB (!(L9 q))) bF (Yes.b mI) (.rn (.c 1 (fJ q  ([]:Heap)) (.y 2 (bB (!(opM q))) bT (Yes.b Z5) (.ru (.c 0 ((V7 (ByteArray.mk #[111,112]) 12 oa).lift kr kr []) (.q 0 (AV.iface 166 b5B)))))))))))))))
def c3W:Ann:={ refs:=[1],fin:=some 0 }
theorem b8X (q:Msg) (k1:1<=q.kind) (k2:q.kind<=5) (hz:L9 q=true) (ho:opM q=true) (hn:I6 q.code=false):AC 30 [(AV.agg (Msg.row q))] [] ((AV.iface 166 vS),[]) :=
 r9 (fn:=Tryz.f30) (ann:=c3W) (Has.o Tryz.func30) (.r (.s (.y 2 (iO q) bF (Yes.b yg_) (.n3 (.y 6 (jN q) bF (Yes.b yg_) (.rn (.c 1 (Z8 q  ([]:Heap)) (.y 2 (bB (!(L9 q))) bF (Yes.b mI) (.rn (.c 1 (fJ q  ([]:Heap)) (.y 2 (bB (!(opM q))) bF (Yes.b Z5) (.rn (.c 2 (O7 q.code  ([]:Heap)) (.y 3 (bB (!(I6 q.code))) bT (Yes.b (by rw [hn]; rfl)) (.u6 (.u (.ru (.c 0 ((V7 (ByteArray.mk #[110,117,109,98,101,114]) 1 oa).lift kr kr []) (.q 0 (AV.iface 166 vS))))))))))))))))))))
def c3V:Ann:={ refs:=[1],fin:=some 0 }
theorem a4b {p:Prop} (h:p:=by rw [hc]; rfl):p:=h
theorem b8W (q:Msg) (k1:1<=q.kind) (k2:q.kind<=5) (hz:L9 q=true) (ho:opM q=true) (hc:I6 q.code=true) (hn:I6 q.status=false):AC 30 [(AV.agg (Msg.row q))] [] ((AV.iface 166 vS),[]) :=
 r9 (fn:=Tryz.f30) (ann:=c3V) (Has.o Tryz.func30) (.r (.s (.y 2 (iO q) bF (Yes.b yg_) (.n3 (.y 6 (jN q) bF (Yes.b yg_) (.rn (.c 1 (Z8 q  ([]:Heap)) (.y 2 (bB (!(L9 q))) bF (Yes.b mI) (.rn (.c 1 (fJ q  ([]:Heap)) (.y 2 (bB (!(opM q))) bF (Yes.b Z5) (.rn (.c 2 (O7 q.code  ([]:Heap)) (.y 3 (bB (!(I6 q.code))) bF (Yes.b a4b) (.n3 (.c 7 (O7 q.status  ([]:Heap)) (.n (.y 8 (bB (!(I6 q.status))) bT (Yes.b (by rw [hn]; rfl)) (.u3 (.ru (.c 0 ((V7 (ByteArray.mk #[110,117,109,98,101,114]) 1 oa).lift kr kr []) (.q 0 (AV.iface 166 vS)))))))))))))))))))))))
def c3U:Ann:={ refs:=[1],fin:=some 0 }
theorem b8V (q:Msg) (k1:1<=q.kind) (k2:q.kind<=5) (hz:L9 q=true) (ho:opM q=true) (hc:I6 q.code=true) (hs:I6 q.status=true) (hn:q.seq < -1):AC 30 [(AV.agg (Msg.row q))] [] ((AV.iface 166 vS),[]) :=
 r9 (fn:=Tryz.f30) (ann:=c3U) (Has.o Tryz.func30) (.r (.s (.y 2 (iO q) bF (Yes.b yg_) (.n3 (.y 6 (jN q) bF (Yes.b yg_) (.rn (.c 1 (Z8 q  ([]:Heap)) (.y 2 (bB (!(L9 q))) bF (Yes.b mI) (.rn (.c 1 (fJ q  ([]:Heap)) (.y 2 (bB (!(opM q))) bF (Yes.b Z5) (.rn (.c 2 (O7 q.code  ([]:Heap)) (.y 3 (bB (!(I6 q.code))) bF (Yes.b a4b) (.n3 (.c 7 (O7 q.status  ([]:Heap)) (.n (.y 8 (bB (!(I6 q.status))) bF (Yes.b a4d) (.n3 (.y 13 (a2k q) bT (Yes.b (decide_eq_true hn)) (.ru (.c 0 ((V7 (ByteArray.mk #[110,117,109,98,101,114]) 1 oa).lift kr kr []) (.q 0 (AV.iface 166 vS))))))))))))))))))))))))
def c3Y:Ann:={ refs:=[1],fin:=some 0 }
@[simp] abbrev b5v :=(AV.ref [(AV.str (ByteArray.mk #[99,97,114,100,115])),(AV.iface 109 (iI 3))] 0)
theorem b8Z (q:Msg) (k1:1<=q.kind) (k2:q.kind<=5) (hz:L9 q=true) (ho:opM q=true) (hc:I6 q.code=true) (hs:I6 q.status=true) (hq:-1<=q.seq) (hn:64 < q.cards.length):AC 30 [(AV.agg (Msg.row q))] [] ((AV.iface 166 b5v),[]) :=
 r9 (fn:=Tryz.f30) (ann:=c3Y) (Has.o Tryz.func30) (.r (.s (.y 2 (iO q) bF (Yes.b yg_) (.n3 (.y 6 (jN q) bF (Yes.b yg_) (.rn (.c 1 (Z8 q  ([]:Heap)) (.y 2 (bB (!(L9 q))) bF (Yes.b mI) (.rn (.c 1 (fJ q  ([]:Heap)) (.y 2 (bB (!(opM q))) bF (Yes.b Z5) (.rn (.c 2 (O7 q.code  ([]:Heap)) (.y 3 (bB (!(I6 q.code))) bF (Yes.b a4b) (.n3 (.c 7 (O7 q.status  ([]:Heap)) (.n (.y 8 (bB (!(I6 q.status))) bF (Yes.b a4d) (.n3 (.y 13 (a2k q) bF (Yes.b yg_) (.rn (.y 2 (.int .i64 ((List.length (mC q.cards):Nat):Int)) (iN q.cards.length) (Yes.len _ _ _) (.y 3 (a9f q) bT (Yes.b yg_) (.u4 (.ru (.c 0 ((V7 (ByteArray.mk #[99,97,114,100,115]) 3 oa).lift kr kr []) (.q 0 (AV.iface 166 b5v))))))))))))))))))))))))))))
def c3X:Ann:={ refs:=[1],fin:=some 0 }
theorem b8Y (q:Msg) (k1:1<=q.kind) (k2:q.kind<=5) (hz:L9 q=true) (ho:opM q=true) (hc:I6 q.code=true) (hs:I6 q.status=true) (hq:-1<=q.seq) (l1:q.cards.length<=64) (hn:64 < q.keys.length):AC 30 [(AV.agg (Msg.row q))] [] ((AV.iface 166 b5v),[]) :=
 r9 (fn:=Tryz.f30) (ann:=c3X) (Has.o Tryz.func30) (.r (.s (.y 2 (iO q) bF (Yes.b yg_) (.n3 (.y 6 (jN q) bF (Yes.b yg_) (.rn (.c 1 (Z8 q  ([]:Heap)) (.y 2 (bB (!(L9 q))) bF (Yes.b mI) (.rn (.c 1 (fJ q  ([]:Heap)) (.y 2 (bB (!(opM q))) bF (Yes.b Z5) (.rn (.c 2 (O7 q.code  ([]:Heap)) (.y 3 (bB (!(I6 q.code))) bF (Yes.b a4b) (.n3 (.c 7 (O7 q.status  ([]:Heap)) (.n (.y 8 (bB (!(I6 q.status))) bF (Yes.b a4d) (.n3 (.y 13 (a2k q) bF (Yes.b yg_) (.rn (.y 2 (.int .i64 ((List.length (mC q.cards):Nat):Int)) (iN q.cards.length) (Yes.len _ _ _) (.y 3 (a9f q) bF (Yes.b yg_) (.n3 (.y 7 (.int .i64 ((List.length (mK q.keys):Nat):Int)) (iN q.keys.length) (Yes.len _ _ _) (.n (.y 8 (b5F q) bT (Yes.b yg_) (.ru (.c 0 ((V7 (ByteArray.mk #[99,97,114,100,115]) 3 oa).lift kr kr []) (.q 0 (AV.iface 166 b5v)))))))))))))))))))))))))))))))
theorem b5X (l:l9C) (hl:l.length < 1048576) (h:(ixI (fun c:j5=>!(O5 c)) l >= 0)):AC 57 [(sA 9 (mC l)),(AV.func 58 [])] [] (bT,[]):=by
 have e:=a6h l hl
 rw [decide_eq_true h] at e
 exact e
theorem b5Y (l:l9C) (hl:l.length < 1048576) (h:¬ (ixI (fun c:j5=>!(O5 c)) l >= 0)):AC 57 [(sA 9 (mC l)),(AV.func 58 [])] [] (bF,[]):=by
 have e:=a6h l hl
 rw [decide_eq_false h] at e
 exact e
theorem b5W (l:l9K) (hl:l.length < 1048576) (h:(ixI (fun k:Key=>!(Q6 k)) l >= 0)):AC 60 [(sA 2 (mK l)),(AV.func 61 [])] [] (bT,[]):=by
 have e:=c0T l hl
 rw [decide_eq_true h] at e
 exact e
def c4c:Ann:={ refs:=[1],fin:=some 0 }
@[simp] abbrev b5u :=(AV.ref [(AV.str (ByteArray.mk #[99,97,114,100])),(AV.iface 109 (iI 1))] 0)
theorem b9d (q:Msg) (k1:1<=q.kind) (k2:q.kind<=5) (hz:L9 q=true) (ho:opM q=true) (hc:I6 q.code=true) (hs:I6 q.status=true) (hq:-1<=q.seq) (l1:q.cards.length<=64) (l2:q.keys.length<=64) (h:(ixI (fun c:j5=>!(O5 c)) q.cards >= 0)):AC 30 [(AV.agg (Msg.row q))] [] ((AV.iface 166 b5u),[]) :=
 r9 (fn:=Tryz.f30) (ann:=c4c) (Has.o Tryz.func30) (.r (.s (.y 2 (iO q) bF (Yes.b yg_) (.n3 (.y 6 (jN q) bF (Yes.b yg_) (.rn (.c 1 (Z8 q  ([]:Heap)) (.y 2 (bB (!(L9 q))) bF (Yes.b mI) (.rn (.c 1 (fJ q  ([]:Heap)) (.y 2 (bB (!(opM q))) bF (Yes.b Z5) (.rn (.c 2 (O7 q.code  ([]:Heap)) (.y 3 (bB (!(I6 q.code))) bF (Yes.b a4b) (.n3 (.c 7 (O7 q.status  ([]:Heap)) (.n (.y 8 (bB (!(I6 q.status))) bF (Yes.b a4d) (.n3 (.y 13 (a2k q) bF (Yes.b yg_) (.rn (.y 2 (.int .i64 ((List.length (mC q.cards):Nat):Int)) (iN q.cards.length) (Yes.len _ _ _) (.y 3 (a9f q) bF (Yes.b yg_) (.n3 (.y 7 (.int .i64 ((List.length (mK q.keys):Nat):Int)) (iN q.keys.length) (Yes.len _ _ _) (.n (.y 8 (b5F q) bF (Yes.b yg_) (.rn (.c 2 ((b5X q.cards oa (h)).lift kr kr []) (.s (.u3 (.ru (.c 0 ((V7 (ByteArray.mk #[99,97,114,100]) 1 oa).lift kr kr []) (.q 0 (AV.iface 166 b5u)))))))))))))))))))))))))))))))))))
def c4b:Ann:={ refs:=[1],fin:=some 0 }
theorem b9c (q:Msg) (k1:1<=q.kind) (k2:q.kind<=5) (hz:L9 q=true) (ho:opM q=true) (hc:I6 q.code=true) (hs:I6 q.status=true) (hq:-1<=q.seq) (l1:q.cards.length<=64) (l2:q.keys.length<=64) (h0:¬ (ixI (fun c:j5=>!(O5 c)) q.cards >= 0)) (h:(ixI (fun k:Key=>!(Q6 k)) q.keys >= 0)):AC 30 [(AV.agg (Msg.row q))] [] ((AV.iface 166 b5u),[]) :=
 r9 (fn:=Tryz.f30) (ann:=c4b) (Has.o Tryz.func30) (.r (.s (.y 2 (iO q) bF (Yes.b yg_) (.n3 (.y 6 (jN q) bF (Yes.b yg_) (.rn (.c 1 (Z8 q  ([]:Heap)) (.y 2 (bB (!(L9 q))) bF (Yes.b mI) (.rn (.c 1 (fJ q  ([]:Heap)) (.y 2 (bB (!(opM q))) bF (Yes.b Z5) (.rn (.c 2 (O7 q.code  ([]:Heap)) (.y 3 (bB (!(I6 q.code))) bF (Yes.b a4b) (.n3 (.c 7 (O7 q.status  ([]:Heap)) (.n (.y 8 (bB (!(I6 q.status))) bF (Yes.b a4d) (.n3 (.y 13 (a2k q) bF (Yes.b yg_) (.rn (.y 2 (.int .i64 ((List.length (mC q.cards):Nat):Int)) (iN q.cards.length) (Yes.len _ _ _) (.y 3 (a9f q) bF (Yes.b yg_) (.n3 (.y 7 (.int .i64 ((List.length (mK q.keys):Nat):Int)) (iN q.keys.length) (Yes.len _ _ _) (.n (.y 8 (b5F q) bF (Yes.b yg_) (.rn (.c 2 ((b5Y q.cards oa (h0)).lift kr kr []) (.s (.n3 (.c 4 ((b5W q.keys oa (h)).lift kr kr []) (.ru (.c 0 ((V7 (ByteArray.mk #[99,97,114,100]) 1 oa).lift kr kr []) (.q 0 (AV.iface 166 b5u))))))))))))))))))))))))))))))))))))
theorem b1B {α:Type} [Inhabited α] {p:α->Bool} {l:List α} (h:¬ ixI p l >= 0):∀ x∈l,p x=false:=by
 intro x hx
 obtain ⟨j,hj,rfl⟩:=aW hx
 cases h1:kK p l 0 with
 | none=>exact oI l 0 h1 j hj
 | some n=>exact absurd (show ixI p l >= 0 by with_unfolding_all (unfold ixI; rw [h1]; exact Int.natCast_nonneg n)) h
def a0r (q:Msg):AV:=if q.kind < 1\/5 < q.kind then kN [107,105,110,100] 12 else if L9 q=false then kN [122,101,114,111] 12 else if opM q=false then kN [111,112] 12 else if I6 q.code=false\/I6 q.status=false\/q.seq < -1 then kN [110,117,109,98,101,114] 1 else if 64 < q.cards.length\/64 < q.keys.length then kN [99,97,114,100,115] 3 else kN [99,97,114,100] 1
@[simp] theorem d4d (n:Nat) (q:Msg):AV.bdd n (a0r q)=true:=by
 unfold a0r kN
 repeat' split
 all_goals simp [AV.bdd,AV.bdds]
theorem c3M (q:Msg) (hr:R4 q=false):AC 30 [(AV.agg (Msg.row q))] [] ((AV.iface 166 (a0r q)),[]):=by
 unfold a0r
 by_cases k1:q.kind < 1
 · rw [if_pos (Or.inl k1)]; exact b9b q k1
 by_cases k2:5 < q.kind
 · rw [if_pos (Or.inr k2)]; exact b9a q ow k2
 rw [if_neg ow]
 have a1:1<=q.kind:=by omega
 have a2:q.kind<=5:=by omega
 by_cases hz:L9 q=false
 · rw [if_pos hz]; exact c3S q a1 a2 hz
 rw [if_neg hz]
 have hz:L9 q=true:=by simpa using hz
 by_cases ho:opM q=false
 · rw [if_pos ho]; exact c3T q a1 a2 hz ho
 rw [if_neg ho]
 have ho:opM q=true:=by simpa using ho
 by_cases hc:I6 q.code=false
 · rw [if_pos (Or.inl hc)]; exact b8X q a1 a2 hz ho hc
 by_cases hs:I6 q.status=false
 · rw [if_pos (Or.inr (Or.inl hs))]; exact b8W q a1 a2 hz ho (by simpa using hc) hs
 by_cases hq:q.seq < -1
 · rw [if_pos (Or.inr (Or.inr hq))]; exact b8V q a1 a2 hz ho (by simpa using hc) (by simpa using hs) hq
 rw [if_neg (by rintro (h | h | h); exact hc h; exact hs h; exact hq h)]
 have hc:I6 q.code=true:=by simpa using hc
 have hs:I6 q.status=true:=by simpa using hs
 by_cases l1:64 < q.cards.length
 · rw [if_pos (Or.inl l1)]; exact b8Z q a1 a2 hz ho hc hs ow l1
 by_cases l2:64 < q.keys.length
 · rw [if_pos (Or.inr l2)]; exact b8Y q a1 a2 hz ho hc hs ow ow l2
 rw [if_neg ow]
 by_cases g1:ixI (fun c:j5=>!(O5 c)) q.cards >= 0
 · exact b9d q a1 a2 hz ho hc hs ow ow ow g1
 by_cases g2:ixI (fun k:Key=>!(Q6 k)) q.keys >= 0
 · exact b9c q a1 a2 hz ho hc hs ow ow ow g1 g2
 have e1:q.cards.all O5=true:=List.all_eq_true.2 fun x hx=>by simpa using b1B g1 x hx
 have e2:q.keys.all Q6=true:=List.all_eq_true.2 fun x hx=>by simpa using b1B g2 x hx
 have:R4 q=true:=by
  with_unfolding_all unfold R4
  rw [hz,ho,hc,hs,e1,e2,decide_eq_true a1,decide_eq_true a2,decide_eq_true (show -1<=q.seq by omega),decide_eq_true (show q.cards.length<=64 by omega),decide_eq_true (show q.keys.length<=64 by omega)]
  rfl
 rw [this] at hr
 simp at hr
theorem d0j (q:Msg) (hr:R4 q=false) (H:Heap):AC 30 [(AV.agg (Msg.row q))] H ((AV.iface 166 (a0r q)),H):=(c3M q hr).lift kr (by simp [AV.bdd,AV.bdds]) H
attribute [local irreducible] I5 W9 X0 a0r bE dU hdD nP qA
def b8o:Ann:={ refs:=[5],base:=12,fin:=some 12 }
@[simp] abbrev Q8 (a:SS) (b:Int) (c:Int):Heap:=[yT a,(o_ a.d.g 10 (mE a.d.l)),rG a,uS a,uR a,yS b a,rF a,(o_ 0 1 (List.map A9 [c])),rE a,(o_ a.qg 9 (mC a.ql)),(o_ 1 1 []),rD a c]
theorem b3b (nd p:Int) (s:SS) (f:Int) (q:Msg) (hr:R4 q=false):AC 10 [(oO 11 0 0 0),(iI f),(AV.agg (Msg.row q))] (Q8 s nd p) ((AV.sl .nil 0 []),(Q8 s nd p)) :=
 r9 (fn:=Tryz.f10) (ann:=b8o) (Has.o Tryz.func10) (.r (.s (.c 1 (d0j q oa (Q8 s nd p)) (.g (.u (.qr 12 (AV.sl .nil 0 [])))))))
def b8q:Ann:={ refs:=[5],base:=12,fin:=some 12 }
theorem b3c (nd p:Int) (s:SS) (f:Int) (q:Msg) (hr:R4 q=true) (hk:q.kind=2):AC 10 [(oO 11 0 0 0),(iI f),(AV.agg (Msg.row q))] (Q8 s nd p) ((AV.sl .nil 0 []),(Q8 s nd p)) :=
 r9 (fn:=Tryz.f10) (ann:=b8q) (Has.o Tryz.func10) (.r (.s (.c 1 ((bX q oa).lift kr kr (Q8 s nd p)) (.rn (.s (.y 0 (bB (q.kind == 1)) bF (Yes.b bC) (.rn (.y 0 (bB (q.kind == 3)) bF (Yes.b bC) (.rn (.y 0 (bB (q.kind == 4)) bF (Yes.b bC) (.rn (.y 0 (bB (q.kind == 5)) bF (Yes.b bC) (.g (.n (.qr 12 (AV.sl .nil 0 []))))))))))))))))
def b2Z:Ann:={ refs:=[5],base:=12,fin:=some 12 }
@[simp] abbrev b6p (a:SS) (b:Int) (c:Int):Heap:=[rG a,uS a,uR a,yS b a,rF a,(o_ 0 1 (List.map A9 [c])),rE a,(o_ a.qg 9 (mC a.ql)),(o_ 1 1 []),rD a c]
theorem b0h (nd p:Int) (s:SS) (f:Int) (q:Msg) (hr:R4 q=true) (hk:q.kind=5) (hl:s.d.l.length < 1000) (hq:q.keys.length < 1000):AC 10 [(oO 11 0 0 0),(iI f),(AV.agg (Msg.row q))] (Q8 s nd p) ((sA 14 (List.map z8.row (I5 f (nP (List.map Entry.card s.d.l) q.keys)))),(Q8 s nd p)) :=
 r9 (fn:=Tryz.f10) (ann:=b2Z) (Has.o Tryz.func10) (.r (.s (.c 1 ((bX q oa).lift kr kr (Q8 s nd p)) (.rn (.s (.y 0 (bB (q.kind == 1)) bF (Yes.b bC) (.rn (.y 0 (bB (q.kind == 3)) bF (Yes.b bC) (.rn (.y 0 (bB (q.kind == 4)) bF (Yes.b bC) (.rn (.y 0 (bB (q.kind == 5)) bT (Yes.b bC) (.ru (.c 5 (l6.put2 [0,1,2,3,4,5] (Q8 s nd p) (oO 0 0 0 0) (Q8 s nd p) (Y2 s.d.l s.d.g s.d.al s.d.ga s.d.gf s.d.gl s.d.gt nd s.d.st.t s.d.st.node s.d.st.n ) (rlA) (rlA)) (.c 6 (fB (q9 32) s.d.l s.d.g (List.length s.d.l) oa oa (b6p s nd p)) (.c 9 ((a9t (s.d.l.map (·.card)) q.keys oa oa).lift kr kr (Q8 s nd p)) (.c 10 ((jT f (nP (s.d.l.map (·.card)) q.keys)).lift kr kr (Q8 s nd p)) (.q 12 (sA 14 (List.map z8.row (I5 f (nP (s.d.l.map (·.card)) q.keys))))))))))))))))))))))
structure O6 where
 to:Int
 m:Msg
 deriving Inhabited
def O6.row (x:O6):List AV:=[(iI x.to),(iI x.m.kind),(iI x.m.op),(iI x.m.status),(iI x.m.code),(iI x.m.tag),(iI x.m.n),(iI x.m.seq),(AV.str x.m.key.app),(AV.str x.m.key.id),(bB x.m.full),(AV.int .u32 x.m.sum),(sA 9 (mC x.m.cards)),(sA 2 (mK x.m.keys))]
@[simp] theorem O6.R7 (n:Nat) (x:O6):AV.bdds n x.row=true:=by simp [O6.row,AV.bdds,AV.bdd]
@[simp] theorem O6.y8 (n:Nat) (l:List O6):AV.D7 n (l.map O6.row)=true:=by induction l with | nil=>rfl | cons x l ih=>simp [AV.D7,O6.R7,ih]
attribute [local simp] O6.row
def b8p:Ann:={ refs:=[5],base:=12,fin:=some 12 }
@[simp] abbrev c5m (a:Int) (b:SS) (c:Msg):=[[(iI (q9 32)),(AV.osl 1 (hdD a b.d c b.now).s.g 10 0 (List.length (hdD a b.d c b.now).s.l))]]
@[simp] abbrev c7x (a:Int) (b:SS) (c:Msg):Ob:=(o_ 0 2 (c5m a b c))
@[simp] abbrev c1I (a:Int) (b:SS) (c:Msg):Ob:=(o_ ((hdD a b.d c b.now).s.g) 10 (mE (hdD a b.d c b.now).s.l))
@[simp] abbrev c5l (a:Int) (b:SS) (c:Msg):=[[(iI (hdD a b.d c b.now).s.gf),(iI (hdD a b.d c b.now).s.gl),(iI (hdD a b.d c b.now).s.gt)]]
@[simp] abbrev c1H (a:Int) (b:SS) (c:Msg):Ob:=(o_ 0 3 (c5l a b c))
@[simp] abbrev c5k (a:Int) (b:SS) (c:Msg):=[[(iN ((List.length (hdD a b.d c b.now).s.al))),(AV.osl 4 (hdD a b.d c b.now).s.ga 2 0 (List.length (l5 (hdD a b.d c b.now).s.al)))]]
@[simp] abbrev c1G (a:Int) (b:SS) (c:Msg):Ob:=(o_ 0 2 (c5k a b c))
@[simp] abbrev c1F (a:Int) (b:SS) (c:Msg):Ob:=(o_ ((hdD a b.d c b.now).s.ga) 2 (mK (l5 (hdD a b.d c b.now).s.al)))
@[simp] abbrev c5j (a:Int) (b:SS) (c:Msg):=[[(iI a),(iI (hdD a b.d c b.now).s.st.t),(iI (hdD a b.d c b.now).s.st.node),(iI (hdD a b.d c b.now).s.st.n),(oO 0 0 0 0),(oO 2 0 0 0),(oO 3 0 0 0)]]
@[simp] abbrev c1E (a:Int) (b:SS) (c:Msg):Ob:=(o_ 0 7 (c5j a b c))
@[simp] abbrev c1D (a:Int) (b:Int) (e:SS) (f:Msg):Ob:=(o_ 0 3 [[(AV.osl 7 0 1 0 1),(AV.osl 8 0 1 0 1),(iI (qA a (hdD b e.d f e.now).c e.ql e.qg e.lost).2.2)]])
@[simp] abbrev c1C (a:Int) (b:Int) (e:SS) (f:Msg):Ob:=(o_ 0 1 [[(AV.osl 9 (qA a (hdD b e.d f e.now).c e.ql e.qg e.lost).2.1 9 0 (List.length (qA a (hdD b e.d f e.now).c e.ql e.qg e.lost).1))]])
@[simp] abbrev c1B (a:Int) (b:Int) (e:SS) (f:Msg):Ob:=(o_ ((qA a (hdD b e.d f e.now).c e.ql e.qg e.lost).2.1) 9 (mC (qA a (hdD b e.d f e.now).c e.ql e.qg e.lost).1))
@[simp] abbrev d1L (a:Int) (b:SS) (c:Msg) (d:Int):Heap:=[c7x a b c,c1I a b c,c1H a b c,c1G a b c,c1F a b c,c1E a b c,c1D d a b c,(o_ 0 1 (List.map A9 [d])),c1C d a b c,c1B d a b c,(o_ 1 1 []),rD b d]
@[simp] abbrev d1K (a:Int) (b:SS) (c:Msg) (e:Int):Heap:=[c7x a b c,c1I a b c,c1H a b c,c1G a b c,c1F a b c,c1E a b c,c1D e a b c,(o_ 0 1 (List.map A9 [e])),c1C e a b c,c1B e a b c,(o_ 1 1 []),rD b e,(o_ 0 13 [(Msg.row (hdD a b.d c b.now).m)])]
@[simp] abbrev d4p (a b:Int) (c:SS) (e:Msg):=(AV.sl .clip 14 [[(iI a),(iI (hdD b c.d e c.now).m.kind),(iI (hdD b c.d e c.now).m.op),(iI (hdD b c.d e c.now).m.status),(iI (hdD b c.d e c.now).m.code),(iI (hdD b c.d e c.now).m.tag),(iI (hdD b c.d e c.now).m.n),(iI (hdD b c.d e c.now).m.seq),(AV.str (hdD b c.d e c.now).m.key.app),(AV.str (hdD b c.d e c.now).m.key.id),(bB (hdD b c.d e c.now).m.full),(AV.int .u32 (hdD b c.d e c.now).m.sum),(sA 9 (mC (hdD b c.d e c.now).m.cards)),(sA 2 (mK (hdD b c.d e c.now).m.keys))]])
theorem a2U (nd p:Int) (s:SS) (f:Int) (q:Msg) (hr:R4 q=true) (hk:q.kind=1) (hl:s.d.l.length < 1000) (ha:s.d.al.length < 100000) (hgt:0<=s.d.gt/\s.d.gt < 4611686018427387904) (hq:s.ql.length<=16) (hc:(hdD nd s.d q s.now).c.length < 100):AC 10 [(oO 11 0 0 0),(iI f),(AV.agg (Msg.row q))] (Q8 s nd p) ((AV.sl .clip 14 (List.map O6.row [O6.mk f (hdD nd s.d q s.now).m])),(d1L nd s q p)) :=
 r9 (fn:=Tryz.f10) (ann:=b8p) (Has.o Tryz.func10) (.r (.s (.c 1 ((bX q oa).lift kr kr (Q8 s nd p)) (.rn (.s (.y 0 (bB (q.kind == 1)) bT (Yes.b bC) (.ru (.ch 9 [(o_ 0 2 (c5m nd s q)),(o_ ((hdD nd s.d q s.now).s.g) 10 (mE (hdD nd s.d q s.now).s.l)),(o_ 0 3 (c5l nd s q)),(o_ 0 2 (c5k nd s q)),(o_ ((hdD nd s.d q s.now).s.ga) 2 (mK (l5 (hdD nd s.d q s.now).s.al))),(o_ 0 7 (c5j nd s q)),(o_ 0 3 (a4F s)),(o_ 0 1 (List.map A9 [p])),(o_ 0 1 (a4E s)),(o_ s.qg 9 (mC s.ql)),(o_ 1 1 []),(o_ 0 6 (a4D s p)),(o_ 0 13 [[z_,z_,z_,z_,z_,z_,z_,e_,e_,bF,(AV.int .u32 0),(AV.sl .nil 0 []),(AV.sl .nil 0 [])]])] (d3x s.d.l s.d.g s.d.al s.d.ga s.d.gf s.d.gl s.d.gt nd s.d.st q s.now (hl) (ha) (hgt) [(o_ 0 3 (a4F s)),(o_ 0 1 (List.map A9 [p])),(o_ 0 1 (a4E s)),(o_ s.qg 9 (mC s.ql)),(o_ 1 1 []),(o_ 0 6 (a4D s p)),(o_ 0 13 [[z_,z_,z_,z_,z_,z_,z_,e_,e_,bF,(AV.int .u32 0),(AV.sl .nil 0 []),(AV.sl .nil 0 [])]])]) (.s (.ch 5 (d1K nd s q p) (l6.pre (args:=[(oO 6 0 0 0),(sA 9 (mC (hdD nd s.d q s.now).c))]) (args':=[(oO 6 0 0 0),(sA 9 (mC (hdD nd s.d q s.now).c))]) (l6.put2 [6,7,8,9] [(o_ 0 2 (c5m nd s q)),(o_ ((hdD nd s.d q s.now).s.g) 10 (mE (hdD nd s.d q s.now).s.l)),(o_ 0 3 (c5l nd s q)),(o_ 0 2 (c5k nd s q)),(o_ ((hdD nd s.d q s.now).s.ga) 2 (mK (l5 (hdD nd s.d q s.now).s.al))),(o_ 0 7 (c5j nd s q)),(o_ 0 3 (a4F s)),(o_ 0 1 (List.map A9 [p])),(o_ 0 1 (a4E s)),(o_ s.qg 9 (mC s.ql)),(o_ 1 1 []),(o_ 0 6 (a4D s p)),(o_ 0 13 [(Msg.row (hdD nd s.d q s.now).m)])] (AV.tup []) (d1K nd s q p) (xQ (hdD nd s.d q s.now).c p s.lost s.qg s.ql (hq) (hc)) (rlC) (rlC)) ⟨AV.j4 _,⟨rfl,rfl,.inl rfl⟩,trivial⟩) (.s (.g (.h' (d1L nd s q p) (.q 12 (d4p f nd s q)))))))))))))))
attribute [local irreducible] M0 iJ iK
def b2Y:Ann:={ refs:=[5],base:=12,fin:=some 12 }
@[simp] abbrev c6f (a:SS) (b:Msg) (c:Int) (e:Int):Heap:=[(o_ 0 2 [[(iI (q9 32)),(AV.osl 1 (iJ a.now b.cards a.d.l a.d.g a.d.al a.d.ga) 10 0 (List.length (M0 a.now b.cards a.d.l a.d.al).1))]]),(o_ (iJ a.now b.cards a.d.l a.d.g a.d.al a.d.ga) 10 (mE (M0 a.now b.cards a.d.l a.d.al).1)),rG a,(o_ 0 2 [[(iN ((List.length (M0 a.now b.cards a.d.l a.d.al).2.1))),(AV.osl 4 (iK a.now b.cards a.d.l a.d.g a.d.al a.d.ga) 2 0 (List.length (l5 (M0 a.now b.cards a.d.l a.d.al).2.1)))]]),(o_ (iK a.now b.cards a.d.l a.d.g a.d.al a.d.ga) 2 (mK (l5 (M0 a.now b.cards a.d.l a.d.al).2.1))),yS c a,rF a,(o_ 0 1 (List.map A9 [e])),rE a,(o_ a.qg 9 (mC a.ql)),(o_ 1 1 []),rD a e]
theorem b0g (nd p:Int) (s:SS) (f:Int) (q:Msg) (hr:R4 q=true) (hk:q.kind=3) (hl:s.d.l.length+q.cards.length < 1000) (ha:s.d.al.length+q.cards.length < 100000):AC 10 [(oO 11 0 0 0),(iI f),(AV.agg (Msg.row q))] (Q8 s nd p) ((AV.sl .nil 0 []),(c6f s q nd p)) :=
 r9 (fn:=Tryz.f10) (ann:=b2Y) (Has.o Tryz.func10) (.r (.s (.c 1 ((bX q oa).lift kr kr (Q8 s nd p)) (.rn (.s (.y 0 (bB (q.kind == 1)) bF (Yes.b bC) (.rn (.y 0 (bB (q.kind == 3)) bT (Yes.b bC) (.ru (.ch 10 (c6f s q nd p) (l6.put2 [0,1,2,3,4,5] (Q8 s nd p) (AV.tup [(sA 9 (mC (M0 s.now q.cards s.d.l s.d.al).2.2.1)),(iN ((M0 s.now q.cards s.d.l s.d.al).2.2.2))]) (c6f s q nd p) (b9y q.cards s.now s.d.l s.d.g s.d.al s.d.ga s.d.gf s.d.gl s.d.gt nd s.d.st.t s.d.st.node s.d.st.n (hl) (ha)) (rlA) (rlA)) (.g (.qr 12 (AV.sl .nil 0 [])))))))))))))
def c9W:Ann:={ own:=[35],gha:=[(2,.vir 9 14),(5,.frz 6)],base:=12,fin:=some 12 }
@[simp] abbrev d1J (a:SS) (b:Int) (c:Int) (e:Int) (f:l9C):Heap:=[yT a,(o_ a.d.g 10 (mE a.d.l)),rG a,uS a,uR a,yS b a,rF a,(o_ 0 1 (List.map A9 [c])),rE a,(o_ a.qg 9 (mC a.ql)),(o_ 1 1 []),rD a c,(o_ 1 14 (List.map z8.row ([]++(I5 e (X0 (a.d.l.map (·.card)) f)))))]
theorem a8N (nd p:Int) (s:SS) (f:Int) (ds:l9C) (hl:s.d.l.length < 1000) (hd:ds.length < 1000) (hw:(W9 (List.map Entry.card s.d.l) ds).length=0):AC 34 [(oO 11 0 0 0),(iI f),(sA 9 (mC ds))] (Q8 s nd p) ((sA 14 (List.map z8.row ([]++(I5 f (X0 (List.map Entry.card s.d.l) ds))))),(Q8 s nd p)):=by
 have hpl:=dJ f (X0 (List.map Entry.card s.d.l) ds)
 have hpl2:=dJ f (X0 (s.d.l.map (·.card)) ds)
 exact r9 (fn:=Tryz.f34) (ann:=c9W) (Has.o Tryz.func34) (.r (.s (.c 4 (l6.put2 [0,1,2,3,4,5] (Q8 s nd p) (oO 0 0 0 0) (Q8 s nd p) (Y2 s.d.l s.d.g s.d.al s.d.ga s.d.gf s.d.gl s.d.gt nd s.d.st.t s.d.st.node s.d.st.n ) (rlA) (rlA)) (.c 5 (fB (q9 32) s.d.l s.d.g (List.length s.d.l) oa oa (b6p s nd p)) (.c 7 ((yK (s.d.l.map (·.card)) ds oa oa).lift kr kr (Q8 s nd p)) (.s (.s (.h' (c6g s nd p) (.y 1 (.int .i64 ((List.length (mK (W9 (s.d.l.map (·.card)) ds)):Nat):Int)) (iN ((W9 (s.d.l.map (·.card)) ds).length)) (Yes.len _ _ _) (.y 2 (bB (decide ((((W9 (s.d.l.map (·.card)) ds).length:Nat):Int) > 0))) bF (Yes.b (by simp [hw])) (.rn (.c 3 ((jT f (X0 (s.d.l.map (·.card)) ds)).lift kr kr (c6g s nd p)) (.ao 4 36 (AV.osl 12 0 14 0 0) (sA 14 (List.map z8.row (I5 f (X0 (s.d.l.map (·.card)) ds)))) (AV.osl 12 1 14 0 (0+(I5 f (X0 (s.d.l.map (·.card)) ds)).length)) (d1J s nd p f ds) (K4 (T:=tt) (e:=56) (te:=zR) (z:=1) (b:=24) (y:=[.sl .nil 0 []]) (row:=z8.row) (l:=[]) kr kr rfl E5 E5 kr bH om rfl rfl zN) (.w' 6 (List.map z8.row ([]++(I5 f (X0 (s.d.l.map (·.card)) ds)))) (And.intro (G8 (room:=none) kr om) (z8.y8 _ _):G6 (d1J s nd p f ds) 14 (AV.osl 12 1 14 0 (0+(I5 f (X0 (s.d.l.map (·.card)) ds)).length))=some (List.map z8.row ([]++(I5 f (X0 (s.d.l.map (·.card)) ds))))/\AV.D7 0 (List.map z8.row ([]++(I5 f (X0 (s.d.l.map (·.card)) ds))))=true) (.g (.h' (Q8 s nd p) (.q 12 (sA 14 (List.map z8.row ([]++(I5 f (X0 (s.d.l.map (·.card)) ds))))))))))))))))))))))
def c2Q:Ann:={ base:=12,fin:=some 12 }
theorem a5g (nd p:Int) (s:SS) :AC 13 [(oO 11 0 0 0)] (Q8 s nd p) ((iI s.now),(Q8 s nd p)) :=
 r9 (fn:=Tryz.f13) (ann:=c2Q) (Has.o Tryz.func13) (.r (.g (.qr 12 (iI s.now))))
def b8a:Ann:={ base:=12,fin:=some 12 }
theorem fC (nd p:Int) (s:SS) :AC 16 [(oO 11 0 0 0)] (Q8 s nd p) ((oO 5 0 0 0),(Q8 s nd p)) :=
 r9 (fn:=Tryz.f16) (ann:=b8a) (Has.o Tryz.func16) (.r (.g (.qr 12 (oO 5 0 0 0))))
end Go.Proofs.YtmghjcbabebanaaGreat.AM
namespace Go.Proofs.YtmghjcbabebanaaGreat.AM
open Go
theorem l6.xS {P:Program} {f:FuncId} {args:List AV} {k:Nat} {xs ys:List (List AV)} {H H':Heap} (h:l6 P f args H (.sl .any k xs,H')) (hl:xs.length=ys.length) (hw:∀ i,i < xs.length->AV.wks (xs.getD i []) (ys.getD i [])):l6 P f args H (.sl .any k ys,H'):=by
 intro G w C vs hsz hargs hH
 have h0:=h G w C vs hsz hargs hH
 refine h0.mono fun v w' ⟨G',C',he,hh,hv,hp⟩=>⟨G',C',he,hh,hv.rows hl hw,hp⟩
open Go.Proofs.YtmghjcbabebanaaGreat
attribute [local irreducible] E8 F5 I5 J6 M0 R4 W9 X0 a0r aT bE dU hdD iJ iK j3 j6 l6 l9 nP qA stC stP stW
def b3o (ks:List Key):Msg:=⟨5,0,0,0,0,0,0,⟨⟨#[]⟩,⟨#[]⟩⟩,false,0,[],ks⟩
def b3n (cs:List j5):Msg:=⟨3,0,0,0,0,0,0,⟨⟨#[]⟩,⟨#[]⟩⟩,false,0,cs,[]⟩
def a3u (f:Int) (wk:List Key) (tk:List j5):List O6:=(if wk.length=0 then [] else [⟨f,b3o wk⟩])++(if tk.length=0 then [] else [⟨f,b3n tk⟩])
theorem a7r (f:Int) (tk:l9C):AV.wks (z8.row ⟨f,xR tk⟩) (O6.row ⟨f,b3n tk⟩):=by
 simp [z8.row,O6.row,xR,b3n,AV.wks,AV.wk,Tg.le]
theorem b3m (p:Int) (cs:l9C) (h:¬ cs.length=0):AC 35 [(iI p),(sA 9 (mC cs))] [] ((AV.sl .clip 14 [(z8.row (z8.mk p (xR cs)))]),[]):=a3a p cs h
theorem b3l (p:Int) (cs:l9C) (h:cs.length=0):AC 35 [(iI p),(sA 9 (mC cs))] [] ((AV.sl .nil 0 []),[]):=a2Z p cs h
def c5a:Ann:={ gha:=[(5,.frz 6)],base:=12,fin:=some 12 }
@[simp] abbrev d1I (a:SS) (b:Int) (c:Int) (e:Int) (f:l9C):Heap:=[yT a,(o_ a.d.g 10 (mE a.d.l)),rG a,uS a,uR a,yS b a,rF a,(o_ 0 1 (List.map A9 [c])),rE a,(o_ a.qg 9 (mC a.ql)),(o_ 1 1 []),rD a c,(o_ 0 14 [[(iI e),(iI 5),z_,z_,z_,z_,z_,z_,e_,e_,bF,(AV.int .u32 0),(AV.sl .nil 0 []),(sA 2 (mK (W9 (a.d.l.map (·.card)) f)))]])]
theorem c0J (nd p:Int) (s:SS) (f:Int) (ds:l9C) (hl:s.d.l.length < 1000) (hd:ds.length < 1000) (hw:¬ (W9 (List.map Entry.card s.d.l) ds).length=0) (ht:(X0 (List.map Entry.card s.d.l) ds).length=0):AC 34 [(oO 11 0 0 0),(iI f),(sA 9 (mC ds))] (Q8 s nd p) ((sA 14 [[(iI f),(iI 5),z_,z_,z_,z_,z_,z_,e_,e_,bF,(AV.int .u32 0),(AV.sl .nil 0 []),(sA 2 (mK (W9 (List.map Entry.card s.d.l) ds)))]]),(Q8 s nd p)) :=
 r9 (fn:=Tryz.f34) (ann:=c5a) (Has.o Tryz.func34) (.r (.s (.c 4 (l6.put2 [0,1,2,3,4,5] (Q8 s nd p) (oO 0 0 0 0) (Q8 s nd p) (Y2 s.d.l s.d.g s.d.al s.d.ga s.d.gf s.d.gl s.d.gt nd s.d.st.t s.d.st.node s.d.st.n ) (rlA) (rlA)) (.c 5 (fB (q9 32) s.d.l s.d.g (List.length s.d.l) oa oa (b6p s nd p)) (.c 7 ((yK (s.d.l.map (·.card)) ds oa oa).lift kr kr (Q8 s nd p)) (.s (.s (.y 1 (.int .i64 ((List.length (mK (W9 (s.d.l.map (·.card)) ds)):Nat):Int)) (iN ((W9 (s.d.l.map (·.card)) ds).length)) (Yes.len _ _ _) (.y 2 (bB (decide ((((W9 (s.d.l.map (·.card)) ds).length:Nat):Int) > 0))) bT (Yes.b (decide_eq_true (by have h0:=hw; change ¬ (W9 (s.d.l.map (·.card)) ds).length=0 at h0; omega))) (.ru (.s (.c 3 ((b3l f (X0 (s.d.l.map (·.card)) ds) oa).lift kr kr (d1I s nd p f ds)) (.q 12 (sA 14 [[(iI f),(iI 5),z_,z_,z_,z_,z_,z_,e_,e_,bF,(AV.int .u32 0),(AV.sl .nil 0 []),(sA 2 (mK (W9 (s.d.l.map (·.card)) ds)))]]))))))))))))))
def c4Z:Ann:={ gha:=[(5,.frz 6)],base:=12,fin:=some 12 }
theorem c0I (nd p:Int) (s:SS) (f:Int) (ds:l9C) (hl:s.d.l.length < 1000) (hd:ds.length < 1000) (hw:¬ (W9 (List.map Entry.card s.d.l) ds).length=0) (ht:¬ (X0 (List.map Entry.card s.d.l) ds).length=0):AC 34 [(oO 11 0 0 0),(iI f),(sA 9 (mC ds))] (Q8 s nd p) ((sA 14 [[(iI f),(iI 5),z_,z_,z_,z_,z_,z_,e_,e_,bF,(AV.int .u32 0),(AV.sl .nil 0 []),(sA 2 (mK (W9 (List.map Entry.card s.d.l) ds)))],(z8.row (z8.mk f (xR (X0 (List.map Entry.card s.d.l) ds))))]),(Q8 s nd p)) :=
 r9 (fn:=Tryz.f34) (ann:=c4Z) (Has.o Tryz.func34) (.r (.s (.c 4 (l6.put2 [0,1,2,3,4,5] (Q8 s nd p) (oO 0 0 0 0) (Q8 s nd p) (Y2 s.d.l s.d.g s.d.al s.d.ga s.d.gf s.d.gl s.d.gt nd s.d.st.t s.d.st.node s.d.st.n ) (rlA) (rlA)) (.c 5 (fB (q9 32) s.d.l s.d.g (List.length s.d.l) oa oa (b6p s nd p)) (.c 7 ((yK (s.d.l.map (·.card)) ds oa oa).lift kr kr (Q8 s nd p)) (.s (.s (.y 1 (.int .i64 ((List.length (mK (W9 (s.d.l.map (·.card)) ds)):Nat):Int)) (iN ((W9 (s.d.l.map (·.card)) ds).length)) (Yes.len _ _ _) (.y 2 (bB (decide ((((W9 (s.d.l.map (·.card)) ds).length:Nat):Int) > 0))) bT (Yes.b (decide_eq_true (by have h0:=hw; change ¬ (W9 (s.d.l.map (·.card)) ds).length=0 at h0; omega))) (.ru (.s (.c 3 ((b3m f (X0 (s.d.l.map (·.card)) ds) oa).lift kr kr (d1I s nd p f ds)) (.q 12 (sA 14 [[(iI f),(iI 5),z_,z_,z_,z_,z_,z_,e_,e_,bF,(AV.int .u32 0),(AV.sl .nil 0 []),(sA 2 (mK (W9 (s.d.l.map (·.card)) ds)))],(z8.row (z8.mk f (xR (X0 (s.d.l.map (·.card)) ds))))]))))))))))))))
theorem c4X (nd p:Int) (s:SS) (f:Int) (ds:l9C) (hl:s.d.l.length < 1000) (hd:ds.length < 1000):AC 34 [(oO 11 0 0 0),(iI f),(sA 9 (mC ds))] [(o_ 0 2 [[(iI (q9 32)),(AV.osl 1 s.d.g 10 0 (List.length s.d.l))]]),(o_ s.d.g 10 (mE s.d.l)),(o_ 0 3 [[(iI s.d.gf),(iI s.d.gl),(iI s.d.gt)]]),(o_ 0 2 [[(iN ((List.length s.d.al))),(AV.osl 4 s.d.ga 2 0 (List.length (l5 s.d.al)))]]),(o_ s.d.ga 2 (mK (l5 s.d.al))),(o_ 0 7 [[(iI nd),(iI s.d.st.t),(iI s.d.st.node),(iI s.d.st.n),(oO 0 0 0 0),(oO 2 0 0 0),(oO 3 0 0 0)]]),(o_ 0 3 [[(AV.osl 7 0 1 0 1),(AV.osl 8 0 1 0 1),(iI s.lost)]]),(o_ 0 1 (List.map A9 [p])),(o_ 0 1 [[(AV.osl 9 s.qg 9 0 (List.length s.ql))]]),(o_ s.qg 9 (mC s.ql)),(o_ 1 1 []),(o_ 0 6 [[(iI s.now),(iI s.swept),(sA 1 [[(iI p)]]),z_,(oO 5 0 0 0),(oO 6 0 0 0)]])] ((sA 14 (List.map O6.row (a3u f (W9 (List.map Entry.card s.d.l) ds) (X0 (List.map Entry.card s.d.l) ds)))),[(o_ 0 2 [[(iI (q9 32)),(AV.osl 1 s.d.g 10 0 (List.length s.d.l))]]),(o_ s.d.g 10 (mE s.d.l)),(o_ 0 3 [[(iI s.d.gf),(iI s.d.gl),(iI s.d.gt)]]),(o_ 0 2 [[(iN ((List.length s.d.al))),(AV.osl 4 s.d.ga 2 0 (List.length (l5 s.d.al)))]]),(o_ s.d.ga 2 (mK (l5 s.d.al))),(o_ 0 7 [[(iI nd),(iI s.d.st.t),(iI s.d.st.node),(iI s.d.st.n),(oO 0 0 0 0),(oO 2 0 0 0),(oO 3 0 0 0)]]),(o_ 0 3 [[(AV.osl 7 0 1 0 1),(AV.osl 8 0 1 0 1),(iI s.lost)]]),(o_ 0 1 (List.map A9 [p])),(o_ 0 1 [[(AV.osl 9 s.qg 9 0 (List.length s.ql))]]),(o_ s.qg 9 (mC s.ql)),(o_ 1 1 []),(o_ 0 6 [[(iI s.now),(iI s.swept),(sA 1 [[(iI p)]]),z_,(oO 5 0 0 0),(oO 6 0 0 0)]])]):=by
 unfold a3u
 by_cases hw:(W9 (List.map Entry.card s.d.l) ds).length=0
 · rw [if_pos hw]
   by_cases ht:(X0 (List.map Entry.card s.d.l) ds).length=0
   · rw [if_pos ht]
     have q:=a8N nd p s f ds hl hd hw
     unfold I5 at q
     rw [if_pos ht] at q
     exact q.xS rfl (fun i hi=>absurd hi ye_)
   · rw [if_neg ht]
     have q:=a8N nd p s f ds hl hd hw
     unfold I5 at q
     rw [if_neg ht] at q
     refine q.xS rfl fun i hi=>?_
     obtain rfl:i=0:=by simp at hi; omega
     exact a7r f _
 · rw [if_neg hw]
   by_cases ht:(X0 (List.map Entry.card s.d.l) ds).length=0
   · rw [if_pos ht]
     refine (c0J nd p s f ds hl hd hw ht).xS rfl fun i hi=>?_
     obtain rfl:i=0:=by simp at hi; omega
     simp [O6.row,b3o,AV.wks,AV.wk,Tg.le]
   · rw [if_neg ht]
     refine (c0I nd p s f ds hl hd hw ht).xS rfl fun i hi=>?_
     have hi:i < 2:=by simpa using hi
     match i,hi with
     | 0,_=>simp [O6.row,b3o,AV.wks,AV.wk,Tg.le]
     | 1,_=>exact a7r f _
theorem d0u (nd p:Int) (s:SS) (f:Int) (ds:l9C) (hl:s.d.l.length < 1000) (hd:ds.length < 1000) (H:Heap):AC 34 [(oO 11 0 0 0),(iI f),(sA 9 (mC ds))] ((Q8 s nd p)++H) ((sA 14 (List.map O6.row (a3u f (W9 (List.map Entry.card s.d.l) ds) (X0 (List.map Entry.card s.d.l) ds)))),(Q8 s nd p)++H):=(c4X nd p s f ds hl hd).ext kr kr ob ob kr H
def b8n:Ann:={ refs:=[5],base:=12,fin:=some 12 }
@[simp] abbrev d0O (a:Int) (b:SS) (c:Msg):=(sA 14 (List.map O6.row (a3u a (W9 (List.map Entry.card b.d.l) c.cards) (X0 (List.map Entry.card b.d.l) c.cards))))
theorem b3a (nd p:Int) (s:SS) (f:Int) (q:Msg) (hr:R4 q=true) (hk:q.kind=4) (hl:s.d.l.length < 1000) (hd:q.cards.length < 1000):AC 10 [(oO 11 0 0 0),(iI f),(AV.agg (Msg.row q))] (Q8 s nd p) ((d0O f s q),(Q8 s nd p)) :=
 r9 (fn:=Tryz.f10) (ann:=b8n) (Has.o Tryz.func10) (.r (.s (.c 1 ((bX q oa).lift kr kr (Q8 s nd p)) (.rn (.s (.y 0 (bB (q.kind == 1)) bF (Yes.b bC) (.rn (.y 0 (bB (q.kind == 3)) bF (Yes.b bC) (.rn (.y 0 (bB (q.kind == 4)) bT (Yes.b bC) (.ru (.c 4 (d0u nd p s f q.cards oa oa []) (.q 12 (d0O f s q))))))))))))))
def w9 (nd p:Int) (s:SS) (q:Msg):SS :=
 if R4 q=true then
  if q.kind=1 then ⟨(hdD nd s.d q s.now).s,(qA p (hdD nd s.d q s.now).c s.ql s.qg s.lost).1,(qA p (hdD nd s.d q s.now).c s.ql s.qg s.lost).2.1,(qA p (hdD nd s.d q s.now).c s.ql s.qg s.lost).2.2,s.now,s.swept⟩
  else if q.kind=3 then ⟨⟨(M0 s.now q.cards s.d.l s.d.al).1,iJ s.now q.cards s.d.l s.d.g s.d.al s.d.ga,(M0 s.now q.cards s.d.l s.d.al).2.1,iK s.now q.cards s.d.l s.d.g s.d.al s.d.ga,s.d.gf,s.d.gl,s.d.gt,s.d.st⟩,s.ql,s.qg,s.lost,s.now,s.swept⟩
  else s
 else s
structure b7i (s:SS):Prop where
 l:s.d.l.length<=32
 al:s.d.al.length < 90000
 g0:0<=s.d.gt
 g1:s.d.gt<=1048576
 q:s.ql.length<=16
theorem b8O {q:Msg} (h:R4 q=true):1<=q.kind/\q.kind<=5/\q.cards.length<=64/\q.keys.length<=64:=by
 with_unfolding_all obtain ⟨⟨a1,a2⟩,a3,a4,a5,a6,a7,a8,a9,a10,a11⟩:=a1S h
 exact ⟨by omega,by omega,by omega,by omega⟩
theorem b9M (nd:Int) (s:DS) (q:Msg) (now:Int) (hs:aR s.l) (hl:s.l.length<=32) (h0:0<=s.gt) (h1:s.gt<=1048576):(hdD nd s q now).c.length<=1:=by
 rcases d0p (n:=s.al.length) ⟨hs,hl,Nat.le_refl _,h0,h1⟩ nd q now with ⟨h,_⟩ | ⟨c,h,_⟩ <;> rw [h] <;> simp
theorem a5o (nd p:Int) (s:SS) (f:Int) (q:Msg) (h:b7i s) (hs:aR s.d.l):AC 10 [(oO 11 0 0 0),(iI f),(AV.agg (Msg.row q))] [(o_ 0 2 [[(iI (q9 32)),(AV.osl 1 s.d.g 10 0 (List.length s.d.l))]]),(o_ s.d.g 10 (mE s.d.l)),(o_ 0 3 [[(iI s.d.gf),(iI s.d.gl),(iI s.d.gt)]]),(o_ 0 2 [[(iN ((List.length s.d.al))),(AV.osl 4 s.d.ga 2 0 (List.length (l5 s.d.al)))]]),(o_ s.d.ga 2 (mK (l5 s.d.al))),(o_ 0 7 [[(iI nd),(iI s.d.st.t),(iI s.d.st.node),(iI s.d.st.n),(oO 0 0 0 0),(oO 2 0 0 0),(oO 3 0 0 0)]]),(o_ 0 3 [[(AV.osl 7 0 1 0 1),(AV.osl 8 0 1 0 1),(iI s.lost)]]),(o_ 0 1 (List.map A9 [p])),(o_ 0 1 [[(AV.osl 9 s.qg 9 0 (List.length s.ql))]]),(o_ s.qg 9 (mC s.ql)),(o_ 1 1 []),(o_ 0 6 [[(iI s.now),(iI s.swept),(sA 1 [[(iI p)]]),z_,(oO 5 0 0 0),(oO 6 0 0 0)]])] (AV.unk,[(o_ 0 2 [[(iI (q9 32)),(AV.osl 1 (w9 nd p s q).d.g 10 0 (List.length (w9 nd p s q).d.l))]]),(o_ ((w9 nd p s q).d.g) 10 (mE (w9 nd p s q).d.l)),(o_ 0 3 [[(iI (w9 nd p s q).d.gf),(iI (w9 nd p s q).d.gl),(iI (w9 nd p s q).d.gt)]]),(o_ 0 2 [[(iN ((List.length (w9 nd p s q).d.al))),(AV.osl 4 (w9 nd p s q).d.ga 2 0 (List.length (l5 (w9 nd p s q).d.al)))]]),(o_ ((w9 nd p s q).d.ga) 2 (mK (l5 (w9 nd p s q).d.al))),(o_ 0 7 [[(iI nd),(iI (w9 nd p s q).d.st.t),(iI (w9 nd p s q).d.st.node),(iI (w9 nd p s q).d.st.n),(oO 0 0 0 0),(oO 2 0 0 0),(oO 3 0 0 0)]]),(o_ 0 3 [[(AV.osl 7 0 1 0 1),(AV.osl 8 0 1 0 1),(iI (w9 nd p s q).lost)]]),(o_ 0 1 (List.map A9 [p])),(o_ 0 1 [[(AV.osl 9 (w9 nd p s q).qg 9 0 (List.length (w9 nd p s q).ql))]]),(o_ ((w9 nd p s q).qg) 9 (mC (w9 nd p s q).ql)),(o_ 1 1 []),(o_ 0 6 [[(iI (w9 nd p s q).now),(iI (w9 nd p s q).swept),(sA 1 [[(iI p)]]),z_,(oO 5 0 0 0),(oO 6 0 0 0)]])]):=by
 obtain ⟨h1,h2,h3,h4,h5⟩:=h
 unfold w9
 cases hr:R4 q with
 | false=>exact (b3b nd p s f q hr).post trivial
 | true =>
  obtain ⟨b1,b2,b3,b4⟩:=b8O hr
  rw [if_pos rfl]
  by_cases k1:q.kind=1
  · rw [if_pos k1]
    have hc:=b9M nd s.d q s.now hs h1 h3 h4
    exact (a2U nd p s f q hr k1 ow ow ⟨h3,by omega⟩ h5 ow).post trivial
  rw [if_neg k1]
  by_cases k3:q.kind=3
  · rw [if_pos k3]
    exact (b0g nd p s f q hr k3 ow ow).post trivial
  rw [if_neg k3]
  by_cases k2:q.kind=2
  · exact (b3c nd p s f q hr k2).post trivial
  by_cases k4:q.kind=4
  · exact (b3a nd p s f q hr k4 ow ow).post trivial
  · exact (b0h nd p s f q hr ow ow ow).post trivial
theorem c9m (nd p:Int) (s:SS) (f:Int) (q:Msg) (h:b7i s) (hs:aR s.d.l) (H:Heap):AC 10 [(oO 11 0 0 0),(iI f),(AV.agg (Msg.row q))] ((Q8 s nd p)++H) (AV.unk,([(o_ 0 2 [[(iI (q9 32)),(AV.osl 1 (w9 nd p s q).d.g 10 0 (List.length (w9 nd p s q).d.l))]]),(o_ ((w9 nd p s q).d.g) 10 (mE (w9 nd p s q).d.l)),(o_ 0 3 [[(iI (w9 nd p s q).d.gf),(iI (w9 nd p s q).d.gl),(iI (w9 nd p s q).d.gt)]]),(o_ 0 2 [[(iN ((List.length (w9 nd p s q).d.al))),(AV.osl 4 (w9 nd p s q).d.ga 2 0 (List.length (l5 (w9 nd p s q).d.al)))]]),(o_ ((w9 nd p s q).d.ga) 2 (mK (l5 (w9 nd p s q).d.al))),(o_ 0 7 [[(iI nd),(iI (w9 nd p s q).d.st.t),(iI (w9 nd p s q).d.st.node),(iI (w9 nd p s q).d.st.n),(oO 0 0 0 0),(oO 2 0 0 0),(oO 3 0 0 0)]]),(o_ 0 3 [[(AV.osl 7 0 1 0 1),(AV.osl 8 0 1 0 1),(iI (w9 nd p s q).lost)]]),(o_ 0 1 (List.map A9 [p])),(o_ 0 1 [[(AV.osl 9 (w9 nd p s q).qg 9 0 (List.length (w9 nd p s q).ql))]]),(o_ ((w9 nd p s q).qg) 9 (mC (w9 nd p s q).ql)),(o_ 1 1 []),(o_ 0 6 [[(iI (w9 nd p s q).now),(iI (w9 nd p s q).swept),(sA 1 [[(iI p)]]),z_,(oO 5 0 0 0),(oO 6 0 0 0)]])]:Heap)++H):=(a5o nd p s f q h hs).ext kr kr ob ob kr H
attribute [local irreducible] Tp.H7 Tp.J8 Tp.ask Tp.card Tp.cards Tp.key Tp.keyT Tp.next Tp.step
def Tp.dL:Nat->Tp->List Key
 | 0,_=>[]
 | n+1,t=>t.key :: dL n t.keyT
def Tp.qO:Nat->Tp->Tp
 | 0,t=>t
 | n+1,t=>qO n t.keyT
theorem Tp.uK (n:Nat):∀ (t:Tp),(Tp.dL n t).length=n:=by
 induction n with
 | zero=>intro t; rfl
 | succ n ih=>intro t; simp only [Tp.dL,List.length_cons]; rw [ih]
def rW:Ann:={ gh:=[(18,.frzf 3 11 9),(18,.frzf 3 12 2)],gha:=[(14,.virf 3 12 2)],base:=1,fin:=some 1,live:=[(15,[0,2,3,4])],out:=[(15,[0,2,3,4])] }
@[simp] abbrev d1E (a:Tp) (b:Nat) (c:Nat) (d:Nat) (e:l9K):Heap:=[(o_ 0 2 [(Tp.row a.keyT)]),I7,(o_ 0 13 [[(iN b),z_,z_,z_,z_,z_,z_,e_,e_,bF,(AV.int .u32 0),(AV.sl .nil 0 []),(AV.osl 3 (c+1) 2 0 (d+1))]]),(o_ (c+1) 2 (mK (e++[a.key])))]
@[simp] abbrev d1D (a:Nat):Fr:=(mkF 76 [(0,(oO 0 0 0 0)),(2,(oO 1 0 0 0)),(3,(oO 2 0 0 0)),(4,(iN a))])
@[simp] abbrev c7i (a:Nat) (b:Nat) (c:Nat):Ob:=(o_ 0 13 [[(iN a),z_,z_,z_,z_,z_,z_,e_,e_,bF,(AV.int .u32 0),(AV.sl .nil 0 []),(AV.osl 3 b 2 0 c)]])
@[simp] abbrev d1C (a:Tp) (b:Nat) (c:Nat) (d:Nat) (e:l9K):Heap:=[(o_ 0 2 [(Tp.row a)]),I7,c7i b c d,(o_ c 2 (mK e))]
@[simp] abbrev d1B (a:Tp) (b:Nat) (c:Nat) (d:Nat) (e:l9K):Heap:=[(o_ 0 2 [(Tp.row a.keyT)]),I7,c7i b c d,(o_ c 2 (mK e))]
theorem a5d (kd:Nat) (t:Tp) (out:l9K) (k g n:Nat) (hl:t.l.length < 9223372036854775808) (hk:k=out.length) (hkb:k < 1000) (hn:n < 1000) {eX:Ex} {FX:Fr} {HX:Heap} (k1:(decide ((n:Int) > 0))=true->j6 (l9 Tryz.prog (X rW) (x9 Tryz.f29 0)) (some [0,2,3,4]) (some [0,2,3,4]) (mkF 76 [(0,(oO 0 0 0 0)),(2,(oO 1 0 0 0)),(3,(oO 2 0 0 0)),(4,(iN (n - 1)))]) (d1E t kd g k out) eX FX HX) (k2:(decide ((n:Int) > 0))=false->((.exit 1:Ex),(d1D n),(d1C t kd g k out))=(eX,FX,HX)):j6 (l9 Tryz.prog (X rW) (x9 Tryz.f29 0)) (some [0,2,3,4]) (some [0,2,3,4]) (d1D n) (d1C t kd g k out) eX FX HX :=
 I9 (.r (.g (.two (decide ((n:Int) > 0)) (fun h1 h1'=>(.r (.ch 3 (d1B t kd g k out) (a0k t oa [(o_ 0 13 [[z_,z_,z_,z_,z_,z_,z_,e_,e_,bF,(AV.int .u32 0),(AV.sl .nil 0 []),(AV.sl .nil 0 [])]]),(o_ 0 13 [[(iN kd),z_,z_,z_,z_,z_,z_,e_,e_,bF,(AV.int .u32 0),(AV.sl .nil 0 []),(AV.osl 3 g 2 0 k)]]),(o_ g 2 (mK out))]) (.ap 5 31 (AV.osl 3 g 2 0 k) (AV.sl .clip 2 [(Key.row t.key)]) (AV.osl 3 (g+1) 2 0 (k+1)) [(o_ 0 2 [(Tp.row t.keyT)]),(o_ 0 13 [[z_,z_,z_,z_,z_,z_,z_,e_,e_,bF,(AV.int .u32 0),(AV.sl .nil 0 []),(AV.sl .nil 0 [])]]),(o_ 0 13 [[(iN kd),z_,z_,z_,z_,z_,z_,e_,e_,bF,(AV.int .u32 0),(AV.sl .nil 0 []),(AV.osl 3 g 2 0 k)]]),(o_ (g+1) 2 (mK (out++[t.key])))] (G7 (row:=Key.row) (l:=out) (x:=t.key) (T:=tt) (e:=28) (te:=a4g) (z:=1) (b:=24) (y:=[.sl .nil 0 []]) kr kr rfl E5 E5 kr Y5 rfl rfl b1U) (.rd (AV.osl 3 g 2 0 k) (d1B t kd g k out) (.s (.h' (d1E t kd g k out) (.y 1 (.int .i64 (cj_ n)) (iN (n - 1)) Yes.o (.g (.l (k1 h1))))))))))) (fun h1 h1'=>(.l (k2 h1))))))
theorem b7s (kd:Nat) (n:Nat):∀ (t:Tp) (out:l9K) (k g:Nat),t.l.length < 9223372036854775808->k=out.length->k+n < 1000 ->
 j6 (l9 Tryz.prog (X rW) (x9 Tryz.f29 0)) (some [0,2,3,4]) (some [0,2,3,4]) (mkF 76 [(0,(oO 0 0 0 0)),(2,(oO 1 0 0 0)),(3,(oO 2 0 0 0)),(4,(iN n))]) [(o_ 0 2 [(Tp.row t)]),(o_ 0 13 [[z_,z_,z_,z_,z_,z_,z_,e_,e_,bF,(AV.int .u32 0),(AV.sl .nil 0 []),(AV.sl .nil 0 [])]]),(o_ 0 13 [[(iN kd),z_,z_,z_,z_,z_,z_,e_,e_,bF,(AV.int .u32 0),(AV.sl .nil 0 []),(AV.osl 3 g 2 0 k)]]),(o_ g 2 (mK out))] (.exit 1) (mkF 76 [(0,(oO 0 0 0 0)),(2,(oO 1 0 0 0)),(3,(oO 2 0 0 0)),(4,(iN 0))]) [(o_ 0 2 [(Tp.row (Tp.qO n t))]),(o_ 0 13 [[z_,z_,z_,z_,z_,z_,z_,e_,e_,bF,(AV.int .u32 0),(AV.sl .nil 0 []),(AV.sl .nil 0 [])]]),(o_ 0 13 [[(iN kd),z_,z_,z_,z_,z_,z_,e_,e_,bF,(AV.int .u32 0),(AV.sl .nil 0 []),(AV.osl 3 (g+n) 2 0 (k+n))]]),(o_ (g+n) 2 (mK (out++Tp.dL n t)))]:=by
 induction n with
 | zero =>
  intro t out k g hl hk hb
  refine a5d kd t out k g 0 hl hk ow ow (fun h=>by simp at h) fun _=>?_
  simp [Tp.dL,Tp.qO]
 | succ n ih =>
  intro t out k g hl hk hb
  refine a5d kd t out k g (n+1) hl hk ow ow (fun _=>?_) fun h=>by simp at h <;> omega
  have q:=ih t.keyT (out++[t.key]) (k+1) (g+1) (by rw [Tp.kJ]; exact hl) rV ow
  rw [show k+1+n=k+(n+1) by omega,show g+1+n=g+(n+1) by omega,List.append_assoc] at q
  exact q
theorem a2v (kd n:Nat) (t:Tp) (hl:t.l.length < 9223372036854775808) (hn:n < 1000) :
 j6 (l9 Tryz.prog (X rW) (x9 Tryz.f29 0)) (some [0,2,3,4]) (some [0,2,3,4]) (mkF 76 [(0,(oO 0 0 0 0)),(2,(oO 1 0 0 0)),(3,(oO 2 0 0 0)),(4,(iN n))]) [(o_ 0 2 [(Tp.row t)]),(o_ 0 13 [[z_,z_,z_,z_,z_,z_,z_,e_,e_,bF,(AV.int .u32 0),(AV.sl .nil 0 []),(AV.sl .nil 0 [])]]),(o_ 0 13 [[(iN kd),z_,z_,z_,z_,z_,z_,e_,e_,bF,(AV.int .u32 0),(AV.sl .nil 0 []),(AV.osl 3 0 2 0 0)]]),(o_ 0 2 (mK ([]:l9K)))] (.exit 1) (mkF 76 [(0,(oO 0 0 0 0)),(2,(oO 1 0 0 0)),(3,(oO 2 0 0 0)),(4,(iN 0))]) [(o_ 0 2 [(Tp.row (Tp.qO n t))]),(o_ 0 13 [[z_,z_,z_,z_,z_,z_,z_,e_,e_,bF,(AV.int .u32 0),(AV.sl .nil 0 []),(AV.sl .nil 0 [])]]),(o_ 0 13 [[(iN kd),z_,z_,z_,z_,z_,z_,e_,e_,bF,(AV.int .u32 0),(AV.sl .nil 0 []),(AV.osl 3 n 2 0 n)]]),(o_ n 2 (mK (Tp.dL n t)))]:=by
 have q:=b7s kd n t [] 0 0 hl rfl ow
 simpa only [Nat.zero_add,List.nil_append] using q
def Tp.msgA (t:Tp):Msg × Tp :=
 let op:Nat:=1+((t.step 9).next 5)
 let t3:=(t.step 9).step 5
 (⟨0,(op:Nat),0,0,(t.next 9:Nat),0,0,if ((op:Int) != 5)=true then t3.key else ⟨⟨#[]⟩,⟨#[]⟩⟩,false,0,[],[]⟩,if ((op:Int) != 5)=true then t3.keyT else t3)
def d0t:List Int:=[0,1,22,24,255]
def Tp.msg2 (t:Tp):Msg × Tp :=
 if (((1+t.next 5:Nat):Int) == 1)=true then
  let a:=(t.step 5).msgA; let t5:=a.2.step 30
  ({ a.1 with kind:=(1+t.next 5:Nat),seq:=((a.2.next 30:Nat):Int) - 1,n:=(t5.next 70:Nat),status:=((t5.step 70).next 5:Nat) },(t5.step 70).step 5)
 else if (((1+t.next 5:Nat):Int) == 2)=true then
  let a:=(t.step 5).msgA; let t5:=a.2.step 30; let t8:=((t5.step 5).step 2).step 1073741824
  ({ a.1 with kind:=(1+t.next 5:Nat),seq:=((a.2.next 30:Nat):Int) - 1,code:=nth d0t (t5.next 5),full:=(((t5.step 5).next 2:Nat):Int) == 0,sum:=IntKind.u32.wrap (((t5.step 5).step 2).next 1073741824:Nat),cards:=(t8.step 6).cards (t8.next 6) },(t8.step 6).H7 (t8.next 6))
 else if (((1+t.next 5:Nat):Int) == 5)=true then
  (⟨(1+t.next 5:Nat),0,0,0,0,0,0,⟨⟨#[]⟩,⟨#[]⟩⟩,false,0,[],Tp.dL ((t.step 5).next 6) ((t.step 5).step 6)⟩,Tp.qO ((t.step 5).next 6) ((t.step 5).step 6))
 else (⟨(1+t.next 5:Nat),0,0,0,0,0,0,⟨⟨#[]⟩,⟨#[]⟩⟩,false,0,((t.step 5).step 7).cards ((t.step 5).next 7),[]⟩,((t.step 5).step 7).H7 ((t.step 5).next 7))
@[simp] abbrev gJ (a:Tp):Ob:=(o_ 0 13 [[(iN (1+(a.next 5))),z_,z_,z_,z_,z_,z_,e_,e_,bF,(AV.int .u32 0),(AV.sl .nil 0 []),(AV.sl .nil 0 [])]])
@[simp] abbrev tN (a:Tp):Heap:=[(o_ 0 2 [(Tp.row ((a.step 5).step 9))]),I7,gJ a]
@[simp] abbrev gY (a:Tp):Heap:=[I7,gJ a]
@[simp] abbrev tL (a:Tp):Heap:=[(o_ 0 2 [(Tp.row (((a.step 5).step 9).step 5))]),I7,gJ a]
@[simp] abbrev b5t (a:Tp):=(iN (1+(((a.step 5).step 9).next 5)))
@[simp] abbrev jB (a:Tp):Ob:=(o_ 0 13 [[(iN (1+(a.next 5))),(b5t a),z_,z_,(iN ((a.step 5).next 9)),z_,z_,e_,e_,bF,(AV.int .u32 0),(AV.sl .nil 0 []),(AV.sl .nil 0 [])]])
@[simp] abbrev tK (a:Tp):Heap:=[(o_ 0 2 [(Tp.row (((a.step 5).step 9).step 5).keyT)]),I7,jB a]
@[simp] abbrev nS (a:Tp):Heap:=[I7,jB a]
@[simp] abbrev kT (a:Tp):Ob:=(o_ 0 13 [[(iN (1+(a.next 5))),(b5t a),z_,z_,(iN ((a.step 5).next 9)),z_,z_,(AV.str (((a.step 5).step 9).step 5).key.app),(AV.str (((a.step 5).step 9).step 5).key.id),bF,(AV.int .u32 0),(AV.sl .nil 0 []),(AV.sl .nil 0 [])]])
@[simp] abbrev lZ (a:Tp):Heap:=[(o_ 0 2 [(Tp.row ((((a.step 5).step 9).step 5).keyT.step 30))]),I7,kT a]
@[simp] abbrev lY (a:Tp):Heap:=[I7,kT a]
@[simp] abbrev eF (a:Tp):Ob:=(o_ 0 13 [[(iN (1+(a.next 5))),(b5t a),z_,z_,(iN ((a.step 5).next 9)),z_,(iI ((((((a.step 5).step 9).step 5).keyT.next 30:Nat):Int) - 1)),(AV.str (((a.step 5).step 9).step 5).key.app),(AV.str (((a.step 5).step 9).step 5).key.id),bF,(AV.int .u32 0),(AV.sl .nil 0 []),(AV.sl .nil 0 [])]])
@[simp] abbrev lX (a:Tp):Heap:=[(o_ 0 2 [(Tp.row (((((a.step 5).step 9).step 5).keyT.step 30).step 70))]),I7,eF a]
@[simp] abbrev aP (a:Tp):Heap:=[I7,eF a]
@[simp] abbrev kS (a:Tp):Ob:=(o_ 0 2 [(Tp.row ((((((a.step 5).step 9).step 5).keyT.step 30).step 70).step 5))])
@[simp] abbrev lW (a:Tp):Heap:=[kS a,I7,eF a]
@[simp] abbrev lV (a:Tp):Heap:=[kS a]
@[simp] abbrev lU (a:Tp):Heap:=[(o_ 0 2 [(Tp.row (((((a.step 5).step 9).step 5).keyT.step 30).step 5))]),I7,eF a]
@[simp] abbrev lT (a:Tp):Heap:=[(o_ 0 2 [(Tp.row ((((((a.step 5).step 9).step 5).keyT.step 30).step 5).step 2))]),I7,eF a]
@[simp] abbrev lS (a:Tp):Heap:=[(o_ 0 2 [(Tp.row (((((((a.step 5).step 9).step 5).keyT.step 30).step 5).step 2).step 1073741824))]),I7,eF a]
@[simp] abbrev kR (a:Tp):Ob:=(o_ 0 2 [(Tp.row (((((((((a.step 5).step 9).step 5).keyT.step 30).step 5).step 2).step 1073741824).step (5+1)).H7 ((((((((a.step 5).step 9).step 5).keyT.step 30).step 5).step 2).step 1073741824).next (5+1))))])
@[simp] abbrev lQ (a:Tp):Heap:=[kR a,I7,eF a]
@[simp] abbrev lN (a:Tp):Heap:=[kR a]
@[simp] abbrev lM (a:Tp):Heap:=[(o_ 0 2 [(Tp.row ((((a.step 5).step 9).step 5).step 30))]),I7,jB a]
@[simp] abbrev eD (a:Tp):Ob:=(o_ 0 13 [[(iN (1+(a.next 5))),(b5t a),z_,z_,(iN ((a.step 5).next 9)),z_,(iI ((((((a.step 5).step 9).step 5).next 30:Nat):Int) - 1)),e_,e_,bF,(AV.int .u32 0),(AV.sl .nil 0 []),(AV.sl .nil 0 [])]])
@[simp] abbrev lK (a:Tp):Heap:=[(o_ 0 2 [(Tp.row (((((a.step 5).step 9).step 5).step 30).step 70))]),I7,eD a]
@[simp] abbrev aO (a:Tp):Heap:=[I7,eD a]
@[simp] abbrev gX (a:Tp):Ob:=(o_ 0 2 [(Tp.row ((((((a.step 5).step 9).step 5).step 30).step 70).step 5))])
@[simp] abbrev lJ (a:Tp):Heap:=[gX a,I7,eD a]
@[simp] abbrev lI (a:Tp):Heap:=[gX a]
@[simp] abbrev lH (a:Tp):Heap:=[(o_ 0 2 [(Tp.row (((((a.step 5).step 9).step 5).step 30).step 5))]),I7,eD a]
@[simp] abbrev lG (a:Tp):Heap:=[(o_ 0 2 [(Tp.row ((((((a.step 5).step 9).step 5).step 30).step 5).step 2))]),I7,eD a]
@[simp] abbrev lD (a:Tp):Heap:=[(o_ 0 2 [(Tp.row (((((((a.step 5).step 9).step 5).step 30).step 5).step 2).step 1073741824))]),I7,eD a]
@[simp] abbrev gW (a:Tp):Ob:=(o_ 0 2 [(Tp.row (((((((((a.step 5).step 9).step 5).step 30).step 5).step 2).step 1073741824).step (5+1)).H7 ((((((((a.step 5).step 9).step 5).step 30).step 5).step 2).step 1073741824).next (5+1))))])
@[simp] abbrev lC (a:Tp):Heap:=[gW a,I7,eD a]
@[simp] abbrev kZ (a:Tp):Heap:=[gW a]
@[simp] abbrev kY (a:Tp):Heap:=[(o_ 0 2 [(Tp.row ((a.step 5).step 6))]),I7,gJ a]
@[simp] abbrev c7w :Fr:=(mkF 76 [(0,(oO 0 0 0 0)),(2,(oO 1 0 0 0)),(3,(oO 2 0 0 0)),(4,(iN 0))])
@[simp] abbrev d4J (a:Tp):Fr:=(mkF 76 [(0,(oO 0 0 0 0)),(2,(oO 1 0 0 0)),(3,(oO 2 0 0 0)),(4,(iN ((a.step 5).next 6)))])
@[simp] abbrev rC (a:Tp):Heap:=[(o_ 0 2 [(Tp.row ((a.step 5).step 6))]),I7,(o_ 0 13 [[(iN (1+(a.next 5))),z_,z_,z_,z_,z_,z_,e_,e_,bF,(AV.int .u32 0),(AV.sl .nil 0 []),(AV.osl 3 0 2 0 0)]]),(o_ 0 2 (mK []))]
@[simp] abbrev fQ (a:Tp):Ob:=(o_ 0 2 [(Tp.row (Tp.qO ((a.step 5).next 6) ((a.step 5).step 6)))])
@[simp] abbrev gV (a:Tp):Ob:=(o_ ((a.step 5).next 6) 2 (mK (Tp.dL ((a.step 5).next 6) ((a.step 5).step 6))))
@[simp] abbrev rA (a:Tp):Heap:=[fQ a,I7,(o_ 0 13 [[(iN (1+a.next 5)),z_,z_,z_,z_,z_,z_,e_,e_,bF,(AV.int .u32 0),(AV.sl .nil 0 []),(AV.osl 3 ((a.step 5).next 6) 2 0 ((a.step 5).next 6))]]),gV a]
@[simp] abbrev kX (a:Tp):Heap:=[fQ a,I7,(o_ 0 13 [[(iN (1+a.next 5)),z_,z_,z_,z_,z_,z_,e_,e_,bF,(AV.int .u32 0),(sA 9 (mC [])),(AV.osl 3 ((a.step 5).next 6) 2 0 ((a.step 5).next 6))]]),gV a]
@[simp] abbrev kW (a:Tp):Heap:=[fQ a]
@[simp] abbrev gU (a:Tp):Ob:=(o_ 0 2 [(Tp.row (((a.step 5).step (6+1)).H7 ((a.step 5).next (6+1))))])
@[simp] abbrev kV (a:Tp):Heap:=[gU a,I7,gJ a]
@[simp] abbrev kU (a:Tp):Heap:=[gU a]
theorem P8 {p:Prop} (h:p:=by first | omega | assumption | (simp; done) | (simp; omega) | (simp only [Tp.Z6,Tp.kJ,Tp.rT,Tp.a2m]; assumption)):p:=h
theorem b1K {p:Prop} (h:p:=by (try delta tN gY tL tK nS lZ lY lX aP lW lV lU lT lS lQ lN lM lK aO lJ lI lH lG lD lC kZ kY rC rA kX kW kV kU I7 gJ jB kT eF kS kR eD gX gW fQ gV gU); exact absurd (h4.symm.trans h1) (by simp)):p:=h
theorem b7r (t:Tp) (hl:t.l.length < 9223372036854775808):AC 29 [(AV.obj 0 0 0 0)] [(o_ 0 2 [(Tp.row t)])] ((AV.agg (Msg.row t.msg2.1)),[(o_ 0 2 [(Tp.row t.msg2.2)])]):=by
 have n5:=t.next_lt 5 ow
 have n6:=(t.step 5).next_lt 6 ow
 have n7:=((t.step 5).step 9).next_lt 5 ow
 have n8:=(((t.step 5).step 9).step 5).keyT.next_lt 30 ow
 have n9:=(((t.step 5).step 9).step 5).next_lt 30 ow
 have n10:=((((t.step 5).step 9).step 5).keyT.step 30).next_lt 5 ow
 have n11:=((((t.step 5).step 9).step 5).step 30).next_lt 5 ow
 exact r9 (fn:=Tryz.f29) (ann:=rW) (Has.o Tryz.func29) (.r (.s (.ch 1 [(o_ 0 2 [(Tp.row (t.step 5))]),(o_ 0 13 [[(AV.int .i64 0),(AV.int .i64 0),(AV.int .i64 0),(AV.int .i64 0),(AV.int .i64 0),(AV.int .i64 0),(AV.int .i64 0),(AV.str ⟨#[]⟩),(AV.str ⟨#[]⟩),(AV.bool false),(AV.int .u32 0),(AV.sl .nil 0 []),(AV.sl .nil 0 [])]]),(o_ 0 13 [[(AV.int .i64 0),(AV.int .i64 0),(AV.int .i64 0),(AV.int .i64 0),(AV.int .i64 0),(AV.int .i64 0),(AV.int .i64 0),(AV.str ⟨#[]⟩),(AV.str ⟨#[]⟩),(AV.bool false),(AV.int .u32 0),(AV.sl .nil 0 []),(AV.sl .nil 0 [])]])] (F7 t 5 P8 [(o_ 0 13 [[(AV.int .i64 0),(AV.int .i64 0),(AV.int .i64 0),(AV.int .i64 0),(AV.int .i64 0),(AV.int .i64 0),(AV.int .i64 0),(AV.str ⟨#[]⟩),(AV.str ⟨#[]⟩),(AV.bool false),(AV.int .u32 0),(AV.sl .nil 0 []),(AV.sl .nil 0 [])]]),(o_ 0 13 [[(AV.int .i64 0),(AV.int .i64 0),(AV.int .i64 0),(AV.int .i64 0),(AV.int .i64 0),(AV.int .i64 0),(AV.int .i64 0),(AV.str ⟨#[]⟩),(AV.str ⟨#[]⟩),(AV.bool false),(AV.int .u32 0),(AV.sl .nil 0 []),(AV.sl .nil 0 [])]])]) (.y 2 (iW (1+((t.next 5:Nat):Int))) (AV.int .i64 ((1+(t.next 5):Nat):Int)) Yes.o (.s (.s (.g (.two (((1+(t.next 5):Nat):Int) == 1) (fun h1 h1'=>(.two (((1+(t.next 5):Nat):Int) == 1) (fun h2 h2'=>(.r (.ch 1 (tN t) (F7 (t.step 5) 9 P8 (gY t)) (.ch 3 (tL t) (F7 ((t.step 5).step 9) 5 P8 (gY t)) (.y 4 (iW (1+((((t.step 5).step 9).next 5:Nat):Int))) (AV.int .i64 ((1+(((t.step 5).step 9).next 5):Nat):Int)) Yes.o (.s (.g (.two (((1+(((t.step 5).step 9).next 5):Nat):Int) != 5) (fun h3 h3'=>(.r (.ch 1 (tK t) (a0k (((t.step 5).step 9).step 5) P8 (nS t)) (.s (.ch 1 (lZ t) (F7 (((t.step 5).step 9).step 5).keyT 30 P8 (lY t)) (.y 2 (iW ((((((t.step 5).step 9).step 5).keyT.next 30:Nat):Int) - 1)) (AV.int .i64 ((((((t.step 5).step 9).step 5).keyT.next 30:Nat):Int) - 1)) Yes.o (.s (.g (.two (((1+(t.next 5):Nat):Int) == 1) (fun h4 h4'=>(.r (.ch 1 (lX t) (F7 ((((t.step 5).step 9).step 5).keyT.step 30) 70 P8 (aP t)) (.ch 3 (lW t) (F7 (((((t.step 5).step 9).step 5).keyT.step 30).step 70) 5 P8 (aP t)) (.s (.o (rfl:0=0) (.o (rfl:0=0) (.g (.h' (lV t) (.q 1 (AV.agg [(AV.int .i64 ((1+(t.next 5):Nat):Int)),(AV.int .i64 ((1+(((t.step 5).step 9).next 5):Nat):Int)),(AV.int .i64 (((((((t.step 5).step 9).step 5).keyT.step 30).step 70).next 5:Nat):Int)),(AV.int .i64 0),(AV.int .i64 (((t.step 5).next 9:Nat):Int)),(AV.int .i64 ((((((t.step 5).step 9).step 5).keyT.step 30).next 70:Nat):Int)),(AV.int .i64 ((((((t.step 5).step 9).step 5).keyT.next 30:Nat):Int) - 1)),(AV.str (((t.step 5).step 9).step 5).key.app),(AV.str (((t.step 5).step 9).step 5).key.id),(AV.bool false),(AV.int .u32 0),(AV.sl .any 9 (List.map j5.row [])),(AV.sl .any 2 (List.map Key.row []))]) (by (try delta tN gY tL tK nS lZ lY lX aP lW lV lU lT lS lQ lN lM lK aO lJ lI lH lG lD lC kZ kY rC rA kX kW kV kU I7 gJ jB kT eF kS kR eD gX gW fQ gV gU); unfold Tp.msg2 Tp.msgA; simp only []; (try rw [if_pos h1]); (try rw [if_pos h2]); (try rw [if_pos h3]); (try rw [if_pos h4]); first | done | rfl | (simp only [h1,h2,h3,h4,if_true,Bool.false_eq_true,if_false]; first | done | rfl)))))))))))) (fun h4 h4'=>(.r (.ch 2 (lU t) (F7 ((((t.step 5).step 9).step 5).keyT.step 30) 5 P8 (aP t)) (.is 3 1 1 (List.map A9 [0,1,22,24,255]) ((((((t.step 5).step 9).step 5).keyT.step 30).next 5:Nat):Int) (A9 (nth [0,1,22,24,255] (((((t.step 5).step 9).step 5).keyT.step 30).next 5))) (N7.mk _ ow yg_) (.ch 6 (lT t) (F7 (((((t.step 5).step 9).step 5).keyT.step 30).step 5) 2 P8 (aP t)) (.ch 9 (lS t) (F7 ((((((t.step 5).step 9).step 5).keyT.step 30).step 5).step 2) 1073741824 P8 (aP t)) (.ch 12 (lQ t) (nM (((((((t.step 5).step 9).step 5).keyT.step 30).step 5).step 2).step 1073741824) 5 P8 P8 (aP t)) (.s (.o (rfl:0=0) (.o (rfl:0=0) (.g (.h' (lN t) (.q 1 (AV.agg [(AV.int .i64 ((1+(t.next 5):Nat):Int)),(AV.int .i64 ((1+(((t.step 5).step 9).next 5):Nat):Int)),(AV.int .i64 0),(AV.int .i64 (nth [0,1,22,24,255] (((((t.step 5).step 9).step 5).keyT.step 30).next 5))),(AV.int .i64 (((t.step 5).next 9:Nat):Int)),(AV.int .i64 0),(AV.int .i64 ((((((t.step 5).step 9).step 5).keyT.next 30:Nat):Int) - 1)),(AV.str (((t.step 5).step 9).step 5).key.app),(AV.str (((t.step 5).step 9).step 5).key.id),(AV.bool ((((((((t.step 5).step 9).step 5).keyT.step 30).step 5).next 2:Nat):Int) == 0)),(AV.int .u32 (IntKind.u32.wrap ((((((((t.step 5).step 9).step 5).keyT.step 30).step 5).step 2).next 1073741824:Nat):Int))),(AV.sl .any 9 (List.map j5.row ((((((((t.step 5).step 9).step 5).keyT.step 30).step 5).step 2).step 1073741824).step (5+1) |>.cards ((((((((t.step 5).step 9).step 5).keyT.step 30).step 5).step 2).step 1073741824).next (5+1))))),(AV.sl .any 2 (List.map Key.row []))]) b1K)))))))))))))))))))))) (fun h3 h3'=>(.r (.ch 1 (lM t) (F7 (((t.step 5).step 9).step 5) 30 P8 (nS t)) (.y 2 (iW ((((((t.step 5).step 9).step 5).next 30:Nat):Int) - 1)) (AV.int .i64 ((((((t.step 5).step 9).step 5).next 30:Nat):Int) - 1)) Yes.o (.s (.g (.two (((1+(t.next 5):Nat):Int) == 1) (fun h4 h4'=>(.r (.ch 1 (lK t) (F7 ((((t.step 5).step 9).step 5).step 30) 70 P8 (aO t)) (.ch 3 (lJ t) (F7 (((((t.step 5).step 9).step 5).step 30).step 70) 5 P8 (aO t)) (.s (.o (rfl:0=0) (.o (rfl:0=0) (.g (.h' (lI t) (.q 1 (AV.agg [(AV.int .i64 ((1+(t.next 5):Nat):Int)),(AV.int .i64 ((1+(((t.step 5).step 9).next 5):Nat):Int)),(AV.int .i64 (((((((t.step 5).step 9).step 5).step 30).step 70).next 5:Nat):Int)),(AV.int .i64 0),(AV.int .i64 (((t.step 5).next 9:Nat):Int)),(AV.int .i64 ((((((t.step 5).step 9).step 5).step 30).next 70:Nat):Int)),(AV.int .i64 ((((((t.step 5).step 9).step 5).next 30:Nat):Int) - 1)),(AV.str ⟨#[]⟩),(AV.str ⟨#[]⟩),(AV.bool false),(AV.int .u32 0),(AV.sl .any 9 (List.map j5.row [])),(AV.sl .any 2 (List.map Key.row []))]) (by (try delta tN gY tL tK nS lZ lY lX aP lW lV lU lT lS lQ lN lM lK aO lJ lI lH lG lD lC kZ kY rC rA kX kW kV kU I7 gJ jB kT eF kS kR eD gX gW fQ gV gU); unfold Tp.msg2 Tp.msgA; simp only []; (try rw [if_pos h1]); (try rw [if_pos h2]); (try rw [if_neg xA]); (try rw [if_pos h4]); first | done | rfl | (simp only [h1,h2,h3,h4,if_true,Bool.false_eq_true,if_false]; first | done | rfl)))))))))))) (fun h4 h4'=>(.r (.ch 2 (lH t) (F7 ((((t.step 5).step 9).step 5).step 30) 5 P8 (aO t)) (.is 3 1 1 (List.map A9 [0,1,22,24,255]) ((((((t.step 5).step 9).step 5).step 30).next 5:Nat):Int) (A9 (nth [0,1,22,24,255] (((((t.step 5).step 9).step 5).step 30).next 5))) (N7.mk _ ow yg_) (.ch 6 (lG t) (F7 (((((t.step 5).step 9).step 5).step 30).step 5) 2 P8 (aO t)) (.ch 9 (lD t) (F7 ((((((t.step 5).step 9).step 5).step 30).step 5).step 2) 1073741824 P8 (aO t)) (.ch 12 (lC t) (nM (((((((t.step 5).step 9).step 5).step 30).step 5).step 2).step 1073741824) 5 P8 P8 (aO t)) (.s (.o (rfl:0=0) (.o (rfl:0=0) (.g (.h' (kZ t) (.q 1 (AV.agg [(AV.int .i64 ((1+(t.next 5):Nat):Int)),(AV.int .i64 ((1+(((t.step 5).step 9).next 5):Nat):Int)),(AV.int .i64 0),(AV.int .i64 (nth [0,1,22,24,255] (((((t.step 5).step 9).step 5).step 30).next 5))),(AV.int .i64 (((t.step 5).next 9:Nat):Int)),(AV.int .i64 0),(AV.int .i64 ((((((t.step 5).step 9).step 5).next 30:Nat):Int) - 1)),(AV.str ⟨#[]⟩),(AV.str ⟨#[]⟩),(AV.bool ((((((((t.step 5).step 9).step 5).step 30).step 5).next 2:Nat):Int) == 0)),(AV.int .u32 (IntKind.u32.wrap ((((((((t.step 5).step 9).step 5).step 30).step 5).step 2).next 1073741824:Nat):Int))),(AV.sl .any 9 (List.map j5.row ((((((((t.step 5).step 9).step 5).step 30).step 5).step 2).step 1073741824).step (5+1) |>.cards ((((((((t.step 5).step 9).step 5).step 30).step 5).step 2).step 1073741824).next (5+1))))),(AV.sl .any 2 (List.map Key.row []))]) b1K)))))))))))))))))))))))))))) (fun h2 h2'=>(.r (.g (.two (((1+(t.next 5):Nat):Int) == 5) (fun h3 h3'=>(.r (.ch 1 (kY t) (F7 (t.step 5) 6 P8 (gY t)) (.o (rfl:0=0) (.g (.loop c7w (a2v (1+t.next 5) ((t.step 5).next 6) ((t.step 5).step 6) (by simp only [Tp.Z6]; exact hl) ow) (.r (.o (rfl:0=0) (.w 3 (List.map Key.row (Tp.dL ((t.step 5).next 6) ((t.step 5).step 6))) (And.intro rfl (And.intro (G8 (room:=none) kr (by first | omega | (simp [Tp.uK]; done) | (simp [Tp.uK]; omega))) (Key.y8 _ _)):0=0/\G6 (kX t) 2 (AV.osl 3 ((t.step 5).next 6) 2 0 ((t.step 5).next 6))=some (List.map Key.row (Tp.dL ((t.step 5).next 6) ((t.step 5).step 6)))/\AV.D7 0 (List.map Key.row (Tp.dL ((t.step 5).next 6) ((t.step 5).step 6)))=true) (.g (.h' (kW t) (.q 1 (AV.agg [(AV.int .i64 ((1+t.next 5:Nat):Int)),(AV.int .i64 0),(AV.int .i64 0),(AV.int .i64 0),(AV.int .i64 0),(AV.int .i64 0),(AV.int .i64 0),(AV.str ⟨#[]⟩),(AV.str ⟨#[]⟩),(AV.bool false),(AV.int .u32 0),(AV.sl .any 9 (List.map j5.row [])),(AV.sl .any 2 (List.map Key.row (Tp.dL ((t.step 5).next 6) ((t.step 5).step 6))))]) (by (try delta tN gY tL tK nS lZ lY lX aP lW lV lU lT lS lQ lN lM lK aO lJ lI lH lG lD lC kZ kY rC rA kX kW kV kU I7 gJ jB kT eF kS kR eD gX gW fQ gV gU); exact absurd (h2.symm.trans h1) ye_))))))))))))) (fun h3 h3'=>(.r (.ch 1 (kV t) (nM (t.step 5) 6 P8 P8 (gY t)) (.s (.o (rfl:0=0) (.o (rfl:0=0) (.g (.h' (kU t) (.q 1 (AV.agg [(AV.int .i64 ((1+(t.next 5):Nat):Int)),(AV.int .i64 0),(AV.int .i64 0),(AV.int .i64 0),(AV.int .i64 0),(AV.int .i64 0),(AV.int .i64 0),(AV.str ⟨#[]⟩),(AV.str ⟨#[]⟩),(AV.bool false),(AV.int .u32 0),(AV.sl .any 9 (List.map j5.row ((t.step 5).step (6+1) |>.cards ((t.step 5).next (6+1))))),(AV.sl .any 2 (List.map Key.row []))]) (by (try delta tN gY tL tK nS lZ lY lX aP lW lV lU lT lS lQ lN lM lK aO lJ lI lH lG lD lC kZ kY rC rA kX kW kV kU I7 gJ jB kT eF kS kR eD gX gW fQ gV gU); exact absurd (h2.symm.trans h1) ye_)))))))))))))))) (fun h1 h1'=>(.r (.g (.two (((1+(t.next 5):Nat):Int) == 2) (fun h2 h2'=>(.r (.ch 1 (tN t) (F7 (t.step 5) 9 P8 (gY t)) (.ch 3 (tL t) (F7 ((t.step 5).step 9) 5 P8 (gY t)) (.y 4 (iW (1+((((t.step 5).step 9).next 5:Nat):Int))) (AV.int .i64 ((1+(((t.step 5).step 9).next 5):Nat):Int)) Yes.o (.s (.g (.two (((1+(((t.step 5).step 9).next 5):Nat):Int) != 5) (fun h3 h3'=>(.r (.ch 1 (tK t) (a0k (((t.step 5).step 9).step 5) P8 (nS t)) (.s (.ch 1 (lZ t) (F7 (((t.step 5).step 9).step 5).keyT 30 P8 (lY t)) (.y 2 (iW ((((((t.step 5).step 9).step 5).keyT.next 30:Nat):Int) - 1)) (AV.int .i64 ((((((t.step 5).step 9).step 5).keyT.next 30:Nat):Int) - 1)) Yes.o (.s (.g (.two (((1+(t.next 5):Nat):Int) == 1) (fun h4 h4'=>(.r (.ch 1 (lX t) (F7 ((((t.step 5).step 9).step 5).keyT.step 30) 70 P8 (aP t)) (.ch 3 (lW t) (F7 (((((t.step 5).step 9).step 5).keyT.step 30).step 70) 5 P8 (aP t)) (.s (.o (rfl:0=0) (.o (rfl:0=0) (.g (.h' (lV t) (.q 1 (AV.agg [(AV.int .i64 ((1+(t.next 5):Nat):Int)),(AV.int .i64 ((1+(((t.step 5).step 9).next 5):Nat):Int)),(AV.int .i64 (((((((t.step 5).step 9).step 5).keyT.step 30).step 70).next 5:Nat):Int)),(AV.int .i64 0),(AV.int .i64 (((t.step 5).next 9:Nat):Int)),(AV.int .i64 ((((((t.step 5).step 9).step 5).keyT.step 30).next 70:Nat):Int)),(AV.int .i64 ((((((t.step 5).step 9).step 5).keyT.next 30:Nat):Int) - 1)),(AV.str (((t.step 5).step 9).step 5).key.app),(AV.str (((t.step 5).step 9).step 5).key.id),(AV.bool false),(AV.int .u32 0),(AV.sl .any 9 (List.map j5.row [])),(AV.sl .any 2 (List.map Key.row []))]) b1K)))))))))) (fun h4 h4'=>(.r (.ch 2 (lU t) (F7 ((((t.step 5).step 9).step 5).keyT.step 30) 5 P8 (aP t)) (.is 3 1 1 (List.map A9 [0,1,22,24,255]) ((((((t.step 5).step 9).step 5).keyT.step 30).next 5:Nat):Int) (A9 (nth [0,1,22,24,255] (((((t.step 5).step 9).step 5).keyT.step 30).next 5))) (N7.mk _ ow yg_) (.ch 6 (lT t) (F7 (((((t.step 5).step 9).step 5).keyT.step 30).step 5) 2 P8 (aP t)) (.ch 9 (lS t) (F7 ((((((t.step 5).step 9).step 5).keyT.step 30).step 5).step 2) 1073741824 P8 (aP t)) (.ch 12 (lQ t) (nM (((((((t.step 5).step 9).step 5).keyT.step 30).step 5).step 2).step 1073741824) 5 P8 P8 (aP t)) (.s (.o (rfl:0=0) (.o (rfl:0=0) (.g (.h' (lN t) (.q 1 (AV.agg [(AV.int .i64 ((1+(t.next 5):Nat):Int)),(AV.int .i64 ((1+(((t.step 5).step 9).next 5):Nat):Int)),(AV.int .i64 0),(AV.int .i64 (nth [0,1,22,24,255] (((((t.step 5).step 9).step 5).keyT.step 30).next 5))),(AV.int .i64 (((t.step 5).next 9:Nat):Int)),(AV.int .i64 0),(AV.int .i64 ((((((t.step 5).step 9).step 5).keyT.next 30:Nat):Int) - 1)),(AV.str (((t.step 5).step 9).step 5).key.app),(AV.str (((t.step 5).step 9).step 5).key.id),(AV.bool ((((((((t.step 5).step 9).step 5).keyT.step 30).step 5).next 2:Nat):Int) == 0)),(AV.int .u32 (IntKind.u32.wrap ((((((((t.step 5).step 9).step 5).keyT.step 30).step 5).step 2).next 1073741824:Nat):Int))),(AV.sl .any 9 (List.map j5.row ((((((((t.step 5).step 9).step 5).keyT.step 30).step 5).step 2).step 1073741824).step (5+1) |>.cards ((((((((t.step 5).step 9).step 5).keyT.step 30).step 5).step 2).step 1073741824).next (5+1))))),(AV.sl .any 2 (List.map Key.row []))]) (by (try delta tN gY tL tK nS lZ lY lX aP lW lV lU lT lS lQ lN lM lK aO lJ lI lH lG lD lC kZ kY rC rA kX kW kV kU I7 gJ jB kT eF kS kR eD gX gW fQ gV gU); unfold Tp.msg2 Tp.msgA; simp only []; (try rw [if_neg a1E]); (try rw [if_pos h2]); (try rw [if_pos h3]); (try rw [if_neg (by rw [h4]; simp)]); first | done | rfl | (simp only [h1,h2,h3,h4,if_true,Bool.false_eq_true,if_false]; first | done | rfl)))))))))))))))))))))))) (fun h3 h3'=>(.r (.ch 1 (lM t) (F7 (((t.step 5).step 9).step 5) 30 P8 (nS t)) (.y 2 (iW ((((((t.step 5).step 9).step 5).next 30:Nat):Int) - 1)) (AV.int .i64 ((((((t.step 5).step 9).step 5).next 30:Nat):Int) - 1)) Yes.o (.s (.g (.two (((1+(t.next 5):Nat):Int) == 1) (fun h4 h4'=>(.r (.ch 1 (lK t) (F7 ((((t.step 5).step 9).step 5).step 30) 70 P8 (aO t)) (.ch 3 (lJ t) (F7 (((((t.step 5).step 9).step 5).step 30).step 70) 5 P8 (aO t)) (.s (.o (rfl:0=0) (.o (rfl:0=0) (.g (.h' (lI t) (.q 1 (AV.agg [(AV.int .i64 ((1+(t.next 5):Nat):Int)),(AV.int .i64 ((1+(((t.step 5).step 9).next 5):Nat):Int)),(AV.int .i64 (((((((t.step 5).step 9).step 5).step 30).step 70).next 5:Nat):Int)),(AV.int .i64 0),(AV.int .i64 (((t.step 5).next 9:Nat):Int)),(AV.int .i64 ((((((t.step 5).step 9).step 5).step 30).next 70:Nat):Int)),(AV.int .i64 ((((((t.step 5).step 9).step 5).next 30:Nat):Int) - 1)),(AV.str ⟨#[]⟩),(AV.str ⟨#[]⟩),(AV.bool false),(AV.int .u32 0),(AV.sl .any 9 (List.map j5.row [])),(AV.sl .any 2 (List.map Key.row []))]) b1K)))))))))) (fun h4 h4'=>(.r (.ch 2 (lH t) (F7 ((((t.step 5).step 9).step 5).step 30) 5 P8 (aO t)) (.is 3 1 1 (List.map A9 [0,1,22,24,255]) ((((((t.step 5).step 9).step 5).step 30).next 5:Nat):Int) (A9 (nth [0,1,22,24,255] (((((t.step 5).step 9).step 5).step 30).next 5))) (N7.mk _ ow yg_) (.ch 6 (lG t) (F7 (((((t.step 5).step 9).step 5).step 30).step 5) 2 P8 (aO t)) (.ch 9 (lD t) (F7 ((((((t.step 5).step 9).step 5).step 30).step 5).step 2) 1073741824 P8 (aO t)) (.ch 12 (lC t) (nM (((((((t.step 5).step 9).step 5).step 30).step 5).step 2).step 1073741824) 5 P8 P8 (aO t)) (.s (.o (rfl:0=0) (.o (rfl:0=0) (.g (.h' (kZ t) (.q 1 (AV.agg [(AV.int .i64 ((1+(t.next 5):Nat):Int)),(AV.int .i64 ((1+(((t.step 5).step 9).next 5):Nat):Int)),(AV.int .i64 0),(AV.int .i64 (nth [0,1,22,24,255] (((((t.step 5).step 9).step 5).step 30).next 5))),(AV.int .i64 (((t.step 5).next 9:Nat):Int)),(AV.int .i64 0),(AV.int .i64 ((((((t.step 5).step 9).step 5).next 30:Nat):Int) - 1)),(AV.str ⟨#[]⟩),(AV.str ⟨#[]⟩),(AV.bool ((((((((t.step 5).step 9).step 5).step 30).step 5).next 2:Nat):Int) == 0)),(AV.int .u32 (IntKind.u32.wrap ((((((((t.step 5).step 9).step 5).step 30).step 5).step 2).next 1073741824:Nat):Int))),(AV.sl .any 9 (List.map j5.row ((((((((t.step 5).step 9).step 5).step 30).step 5).step 2).step 1073741824).step (5+1) |>.cards ((((((((t.step 5).step 9).step 5).step 30).step 5).step 2).step 1073741824).next (5+1))))),(AV.sl .any 2 (List.map Key.row []))]) (by (try delta tN gY tL tK nS lZ lY lX aP lW lV lU lT lS lQ lN lM lK aO lJ lI lH lG lD lC kZ kY rC rA kX kW kV kU I7 gJ jB kT eF kS kR eD gX gW fQ gV gU); unfold Tp.msg2 Tp.msgA; simp only []; (try rw [if_neg a1E]); (try rw [if_pos h2]); (try rw [if_neg xA]); (try rw [if_neg (by rw [h4]; simp)]); first | done | rfl | (simp only [h1,h2,h3,h4,if_true,Bool.false_eq_true,if_false]; first | done | rfl)))))))))))))))))))))))))))))) (fun h2 h2'=>(.r (.g (.two (((1+(t.next 5):Nat):Int) == 5) (fun h3 h3'=>(.r (.ch 1 (kY t) (F7 (t.step 5) 6 P8 (gY t)) (.o (rfl:0=0) (.g (.loop c7w (a2v (1+t.next 5) ((t.step 5).next 6) ((t.step 5).step 6) (by simp only [Tp.Z6]; exact hl) ow) (.r (.o (rfl:0=0) (.w 3 (List.map Key.row (Tp.dL ((t.step 5).next 6) ((t.step 5).step 6))) (And.intro rfl (And.intro (G8 (room:=none) kr (by first | omega | (simp [Tp.uK]; done) | (simp [Tp.uK]; omega))) (Key.y8 _ _)):0=0/\G6 (kX t) 2 (AV.osl 3 ((t.step 5).next 6) 2 0 ((t.step 5).next 6))=some (List.map Key.row (Tp.dL ((t.step 5).next 6) ((t.step 5).step 6)))/\AV.D7 0 (List.map Key.row (Tp.dL ((t.step 5).next 6) ((t.step 5).step 6)))=true) (.g (.h' (kW t) (.q 1 (AV.agg [(AV.int .i64 ((1+t.next 5:Nat):Int)),(AV.int .i64 0),(AV.int .i64 0),(AV.int .i64 0),(AV.int .i64 0),(AV.int .i64 0),(AV.int .i64 0),(AV.str ⟨#[]⟩),(AV.str ⟨#[]⟩),(AV.bool false),(AV.int .u32 0),(AV.sl .any 9 (List.map j5.row [])),(AV.sl .any 2 (List.map Key.row (Tp.dL ((t.step 5).next 6) ((t.step 5).step 6))))]) (by (try delta tN gY tL tK nS lZ lY lX aP lW lV lU lT lS lQ lN lM lK aO lJ lI lH lG lD lC kZ kY rC rA kX kW kV kU I7 gJ jB kT eF kS kR eD gX gW fQ gV gU); unfold Tp.msg2 Tp.msgA; simp only []; (try rw [if_neg a1E]); (try rw [if_neg a7b]); (try rw [if_pos h3]); first | done | rfl | (simp only [h1,h2,h3,if_true,Bool.false_eq_true,if_false]; first | done | rfl)))))))))))))) (fun h3 h3'=>(.r (.ch 1 (kV t) (nM (t.step 5) 6 P8 P8 (gY t)) (.s (.o (rfl:0=0) (.o (rfl:0=0) (.g (.h' (kU t) (.q 1 (AV.agg [(AV.int .i64 ((1+(t.next 5):Nat):Int)),(AV.int .i64 0),(AV.int .i64 0),(AV.int .i64 0),(AV.int .i64 0),(AV.int .i64 0),(AV.int .i64 0),(AV.str ⟨#[]⟩),(AV.str ⟨#[]⟩),(AV.bool false),(AV.int .u32 0),(AV.sl .any 9 (List.map j5.row ((t.step 5).step (6+1) |>.cards ((t.step 5).next (6+1))))),(AV.sl .any 2 (List.map Key.row []))]) (by (try delta tN gY tL tK nS lZ lY lX aP lW lV lU lT lS lQ lN lM lK aO lJ lI lH lG lD lC kZ kY rC rA kX kW kV kU I7 gJ jB kT eF kS kR eD gX gW fQ gV gU); unfold Tp.msg2 Tp.msgA; simp only []; (try rw [if_neg a1E]); (try rw [if_neg a7b]); (try rw [if_neg xA]); first | done | rfl | (simp only [h1,h2,h3,if_true,Bool.false_eq_true,if_false]; first | done | rfl)))))))))))))))))))))))))))
theorem c8X (t:Tp) (hl:t.l.length < 9223372036854775808) (H:Heap):AC 29 [(oO 0 0 0 0)] (([(o_ 0 2 [(Tp.row t)])]:Heap)++H) ((AV.agg (Msg.row t.msg2.1)),([(o_ 0 2 [(Tp.row t.msg2.2)])]:Heap)++H):=(b7r t hl).ext kr kr ob ob kr H
structure y9 where
 kind:Int
 src:Int
 m:Msg
 n:Int
 deriving Inhabited
def y9.row (x:y9):List AV:=[(iI x.kind),(iI x.src),(iI x.m.kind),(iI x.m.op),(iI x.m.status),(iI x.m.code),(iI x.m.tag),(iI x.m.n),(iI x.m.seq),(AV.str x.m.key.app),(AV.str x.m.key.id),(bB x.m.full),(AV.int .u32 x.m.sum),(sA 9 (mC x.m.cards)),(sA 2 (mK x.m.keys)),(iI x.n)]
@[simp] theorem y9.R7 (n:Nat) (x:y9):AV.bdds n x.row=true:=by simp [y9.row,AV.bdds,AV.bdd]
@[simp] theorem y9.y8 (n:Nat) (l:List y9):AV.D7 n (l.map y9.row)=true:=by induction l with | nil=>rfl | cons x l ih=>simp [AV.D7,y9.R7,ih]
theorem Tp.c9G (n:Nat):∀ (t:Tp),(Tp.qO n t).l=t.l:=by
 induction n with
 | zero=>intro t; rfl
 | succ n ih=>intro t; simp only [Tp.qO]; rw [ih,Tp.kJ]
theorem Tp.b8P (t:Tp):t.msg2.2.l=t.l:=by
 have hA:∀ u:Tp,u.msgA.2.l=u.l:=fun u=>by
  unfold Tp.msgA
  simp only []
  split <;> simp only [Tp.Z6,Tp.kJ]
 unfold Tp.msg2
 split
 · simp only [Tp.Z6,hA]
 · split
   · simp only [Tp.Z6,hA,Tp.a2m]
   · split
     · simp only [Tp.c9G,Tp.Z6]
     · simp only [Tp.a2m,Tp.Z6]
attribute [local irreducible] Tp.msg2
def a0C:Ann:={ gh:=[(13,.frz 6),(13,.cut 0)],gha:=[(2,.vir 6 16),(12,.cut 2)],fin:=some 0,live:=[(3,[0,1,5,6])],out:=[(3,[0,1,5,6])] }
@[simp] abbrev yN (a:List Int):=(sA 1 (List.map A9 a))
@[simp] abbrev yM (a b:Nat):=(AV.osl 1 (a+1) 16 0 (b+1))
@[simp] abbrev uQ (a:List Int) (b:Nat) (c:Nat) (d:Nat):Fr:=(mkF 56 [(0,(yN a)),(1,(iN b)),(5,(oO 0 0 0 0)),(6,(yM c d))])
@[simp] abbrev c1A (a:Tp):Ob:=(o_ 0 2 [(Tp.row ((((((a.step 9).step 6).step 25).ask.2.step 30).step 20).step 500))])
@[simp] abbrev c7v (a:Tp) (b:Nat) (c:List y9):Heap:=[c1A a,(o_ (b+1) 16 (List.map y9.row (c++[(y9.mk 9 (((a.step 9).next 6:Nat):Int) (((a.step 9).step 6).step 25).ask.1 (((((((a.step 9).step 6).step 25).ask.2.step 30).step 20).next 500:Nat):Int))])))]
@[simp] abbrev c1z (a:Tp):Ob:=(o_ 0 2 [(Tp.row (((((a.step 9).step 6).step 25).ask.2.step 30).step 20))])
@[simp] abbrev c7u (a:Tp) (b:Nat) (c:List y9):Heap:=[c1z a,(o_ (b+1) 16 (List.map y9.row (c++[(y9.mk 9 (((a.step 9).next 6:Nat):Int) (((a.step 9).step 6).step 25).ask.1 ((1+(((a.step 9).step 6).next 25):Nat):Int))])))]
@[simp] abbrev c7t (a:Tp) (b:Nat) (c:List y9):Heap:=[c1A a,(o_ (b+1) 16 (List.map y9.row (c++[(y9.mk ((a.next 9:Nat):Int) (((a.step 9).next 6:Nat):Int) (((a.step 9).step 6).step 25).ask.1 (((((((a.step 9).step 6).step 25).ask.2.step 30).step 20).next 500:Nat):Int))])))]
@[simp] abbrev c7s (a:Tp) (b:Nat) (c:List y9):Heap:=[c1z a,(o_ (b+1) 16 (List.map y9.row (c++[(y9.mk ((a.next 9:Nat):Int) (((a.step 9).next 6:Nat):Int) (((a.step 9).step 6).step 25).ask.1 ((1+(((a.step 9).step 6).next 25):Nat):Int))])))]
@[simp] abbrev c1y (a:Tp):Ob:=(o_ 0 2 [(Tp.row ((((((a.step 9).step 6).step 25).msg2.2.step 30).step 20).step 500))])
@[simp] abbrev c7r (a:Tp) (b:Nat) (c:List y9):Heap:=[c1y a,(o_ (b+1) 16 (List.map y9.row (c++[(y9.mk 9 (((a.step 9).next 6:Nat):Int) (((a.step 9).step 6).step 25).msg2.1 (((((((a.step 9).step 6).step 25).msg2.2.step 30).step 20).next 500:Nat):Int))])))]
@[simp] abbrev c1x (a:Tp):Ob:=(o_ 0 2 [(Tp.row (((((a.step 9).step 6).step 25).msg2.2.step 30).step 20))])
@[simp] abbrev c7q (a:Tp) (b:Nat) (c:List y9):Heap:=[c1x a,(o_ (b+1) 16 (List.map y9.row (c++[(y9.mk 9 (((a.step 9).next 6:Nat):Int) (((a.step 9).step 6).step 25).msg2.1 ((1+(((a.step 9).step 6).next 25):Nat):Int))])))]
@[simp] abbrev c7p (a:Tp) (b:Nat) (c:List y9):Heap:=[c1y a,(o_ (b+1) 16 (List.map y9.row (c++[(y9.mk ((a.next 9:Nat):Int) (((a.step 9).next 6:Nat):Int) (((a.step 9).step 6).step 25).msg2.1 (((((((a.step 9).step 6).step 25).msg2.2.step 30).step 20).next 500:Nat):Int))])))]
@[simp] abbrev c7o (a:Tp) (b:Nat) (c:List y9):Heap:=[c1x a,(o_ (b+1) 16 (List.map y9.row (c++[(y9.mk ((a.next 9:Nat):Int) (((a.step 9).next 6:Nat):Int) (((a.step 9).step 6).step 25).msg2.1 ((1+(((a.step 9).step 6).next 25):Nat):Int))])))]
@[simp] abbrev b6o (a:List Int) (b:Nat) (c:Nat) (d:Nat):Fr:=(mkF 56 [(0,(yN a)),(1,(iN b)),(5,(oO 0 0 0 0)),(6,(AV.osl 1 c 16 0 d))])
@[simp] abbrev b6n (a:Tp) (b:Nat) (c:List y9):Heap:=[(o_ 0 2 [(Tp.row a)]),(o_ b 16 (List.map y9.row c))]
@[simp] abbrev b6m (a:Nat) (b:List y9):Heap:=[(o_ a 16 (List.map y9.row b)),(o_ 0 16 [[z_,z_,z_,z_,z_,z_,z_,z_,z_,e_,e_,bF,(AV.int .u32 0),(AV.sl .nil 0 []),(AV.sl .nil 0 []),z_]])]
@[simp] abbrev b5s (a:Tp):=(iN (1+(((a.step 9).step 6).next 25)))
@[simp] abbrev yL (a:Tp):=(iN ((a.step 9).next 6))
@[simp] abbrev c7n (a:Nat) (b:List y9) (c:Tp):Heap:=[(o_ a 16 (List.map y9.row b)),(o_ 0 16 [[(iN (c.next 9)),(yL c),z_,z_,z_,z_,z_,z_,z_,e_,e_,bF,(AV.int .u32 0),(AV.sl .nil 0 []),(AV.sl .nil 0 []),(b5s c)]])]
@[simp] abbrev b5r (a:Tp):=(iI (((a.step 9).step 6).step 25).ask.1.kind)
@[simp] abbrev b5q (a:Tp):=(iI (((a.step 9).step 6).step 25).ask.1.op)
@[simp] abbrev b5p (a:Tp):=(iI (((a.step 9).step 6).step 25).ask.1.status)
@[simp] abbrev b5o (a:Tp):=(iI (((a.step 9).step 6).step 25).ask.1.code)
@[simp] abbrev b5n (a:Tp):=(iI (((a.step 9).step 6).step 25).ask.1.tag)
@[simp] abbrev b5m (a:Tp):=(iI (((a.step 9).step 6).step 25).ask.1.n)
@[simp] abbrev b5l (a:Tp):=(iI (((a.step 9).step 6).step 25).ask.1.seq)
@[simp] abbrev b5k (a:Tp):=(AV.str (((a.step 9).step 6).step 25).ask.1.key.app)
@[simp] abbrev b5j (a:Tp):=(AV.str (((a.step 9).step 6).step 25).ask.1.key.id)
@[simp] abbrev b5i (a:Tp):=(bB (((a.step 9).step 6).step 25).ask.1.full)
@[simp] abbrev b5h (a:Tp):=(AV.int .u32 (((a.step 9).step 6).step 25).ask.1.sum)
@[simp] abbrev b5g (a:Tp):=(sA 9 (mC (((a.step 9).step 6).step 25).ask.1.cards))
@[simp] abbrev b5f (a:Tp):=(sA 2 (mK (((a.step 9).step 6).step 25).ask.1.keys))
@[simp] abbrev b5e (a:Tp):=(iN (1+(((a.step 9).step 6).next 25)))
@[simp] abbrev a4C (a:Tp):=[[(iN (a.next 9)),(yL a),(b5r a),(b5q a),(b5p a),(b5o a),(b5n a),(b5m a),(b5l a),(b5k a),(b5j a),(b5i a),(b5h a),(b5g a),(b5f a),(b5e a)]]
@[simp] abbrev b6l (a:Nat) (b:List y9) (c:Tp):Heap:=[(o_ a 16 (List.map y9.row b)),(o_ 0 16 (a4C c))]
@[simp] abbrev a8Z (a:Tp):=[[(iI 9),(yL a),(b5r a),(b5q a),(b5p a),(b5o a),(b5n a),(b5m a),(b5l a),(b5k a),(b5j a),(b5i a),(b5h a),(b5g a),(b5f a),(b5e a)]]
@[simp] abbrev c7m (a:Nat) (b:List y9) (c:Tp):Heap:=[(o_ a 16 (List.map y9.row b)),(o_ 0 16 (a8Z c))]
@[simp] abbrev b5d (a:Tp):=(iI (((a.step 9).step 6).step 25).msg2.1.kind)
@[simp] abbrev b5c (a:Tp):=(iI (((a.step 9).step 6).step 25).msg2.1.op)
@[simp] abbrev b5b (a:Tp):=(iI (((a.step 9).step 6).step 25).msg2.1.status)
@[simp] abbrev b5a (a:Tp):=(iI (((a.step 9).step 6).step 25).msg2.1.code)
@[simp] abbrev b4Z (a:Tp):=(iI (((a.step 9).step 6).step 25).msg2.1.tag)
@[simp] abbrev b4Y (a:Tp):=(iI (((a.step 9).step 6).step 25).msg2.1.n)
@[simp] abbrev b4X (a:Tp):=(iI (((a.step 9).step 6).step 25).msg2.1.seq)
@[simp] abbrev b4W (a:Tp):=(AV.str (((a.step 9).step 6).step 25).msg2.1.key.app)
@[simp] abbrev b4V (a:Tp):=(AV.str (((a.step 9).step 6).step 25).msg2.1.key.id)
@[simp] abbrev b4U (a:Tp):=(bB (((a.step 9).step 6).step 25).msg2.1.full)
@[simp] abbrev b4T (a:Tp):=(AV.int .u32 (((a.step 9).step 6).step 25).msg2.1.sum)
@[simp] abbrev b4S (a:Tp):=(sA 9 (mC (((a.step 9).step 6).step 25).msg2.1.cards))
@[simp] abbrev b4R (a:Tp):=(sA 2 (mK (((a.step 9).step 6).step 25).msg2.1.keys))
@[simp] abbrev a4B (a:Tp):=[[(iN (a.next 9)),(yL a),(b5d a),(b5c a),(b5b a),(b5a a),(b4Z a),(b4Y a),(b4X a),(b4W a),(b4V a),(b4U a),(b4T a),(b4S a),(b4R a),(b5e a)]]
@[simp] abbrev b6k (a:Nat) (b:List y9) (c:Tp):Heap:=[(o_ a 16 (List.map y9.row b)),(o_ 0 16 (a4B c))]
@[simp] abbrev a8Y (a:Tp):=[[(iI 9),(yL a),(b5d a),(b5c a),(b5b a),(b5a a),(b4Z a),(b4Y a),(b4X a),(b4W a),(b4V a),(b4U a),(b4T a),(b4S a),(b4R a),(b5e a)]]
@[simp] abbrev c7l (a:Nat) (b:List y9) (c:Tp):Heap:=[(o_ a 16 (List.map y9.row b)),(o_ 0 16 (a8Y c))]
theorem jE {p:Prop} (h:p:=by first | omega | assumption | (simp only [Tp.Z6,Tp.c7d,Tp.b8P,Tp.rT]; assumption) | (simp; done) | (simp; omega)):p:=h
theorem zM {p:Prop} (h:p:=by first | omega | (show _ * 168<=_; omega) | (simp; omega)):p:=h
@[simp] abbrev vR :=(l9 Tryz.prog (X a0C) (x9 Tryz.f9 0))
@[simp] abbrev c5i (a:Tp):=[[(iI 9),(yL a),(b5r a),(b5q a),(b5p a),(b5o a),(b5n a),(b5m a),(b5l a),(b5k a),(b5j a),(b5i a),(b5h a),(b5g a),(b5f a),(iN ((((((a.step 9).step 6).step 25).ask.2.step 30).step 20).next 500))]]
@[simp] abbrev c5h (a:Tp):=[[(iN (a.next 9)),(yL a),(b5r a),(b5q a),(b5p a),(b5o a),(b5n a),(b5m a),(b5l a),(b5k a),(b5j a),(b5i a),(b5h a),(b5g a),(b5f a),(iN ((((((a.step 9).step 6).step 25).ask.2.step 30).step 20).next 500))]]
@[simp] abbrev c5g (a:Tp):=[[(iI 9),(yL a),(b5d a),(b5c a),(b5b a),(b5a a),(b4Z a),(b4Y a),(b4X a),(b4W a),(b4V a),(b4U a),(b4T a),(b4S a),(b4R a),(iN ((((((a.step 9).step 6).step 25).msg2.2.step 30).step 20).next 500))]]
@[simp] abbrev c5f (a:Tp):=[[(iN (a.next 9)),(yL a),(b5d a),(b5c a),(b5b a),(b5a a),(b4Z a),(b4Y a),(b4X a),(b4W a),(b4V a),(b4U a),(b4T a),(b4S a),(b4R a),(iN ((((((a.step 9).step 6).step 25).msg2.2.step 30).step 20).next 500))]]
@[reducible] def zQ:TI:={ d:=.struct [(3,0),(3,1),(33,2),(2,15)],size:=16,bytes:=168,zero:=[.int .i64 0,.int .i64 0,.int .i64 0,.int .i64 0,.int .i64 0,.int .i64 0,.int .i64 0,.int .i64 0,.int .i64 0,.str ⟨#[]⟩,.str ⟨#[]⟩,.bool false,.int .u32 0,.sl .nil 0 [],.sl .nil 0 [],.int .i64 0] }
theorem yP (tape:List Int) (nn:Nat) (t:Tp) (out:List y9) (k g:Nat) (hl:t.l.length < 9223372036854775808) (hk:k=out.length) (hkb:k < 1000) (hn:nn < 1000) {eX:Ex} {FX:Fr} {HX:Heap} (k1:(decide ((k:Int) < (nn:Int)))=true->(decide ((t.pos:Int) < (tape.length:Int)))=true->(decide (((t.next 9:Nat):Int) < 3))=true->((((((t.step 9).step 6).step 25).ask.2.next 30:Nat):Int) == 0)=true->(((((((t.step 9).step 6).step 25).ask.2.step 30).next 20:Nat):Int) == 0)=true->j6 vR (some [0,1,5,6]) (some [0,1,5,6]) (uQ tape nn g k) (c7v t g out) eX FX HX) (k2:(decide ((k:Int) < (nn:Int)))=true->(decide ((t.pos:Int) < (tape.length:Int)))=true->(decide (((t.next 9:Nat):Int) < 3))=true->((((((t.step 9).step 6).step 25).ask.2.next 30:Nat):Int) == 0)=true->(((((((t.step 9).step 6).step 25).ask.2.step 30).next 20:Nat):Int) == 0)=false->j6 vR (some [0,1,5,6]) (some [0,1,5,6]) (uQ tape nn g k) (c7u t g out) eX FX HX) (k3:(decide ((k:Int) < (nn:Int)))=true->(decide ((t.pos:Int) < (tape.length:Int)))=true->(decide (((t.next 9:Nat):Int) < 3))=true->((((((t.step 9).step 6).step 25).ask.2.next 30:Nat):Int) == 0)=false->(((((((t.step 9).step 6).step 25).ask.2.step 30).next 20:Nat):Int) == 0)=true->j6 vR (some [0,1,5,6]) (some [0,1,5,6]) (uQ tape nn g k) (c7t t g out) eX FX HX) (k4:(decide ((k:Int) < (nn:Int)))=true->(decide ((t.pos:Int) < (tape.length:Int)))=true->(decide (((t.next 9:Nat):Int) < 3))=true->((((((t.step 9).step 6).step 25).ask.2.next 30:Nat):Int) == 0)=false->(((((((t.step 9).step 6).step 25).ask.2.step 30).next 20:Nat):Int) == 0)=false->j6 vR (some [0,1,5,6]) (some [0,1,5,6]) (uQ tape nn g k) (c7s t g out) eX FX HX) (k5:(decide ((k:Int) < (nn:Int)))=true->(decide ((t.pos:Int) < (tape.length:Int)))=true->(decide (((t.next 9:Nat):Int) < 3))=false->((((((t.step 9).step 6).step 25).msg2.2.next 30:Nat):Int) == 0)=true->(((((((t.step 9).step 6).step 25).msg2.2.step 30).next 20:Nat):Int) == 0)=true->j6 vR (some [0,1,5,6]) (some [0,1,5,6]) (uQ tape nn g k) (c7r t g out) eX FX HX) (k6:(decide ((k:Int) < (nn:Int)))=true->(decide ((t.pos:Int) < (tape.length:Int)))=true->(decide (((t.next 9:Nat):Int) < 3))=false->((((((t.step 9).step 6).step 25).msg2.2.next 30:Nat):Int) == 0)=true->(((((((t.step 9).step 6).step 25).msg2.2.step 30).next 20:Nat):Int) == 0)=false->j6 vR (some [0,1,5,6]) (some [0,1,5,6]) (uQ tape nn g k) (c7q t g out) eX FX HX) (k7:(decide ((k:Int) < (nn:Int)))=true->(decide ((t.pos:Int) < (tape.length:Int)))=true->(decide (((t.next 9:Nat):Int) < 3))=false->((((((t.step 9).step 6).step 25).msg2.2.next 30:Nat):Int) == 0)=false->(((((((t.step 9).step 6).step 25).msg2.2.step 30).next 20:Nat):Int) == 0)=true->j6 vR (some [0,1,5,6]) (some [0,1,5,6]) (uQ tape nn g k) (c7p t g out) eX FX HX) (k8:(decide ((k:Int) < (nn:Int)))=true->(decide ((t.pos:Int) < (tape.length:Int)))=true->(decide (((t.next 9:Nat):Int) < 3))=false->((((((t.step 9).step 6).step 25).msg2.2.next 30:Nat):Int) == 0)=false->(((((((t.step 9).step 6).step 25).msg2.2.step 30).next 20:Nat):Int) == 0)=false->j6 vR (some [0,1,5,6]) (some [0,1,5,6]) (uQ tape nn g k) (c7o t g out) eX FX HX) (k9:(decide ((k:Int) < (nn:Int)))=true->(decide ((t.pos:Int) < (tape.length:Int)))=false->((.exit 0:Ex),(b6o tape nn g k),(b6n t g out))=(eX,FX,HX)) (k10:(decide ((k:Int) < (nn:Int)))=false->((.exit 0:Ex),(b6o tape nn g k),(b6n t g out))=(eX,FX,HX)):j6 vR (some [0,1,5,6]) (some [0,1,5,6]) (b6o tape nn g k) (b6n t g out) eX FX HX:=by
 have n25:=((t.step 9).step 6).next_lt 25 ow
 exact I9 (.r (.two (decide ((k:Int) < (nn:Int))) (fun h1 h1'=>(.u5 (.y 10 (.int .i64 ((List.length (List.map A9 tape):Nat):Int)) (iN tape.length) (Yes.len _ _ _) (.u (.g (.two (decide ((t.pos:Int) < (tape.length:Int))) (fun h2 h2'=>(.r (.ch 1 [(o_ 0 2 [(Tp.row (t.step 9))]),(o_ g 16 (List.map y9.row out)),(o_ 0 16 [[z_,z_,z_,z_,z_,z_,z_,z_,z_,e_,e_,bF,(AV.int .u32 0),(AV.sl .nil 0 []),(AV.sl .nil 0 []),z_]])] (F7 t 9 jE (b6m g out)) (.ch 3 [(o_ 0 2 [(Tp.row ((t.step 9).step 6))]),(o_ g 16 (List.map y9.row out)),(o_ 0 16 [[z_,z_,z_,z_,z_,z_,z_,z_,z_,e_,e_,bF,(AV.int .u32 0),(AV.sl .nil 0 []),(AV.sl .nil 0 []),z_]])] (F7 (t.step 9) 6 jE (b6m g out)) (.ch 5 [(o_ 0 2 [(Tp.row (((t.step 9).step 6).step 25))]),(o_ g 16 (List.map y9.row out)),(o_ 0 16 [[z_,z_,z_,z_,z_,z_,z_,z_,z_,e_,e_,bF,(AV.int .u32 0),(AV.sl .nil 0 []),(AV.sl .nil 0 []),z_]])] (F7 ((t.step 9).step 6) 25 jE (b6m g out)) (.y 6 (iW (1+((((t.step 9).step 6).next 25:Nat):Int))) (b5s t) Yes.o (.s (.g (.two (decide (((t.next 9:Nat):Int) < 3)) (fun h3 h3'=>(.r (.ch 1 [(o_ 0 2 [(Tp.row (((t.step 9).step 6).step 25).ask.2)]),(o_ g 16 (List.map y9.row out)),(o_ 0 16 [[(iN (t.next 9)),(iN ((t.step 9).next 6)),z_,z_,z_,z_,z_,z_,z_,e_,e_,bF,(AV.int .u32 0),(AV.sl .nil 0 []),(AV.sl .nil 0 []),(b5s t)]])] (c9a (((t.step 9).step 6).step 25) jE (c7n g out t)) (.s (.ch 1 [(o_ 0 2 [(Tp.row ((((t.step 9).step 6).step 25).ask.2.step 30))]),(o_ g 16 (List.map y9.row out)),(o_ 0 16 (a4C t))] (F7 (((t.step 9).step 6).step 25).ask.2 30 jE (b6l g out t)) (.g (.two ((((((t.step 9).step 6).step 25).ask.2.next 30:Nat):Int) == 0) (fun h4 h4'=>(.r (.s (.ch 1 [(o_ 0 2 [(Tp.row (((((t.step 9).step 6).step 25).ask.2.step 30).step 20))]),(o_ g 16 (List.map y9.row out)),(o_ 0 16 (a8Z t))] (F7 ((((t.step 9).step 6).step 25).ask.2.step 30) 20 jE (c7m g out t)) (.g (.two (((((((t.step 9).step 6).step 25).ask.2.step 30).next 20:Nat):Int) == 0) (fun h5 h5'=>(.r (.ch 1 [(o_ 0 2 [(Tp.row ((((((t.step 9).step 6).step 25).ask.2.step 30).step 20).step 500))]),(o_ g 16 (List.map y9.row out)),(o_ 0 16 (a8Z t))] (F7 (((((t.step 9).step 6).step 25).ask.2.step 30).step 20) 500 jE (c7m g out t)) (.s (.h' [(o_ 0 2 [(Tp.row ((((((t.step 9).step 6).step 25).ask.2.step 30).step 20).step 500))]),(o_ g 16 (List.map y9.row out)),(o_ 0 16 (c5i t))] (.ap 3 25 (AV.osl 1 g 16 0 k) (AV.sl .clip 16 (c5i t)) (yM g k) [(o_ 0 2 [(Tp.row ((((((t.step 9).step 6).step 25).ask.2.step 30).step 20).step 500))]),(o_ (g+1) 16 (List.map y9.row (out++[(y9.mk 9 (((t.step 9).next 6:Nat):Int) (((t.step 9).step 6).step 25).ask.1 (((((((t.step 9).step 6).step 25).ask.2.step 30).step 20).next 500:Nat):Int))]))),(o_ 0 16 (c5i t))] (G7 (row:=y9.row) (l:=out) (x:=(y9.mk 9 (((t.step 9).next 6:Nat):Int) (((t.step 9).step 6).step 25).ask.1 (((((((t.step 9).step 6).step 25).ask.2.step 30).step 20).next 500:Nat):Int))) (T:=tt) (e:=35) (te:=zQ) (z:=1) (b:=24) (y:=[.sl .nil 0 []]) kr kr rfl E5 E5 kr Y5 rfl rfl zM) (.h' (c7v t g out) (.b 2 (.g (.l (k1 h1 h2 h3 h4 h5))))))))))) (fun h5 h5'=>(.r (.ap 3 25 (AV.osl 1 g 16 0 k) (AV.sl .clip 16 (a8Z t)) (yM g k) [(o_ 0 2 [(Tp.row (((((t.step 9).step 6).step 25).ask.2.step 30).step 20))]),(o_ (g+1) 16 (List.map y9.row (out++[(y9.mk 9 (((t.step 9).next 6:Nat):Int) (((t.step 9).step 6).step 25).ask.1 ((1+(((t.step 9).step 6).next 25):Nat):Int))]))),(o_ 0 16 (a8Z t))] (G7 (row:=y9.row) (l:=out) (x:=(y9.mk 9 (((t.step 9).next 6:Nat):Int) (((t.step 9).step 6).step 25).ask.1 ((1+(((t.step 9).step 6).next 25):Nat):Int))) (T:=tt) (e:=35) (te:=zQ) (z:=1) (b:=24) (y:=[.sl .nil 0 []]) kr kr rfl E5 E5 kr Y5 rfl rfl zM) (.h' (c7u t g out) (.b 2 (.g (.l (k2 h1 h2 h3 h4 h5)))))))))))))) (fun h4 h4'=>(.r (.ch 1 [(o_ 0 2 [(Tp.row (((((t.step 9).step 6).step 25).ask.2.step 30).step 20))]),(o_ g 16 (List.map y9.row out)),(o_ 0 16 (a4C t))] (F7 ((((t.step 9).step 6).step 25).ask.2.step 30) 20 jE (b6l g out t)) (.g (.two (((((((t.step 9).step 6).step 25).ask.2.step 30).next 20:Nat):Int) == 0) (fun h5 h5'=>(.r (.ch 1 [(o_ 0 2 [(Tp.row ((((((t.step 9).step 6).step 25).ask.2.step 30).step 20).step 500))]),(o_ g 16 (List.map y9.row out)),(o_ 0 16 (a4C t))] (F7 (((((t.step 9).step 6).step 25).ask.2.step 30).step 20) 500 jE (b6l g out t)) (.s (.h' [(o_ 0 2 [(Tp.row ((((((t.step 9).step 6).step 25).ask.2.step 30).step 20).step 500))]),(o_ g 16 (List.map y9.row out)),(o_ 0 16 (c5h t))] (.ap 3 25 (AV.osl 1 g 16 0 k) (AV.sl .clip 16 (c5h t)) (yM g k) [(o_ 0 2 [(Tp.row ((((((t.step 9).step 6).step 25).ask.2.step 30).step 20).step 500))]),(o_ (g+1) 16 (List.map y9.row (out++[(y9.mk ((t.next 9:Nat):Int) (((t.step 9).next 6:Nat):Int) (((t.step 9).step 6).step 25).ask.1 (((((((t.step 9).step 6).step 25).ask.2.step 30).step 20).next 500:Nat):Int))]))),(o_ 0 16 (c5h t))] (G7 (row:=y9.row) (l:=out) (x:=(y9.mk ((t.next 9:Nat):Int) (((t.step 9).next 6:Nat):Int) (((t.step 9).step 6).step 25).ask.1 (((((((t.step 9).step 6).step 25).ask.2.step 30).step 20).next 500:Nat):Int))) (T:=tt) (e:=35) (te:=zQ) (z:=1) (b:=24) (y:=[.sl .nil 0 []]) kr kr rfl E5 E5 kr Y5 rfl rfl zM) (.h' (c7t t g out) (.b 2 (.g (.l (k3 h1 h2 h3 h4 h5))))))))))) (fun h5 h5'=>(.r (.ap 3 25 (AV.osl 1 g 16 0 k) (AV.sl .clip 16 (a4C t)) (yM g k) [(o_ 0 2 [(Tp.row (((((t.step 9).step 6).step 25).ask.2.step 30).step 20))]),(o_ (g+1) 16 (List.map y9.row (out++[(y9.mk ((t.next 9:Nat):Int) (((t.step 9).next 6:Nat):Int) (((t.step 9).step 6).step 25).ask.1 ((1+(((t.step 9).step 6).next 25):Nat):Int))]))),(o_ 0 16 (a4C t))] (G7 (row:=y9.row) (l:=out) (x:=(y9.mk ((t.next 9:Nat):Int) (((t.step 9).next 6:Nat):Int) (((t.step 9).step 6).step 25).ask.1 ((1+(((t.step 9).step 6).next 25):Nat):Int))) (T:=tt) (e:=35) (te:=zQ) (z:=1) (b:=24) (y:=[.sl .nil 0 []]) kr kr rfl E5 E5 kr Y5 rfl rfl zM) (.h' (c7s t g out) (.b 2 (.g (.l (k4 h1 h2 h3 h4 h5)))))))))))))))))))) (fun h3 h3'=>(.r (.ch 1 [(o_ 0 2 [(Tp.row (((t.step 9).step 6).step 25).msg2.2)]),(o_ g 16 (List.map y9.row out)),(o_ 0 16 [[(iN (t.next 9)),(iN ((t.step 9).next 6)),z_,z_,z_,z_,z_,z_,z_,e_,e_,bF,(AV.int .u32 0),(AV.sl .nil 0 []),(AV.sl .nil 0 []),(b5s t)]])] (c8X (((t.step 9).step 6).step 25) jE (c7n g out t)) (.s (.ch 1 [(o_ 0 2 [(Tp.row ((((t.step 9).step 6).step 25).msg2.2.step 30))]),(o_ g 16 (List.map y9.row out)),(o_ 0 16 (a4B t))] (F7 (((t.step 9).step 6).step 25).msg2.2 30 jE (b6k g out t)) (.g (.two ((((((t.step 9).step 6).step 25).msg2.2.next 30:Nat):Int) == 0) (fun h4 h4'=>(.r (.s (.ch 1 [(o_ 0 2 [(Tp.row (((((t.step 9).step 6).step 25).msg2.2.step 30).step 20))]),(o_ g 16 (List.map y9.row out)),(o_ 0 16 (a8Y t))] (F7 ((((t.step 9).step 6).step 25).msg2.2.step 30) 20 jE (c7l g out t)) (.g (.two (((((((t.step 9).step 6).step 25).msg2.2.step 30).next 20:Nat):Int) == 0) (fun h5 h5'=>(.r (.ch 1 [(o_ 0 2 [(Tp.row ((((((t.step 9).step 6).step 25).msg2.2.step 30).step 20).step 500))]),(o_ g 16 (List.map y9.row out)),(o_ 0 16 (a8Y t))] (F7 (((((t.step 9).step 6).step 25).msg2.2.step 30).step 20) 500 jE (c7l g out t)) (.s (.h' [(o_ 0 2 [(Tp.row ((((((t.step 9).step 6).step 25).msg2.2.step 30).step 20).step 500))]),(o_ g 16 (List.map y9.row out)),(o_ 0 16 (c5g t))] (.ap 3 25 (AV.osl 1 g 16 0 k) (AV.sl .clip 16 (c5g t)) (yM g k) [(o_ 0 2 [(Tp.row ((((((t.step 9).step 6).step 25).msg2.2.step 30).step 20).step 500))]),(o_ (g+1) 16 (List.map y9.row (out++[(y9.mk 9 (((t.step 9).next 6:Nat):Int) (((t.step 9).step 6).step 25).msg2.1 (((((((t.step 9).step 6).step 25).msg2.2.step 30).step 20).next 500:Nat):Int))]))),(o_ 0 16 (c5g t))] (G7 (row:=y9.row) (l:=out) (x:=(y9.mk 9 (((t.step 9).next 6:Nat):Int) (((t.step 9).step 6).step 25).msg2.1 (((((((t.step 9).step 6).step 25).msg2.2.step 30).step 20).next 500:Nat):Int))) (T:=tt) (e:=35) (te:=zQ) (z:=1) (b:=24) (y:=[.sl .nil 0 []]) kr kr rfl E5 E5 kr Y5 rfl rfl zM) (.h' (c7r t g out) (.b 2 (.g (.l (k5 h1 h2 h3 h4 h5))))))))))) (fun h5 h5'=>(.r (.ap 3 25 (AV.osl 1 g 16 0 k) (AV.sl .clip 16 (a8Y t)) (yM g k) [(o_ 0 2 [(Tp.row (((((t.step 9).step 6).step 25).msg2.2.step 30).step 20))]),(o_ (g+1) 16 (List.map y9.row (out++[(y9.mk 9 (((t.step 9).next 6:Nat):Int) (((t.step 9).step 6).step 25).msg2.1 ((1+(((t.step 9).step 6).next 25):Nat):Int))]))),(o_ 0 16 (a8Y t))] (G7 (row:=y9.row) (l:=out) (x:=(y9.mk 9 (((t.step 9).next 6:Nat):Int) (((t.step 9).step 6).step 25).msg2.1 ((1+(((t.step 9).step 6).next 25):Nat):Int))) (T:=tt) (e:=35) (te:=zQ) (z:=1) (b:=24) (y:=[.sl .nil 0 []]) kr kr rfl E5 E5 kr Y5 rfl rfl zM) (.h' (c7q t g out) (.b 2 (.g (.l (k6 h1 h2 h3 h4 h5)))))))))))))) (fun h4 h4'=>(.r (.ch 1 [(o_ 0 2 [(Tp.row (((((t.step 9).step 6).step 25).msg2.2.step 30).step 20))]),(o_ g 16 (List.map y9.row out)),(o_ 0 16 (a4B t))] (F7 ((((t.step 9).step 6).step 25).msg2.2.step 30) 20 jE (b6k g out t)) (.g (.two (((((((t.step 9).step 6).step 25).msg2.2.step 30).next 20:Nat):Int) == 0) (fun h5 h5'=>(.r (.ch 1 [(o_ 0 2 [(Tp.row ((((((t.step 9).step 6).step 25).msg2.2.step 30).step 20).step 500))]),(o_ g 16 (List.map y9.row out)),(o_ 0 16 (a4B t))] (F7 (((((t.step 9).step 6).step 25).msg2.2.step 30).step 20) 500 jE (b6k g out t)) (.s (.h' [(o_ 0 2 [(Tp.row ((((((t.step 9).step 6).step 25).msg2.2.step 30).step 20).step 500))]),(o_ g 16 (List.map y9.row out)),(o_ 0 16 (c5f t))] (.ap 3 25 (AV.osl 1 g 16 0 k) (AV.sl .clip 16 (c5f t)) (yM g k) [(o_ 0 2 [(Tp.row ((((((t.step 9).step 6).step 25).msg2.2.step 30).step 20).step 500))]),(o_ (g+1) 16 (List.map y9.row (out++[(y9.mk ((t.next 9:Nat):Int) (((t.step 9).next 6:Nat):Int) (((t.step 9).step 6).step 25).msg2.1 (((((((t.step 9).step 6).step 25).msg2.2.step 30).step 20).next 500:Nat):Int))]))),(o_ 0 16 (c5f t))] (G7 (row:=y9.row) (l:=out) (x:=(y9.mk ((t.next 9:Nat):Int) (((t.step 9).next 6:Nat):Int) (((t.step 9).step 6).step 25).msg2.1 (((((((t.step 9).step 6).step 25).msg2.2.step 30).step 20).next 500:Nat):Int))) (T:=tt) (e:=35) (te:=zQ) (z:=1) (b:=24) (y:=[.sl .nil 0 []]) kr kr rfl E5 E5 kr Y5 rfl rfl zM) (.h' (c7p t g out) (.b 2 (.g (.l (k7 h1 h2 h3 h4 h5))))))))))) (fun h5 h5'=>(.r (.ap 3 25 (AV.osl 1 g 16 0 k) (AV.sl .clip 16 (a4B t)) (yM g k) [(o_ 0 2 [(Tp.row (((((t.step 9).step 6).step 25).msg2.2.step 30).step 20))]),(o_ (g+1) 16 (List.map y9.row (out++[(y9.mk ((t.next 9:Nat):Int) (((t.step 9).next 6:Nat):Int) (((t.step 9).step 6).step 25).msg2.1 ((1+(((t.step 9).step 6).next 25):Nat):Int))]))),(o_ 0 16 (a4B t))] (G7 (row:=y9.row) (l:=out) (x:=(y9.mk ((t.next 9:Nat):Int) (((t.step 9).next 6:Nat):Int) (((t.step 9).step 6).step 25).msg2.1 ((1+(((t.step 9).step 6).next 25):Nat):Int))) (T:=tt) (e:=35) (te:=zQ) (z:=1) (b:=24) (y:=[.sl .nil 0 []]) kr kr rfl E5 E5 kr Y5 rfl rfl zM) (.h' (c7o t g out) (.b 2 (.g (.l (k8 h1 h2 h3 h4 h5))))))))))))))))))))))))))))) (fun h2 h2'=>(.l (k9 h1 h2))))))))) (fun h1 h1'=>(.n6 (.g (.n (.l (k10 h1))))))))
def mU (t:Tp):Msg × Tp:=if decide (((t.next 9:Nat):Int) < 3)=true then (((t.step 9).step 6).step 25).ask else (((t.step 9).step 6).step 25).msg2
def vG (t:Tp) (u:Msg × Tp):y9 × Tp:=(⟨if (((u.2.next 30:Nat):Int) == 0)=true then 9 else ((t.next 9:Nat):Int),(((t.step 9).next 6:Nat):Int),u.1,if ((((u.2.step 30).next 20:Nat):Int) == 0)=true then ((((u.2.step 30).step 20).next 500:Nat):Int) else ((1+(((t.step 9).step 6).next 25):Nat):Int)⟩,
 if ((((u.2.step 30).next 20:Nat):Int) == 0)=true then ((u.2.step 30).step 20).step 500 else (u.2.step 30).step 20)
def q20 (t:Tp):y9 × Tp:=vG t (mU t)
theorem d3u (t:Tp):(q20 t).2.l=t.l:=by
 have hm:(mU t).2.l=t.l:=by unfold mU; split <;> simp only [Tp.Z6,Tp.c7d,Tp.b8P]
 unfold q20 vG
 simp only
 split <;> simp only [Tp.Z6,hm]
def kG (len:Nat):Nat->Tp->List y9
 | 0,_=>[]
 | r+1,t=>if t.pos < len then (q20 t).1 :: kG len r (q20 t).2 else []
def a4m (len:Nat):Nat->Tp->Tp
 | 0,t=>t
 | r+1,t=>if t.pos < len then a4m len r (q20 t).2 else t
theorem c3z (len r:Nat):∀ (t:Tp),(kG len r t).length<=r:=by
 induction r with
 | zero=>intro t; exact Nat.le_refl 0
 | succ r ih=>intro t; unfold kG; split; exact Nat.succ_le_succ (ih _); exact Nat.zero_le _
theorem b5V (tape:List Int) (nn:Nat) (hn:nn < 1000) (r:Nat):∀ (t:Tp) (out:List y9) (k g kF gF:Nat),t.l.length < 9223372036854775808->k=out.length->k+r=nn->kF=k+(kG tape.length r t).length->gF=g+(kG tape.length r t).length ->
 j6 (l9 Tryz.prog (X a0C) (x9 Tryz.f9 0)) (some [0,1,5,6]) (some [0,1,5,6]) (mkF 56 [(0,(sA 1 (List.map A9 tape))),(1,(iN nn)),(5,(oO 0 0 0 0)),(6,(AV.osl 1 g 16 0 k))]) [(o_ 0 2 [(Tp.row t)]),(o_ g 16 (List.map y9.row out))] (.exit 0) (mkF 56 [(0,(sA 1 (List.map A9 tape))),(1,(iN nn)),(5,(oO 0 0 0 0)),(6,(AV.osl 1 gF 16 0 kF))]) [(o_ 0 2 [(Tp.row (a4m tape.length r t))]),(o_ gF 16 (List.map y9.row (out++kG tape.length r t)))]:=by
 induction r with
 | zero =>
  intro t out k g kF gF hl hk hr h1 h2
  have e:kG tape.length 0 t=[]:=rfl
  rw [e] at h1 h2 ⊢
  simp only [List.length_nil,Nat.add_zero,List.append_nil] at h1 h2 ⊢
  rw [h1,h2]
  refine yP tape nn t out k g hl hk ow hn (fun h _ _ _ _=>absurd (of_decide_eq_true h) ow) (fun h _ _ _ _=>absurd (of_decide_eq_true h) ow) (fun h _ _ _ _=>absurd (of_decide_eq_true h) ow) (fun h _ _ _ _=>absurd (of_decide_eq_true h) ow) (fun h _ _ _ _=>absurd (of_decide_eq_true h) ow) (fun h _ _ _ _=>absurd (of_decide_eq_true h) ow) (fun h _ _ _ _=>absurd (of_decide_eq_true h) ow) (fun h _ _ _ _=>absurd (of_decide_eq_true h) ow) (fun h _=>absurd (of_decide_eq_true h) ow) fun _=>rfl
 | succ r ih =>
  intro t out k g kF gF hl hk hr h1 h2
  by_cases hp:t.pos < tape.length
  · have e:kG tape.length (r+1) t=(q20 t).1 :: kG tape.length r (q20 t).2:=if_pos hp
    have e2:a4m tape.length (r+1) t=a4m tape.length r (q20 t).2:=if_pos hp
    rw [e] at h1 h2 ⊢
    rw [e2]
    simp only [List.length_cons] at h1 h2
    have q:=ih (q20 t).2 (out++[(q20 t).1]) (k+1) (g+1) kF gF (by rw [d3u]; exact hl) rV ow ow ow
    rw [List.append_assoc] at q
    refine yP tape nn t out k g hl hk ow hn (fun _ _ h3 h4 h5=>?_) (fun _ _ h3 h4 h5=>?_) (fun _ _ h3 h4 h5=>?_) (fun _ _ h3 h4 h5=>?_) (fun _ _ h3 h4 h5=>?_) (fun _ _ h3 h4 h5=>?_) (fun _ _ h3 h4 h5=>?_) (fun _ _ h3 h4 h5=>?_) (fun _ h=>absurd (of_decide_eq_false h) ow) (fun h=>absurd (of_decide_eq_false h) ow)
    · have e1:mU t=(((t.step 9).step 6).step 25).ask:=if_pos h3
      have e:q20 t=((y9.mk 9 (((t.step 9).next 6:Nat):Int) (((t.step 9).step 6).step 25).ask.1 (((((((t.step 9).step 6).step 25).ask.2.step 30).step 20).next 500:Nat):Int)),((((((t.step 9).step 6).step 25).ask.2.step 30).step 20).step 500)):=by unfold q20 vG; rw [e1]; simp only [h4,h5,if_true,Bool.false_eq_true,if_false]
      rw [e] at q ⊢
      exact q
    · have e1:mU t=(((t.step 9).step 6).step 25).ask:=if_pos h3
      have e:q20 t=((y9.mk 9 (((t.step 9).next 6:Nat):Int) (((t.step 9).step 6).step 25).ask.1 ((1+(((t.step 9).step 6).next 25):Nat):Int)),(((((t.step 9).step 6).step 25).ask.2.step 30).step 20)):=by unfold q20 vG; rw [e1]; simp only [h4,h5,if_true,Bool.false_eq_true,if_false]
      rw [e] at q ⊢
      exact q
    · have e1:mU t=(((t.step 9).step 6).step 25).ask:=if_pos h3
      have e:q20 t=((y9.mk ((t.next 9:Nat):Int) (((t.step 9).next 6:Nat):Int) (((t.step 9).step 6).step 25).ask.1 (((((((t.step 9).step 6).step 25).ask.2.step 30).step 20).next 500:Nat):Int)),((((((t.step 9).step 6).step 25).ask.2.step 30).step 20).step 500)):=by unfold q20 vG; rw [e1]; simp only [h4,h5,if_true,Bool.false_eq_true,if_false]
      rw [e] at q ⊢
      exact q
    · have e1:mU t=(((t.step 9).step 6).step 25).ask:=if_pos h3
      have e:q20 t=((y9.mk ((t.next 9:Nat):Int) (((t.step 9).next 6:Nat):Int) (((t.step 9).step 6).step 25).ask.1 ((1+(((t.step 9).step 6).next 25):Nat):Int)),(((((t.step 9).step 6).step 25).ask.2.step 30).step 20)):=by unfold q20 vG; rw [e1]; simp only [h4,h5,if_true,Bool.false_eq_true,if_false]
      rw [e] at q ⊢
      exact q
    · have e1:mU t=(((t.step 9).step 6).step 25).msg2:=if_neg xA
      have e:q20 t=((y9.mk 9 (((t.step 9).next 6:Nat):Int) (((t.step 9).step 6).step 25).msg2.1 (((((((t.step 9).step 6).step 25).msg2.2.step 30).step 20).next 500:Nat):Int)),((((((t.step 9).step 6).step 25).msg2.2.step 30).step 20).step 500)):=by unfold q20 vG; rw [e1]; simp only [h4,h5,if_true,Bool.false_eq_true,if_false]
      rw [e] at q ⊢
      exact q
    · have e1:mU t=(((t.step 9).step 6).step 25).msg2:=if_neg xA
      have e:q20 t=((y9.mk 9 (((t.step 9).next 6:Nat):Int) (((t.step 9).step 6).step 25).msg2.1 ((1+(((t.step 9).step 6).next 25):Nat):Int)),(((((t.step 9).step 6).step 25).msg2.2.step 30).step 20)):=by unfold q20 vG; rw [e1]; simp only [h4,h5,if_true,Bool.false_eq_true,if_false]
      rw [e] at q ⊢
      exact q
    · have e1:mU t=(((t.step 9).step 6).step 25).msg2:=if_neg xA
      have e:q20 t=((y9.mk ((t.next 9:Nat):Int) (((t.step 9).next 6:Nat):Int) (((t.step 9).step 6).step 25).msg2.1 (((((((t.step 9).step 6).step 25).msg2.2.step 30).step 20).next 500:Nat):Int)),((((((t.step 9).step 6).step 25).msg2.2.step 30).step 20).step 500)):=by unfold q20 vG; rw [e1]; simp only [h4,h5,if_true,Bool.false_eq_true,if_false]
      rw [e] at q ⊢
      exact q
    · have e1:mU t=(((t.step 9).step 6).step 25).msg2:=if_neg xA
      have e:q20 t=((y9.mk ((t.next 9:Nat):Int) (((t.step 9).next 6:Nat):Int) (((t.step 9).step 6).step 25).msg2.1 ((1+(((t.step 9).step 6).next 25):Nat):Int)),(((((t.step 9).step 6).step 25).msg2.2.step 30).step 20)):=by unfold q20 vG; rw [e1]; simp only [h4,h5,if_true,Bool.false_eq_true,if_false]
      rw [e] at q ⊢
      exact q
  · have e:kG tape.length (r+1) t=[]:=if_neg hp
    have e2:a4m tape.length (r+1) t=t:=if_neg hp
    rw [e] at h1 h2 ⊢
    rw [e2]
    simp only [List.length_nil,Nat.add_zero,List.append_nil] at h1 h2 ⊢
    rw [h1,h2]
    exact yP tape nn t out k g hl hk ow hn (fun _ h _ _ _=>absurd (of_decide_eq_true h) ow) (fun _ h _ _ _=>absurd (of_decide_eq_true h) ow) (fun _ h _ _ _=>absurd (of_decide_eq_true h) ow) (fun _ h _ _ _=>absurd (of_decide_eq_true h) ow) (fun _ h _ _ _=>absurd (of_decide_eq_true h) ow) (fun _ h _ _ _=>absurd (of_decide_eq_true h) ow) (fun _ h _ _ _=>absurd (of_decide_eq_true h) ow) (fun _ h _ _ _=>absurd (of_decide_eq_true h) ow) (fun _ _=>rfl) (fun _=>rfl)
def l8 (tape:List Int) (n:Nat):List y9:=kG tape.length n ⟨tape,0⟩
theorem a3z (tape:List Int) (n:Nat):(l8 tape n).length<=n:=c3z _ _ _
@[simp] abbrev c7k (a:List Int) (b:Nat):Fr:=(mkF 56 [(0,(yN a)),(1,(iN b)),(5,(oO 0 0 0 0)),(6,(AV.osl 1 (l8 a b).length 16 0 (l8 a b).length))])
@[simp] abbrev c7j (a:List Int) (b:Nat):Heap:=[(o_ 0 2 [(Tp.row (a4m a.length b ⟨a,0⟩))]),(o_ ((l8 a b).length) 16 (List.map y9.row (l8 a b)))]
theorem b5U (tape:List Int) (nn:Nat) (hl:tape.length < 9223372036854775808) (hn:nn < 1000):AC 9 [(yN tape),(iN nn)] [] ((sA 16 (List.map y9.row (l8 tape nn))),[]):=by
 have hal:=a3z tape nn
 exact r9 (fn:=Tryz.f9) (ann:=a0C) (Has.o Tryz.func9) (.r (.s (.s (.g (.loop (c7k tape nn) (show j6 vR (some [0,1,5,6]) (some [0,1,5,6]) (mkF 56 [(0,(yN tape)),(1,(iN nn)),(5,(oO 0 0 0 0)),(6,(AV.osl 1 0 16 0 0))]) [(o_ 0 2 [[(yN tape),z_]]),(o_ 0 16 (List.map y9.row []))] (.exit 0) (c7k tape nn) (c7j tape nn) from (b5V tape nn hn nn ⟨tape,0⟩ [] 0 0 (l8 tape nn).length (l8 tape nn).length hl rfl ow (Nat.zero_add _).symm (Nat.zero_add _).symm)) (.r (.w 6 (List.map y9.row (l8 tape nn)) (And.intro (G8 (room:=none) kr om) (y9.y8 _ _):G6 (c7j tape nn) 16 (AV.osl 1 (l8 tape nn).length 16 0 (l8 tape nn).length)=some (List.map y9.row (l8 tape nn))/\AV.D7 0 (List.map y9.row (l8 tape nn))=true) (.h' [] (.b 0 (.q 0 (sA 16 (List.map y9.row (l8 tape nn)))))))))))))
end Go.Proofs.YtmghjcbabebanaaGreat.AM
namespace Go.Proofs.YtmghjcbabebanaaGreat.AM
open Go
attribute [local irreducible] A8 C8 E9 F6 H9 J2 L8 O5 R4 d9 jL l7 maxS
structure CRI (n:Nat) (b:Int) (s:SS):Prop where
 i:SSI n b s
 st:eZ n s.d
theorem CRI.mono {n m:Nat} {b c:Int} {s:SS} (h:CRI n b s) (hm:n<=m) (hb:b<=c):CRI m c s :=
 ⟨⟨h.i.d.mono hm,h.i.hn,Int.le_trans h.i.hn2 hb,h.i.hq,h.i.hs0,h.i.hs1⟩,h.st.mono hm⟩
theorem CRI.rc {n:Nat} {b:Int} {s:SS} (h:CRI n b s) (hn:n < 90000):b7i s:=⟨h.i.d.len,Nat.lt_of_le_of_lt h.i.d.al hn,h.i.d.g0,h.i.d.g1,h.i.hq⟩
def inI (m n:Nat) (s:List Entry × List Key × List j5 × Nat):Prop:=aR s.1/\s.1.length<=32/\s.2.1.length<=n/\∀ e∈s.1,stB m e.card.stamp
theorem c9L {m n:Nat} {now:Int} {s:l9E × l9K × l9C × Nat} (h:inI m n s) {c:j5} (hc:stB m c.stamp):inI m (n+1) (aX now s c):=by
 obtain ⟨h1,h2,h3,h4⟩:=h
 have hput:∀ x:Entry,stB m x.card.stamp->∀ e∈F6 (q9 32) s.1 x,stB m e.card.stamp:=fun x hx e he=>by
  rcases sN he with rfl | he
  · exact hx
  · exact h4 e he
 have hs:inI m (n+1) s:=⟨h1,h2,by omega,h4⟩
 unfold aX
 split
 · split
   · rename_i hf
     split
     · refine ⟨mV h1 _,a0Y _ h2,by show s.2.1.length<=n+1; omega,hput ⟨(l7 s.1 c.key).card,now⟩ (show stB m (l7 s.1 c.key).card.stamp from h4 _ (bY hf.1).1)⟩
     · exact hs
   · exact ⟨mV h1 _,a0Y _ h2,Nat.le_trans (sH s.1 _ s.2.1) ya_,hput _ hc⟩
 · exact hs
theorem b1C {m:Nat} {now:Int}:∀ (cs:l9C) (n:Nat) (s:l9E × l9K × l9C × Nat),inI m n s->(∀ c∈cs,stB m c.stamp)->inI m (n+cs.length) (cs.foldl (aX now) s)
 | [],n,s,h,_=>h
 | c :: cs,n,s,h,hc=>by
  have:=b1C (now:=now) cs (n+1) _ (c9L (now:=now) h (hc c ye_)) fun x hx=>hc x (by simp [hx])
  rw [List.foldl_cons,List.length_cons,show n+(cs.length+1)=n+1+cs.length by omega]
  exact this
theorem c9M {m n:Nat} {now:Int} {cs:l9C} {l:l9E} {al:l9K} (h1:aR l) (h2:l.length<=32) (h3:al.length<=n) (h4:∀ e∈l,stB m e.card.stamp) (hc:∀ c∈cs,stB m c.stamp):inI m (n+cs.length) (M0 now cs l al):=by
 unfold M0
 exact b1C cs n _ ⟨h1,h2,h3,h4⟩ hc
attribute [local irreducible] M0 iJ iK
theorem a7J {n:Nat} {b nd p:Int} {s:SS} {q:Msg} (h:CRI n b s) (hn:n < 80000) (hq:∀ c∈q.cards,stB 9 c.stamp):CRI (n+65) b (w9 nd p s q):=by
 unfold w9
 cases hr:R4 q with
 | false=>rw [if_neg ye_]; exact h.mono ya_ (Int.le_refl _)
 | true =>
  rw [if_pos rfl]
  obtain ⟨b1,b2,b3,b4⟩:=b8O hr
  split
  · obtain ⟨hd,_⟩:=b9L h.st ya_ nd q s.now
    exact ⟨⟨hd.ok.mono ya_,h.i.hn,h.i.hn2,wG _ _ _ _ _ h.i.hq,h.i.hs0,h.i.hs1⟩,hd.mono ya_⟩
  · split
    · obtain ⟨i1,i2,i3,i4⟩:=c9M (now:=s.now) h.i.d.srt h.i.d.len h.i.d.al h.st.l (cs:=q.cards) fun c hc=>(hq c hc).mono ya_
      have hok:aG (n+65) ⟨(M0 s.now q.cards s.d.l s.d.al).1,iJ s.now q.cards s.d.l s.d.g s.d.al s.d.ga,(M0 s.now q.cards s.d.l s.d.al).2.1,iK s.now q.cards s.d.l s.d.g s.d.al s.d.ga,s.d.gf,s.d.gl,s.d.gt,s.d.st⟩ :=
       ⟨i1,i2,Nat.le_trans i3 ya_,h.i.d.g0,h.i.d.g1⟩
      exact ⟨⟨hok,h.i.hn,h.i.hn2,h.i.hq,h.i.hs0,h.i.hs1⟩,⟨hok,fun e he=>(i4 e he).mono ya_,h.st.st.mono ya_⟩⟩
    · exact h.mono ya_ (Int.le_refl _)
theorem c3x (nd p:Int) (s:SS) (q:Msg):(w9 nd p s q).now=s.now:=by
 unfold w9
 split
 · split
   · rfl
   · split <;> rfl
 · rfl
theorem d3r {n:Nat} {s:DS} (h:eZ n s) (hn:n < 90000) (nd now:Int) (k:Key):eZ (n+1) (swS nd now s k):=by
 have p:=a5w (now:=now) (a1W h.st (h.get k)) ya_ nd
 exact h.set (x:=swX nd now s k) p.1 p.1
theorem c6X (nd now:Int):∀ (ks:l9K) {n:Nat} {s:DS},eZ n s->n+ks.length < 90000->eZ (n+ks.length) (swF nd now ks s)
 | [],n,s,h,_=>h
 | k :: ks,n,s,h,hn=>by
  simp only [List.length_cons] at hn ⊢
  have:=c6X nd now ks (d3r h ya_ nd now k) ya_
  rw [show n+(ks.length+1)=n+1+ks.length by omega]
  exact this
theorem d3s {n:Nat} {s:DS} (h:eZ n s) (hn:n < 80000) (nd now swept:Int):eZ (n+32) (stP nd now swept s):=by
 have ht:eZ n (stT now s):=⟨zU h.ok now,h.l,h.st⟩
 have hk:=a7i h.ok now swept
 have hw:eZ (n+32) (stW nd now swept s):=(c6X nd (d9 (now+1)) (stK now swept s) ht ya_).mono ya_
 have hs:=a8A (O4 (stW nd now swept s).l (d9 (now+1))) (stW nd now swept s).l
 exact ⟨b7H h.ok nd now swept,fun e he=>hw.l e (hs.subset he),hw.st⟩
theorem CRI.step {n:Nat} {b:Int} {s:SS} (h:CRI n b s) (hn:n < 80000) (nd p:Int):CRI (n+32) (b+1) (E8 nd p s):=by
 refine ⟨h.i.step nd p,?_⟩
 unfold E8
 split
 · exact d3s h.st hn nd s.now s.swept
 · exact eZ.mono (n:=n) ⟨zU h.st.ok s.now,h.st.l,h.st.st⟩ ya_
theorem b7D (nd p:Int) (s:SS):(E8 nd p s).now=s.now+1:=by unfold E8; split <;> rfl
theorem b7u (nd p:Int) (m n0:Nat) (b0:Int) (s:SS) (hI:CRI n0 b0 s) (hm:n0+32 * m < 80000):CRI (n0+32 * m) (b0+(m:Int)) (j3 nd p m n0 b0 s).1/\(j3 nd p m n0 b0 s).1.now=s.now+(m:Int):=by
 have h:=sQ (a2x nd p m n0 b0) (fun i t=>CRI (n0+32 * i) (b0+(i:Int)) t.1/\t.1.now=s.now+(i:Int)) m (fun i t hi ht=>by
  refine ⟨?_,?_⟩
  · show CRI _ _ (E8 nd p t.1)
    exact (ht.1.step ya_ nd p).mono ya_ ya_
  · show (E8 nd p t.1).now=_
    rw [b7D,ht.2]; omega) m 0 (s,[],0,0) ya_ ⟨by simpa using hI,by simp⟩
 simp only [Nat.zero_add] at h
 unfold j3
 exact h
theorem a0A:∀ (n:Nat) (t:Tp),∀ c∈t.cards n,stB 9 c.stamp
 | 0,t,c,h=>by simp [Tp.cards] at h
 | n+1,t,c,h=>by
  simp only [Tp.cards,List.mem_cons] at h
  rcases h with rfl | h
  · exact c2H _
  · exact a0A n _ c h
theorem b1j (t:Tp):t.ask.1.cards=[]:=by
 unfold Tp.ask
 simp only
 split <;> rfl
attribute [local irreducible] Tp.card Tp.J8 Tp.next Tp.step Tp.cards Tp.H7 Tp.key Tp.keyT Tp.dL Tp.qO
theorem c3H (t:Tp):∀ c∈t.msg2.1.cards,stB 9 c.stamp:=by
 by_cases h1:(((1+t.next 5:Nat):Int) == 1)=true
 · have e:t.msg2.1.cards=[]:=by unfold Tp.msg2; rw [if_pos h1]; rfl
   rw [e]; intro c hc; exact absurd hc ye_
 by_cases h2:(((1+t.next 5:Nat):Int) == 2)=true
 · have e:∃ n u,t.msg2.1.cards=Tp.cards u n:=by unfold Tp.msg2; rw [if_neg h1,if_pos h2]; exact ⟨_,_,rfl⟩
   obtain ⟨n,u,e⟩:=e
   rw [e]; exact a0A n u
 by_cases h3:(((1+t.next 5:Nat):Int) == 5)=true
 · have e:t.msg2.1.cards=[]:=by unfold Tp.msg2; rw [if_neg h1,if_neg h2,if_pos h3]
   rw [e]; intro c hc; exact absurd hc ye_
 · have e:∃ n u,t.msg2.1.cards=Tp.cards u n:=by unfold Tp.msg2; rw [if_neg h1,if_neg h2,if_neg h3]; exact ⟨_,_,rfl⟩
   obtain ⟨n,u,e⟩:=e
   rw [e]; exact a0A n u
attribute [local irreducible] Tp.msg2
theorem c9q (t:Tp):∀ c∈(q20 t).1.m.cards,stB 9 c.stamp:=by
 show ∀ c∈(mU t).1.cards,stB 9 c.stamp
 unfold mU
 split
 · rw [b1j]; intro c hc; exact absurd hc ye_
 · exact c3H _
theorem a3y (tape:List Int) (n:Nat):∀ a∈l8 tape n,∀ c∈a.m.cards,stB 9 c.stamp:=by
 have key:∀ (r:Nat) (t:Tp) (a:y9),a∈kG tape.length r t->∀ c∈a.m.cards,stB 9 c.stamp:=by
  intro r
  induction r with
  | zero=>intro t a h; simp [kG] at h
  | succ r ih =>
   intro t a h
   unfold kG at h
   split at h
   · rcases List.mem_cons.1 h with rfl | h
     · exact c9q _
     · exact ih _ _ h
   · simp at h
 exact key n _
def sv0 (nd:Int):SS:=⟨⟨[],0,[],0,0,0,0,⟨0,nd,0⟩⟩,[],0,0,0,0⟩
theorem a6w (nd:Int):CRI 0 0 (sv0 nd) :=
 have hd:aG 0 (sv0 nd).d:=⟨a7j,by simp [sv0],by simp [sv0],by simp [sv0],by simp [sv0]⟩
 ⟨⟨hd,by simp [sv0],by simp [sv0],by simp [sv0],by simp [sv0],by simp [sv0]⟩,⟨hd,by simp [sv0],⟨by simp [sv0],by simp [sv0],by simp [sv0]⟩⟩⟩
def crS (s:SS):SS:=⟨⟨[],0,[],0,d9 s.now,0,0,s.d.st⟩,[],0,0,s.now,s.now⟩
theorem c7c {n:Nat} {b:Int} {s:SS} (h:CRI n b s):CRI n b (crS s) :=
 have hd:aG n (crS s).d:=⟨a7j,by simp [crS],by simp [crS],by simp [crS],by simp [crS]⟩
 ⟨⟨hd,h.i.hn,h.i.hn2,by simp [crS],h.i.hn,Int.le_refl _⟩,⟨hd,by simp [crS],h.st.st⟩⟩
def H8:Msg:=⟨1,1,1,0,0,5,0,⟨⟨#[97]⟩,⟨#[98]⟩⟩,false,0,[],[]⟩
theorem d0l {a:p9} (ha:0<=a.t/\0<=a.n):(maxS a ⟨0,0,0⟩).t >= a.t/\(maxS a ⟨0,0,0⟩).n >= a.n:=by
 unfold maxS
 split
 · exact ⟨Int.le_refl _,Int.le_refl _⟩
 · rename_i h
   rw [rZ] at h
   simp only at h ⊢
   omega
theorem c9k {n:Nat} {b:Int} {s:SS} (h:CRI n b s) (hn:n < 80000):∃ x:Entry,(hdD 2 (crS s).d H8 (crS s).now).s.l=[x]/\(x.card.stamp.n > s.d.st.n/\x.card.stamp.t >= s.d.st.t/\x.card.stamp.node=2):=by
 have hr:R4 H8=true:=by with_unfolding_all rfl
 have e1:hdD 2 (crS s).d H8 (crS s).now=⟨hdM H8 (tuR [] 0 [] 0 0 2 s.d.st H8 (d9 s.now)).code,(tuR [] 0 [] 0 0 2 s.d.st H8 (d9 s.now)).c,(crS s).d.turn 2 H8 (d9 s.now)⟩:=by
  unfold hdD
  rw [if_pos ⟨rfl,hr⟩,if_neg E5]
  rfl
 have hf:A8 [] H8.key=false:=by with_unfolding_all rfl
 have hg:l7 [] H8.key=zE:=by with_unfolding_all (unfold l7; rw [if_neg (by rw [hf]; simp)])
 have hq:jH H8:=⟨by decide,by decide,.inl rfl⟩
 have e2:((crS s).d.turn 2 H8 (d9 s.now)).l=F6 (q9 32) [] (J5 H8 zE false s.d.st (d9 s.now) 2):=by
  show (tuR [] 0 [] 0 0 2 s.d.st H8 (d9 s.now)).l=_
  unfold tuR
  rw [if_pos (show H8.op=1 from rfl)]
  show mR [] H8 (J5 H8 (l7 [] H8.key) (A8 [] H8.key) s.d.st (d9 s.now) 2)=_
  unfold mR
  rw [if_pos hq,hg,hf]
 have e3:∀ x:Entry,F6 (q9 32) [] x=[x]:=fun x=>by
  have hx:A8 [] x.card.key=false:=by with_unfolding_all rfl
  have hp:E9 [] x.card.key=0:=by with_unfolding_all rfl
  unfold F6
  rw [if_neg yn_,if_neg (by rw [b5P]; simp),hp]
  rfl
 refine ⟨J5 H8 zE false s.d.st (d9 s.now) 2,by rw [e1]; exact e2.trans (e3 _),?_⟩
 have hs:=h.st.st
 have hm:=d0l (a:=s.d.st) ⟨hs.1,hs.2.1⟩
 have hz:zE.card.stamp=⟨0,0,0⟩:=rfl
 have hb:=a1W hs (b:=⟨0,0,0⟩) ⟨by decide,by decide,by simp; omega⟩
 have e4:(J5 H8 zE false s.d.st (d9 s.now) 2).card.stamp=C8 (maxS s.d.st ⟨0,0,0⟩) (d9 s.now) 2:=rfl
 have e5:C8 (maxS s.d.st ⟨0,0,0⟩) (d9 s.now) 2=⟨max (maxS s.d.st ⟨0,0,0⟩).t (d9 s.now),2,(maxS s.d.st ⟨0,0,0⟩).n+1⟩:=by
  obtain ⟨b1,b2,b3⟩:=hb
  have:IntKind.i64.wrap ((maxS s.d.st ⟨0,0,0⟩).n+1)=(maxS s.d.st ⟨0,0,0⟩).n+1:=sV ya_ ya_
  unfold C8; rw [if_pos ya_,this]
 rw [e4,e5]
 exact ⟨by simp only; omega,by simp only; omega,rfl⟩
theorem c9V (s:SS):(crS s).now=s.now:=rfl
theorem d3C (s:SS):(crS s).d.l=[]:=rfl
theorem d0s (s:SS):(crS s).d.st=s.d.st:=rfl
theorem c3w (nd p:Int) (s:SS):(w9 nd p s H8).d.l=(hdD nd s.d H8 s.now).s.l:=by
 have hr:R4 H8=true:=by with_unfolding_all rfl
 unfold w9
 rw [if_pos hr,if_pos (show H8.kind=1 from rfl)]
theorem c0E {n:Nat} {b:Int} {s:SS} (h:CRI n b s) (hn:n < 80000) (p:Int):∃ x:Entry,(w9 2 p (crS s) H8).d.l=[x]/\(x.card.stamp.n > s.d.st.n/\x.card.stamp.t >= s.d.st.t/\x.card.stamp.node=2):=by
 rw [c3w]
 exact c9k h hn
end Go.Proofs.YtmghjcbabebanaaGreat.AM
