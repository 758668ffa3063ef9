/-
  Part 8 of 8: an abstract machine over the model; walks; plain laws.
-/
import Derived.Test.YtmghjcbabebanaaGreatMServerTicks7
import Derived.Below
import Derived.Carry
import Derived.ChangeSlices
set_option maxRecDepth 100000
set_option linter.unusedVariables false
set_option linter.unusedSimpArgs false
namespace Go.Proofs.YtmghjcbabebanaaGreat.AM
open Go Go.Proofs.YtmghjcbabebanaaGreat
attribute [local irreducible] D9 E5 E8 E9 H6 K5 M7 N9 P8 R4 U1 Y7 Z8 cB fZ gB gT hdD j5 j6 l6 l8 maxS q2A rW st2 stC stP stW swC swF tkF tkL tkT
def b6i:Ann:={ refs:=[5],base:=13,fin:=some 13 }
theorem b3h (nd p1 p2:Int) (s:S2) (f:Int) (q:Msg) (hr:R4 q=false):AC 10 [(j3 12),(iI f),(p9 (Msg.row q))] (P9 s nd p1 p2) (w9,(P9 s nd p1 p2)) :=
 x9 (fn:=Tryz.f10) (ann:=b6i) (Has.o Tryz.func10) (.r (.s (.c 1 (d6H q oa (P9 s nd p1 p2)) (.g (.u (.qr 13 w9))))))
def b6k:Ann:={ refs:=[5],base:=13,fin:=some 13 }
theorem b3j (nd p1 p2:Int) (s:S2) (f:Int) (q:Msg) (hr:R4 q=true) (hk:q.kind=2):AC 10 [(j3 12),(iI f),(p9 (Msg.row q))] (P9 s nd p1 p2) (w9,(P9 s nd p1 p2)) :=
 x9 (fn:=Tryz.f10) (ann:=b6k) (Has.o Tryz.func10) (.r (.s (.c 1 ((cK q oa).lift kr kr (P9 s nd p1 p2)) (.rn (.s (.y 0 (bB (q.kind == 1)) bF (Yes.b bY) (.rn (.y 0 (bB (q.kind == 3)) bF (Yes.b bY) (.rn (.y 0 (bB (q.kind == 4)) bF (Yes.b bY) (.rn (.y 0 (bB (q.kind == 5)) bF (Yes.b bY) (.g (.n (.qr 13 w9)))))))))))))))
def b3f:Ann:={ refs:=[5],base:=13,fin:=some 13 }
theorem a9W (nd p1 p2:Int) (s:S2) (f:Int) (q:Msg) (hr:R4 q=true) (hk:q.kind=5) (hl:s.d.l.length < 1000) (hq:q.keys.length < 1000):AC 10 [(j3 12),(iI f),(p9 (Msg.row q))] (P9 s nd p1 p2) ((sA 14 ((D9 f (gT (s.d.l.map Entry.card) q.keys)).map u7.row)),(P9 s nd p1 p2)) :=
 x9 (fn:=Tryz.f10) (ann:=b3f) (Has.o Tryz.func10) (.r (.s (.c 1 ((cK q oa).lift kr kr (P9 s nd p1 p2)) (.rn (.s (.y 0 (bB (q.kind == 1)) bF (Yes.b bY) (.rn (.y 0 (bB (q.kind == 3)) bF (Yes.b bY) (.rn (.y 0 (bB (q.kind == 4)) bF (Yes.b bY) (.rn (.y 0 (bB (q.kind == 5)) bT (Yes.b bY) (.ru (.c 5 (j5.put2 [0,1,2,3,4,5] (P9 s nd p1 p2) (j3 0) (P9 s nd p1 p2) (bX s.d.l s.d.g s.d.al s.d.ga s.d.gf s.d.gl s.d.gt nd s.d.st.t s.d.st.node s.d.st.n ) rlA rlA) (.c 6 (j5.put2 [0,1] (P9 s nd p1 p2) (sA 9 (mC (s.d.l.map (·.card)))) (P9 s nd p1 p2) (bS (r9 32) s.d.l s.d.g s.d.l.length oa oa) rlF rlF) (.c 9 ((b1G (s.d.l.map (·.card)) q.keys oa oa).lift kr kr (P9 s nd p1 p2)) (.c 10 ((bK f (gT (s.d.l.map (·.card)) q.keys)).lift kr kr (P9 s nd p1 p2)) (.q 13 (sA 14 (List.map u7.row (D9 f (gT (s.d.l.map (·.card)) q.keys))))))))))))))))))))))
def s2D (s:S2) (d:DS):S2:=⟨d,s.a,s.ga,s.b,s.gb,s.lost,s.now,s.swept,s.nx⟩
def s2Q (s:S2) (d:DS) (t:QT):S2:=⟨d,t.1,t.2.1,t.2.2.1,t.2.2.2.1,t.2.2.2.2,s.now,s.swept,s.nx⟩
def inD (now:Int) (cs:List j4) (d:DS):DS:=⟨(N9 now cs d.l d.al).1,fZ now cs d.l d.g d.al d.ga,(N9 now cs d.l d.al).2.1,gB now cs d.l d.g d.al d.ga,d.gf,d.gl,d.gt,d.st⟩
@[simp] abbrev e1j (a:l9C) (b:S2) (c:Int) (d:Int):Heap:=[(o_ 0 3 [[(d9 1 1 1 2),(d9 2 0 1 2),(iI (q2A a (sqT b)).2.2.2.2)]]),(o_ 1 1 (List.map y5 [c,d])),(o_ 0 1 [[(d9 3 (q2A a (sqT b)).2.1 9 (List.length (q2A a (sqT b)).1))],[(d9 4 (q2A a (sqT b)).2.2.2.1 9 (List.length (q2A a (sqT b)).2.2.1))]]),(o_ ((q2A a (sqT b)).2.1) 9 (mC (q2A a (sqT b)).1)),(o_ ((q2A a (sqT b)).2.2.2.1) 9 (mC (q2A a (sqT b)).2.2.1))]
theorem b6v (p1 p2:Int) (cs:l9C) (s:S2) (hqa:s.a.length<=16) (hqb:s.b.length<=16) (hcs:cs.length < 100):AC 32 [(j3 0),(sA 9 (mC cs))] (d4S s p1 p2) (F4,(e1j cs s p1 p2)):=a2P cs p1 p2 s.lost s.a s.ga s.b s.gb hqa hqb hcs
def b6j:Ann:={ refs:=[5],base:=13,fin:=some 13 }
abbrev c0U (a:Int) (b:S2) (c:Msg):Ob:=(o_ 0 2 [[(iI (r9 32)),(d9 1 (hdD a b.d c b.now).s.g 10 (List.length (hdD a b.d c b.now).s.l))]])
abbrev b2G (a:Int) (b:S2) (c:Msg):Ob:=(o_ ((hdD a b.d c b.now).s.g) 10 (mE (hdD a b.d c b.now).s.l))
abbrev b2F (a:Int) (b:S2) (c:Msg):Ob:=(o_ 0 3 [[(iI (hdD a b.d c b.now).s.gf),(iI (hdD a b.d c b.now).s.gl),(iI (hdD a b.d c b.now).s.gt)]])
abbrev d7a (a:Int) (b:S2) (c:Msg):=[[(iN ((List.length (hdD a b.d c b.now).s.al))),(d9 4 (hdD a b.d c b.now).s.ga 2 (l7 (hdD a b.d c b.now).s.al).length)]]
abbrev b2E (a:Int) (b:S2) (c:Msg):Ob:=(o_ 0 2 (d7a a b c))
abbrev b2D (a:Int) (b:S2) (c:Msg):Ob:=(o_ ((hdD a b.d c b.now).s.ga) 2 (mK (l7 (hdD a b.d c b.now).s.al)))
abbrev d6Z (a:Int) (b:S2) (c:Msg):=[[(iI a),(iI (hdD a b.d c b.now).s.st.t),(iI (hdD a b.d c b.now).s.st.node),(iI (hdD a b.d c b.now).s.st.n),(j3 0),(j3 2),(j3 3)]]
abbrev b2C (a:Int) (b:S2) (c:Msg):Ob:=(o_ 0 7 (d6Z a b c))
abbrev d8W (c:Int) (d:S2) (e:Msg) (f:Int) (g:Int):Heap:=[c0U c d e,b2G c d e,b2F c d e,b2E c d e,b2D c d e,b2C c d e,X4 d,(o_ 1 1 (List.map y5 [f,g])),cZ d,(o_ d.ga 9 (mC d.a)),(o_ d.gb 9 (mC d.b)),(o_ 1 1 []),qX d f g,(o_ 0 13 [[z_,z_,z_,z_,z_,z_,z_,e_,e_,bF,H9,w9,w9]])]
abbrev c7s (a:Int) (b:S2) (c:Msg):Ob:=(o_ 0 13 [(Msg.row (hdD a b.d c b.now).m)])
abbrev d6Y (a:Int) (b:S2) (e:Msg):=[[(d9 9 (q2A (hdD a b.d e b.now).c (sqT b)).2.1 9 (List.length (q2A (hdD a b.d e b.now).c (sqT b)).1))],[(d9 10 (q2A (hdD a b.d e b.now).c (sqT b)).2.2.2.1 9 (List.length (q2A (hdD a b.d e b.now).c (sqT b)).2.2.1))]]
abbrev d2f (a:Int) (b:S2) (e:Msg) (f:Int) (g:Int):Heap:=[c0U a b e,b2G a b e,b2F a b e,b2E a b e,b2D a b e,b2C a b e,(o_ 0 3 [[(d9 7 1 1 2),(d9 8 0 1 2),(iI (q2A (hdD a b.d e b.now).c (sqT b)).2.2.2.2)]]),(o_ 1 1 (List.map y5 [f,g])),(o_ 0 1 (d6Y a b e)),(o_ ((q2A (hdD a b.d e b.now).c (sqT b)).2.1) 9 (mC (q2A (hdD a b.d e b.now).c (sqT b)).1)),(o_ ((q2A (hdD a b.d e b.now).c (sqT b)).2.2.2.1) 9 (mC (q2A (hdD a b.d e b.now).c (sqT b)).2.2.1)),(o_ 1 1 []),qX b f g,c7s a b e]
abbrev d8V (c:Int) (d:S2) (e:Msg) (f:Int) (g:Int):Heap:=[c0U c d e,b2G c d e,b2F c d e,b2E c d e,b2D c d e,b2C c d e,X4 d,(o_ 1 1 (List.map y5 [f,g])),cZ d,(o_ d.ga 9 (mC d.a)),(o_ d.gb 9 (mC d.b)),(o_ 1 1 []),qX d f g,c7s c d e]
abbrev e0N (a b:Int) (c:S2) (e:Msg):=(AV.sl .clip 14 [[(iI a),(iI (hdD b c.d e c.now).m.kind),(iI (hdD b c.d e c.now).m.op),(iI (hdD b c.d e c.now).m.status),(iI (hdD b c.d e c.now).m.code),(iI (hdD b c.d e c.now).m.tag),(iI (hdD b c.d e c.now).m.n),(iI (hdD b c.d e c.now).m.seq),(AV.str (hdD b c.d e c.now).m.key.app),(AV.str (hdD b c.d e c.now).m.key.id),(bB (hdD b c.d e c.now).m.full),(AV.int .u32 (hdD b c.d e c.now).m.sum),(sA 9 (mC (hdD b c.d e c.now).m.cards)),(sA 2 (mK (hdD b c.d e c.now).m.keys))]])
theorem b3i (nd p1 p2:Int) (s:S2) (f:Int) (q:Msg) (hr:R4 q=true) (hk:q.kind=1) (hl:s.d.l.length < 1000) (ha:s.d.al.length < 100000) (hgt:0<=s.d.gt/\s.d.gt < 4611686018427387904) (hqa:s.a.length<=16) (hqb:s.b.length<=16) (hc:(hdD nd s.d q s.now).c.length < 100):AC 10 [(j3 12),(iI f),(p9 (Msg.row q))] (P9 s nd p1 p2) ((AV.sl .clip 14 (List.map U4.row [U4.mk f (hdD nd s.d q s.now).m])),[(o_ 0 2 [[(iI (r9 32)),(d9 1 (s2Q s (hdD nd s.d q s.now).s (q2A (hdD nd s.d q s.now).c (sqT s))).d.g 10 (List.length (s2Q s (hdD nd s.d q s.now).s (q2A (hdD nd s.d q s.now).c (sqT s))).d.l))]]),(o_ ((s2Q s (hdD nd s.d q s.now).s (q2A (hdD nd s.d q s.now).c (sqT s))).d.g) 10 (mE (s2Q s (hdD nd s.d q s.now).s (q2A (hdD nd s.d q s.now).c (sqT s))).d.l)),(o_ 0 3 [[(iI (s2Q s (hdD nd s.d q s.now).s (q2A (hdD nd s.d q s.now).c (sqT s))).d.gf),(iI (s2Q s (hdD nd s.d q s.now).s (q2A (hdD nd s.d q s.now).c (sqT s))).d.gl),(iI (s2Q s (hdD nd s.d q s.now).s (q2A (hdD nd s.d q s.now).c (sqT s))).d.gt)]]),(o_ 0 2 [[(iN ((List.length (s2Q s (hdD nd s.d q s.now).s (q2A (hdD nd s.d q s.now).c (sqT s))).d.al))),(d9 4 (s2Q s (hdD nd s.d q s.now).s (q2A (hdD nd s.d q s.now).c (sqT s))).d.ga 2 (l7 (s2Q s (hdD nd s.d q s.now).s (q2A (hdD nd s.d q s.now).c (sqT s))).d.al).length)]]),(o_ ((s2Q s (hdD nd s.d q s.now).s (q2A (hdD nd s.d q s.now).c (sqT s))).d.ga) 2 (mK (l7 (s2Q s (hdD nd s.d q s.now).s (q2A (hdD nd s.d q s.now).c (sqT s))).d.al))),(o_ 0 7 [[(iI nd),(iI (s2Q s (hdD nd s.d q s.now).s (q2A (hdD nd s.d q s.now).c (sqT s))).d.st.t),(iI (s2Q s (hdD nd s.d q s.now).s (q2A (hdD nd s.d q s.now).c (sqT s))).d.st.node),(iI (s2Q s (hdD nd s.d q s.now).s (q2A (hdD nd s.d q s.now).c (sqT s))).d.st.n),(j3 0),(j3 2),(j3 3)]]),(o_ 0 3 [[(d9 7 1 1 2),(d9 8 0 1 2),(iI (s2Q s (hdD nd s.d q s.now).s (q2A (hdD nd s.d q s.now).c (sqT s))).lost)]]),(o_ 1 1 (List.map y5 [p1,p2])),(o_ 0 1 [[(d9 9 (s2Q s (hdD nd s.d q s.now).s (q2A (hdD nd s.d q s.now).c (sqT s))).ga 9 (List.length (s2Q s (hdD nd s.d q s.now).s (q2A (hdD nd s.d q s.now).c (sqT s))).a))],[(d9 10 (s2Q s (hdD nd s.d q s.now).s (q2A (hdD nd s.d q s.now).c (sqT s))).gb 9 (List.length (s2Q s (hdD nd s.d q s.now).s (q2A (hdD nd s.d q s.now).c (sqT s))).b))]]),(o_ ((s2Q s (hdD nd s.d q s.now).s (q2A (hdD nd s.d q s.now).c (sqT s))).ga) 9 (mC (s2Q s (hdD nd s.d q s.now).s (q2A (hdD nd s.d q s.now).c (sqT s))).a)),(o_ ((s2Q s (hdD nd s.d q s.now).s (q2A (hdD nd s.d q s.now).c (sqT s))).gb) 9 (mC (s2Q s (hdD nd s.d q s.now).s (q2A (hdD nd s.d q s.now).c (sqT s))).b)),(o_ 1 1 []),(o_ 0 6 [[(iI (s2Q s (hdD nd s.d q s.now).s (q2A (hdD nd s.d q s.now).c (sqT s))).now),(iI (s2Q s (hdD nd s.d q s.now).s (q2A (hdD nd s.d q s.now).c (sqT s))).swept),(dH p1 p2),(iN ((s2Q s (hdD nd s.d q s.now).s (q2A (hdD nd s.d q s.now).c (sqT s))).nx)),(j3 5),(j3 6)]])]) :=
 x9 (fn:=Tryz.f10) (ann:=b6j) (Has.o Tryz.func10) (.r (.s (.c 1 ((cK q oa).lift kr kr (P9 s nd p1 p2)) (.rn (.s (.y 0 (bB (q.kind == 1)) bT (Yes.b bY) (.ru (.ch 9 (d8W nd s q p1 p2) (j5.put2 [0,1,2,3,4,5] [(o_ 0 2 (a3M s)),(o_ s.d.g 10 (mE s.d.l)),(o_ 0 3 (b8S s)),(o_ 0 2 (a3L s)),(o_ s.d.ga 2 (mK (l7 s.d.al))),(o_ 0 7 (a6G nd s)),(o_ 0 3 (a3K s)),(o_ 1 1 (List.map y5 [p1,p2])),(o_ 0 1 (b1m s)),(o_ s.ga 9 (mC s.a)),(o_ s.gb 9 (mC s.b)),(o_ 1 1 []),(o_ 0 6 (b8R s p1 p2)),(o_ 0 13 [[z_,z_,z_,z_,z_,z_,z_,e_,e_,bF,H9,w9,w9]])] (AV.tup [(p9 (Msg.row (hdD nd s.d q s.now).m)),(sA 9 (mC (hdD nd s.d q s.now).c))]) (d8W nd s q p1 p2) (b4F s.d.l s.d.g s.d.al s.d.ga s.d.gf s.d.gl s.d.gt nd s.d.st q s.now hl ha hgt) rlA rlA) (.s (.t 5 F4 (d2f nd s q p1 p2) (j5.pre (args:=[(j3 6),(sA 9 (mC (hdD nd s.d q s.now).c))]) (args':=[(j3 6),(sA 9 (mC (hdD nd s.d q s.now).c))]) (j5.put2 [6,7,8,9,10] (d8V nd s q p1 p2) F4 (d2f nd s q p1 p2) (b6v _ _ (hdD nd s.d q s.now).c s hqa hqb hc) rlG rlG) ⟨AV.l5 _,⟨rfl,rfl,.inl rfl⟩,trivial⟩:AC 32 [(j3 6),(sA 9 (mC (hdD nd s.d q s.now).c))] (d8V nd s q p1 p2) (F4,(d2f nd s q p1 p2))) (.s (.g (.h' [(o_ 0 2 [[(iI (r9 32)),(d9 1 (hdD nd s.d q s.now).s.g 10 (List.length (hdD nd s.d q s.now).s.l))]]),(o_ ((hdD nd s.d q s.now).s.g) 10 (mE (hdD nd s.d q s.now).s.l)),(o_ 0 3 [[(iI (hdD nd s.d q s.now).s.gf),(iI (hdD nd s.d q s.now).s.gl),(iI (hdD nd s.d q s.now).s.gt)]]),(o_ 0 2 (d7a nd s q)),(o_ ((hdD nd s.d q s.now).s.ga) 2 (mK (l7 (hdD nd s.d q s.now).s.al))),(o_ 0 7 (d6Z nd s q)),(o_ 0 3 [[(d9 7 1 1 2),(d9 8 0 1 2),(iI (q2A (hdD nd s.d q s.now).c (sqT s)).2.2.2.2)]]),(o_ 1 1 (List.map y5 [p1,p2])),(o_ 0 1 (d6Y nd s q)),(o_ ((q2A (hdD nd s.d q s.now).c (sqT s)).2.1) 9 (mC (q2A (hdD nd s.d q s.now).c (sqT s)).1)),(o_ ((q2A (hdD nd s.d q s.now).c (sqT s)).2.2.2.1) 9 (mC (q2A (hdD nd s.d q s.now).c (sqT s)).2.2.1)),(o_ 1 1 []),(o_ 0 6 (b8R s p1 p2))] (.q 13 (e0N f nd s q)))))))))))))))
@[simp] abbrev e1i (a:Int) (b:l9C) (c:DS) (d:Int):Heap:=[(o_ 0 2 [[(iI (r9 32)),(d9 1 (inD a b c).g 10 (List.length (inD a b c).l))]]),(o_ ((inD a b c).g) 10 (mE (inD a b c).l)),(o_ 0 3 [[(iI (inD a b c).gf),(iI (inD a b c).gl),(iI (inD a b c).gt)]]),(o_ 0 2 [[(iN ((List.length (inD a b c).al))),(d9 4 (inD a b c).ga 2 (l7 (inD a b c).al).length)]]),(o_ ((inD a b c).ga) 2 (mK (l7 (inD a b c).al))),(o_ 0 7 [[(iI d),(iI (inD a b c).st.t),(iI (inD a b c).st.node),(iI (inD a b c).st.n),(j3 0),(j3 2),(j3 3)]])]
theorem b7u (nd:Int) (s:DS) (cs:l9C) (now:Int) (hl:s.l.length+cs.length < 1000) (ha:s.al.length+cs.length < 100000):AC 33 [(j3 5),(sA 9 (mC cs)),(iI now)] (d2i s nd) ((AV.tup [(sA 9 (mC (N9 now cs s.l s.al).2.2.1)),(iN ((N9 now cs s.l s.al).2.2.2))]),(e1i now cs s nd)):=c4a cs now s.l s.g s.al s.ga s.gf s.gl s.gt nd s.st.t s.st.node s.st.n hl ha
def b3e:Ann:={ refs:=[5],base:=13,fin:=some 13 }
abbrev d8U (c:S2) (e:Msg) (f:Int) (h:Int) (i:Int):Heap:=[(o_ 0 2 [[(iI (r9 32)),(d9 1 (inD c.now e.cards c.d).g 10 (List.length (inD c.now e.cards c.d).l))]]),(o_ ((inD c.now e.cards c.d).g) 10 (mE (inD c.now e.cards c.d).l)),(o_ 0 3 [[(iI (inD c.now e.cards c.d).gf),(iI (inD c.now e.cards c.d).gl),(iI (inD c.now e.cards c.d).gt)]]),(o_ 0 2 [[(iN ((List.length (inD c.now e.cards c.d).al))),(d9 4 (inD c.now e.cards c.d).ga 2 (l7 (inD c.now e.cards c.d).al).length)]]),(o_ ((inD c.now e.cards c.d).ga) 2 (mK (l7 (inD c.now e.cards c.d).al))),(o_ 0 7 [[(iI f),(iI (inD c.now e.cards c.d).st.t),(iI (inD c.now e.cards c.d).st.node),(iI (inD c.now e.cards c.d).st.n),(j3 0),(j3 2),(j3 3)]]),X4 c,(o_ 1 1 (List.map y5 [h,i])),cZ c,(o_ c.ga 9 (mC c.a)),(o_ c.gb 9 (mC c.b)),(o_ 1 1 []),qX c h i]
theorem a9V (nd p1 p2:Int) (s:S2) (f:Int) (q:Msg) (hr:R4 q=true) (hk:q.kind=3) (hl:s.d.l.length+q.cards.length < 1000) (ha:s.d.al.length+q.cards.length < 100000):AC 10 [(j3 12),(iI f),(p9 (Msg.row q))] (P9 s nd p1 p2) (w9,[(o_ 0 2 [[(iI (r9 32)),(d9 1 (s2D s (inD s.now q.cards s.d)).d.g 10 (List.length (s2D s (inD s.now q.cards s.d)).d.l))]]),(o_ ((s2D s (inD s.now q.cards s.d)).d.g) 10 (mE (s2D s (inD s.now q.cards s.d)).d.l)),(o_ 0 3 [[(iI (s2D s (inD s.now q.cards s.d)).d.gf),(iI (s2D s (inD s.now q.cards s.d)).d.gl),(iI (s2D s (inD s.now q.cards s.d)).d.gt)]]),(o_ 0 2 [[(iN ((List.length (s2D s (inD s.now q.cards s.d)).d.al))),(d9 4 (s2D s (inD s.now q.cards s.d)).d.ga 2 (l7 (s2D s (inD s.now q.cards s.d)).d.al).length)]]),(o_ ((s2D s (inD s.now q.cards s.d)).d.ga) 2 (mK (l7 (s2D s (inD s.now q.cards s.d)).d.al))),(o_ 0 7 [[(iI nd),(iI (s2D s (inD s.now q.cards s.d)).d.st.t),(iI (s2D s (inD s.now q.cards s.d)).d.st.node),(iI (s2D s (inD s.now q.cards s.d)).d.st.n),(j3 0),(j3 2),(j3 3)]]),(o_ 0 3 [[(d9 7 1 1 2),(d9 8 0 1 2),(iI (s2D s (inD s.now q.cards s.d)).lost)]]),(o_ 1 1 (List.map y5 [p1,p2])),(o_ 0 1 [[(d9 9 (s2D s (inD s.now q.cards s.d)).ga 9 (List.length (s2D s (inD s.now q.cards s.d)).a))],[(d9 10 (s2D s (inD s.now q.cards s.d)).gb 9 (List.length (s2D s (inD s.now q.cards s.d)).b))]]),(o_ ((s2D s (inD s.now q.cards s.d)).ga) 9 (mC (s2D s (inD s.now q.cards s.d)).a)),(o_ ((s2D s (inD s.now q.cards s.d)).gb) 9 (mC (s2D s (inD s.now q.cards s.d)).b)),(o_ 1 1 []),(o_ 0 6 [[(iI (s2D s (inD s.now q.cards s.d)).now),(iI (s2D s (inD s.now q.cards s.d)).swept),(dH p1 p2),(iN ((s2D s (inD s.now q.cards s.d)).nx)),(j3 5),(j3 6)]])]) :=
 x9 (fn:=Tryz.f10) (ann:=b3e) (Has.o Tryz.func10) (.r (.s (.c 1 ((cK q oa).lift kr kr (P9 s nd p1 p2)) (.rn (.s (.y 0 (bB (q.kind == 1)) bF (Yes.b bY) (.rn (.y 0 (bB (q.kind == 3)) bT (Yes.b bY) (.ru (.ch 10 (d8U s q nd p1 p2) (j5.put2 [0,1,2,3,4,5] (P9 s nd p1 p2) (AV.tup [(sA 9 (mC (N9 s.now q.cards s.d.l s.d.al).2.2.1)),(iN ((N9 s.now q.cards s.d.l s.d.al).2.2.2))]) (d8U s q nd p1 p2) (b7u nd s.d q.cards s.now hl ha) rlA rlA) (.g (.qr 13 w9))))))))))))
def d1g:Ann:={ own:=[35],gha:=[(2,.vir 9 14),(5,.frz 6)],base:=13,fin:=some 13 }
abbrev d4C (c:S2) (e:Int) (f:Int) (h:Int) (i:Int) (j:l9C):Heap:=[aO c,(o_ c.d.g 10 (mE c.d.l)),eG c,aN c,X5 c,dJ e c,X4 c,(o_ 1 1 (List.map y5 [f,h])),cZ c,(o_ c.ga 9 (mC c.a)),(o_ c.gb 9 (mC c.b)),(o_ 1 1 []),qX c f h,(o_ 1 14 (List.map u7.row ([]++(D9 i (Z8 (c.d.l.map (·.card)) j)))))]
theorem c5o (nd p1 p2:Int) (s:S2) (f:Int) (ds:l9C) (hl:s.d.l.length < 1000) (hd:ds.length < 1000) (hw:(Y7 (s.d.l.map Entry.card) ds).length=0):AC 34 [(j3 12),(iI f),(sA 9 (mC ds))] (P9 s nd p1 p2) ((sA 14 (([]++(D9 f (Z8 (s.d.l.map Entry.card) ds))).map u7.row)),(P9 s nd p1 p2)):=by
 have hpl:=Z4 f (Z8 (s.d.l.map Entry.card) ds)
 have hpl2:=Z4 f (Z8 (s.d.l.map (·.card)) ds)
 exact x9 (fn:=Tryz.f34) (ann:=d1g) (Has.o Tryz.func34) (.r (.s (.c 4 (j5.put2 [0,1,2,3,4,5] (P9 s nd p1 p2) (j3 0) (P9 s nd p1 p2) (bX s.d.l s.d.g s.d.al s.d.ga s.d.gf s.d.gl s.d.gt nd s.d.st.t s.d.st.node s.d.st.n ) rlA rlA) (.c 5 (j5.put2 [0,1] (P9 s nd p1 p2) (sA 9 (mC (s.d.l.map (·.card)))) (P9 s nd p1 p2) (bS (r9 32) s.d.l s.d.g s.d.l.length oa oa) rlF rlF) (.c 7 ((a0h (s.d.l.map (·.card)) ds oa oa).lift kr kr (P9 s nd p1 p2)) (.s (.s (.h' (d2g s nd p1 p2) (.y 1 (.int .i64 ((List.length (mK (Y7 (s.d.l.map (·.card)) ds)):Nat):Int)) (iN ((Y7 (s.d.l.map (·.card)) ds).length)) (Yes.len _ _ _) (.y 2 (bB (decide ((((Y7 (s.d.l.map (·.card)) ds).length:Nat):Int) > 0))) bF (Yes.b (by simp [hw])) (.rn (.c 3 ((bK f (Z8 (s.d.l.map (·.card)) ds)).lift kr kr (d2g s nd p1 p2)) (.ao 4 36 (d9 13 0 14 0) (sA 14 (List.map u7.row (D9 f (Z8 (s.d.l.map (·.card)) ds)))) (d9 13 1 14 (0+(D9 f (Z8 (s.d.l.map (·.card)) ds)).length)) (d4C s nd p1 p2 f ds) (I8 (T:=tt) (e:=56) (te:=iQ) (z:=1) (b:=24) (y:=[.sl .nil 0 []]) (row:=u7.row) (l:=[]) kr kr rfl D8 D8 kr Y3 om rfl rfl iP) (.w' 6 (List.map u7.row ([]++(D9 f (Z8 (s.d.l.map (·.card)) ds)))) (And.intro (G5 (room:=none) kr om) (u7.z8 _ _):I5 (d4C s nd p1 p2 f ds) 14 (d9 13 1 14 (0+(D9 f (Z8 (s.d.l.map (·.card)) ds)).length))=some (List.map u7.row ([]++(D9 f (Z8 (s.d.l.map (·.card)) ds))))/\AV.F3 0 (List.map u7.row ([]++(D9 f (Z8 (s.d.l.map (·.card)) ds))))=true) (.g (.h' (P9 s nd p1 p2) (.q 13 (sA 14 (List.map u7.row ([]++(D9 f (Z8 (s.d.l.map (·.card)) ds))))))))))))))))))))))
def c5n:Ann:={ gha:=[(5,.frz 6)],base:=13,fin:=some 13 }
abbrev d4B (c:S2) (e:Int) (f:Int) (h:Int) (i:Int) (j:l9C):Heap:=[aO c,(o_ c.d.g 10 (mE c.d.l)),eG c,aN c,X5 c,dJ e c,X4 c,(o_ 1 1 (List.map y5 [f,h])),cZ c,(o_ c.ga 9 (mC c.a)),(o_ c.gb 9 (mC c.b)),(o_ 1 1 []),qX c f h,(o_ 0 14 [[(iI i),(iI 5),z_,z_,z_,z_,z_,z_,e_,e_,bF,H9,w9,(sA 2 (mK (Y7 (c.d.l.map (·.card)) j)))]])]
theorem b9y (nd p1 p2:Int) (s:S2) (f:Int) (ds:l9C) (hl:s.d.l.length < 1000) (hd:ds.length < 1000) (hw:¬ (Y7 (s.d.l.map Entry.card) ds).length=0) (ht:(Z8 (s.d.l.map Entry.card) ds).length=0):AC 34 [(j3 12),(iI f),(sA 9 (mC ds))] (P9 s nd p1 p2) ((sA 14 [[(iI f),(iI 5),z_,z_,z_,z_,z_,z_,e_,e_,bF,H9,w9,(sA 2 (mK (Y7 (s.d.l.map Entry.card) ds)))]]),(P9 s nd p1 p2)) :=
 x9 (fn:=Tryz.f34) (ann:=c5n) (Has.o Tryz.func34) (.r (.s (.c 4 (j5.put2 [0,1,2,3,4,5] (P9 s nd p1 p2) (j3 0) (P9 s nd p1 p2) (bX s.d.l s.d.g s.d.al s.d.ga s.d.gf s.d.gl s.d.gt nd s.d.st.t s.d.st.node s.d.st.n ) rlA rlA) (.c 5 (j5.put2 [0,1] (P9 s nd p1 p2) (sA 9 (mC (s.d.l.map (·.card)))) (P9 s nd p1 p2) (bS (r9 32) s.d.l s.d.g s.d.l.length oa oa) rlF rlF) (.c 7 ((a0h (s.d.l.map (·.card)) ds oa oa).lift kr kr (P9 s nd p1 p2)) (.s (.s (.y 1 (.int .i64 ((List.length (mK (Y7 (s.d.l.map (·.card)) ds)):Nat):Int)) (iN ((Y7 (s.d.l.map (·.card)) ds).length)) (Yes.len _ _ _) (.y 2 (bB (decide ((((Y7 (s.d.l.map (·.card)) ds).length:Nat):Int) > 0))) bT (Yes.b (decide_eq_true (by have h0:=hw; change ¬ (Y7 (s.d.l.map (·.card)) ds).length=0 at h0; omega))) (.ru (.s (.c 3 ((b6D f (Z8 (s.d.l.map (·.card)) ds) oa).lift kr kr (d4B s nd p1 p2 f ds)) (.q 13 (sA 14 [[(iI f),(iI 5),z_,z_,z_,z_,z_,z_,e_,e_,bF,H9,w9,(sA 2 (mK (Y7 (s.d.l.map (·.card)) ds)))]]))))))))))))))
def c5m:Ann:={ gha:=[(5,.frz 6)],base:=13,fin:=some 13 }
theorem b9x (nd p1 p2:Int) (s:S2) (f:Int) (ds:l9C) (hl:s.d.l.length < 1000) (hd:ds.length < 1000) (hw:¬ (Y7 (s.d.l.map Entry.card) ds).length=0) (ht:¬ (Z8 (s.d.l.map Entry.card) ds).length=0):AC 34 [(j3 12),(iI f),(sA 9 (mC ds))] (P9 s nd p1 p2) ((sA 14 [[(iI f),(iI 5),z_,z_,z_,z_,z_,z_,e_,e_,bF,H9,w9,(sA 2 (mK (Y7 (s.d.l.map Entry.card) ds)))],(u7.row (u7.mk f (a4I (Z8 (s.d.l.map Entry.card) ds))))]),(P9 s nd p1 p2)) :=
 x9 (fn:=Tryz.f34) (ann:=c5m) (Has.o Tryz.func34) (.r (.s (.c 4 (j5.put2 [0,1,2,3,4,5] (P9 s nd p1 p2) (j3 0) (P9 s nd p1 p2) (bX s.d.l s.d.g s.d.al s.d.ga s.d.gf s.d.gl s.d.gt nd s.d.st.t s.d.st.node s.d.st.n ) rlA rlA) (.c 5 (j5.put2 [0,1] (P9 s nd p1 p2) (sA 9 (mC (s.d.l.map (·.card)))) (P9 s nd p1 p2) (bS (r9 32) s.d.l s.d.g s.d.l.length oa oa) rlF rlF) (.c 7 ((a0h (s.d.l.map (·.card)) ds oa oa).lift kr kr (P9 s nd p1 p2)) (.s (.s (.y 1 (.int .i64 ((List.length (mK (Y7 (s.d.l.map (·.card)) ds)):Nat):Int)) (iN ((Y7 (s.d.l.map (·.card)) ds).length)) (Yes.len _ _ _) (.y 2 (bB (decide ((((Y7 (s.d.l.map (·.card)) ds).length:Nat):Int) > 0))) bT (Yes.b (decide_eq_true (by have h0:=hw; change ¬ (Y7 (s.d.l.map (·.card)) ds).length=0 at h0; omega))) (.ru (.s (.c 3 ((b6E f (Z8 (s.d.l.map (·.card)) ds) oa).lift kr kr (d4B s nd p1 p2 f ds)) (.q 13 (sA 14 [[(iI f),(iI 5),z_,z_,z_,z_,z_,z_,e_,e_,bF,H9,w9,(sA 2 (mK (Y7 (s.d.l.map (·.card)) ds)))],(u7.row (u7.mk f (a4I (Z8 (s.d.l.map (·.card)) ds))))]))))))))))))))
theorem d1f (nd p1 p2:Int) (s:S2) (f:Int) (ds:l9C) (hl:s.d.l.length < 1000) (hd:ds.length < 1000):AC 34 [(j3 12),(iI f),(sA 9 (mC ds))] (P9 s nd p1 p2) (AV.unk,(P9 s nd p1 p2)):=by
 by_cases hw:(Y7 (List.map Entry.card s.d.l) ds).length=0
 · exact (c5o nd p1 p2 s f ds hl hd hw).post trivial
 · by_cases ht:(Z8 (List.map Entry.card s.d.l) ds).length=0
   · exact (b9y nd p1 p2 s f ds hl hd hw ht).post trivial
   · exact (b9x nd p1 p2 s f ds hl hd hw ht).post trivial
theorem d7H (nd p1 p2:Int) (s:S2) (f:Int) (ds:l9C) (hl:s.d.l.length < 1000) (hd:ds.length < 1000) (H:Heap):AC 34 [(j3 12),(iI f),(sA 9 (mC ds))] ((P9 s nd p1 p2)++H) (AV.unk,(P9 s nd p1 p2)++H):=(d1f nd p1 p2 s f ds hl hd).ext kr kr ob ob kr H
def b6h:Ann:={ refs:=[5],base:=13,fin:=some 13 }
theorem b3g (nd p1 p2:Int) (s:S2) (f:Int) (q:Msg) (hr:R4 q=true) (hk:q.kind=4) (hl:s.d.l.length < 1000) (hd:q.cards.length < 1000):AC 10 [(j3 12),(iI f),(p9 (Msg.row q))] (P9 s nd p1 p2) (AV.unk,(P9 s nd p1 p2)) :=
 x9 (fn:=Tryz.f10) (ann:=b6h) (Has.o Tryz.func10) (.r (.s (.c 1 ((cK q oa).lift kr kr (P9 s nd p1 p2)) (.rn (.s (.y 0 (bB (q.kind == 1)) bF (Yes.b bY) (.rn (.y 0 (bB (q.kind == 3)) bF (Yes.b bY) (.rn (.y 0 (bB (q.kind == 4)) bT (Yes.b bY) (.ru (.c 4 (d7H nd p1 p2 s f q.cards oa oa []) (.q 13 AV.unk)))))))))))))
def rv2 (nd:Int) (s:S2) (q:Msg):S2 :=
 if R4 q=true then
  if q.kind=1 then s2Q s (hdD nd s.d q s.now).s (q2A (hdD nd s.d q s.now).c (sqT s))
  else if q.kind=3 then s2D s (inD s.now q.cards s.d)
  else s
 else s
theorem b5X {n:Nat} {b nd:Int} {s:S2} {q:Msg} (h:S2I n b s):S2I (n+65) b (rv2 nd s q):=by
 unfold rv2
 cases hr:R4 q with
 | false=>rw [if_neg ye_]; exact h.mono ow (Int.le_refl _)
 | true =>
  rw [if_pos rfl]
  obtain ⟨b1,b2,b3,b4⟩:=b0m hr
  split
  · have hq:=a2n (hdD nd s.d q s.now).c (sqT s) h.hqa h.hqb
    exact ⟨(h.d.hd nd q s.now).mono ow,h.hn,h.hn2,hq.1,hq.2,h.hs0,h.hs1,h.nx⟩
  · split
    · rename_i _ hk
      have hk3:q.kind=3:=hk
      have hs:SSI n b ⟨s.d,[],0,0,s.now,s.swept⟩:=⟨h.d,h.hn,h.hn2,by simp,h.hs0,h.hs1⟩
      have h1:=d5O (nd:=nd) (p:=0) (q:=q) hs
      have e:(G7 nd 0 ⟨s.d,[],0,0,s.now,s.swept⟩ q).d=inD s.now q.cards s.d:=by
       unfold G7; rw [if_pos hr,if_neg ow,if_pos hk3]; rfl
      have h2:=h1.d
      rw [e] at h2
      exact ⟨h2,h.hn,h.hn2,h.hqa,h.hqb,h.hs0,h.hs1,h.nx⟩
    · exact h.mono ow (Int.le_refl _)
theorem a4B (nd p1 p2:Int) (s:S2) (f:Int) (q:Msg) (n:Nat) (b:Int) (hI:S2I n b s) (hn:n < 90000):AC 10 [(j3 12),(iI f),(p9 (Msg.row q))] [(o_ 0 2 [[(iI (r9 32)),(d9 1 s.d.g 10 s.d.l.length)]]),(o_ s.d.g 10 (mE s.d.l)),(o_ 0 3 [[(iI s.d.gf),(iI s.d.gl),(iI s.d.gt)]]),(o_ 0 2 [[(iN (s.d.al.length)),(d9 4 s.d.ga 2 (l7 s.d.al).length)]]),(o_ s.d.ga 2 (mK (l7 s.d.al))),(o_ 0 7 [[(iI nd),(iI s.d.st.t),(iI s.d.st.node),(iI s.d.st.n),(j3 0),(j3 2),(j3 3)]]),(o_ 0 3 [[(d9 7 1 1 2),(d9 8 0 1 2),(iI s.lost)]]),(o_ 1 1 (List.map y5 [p1,p2])),(o_ 0 1 [[(d9 9 s.ga 9 s.a.length)],[(d9 10 s.gb 9 s.b.length)]]),(o_ s.ga 9 (mC s.a)),(o_ s.gb 9 (mC s.b)),(o_ 1 1 []),(o_ 0 6 [[(iI s.now),(iI s.swept),(sA 1 [[(iI p1)],[(iI p2)]]),(iN s.nx),(j3 5),(j3 6)]])] (AV.unk,[(o_ 0 2 [[(iI (r9 32)),(d9 1 (rv2 nd s q).d.g 10 (List.length (rv2 nd s q).d.l))]]),(o_ ((rv2 nd s q).d.g) 10 (mE (rv2 nd s q).d.l)),(o_ 0 3 [[(iI (rv2 nd s q).d.gf),(iI (rv2 nd s q).d.gl),(iI (rv2 nd s q).d.gt)]]),(o_ 0 2 [[(iN ((List.length (rv2 nd s q).d.al))),(d9 4 (rv2 nd s q).d.ga 2 (l7 (rv2 nd s q).d.al).length)]]),(o_ ((rv2 nd s q).d.ga) 2 (mK (l7 (rv2 nd s q).d.al))),(o_ 0 7 [[(iI nd),(iI (rv2 nd s q).d.st.t),(iI (rv2 nd s q).d.st.node),(iI (rv2 nd s q).d.st.n),(j3 0),(j3 2),(j3 3)]]),(o_ 0 3 [[(d9 7 1 1 2),(d9 8 0 1 2),(iI (rv2 nd s q).lost)]]),(o_ 1 1 (List.map y5 [p1,p2])),(o_ 0 1 [[(d9 9 (rv2 nd s q).ga 9 (List.length (rv2 nd s q).a))],[(d9 10 (rv2 nd s q).gb 9 (List.length (rv2 nd s q).b))]]),(o_ ((rv2 nd s q).ga) 9 (mC (rv2 nd s q).a)),(o_ ((rv2 nd s q).gb) 9 (mC (rv2 nd s q).b)),(o_ 1 1 []),(o_ 0 6 [[(iI (rv2 nd s q).now),(iI (rv2 nd s q).swept),(sA 1 [[(iI p1)],[(iI p2)]]),(iN ((rv2 nd s q).nx)),(j3 5),(j3 6)]])]):=by
 have h1:=hI.d.len
 have h2:=hI.d.al
 have h3:=hI.d.g0
 have h4:=hI.d.g1
 unfold rv2
 cases hr:R4 q with
 | false=>exact (b3h nd p1 p2 s f q hr).post trivial
 | true =>
  obtain ⟨b1,b2,b3,b4⟩:=b0m hr
  rw [if_pos rfl]
  by_cases k1:q.kind=1
  · rw [if_pos k1]
    have hc:=c4m nd s.d q s.now hI.d.srt h1 h3 h4
    exact (b3i nd p1 p2 s f q hr k1 ow ow ⟨h3,by omega⟩ hI.hqa hI.hqb ow).post trivial
  rw [if_neg k1]
  by_cases k3:q.kind=3
  · rw [if_pos k3]
    exact (a9V nd p1 p2 s f q hr k3 ow ow).post trivial
  rw [if_neg k3]
  by_cases k2:q.kind=2
  · exact (b3j nd p1 p2 s f q hr k2).post trivial
  by_cases k4:q.kind=4
  · exact b3g nd p1 p2 s f q hr k4 ow ow
  · exact (a9W nd p1 p2 s f q hr ow ow ow).post trivial
def c2y:Ann:={ refs:=[2,3],fin:=some 0 }
theorem b5K (q:U5) (hc:q.cards.length < 1000000):AC 38 [(p9 (U5.row q)),(p9 (U5.row q))] [] (bT,[]) :=
 x9 (fn:=Tryz.f38) (ann:=c2y) (Has.o Tryz.func38) (.r (.s (.y 4 (bB (q.kind == q.kind)) bT (Yes.b ye_) (.u5 (.y 10 (bB (q.op == q.op)) bT (Yes.b ye_) (.u5 (.y 17 (bB (q.status == q.status)) bT (Yes.b ye_) (.u5 (.y 24 (bB (q.code == q.code)) bT (Yes.b ye_) (.u5 (.y 31 (bB (q.tag == q.tag)) bT (Yes.b ye_) (.u5 (.y 38 (bB (q.n == q.n)) bT (Yes.b ye_) (.u5 (.y 45 (bB (q.seq == q.seq)) bT (Yes.b ye_) (.u5 (.y 52 (bB (Key.eqb q.key q.key)) bT (Yes.b (by rw [Key.oJ])) (.u5 (.y 59 (bB (q.full == q.full)) bT (Yes.b ye_) (.u5 (.y 66 (bB (q.sum == q.sum)) bT (Yes.b ye_) (.u5 (.c 73 ((b5N q.cards q.cards oa (rfl)).lift kr kr []) (.u5 (.c 80 (j5.pre (args:=[(sA 2 (mK [])),(sA 2 (mK []))]) (args':=[w9,w9]) ((b5L [] [] oa (rfl)).lift kr kr []) ⟨⟨rfl,rfl,.inr rfl⟩,⟨rfl,rfl,.inr rfl⟩,trivial⟩) (.q 0 bT))))))))))))))))))))))))))
def a2h:Ann:={ fin:=some 0,live:=[(4,[0,1,12,13])],out:=[(4,[0,1,12,13])] }
@[simp] abbrev mV (a:List u7):=(sA 14 (a.map u7.row))
@[simp] abbrev c1b (a:List u7) (b:Nat):Fr:=(mkF 42 [(0,(mV a)),(1,(mV a)),(12,(iN a.length)),(13,(iN b))])
theorem a9z (l:List u7)  (i:Nat) (hl:l.length < 1000000) (hc:∀ x∈l,x.m.cards.length<=64) (hle_:i<=l.length) {eX:Ex} {FX:Fr} {HX:Heap} (k1:(l9 i l.length)=true->l6 (C8 a2h Tryz.f12 0) (some [0,1,12,13]) (some [0,1,12,13]) (mkF 42 [(0,(mV l)),(1,(mV l)),(12,(iN l.length)),(13,(iN (i+1)))]) [] eX FX HX) (k2:(l9 i l.length)=false->((.exit 0:Ex),(c1b l i),[])=(eX,FX,HX)):l6 (C8 a2h Tryz.f12 0) (some [0,1,12,13]) (some [0,1,12,13]) (c1b l i) [] eX FX HX :=
 J7 (.r (.g (.two (l9 i l.length) (fun h1 h1'=>(.r (.s (.is 2 14 14 (l.map u7.row) (i:Int) (u7.row (nth l i)) (N7.mk _ ow ow) (.is 7 14 14 (l.map u7.row) (i:Int) (u7.row (nth l i)) (N7.mk _ ow ow) (.y 10 (bB ((nth l i).to != (nth l i).to)) bF (Yes.b ye_) (.n3 (.is 14 14 14 (l.map u7.row) (i:Int) (u7.row (nth l i)) (N7.mk _ ow ow) (.n5 (.is 19 14 14 (l.map u7.row) (i:Int) (u7.row (nth l i)) (N7.mk _ ow ow) (.n3 (.c 22 ((b5K (nth l i).m (by have h64:=hc _ (tX (show i < l.length by simp at h1; omega)); omega)).lift kr kr []) (.n (.rn (.y 0 (.int .i64 (cb_ i)) (iN (i+1)) Yes.o (.g (.l (k1 h1)))))))))))))))))) (fun h1 h1'=>(.l (k2 h1))))))
def d2H (l:List u7) (i:Nat) (s:Unit):Unit:=()
@[simp] abbrev d4A (a:List u7):Fr:=(mkF 42 [(0,(mV a)),(1,(mV a)),(12,(iN a.length)),(13,(iN a.length))])
theorem c8g (l:List u7) (hl:l.length < 1000000) (hc:∀ x∈l,x.m.cards.length<=64)  (r_:Nat):∀  (i:Nat) (sF:Unit),i+r_=l.length->sF=iter (d2H l) r_ i () ->
 l6 (C8 a2h Tryz.f12 0) (some [0,1,12,13]) (some [0,1,12,13]) (c1b l i) [] (.exit 0) (d4A l) []:=by
 induction r_ with
 | zero =>
  intro  i sF hi_   hF
  obtain rfl:l.length=i:=by omega
  have e_:sF=():=hF
  refine a9z l  l.length hl hc J8 (fun h=>by simp at h <;> omega) (fun _=>?_)
  first | done | rfl | (rw [e_]; done) | (rw [e_]; rfl)
 | succ r_ ih =>
  intro  i sF hi_   hF
  refine a9z l  i hl hc ow (fun h1=>?_) (fun h=>by simp at h <;> omega)
  · exact ih  (i+1) sF ow   (by rw [hF] <;> simp only [iter,d2H,if_true,Bool.false_eq_true,if_false])
theorem a4m (l:List u7) (hl:l.length < 1000000) (hc:∀ x∈l,x.m.cards.length<=64):AC 12 [(mV l),(mV l)] [] (bT,[]) :=
 x9 (fn:=Tryz.f12) (ann:=a2h) (Has.o Tryz.func12) (.r (.s (.y 1 (.int .i64 ((List.length (l.map u7.row):Nat):Int)) (iN l.length) (Yes.len _ _ _) (.y 3 (.int .i64 ((List.length (l.map u7.row):Nat):Int)) (iN l.length) (Yes.len _ _ _) (.y 4 (bB ((l.length:Int) != (l.length:Int))) bF (Yes.b ye_) (.rn (.y 1 (.int .i64 ((List.length (l.map u7.row):Nat):Int)) (iN l.length) (Yes.len _ _ _) (.g (.loop (d4A l) (c8g l hl hc l.length 0 () ow rfl) (.qr 0 bT))))))))))
theorem b5l (nd p1 p2:Int) (s:S2):∀ x∈cB nd p1 p2 s,x.m.cards.length<=64:=by
 have hd:∀ l,(P8 l).length<=64:=fun l=>by with_unfolding_all (unfold P8; rw [List.length_take]; omega)
 have hq:∀ l,(E8 l).length<=64:=fun l=>by with_unfolding_all (unfold E8; rw [List.length_take]; omega)
 have hp:∀ p l,∀ x∈D9 p (E8 l),x.m.cards.length<=64:=fun p l x hx=>by
  with_unfolding_all unfold D9 at hx
  split at hx
  · simp at hx
  · rw [List.mem_singleton] at hx; subst hx; exact hq l
 have h2:∀ a b,∀ x∈zO p1 p2 a b,x.m.cards.length<=64:=fun a b x hx=>by
  unfold zO at hx
  rcases List.mem_append.1 hx with hx | hx
  · exact hp _ _ x hx
  · exact hp _ _ x hx
 intro x hx
 with_unfolding_all unfold cB at hx
 rcases List.mem_append.1 hx with hx | hx
 · split at hx
   · rw [List.mem_singleton] at hx; subst hx; exact hd _
   · simp at hx
 · split at hx
   · exact h2 _ _ x hx
   · exact h2 _ _ x hx
theorem a4z (nd p1 p2:Int) (s:S2):∀ (k:Nat),∀ x∈(j6 nd p1 p2 k s).2,x.m.cards.length<=64:=by
 intro k
 induction k with
 | zero=>intro x hx; with_unfolding_all (simp [j6] at hx)
 | succ k ih =>
  intro x hx
  have e:(j6 nd p1 p2 (k+1) s).2=(j6 nd p1 p2 k s).2++cB nd p1 p2 (j6 nd p1 p2 k s).1:=by with_unfolding_all rfl
  rw [e] at hx
  rcases List.mem_append.1 hx with hx | hx
  · exact ih x hx
  · exact b5l _ _ _ _ x hx
theorem c2H (nd p1 p2:Int) (s:S2) (k:Nat):j6 nd p1 p2 (k+1) s=(st2 nd (j6 nd p1 p2 k s).1,(j6 nd p1 p2 k s).2++cB nd p1 p2 (j6 nd p1 p2 k s).1):=by with_unfolding_all rfl
theorem c2I (nd p1 p2:Int) (s:S2):j6 nd p1 p2 0 s=(s,[]):=by with_unfolding_all rfl
def c2h:Ann:={ base:=13,fin:=some 13 }
theorem a4f (nd p1 p2:Int) (s:S2) :AC 13 [(j3 12)] (P9 s nd p1 p2) ((iI s.now),(P9 s nd p1 p2)) :=
 x9 (fn:=Tryz.f13) (ann:=c2h) (Has.o Tryz.func13) (.r (.g (.qr 13 (iI s.now))))
def gK:Ann:={ own:=[62,88],gha:=[(9,.cut 26),(10,.cut 26),(12,.vir 11 14),(17,.cut 26),(21,.vir 14 14)],fin:=some 0,live:=[(5,[1,5,6,27,28,29]),(14,[1,5,6,9,10,11,12,27,28,29]),(23,[1,6,13,14,15])],out:=[(5,[1,5,6]),(14,[1,5,6,9,10,11,27,28,29]),(23,[13,14])] }
@[simp] abbrev d6X (a:S2):=[[(iI 1),(iI a.d.st.t),(iI a.d.st.node),(iI a.d.st.n),(j3 0),(j3 2),(j3 3)]]
@[simp] abbrev a1W (a:S2):Ob:=(o_ 0 7 (d6X a))
@[simp] abbrev d6W (a:S2):=[[(iI a.now),(iI a.swept),(sA 1 [[z_],[(iI 2)]]),(iN a.nx),(j3 5),(j3 6)]]
@[simp] abbrev a1V (a:S2):Ob:=(o_ 0 6 (d6W a))
@[simp] abbrev c7r (a:Nat) (b:S2):Ob:=(o_ 0 2 [[(iI (r9 32)),(d9 14 (st2 1 (j6 1 0 2 a b).1).d.g 10 (List.length (st2 1 (j6 1 0 2 a b).1).d.l))]])
@[simp] abbrev c7q (a:Nat) (b:S2):Ob:=(o_ ((st2 1 (j6 1 0 2 a b).1).d.g) 10 (mE (st2 1 (j6 1 0 2 a b).1).d.l))
@[simp] abbrev c7p (a:Nat) (b:S2):Ob:=(o_ 0 3 [[(iI (st2 1 (j6 1 0 2 a b).1).d.gf),(iI (st2 1 (j6 1 0 2 a b).1).d.gl),(iI (st2 1 (j6 1 0 2 a b).1).d.gt)]])
@[simp] abbrev c7o (a:Nat) (b:S2):Ob:=(o_ 0 2 [[(iN ((List.length (st2 1 (j6 1 0 2 a b).1).d.al))),(d9 17 (st2 1 (j6 1 0 2 a b).1).d.ga 2 (l7 (st2 1 (j6 1 0 2 a b).1).d.al).length)]])
@[simp] abbrev c7n (a:Nat) (b:S2):Ob:=(o_ ((st2 1 (j6 1 0 2 a b).1).d.ga) 2 (mK (l7 (st2 1 (j6 1 0 2 a b).1).d.al)))
@[simp] abbrev c7m (a:Nat) (b:S2):Ob:=(o_ 0 7 [[(iI 1),(iI (st2 1 (j6 1 0 2 a b).1).d.st.t),(iI (st2 1 (j6 1 0 2 a b).1).d.st.node),(iI (st2 1 (j6 1 0 2 a b).1).d.st.n),(j3 13),(j3 15),(j3 16)]])
@[simp] abbrev c7l (a:Nat) (b:S2):Ob:=(o_ 0 3 [[(d9 20 1 1 2),(d9 21 0 1 2),(iI (st2 1 (j6 1 0 2 a b).1).lost)]])
@[simp] abbrev c7k (c:Nat) (d:S2):Ob:=(o_ 0 1 [[(d9 22 (st2 1 (j6 1 0 2 c d).1).ga 9 (List.length (st2 1 (j6 1 0 2 c d).1).a))],[(d9 23 (st2 1 (j6 1 0 2 c d).1).gb 9 (List.length (st2 1 (j6 1 0 2 c d).1).b))]])
@[simp] abbrev c7j (b:Nat) (c:S2):Ob:=(o_ ((st2 1 (j6 1 0 2 b c).1).ga) 9 (mC (st2 1 (j6 1 0 2 b c).1).a))
@[simp] abbrev c7i (a:Nat) (c:S2):Ob:=(o_ ((st2 1 (j6 1 0 2 a c).1).gb) 9 (mC (st2 1 (j6 1 0 2 a c).1).b))
@[simp] abbrev c7h (a:Nat) (b:S2):Ob:=(o_ 0 6 [[(iI (st2 1 (j6 1 0 2 a b).1).now),(iI (st2 1 (j6 1 0 2 a b).1).swept),(sA 1 [[z_],[(iI 2)]]),(iN ((st2 1 (j6 1 0 2 a b).1).nx)),(j3 18),(j3 19)]])
@[simp] abbrev a9d (c:S2) (e:Nat) (f:S2):Heap:=[aO c,(o_ c.d.g 10 (mE c.d.l)),eG c,aN c,X5 c,a1W c,X4 c,(o_ 1 1 (List.map y5 [0,2])),cZ c,(o_ c.ga 9 (mC c.a)),(o_ c.gb 9 (mC c.b)),(o_ 1 1 []),a1V c,c7r e f,c7q e f,c7p e f,c7o e f,c7n e f,c7m e f,c7l e f,(o_ 1 1 (List.map y5 [0,2])),c7k e f,c7j e f,c7i e f,(o_ 1 1 []),c7h e f,(o_ (e+1) 14 (((j6 1 0 2 e f).2++(cB 1 0 2 (j6 1 0 2 e f).1)).map u7.row))]
@[simp] abbrev c7g (a:Nat) (b:S2):Ob:=(o_ a 14 (List.map u7.row (j6 1 0 2 a b).2))
@[simp] abbrev a2D (c:S2) (e:Nat) (f:S2):Heap:=[aO c,(o_ c.d.g 10 (mE c.d.l)),eG c,aN c,X5 c,a1W c,X4 c,(o_ 1 1 (List.map y5 [0,2])),cZ c,(o_ c.ga 9 (mC c.a)),(o_ c.gb 9 (mC c.b)),(o_ 1 1 []),a1V c,(o_ 0 2 [[(iI (r9 32)),(d9 14 (j6 1 0 2 e f).1.d.g 10 (List.length (j6 1 0 2 e f).1.d.l))]]),(o_ ((j6 1 0 2 e f).1.d.g) 10 (mE (j6 1 0 2 e f).1.d.l)),(o_ 0 3 [[(iI (j6 1 0 2 e f).1.d.gf),(iI (j6 1 0 2 e f).1.d.gl),(iI (j6 1 0 2 e f).1.d.gt)]]),(o_ 0 2 [[(iN ((List.length (j6 1 0 2 e f).1.d.al))),(d9 17 (j6 1 0 2 e f).1.d.ga 2 (l7 (j6 1 0 2 e f).1.d.al).length)]]),(o_ ((j6 1 0 2 e f).1.d.ga) 2 (mK (l7 (j6 1 0 2 e f).1.d.al))),(o_ 0 7 [[(iI 1),(iI (j6 1 0 2 e f).1.d.st.t),(iI (j6 1 0 2 e f).1.d.st.node),(iI (j6 1 0 2 e f).1.d.st.n),(j3 13),(j3 15),(j3 16)]]),(o_ 0 3 [[(d9 20 1 1 2),(d9 21 0 1 2),(iI (j6 1 0 2 e f).1.lost)]]),(o_ 1 1 (List.map y5 [0,2])),(o_ 0 1 [[(d9 22 (j6 1 0 2 e f).1.ga 9 (List.length (j6 1 0 2 e f).1.a))],[(d9 23 (j6 1 0 2 e f).1.gb 9 (List.length (j6 1 0 2 e f).1.b))]]),(o_ ((j6 1 0 2 e f).1.ga) 9 (mC (j6 1 0 2 e f).1.a)),(o_ ((j6 1 0 2 e f).1.gb) 9 (mC (j6 1 0 2 e f).1.b)),(o_ 1 1 []),(o_ 0 6 [[(iI (j6 1 0 2 e f).1.now),(iI (j6 1 0 2 e f).1.swept),(sA 1 [[z_],[(iI 2)]]),(iN ((j6 1 0 2 e f).1.nx)),(j3 18),(j3 19)]]),c7g e f]
@[simp] abbrev a9c (c:S2) (e:Nat) (f:S2):Heap:=[aO c,(o_ c.d.g 10 (mE c.d.l)),eG c,aN c,X5 c,a1W c,X4 c,(o_ 1 1 (List.map y5 [0,2])),cZ c,(o_ c.ga 9 (mC c.a)),(o_ c.gb 9 (mC c.b)),(o_ 1 1 []),a1V c,c7r e f,c7q e f,c7p e f,c7o e f,c7n e f,c7m e f,c7l e f,(o_ 1 1 (List.map y5 [0,2])),c7k e f,c7j e f,c7i e f,(o_ 1 1 []),c7h e f,c7g e f]
@[simp] abbrev b8O (a:Nat) (b:S2):=(d9 26 (a+1) 14 ((List.length (j6 1 0 2 a b).2)+(cB 1 0 2 (j6 1 0 2 a b).1).length))
@[simp] abbrev a6F (a:List y8):=(sA 16 (a.map y8.row))
@[simp] abbrev a6E (a:Nat) (b:S2):=(d9 26 a 14 (List.length (j6 1 0 2 a b).2))
@[simp] abbrev b8N (a:Nat) (b:S2):=(sA 14 ((cB 1 0 2 (j6 1 0 2 a b).1).map u7.row))
theorem d2G (n:Int) (xs:List y8) (i K q:Nat) (b:Int) (s sq:S2) (lo:List u7) (j:Nat) (hI:S2I q b s) (hK:K<=64) (hq:q < 40000) (hb:b < 1000000) (hj:j<=K) {eX:Ex} {FX:Fr} {HX:Heap} (k1:(l9 j K)=true->l6 (C8 gK Tryz.f3 1) (some [1,5,6,9,10,11,12,27,28,29]) (some [1,5,6,9,10,11,27,28,29]) (mkF 95 [(1,(iI n)),(5,(j3 12)),(6,(j3 25)),(9,(iN K)),(10,(mV lo)),(11,(b8O j s)),(12,(iN (j+1))),(27,(a6F xs)),(28,(iN xs.length)),(29,(iN i))]) (a9d sq j s) eX FX HX) (k2:(l9 j K)=false->((.exit 2:Ex),(mkF 95 [(1,(iI n)),(5,(j3 12)),(6,(j3 25)),(9,(iN K)),(10,(mV lo)),(11,(a6E j s)),(27,(a6F xs)),(28,(iN xs.length)),(29,(iN i))]),(a2D sq j s))=(eX,FX,HX)):l6 (C8 gK Tryz.f3 1) (some [1,5,6,9,10,11,12,27,28,29]) (some [1,5,6,9,10,11,27,28,29]) (mkF 95 [(1,(iI n)),(5,(j3 12)),(6,(j3 25)),(9,(iN K)),(10,(mV lo)),(11,(a6E j s)),(12,(iN j)),(27,(a6F xs)),(28,(iN xs.length)),(29,(iN i))]) (a2D sq j s) eX FX HX:=by
 have hl:=(gL hI 1 0 2 j).2
 have hl2:=zC 1 0 2 (j6 1 0 2 j s).1
 exact J7 (.r (.g (.two (l9 j K) (fun h1 h1'=>(.r (.ch 2 (a9c sq j s) (j5.put2 [13,14,15,16,17,18,19,20,21,22,23,11,25] (a2D sq j s) (b8N j s) (a9c sq j s) (a0L 1 0 2 (q+32 * j) (b+(j:Int)) (j6 1 0 2 j s).1 D8 ((gL hI 1 0 2 j).1) ow ow) rlH rlH) (.ao 3 36 (a6E j s) (b8N j s) (b8O j s) (a9d sq j s) (I8 (T:=tt) (e:=56) (te:=iQ) (z:=1) (b:=24) (y:=[.sl .nil 0 []]) (row:=u7.row) (l:=(j6 1 0 2 j s).2) kr kr rfl D8 D8 kr Y3 om rfl rfl iP) (.s (.y 1 (.int .i64 (cb_ j)) (iN (j+1)) Yes.o (.g (.l (k1 h1))))))))) (fun h1 h1'=>(.l (k2 h1))))))
theorem b5f (n:Int) (xs:List y8) (i K q:Nat) (b:Int) (s sq:S2) (lo:List u7) (hI:S2I q b s) (hK:K<=64) (hq:q < 40000) (hb:b < 1000000) (r:Nat):∀ j,j+r=K ->
 l6 (C8 gK Tryz.f3 1) (some [1,5,6,9,10,11,12,27,28,29]) (some [1,5,6,9,10,11,27,28,29]) (mkF 95 [(1,(iI n)),(5,(j3 12)),(6,(j3 25)),(9,(iN K)),(10,(sA 14 (List.map u7.row lo))),(11,(d9 26 j 14 (List.length (j6 1 0 2 j s).2))),(12,(iN j)),(27,(sA 16 (List.map y8.row xs))),(28,(iN xs.length)),(29,(iN i))]) [(o_ 0 2 [[(iI (r9 32)),(d9 1 sq.d.g 10 sq.d.l.length)]]),(o_ sq.d.g 10 (mE sq.d.l)),(o_ 0 3 [[(iI sq.d.gf),(iI sq.d.gl),(iI sq.d.gt)]]),(o_ 0 2 [[(iN (sq.d.al.length)),(d9 4 sq.d.ga 2 (l7 sq.d.al).length)]]),(o_ sq.d.ga 2 (mK (l7 sq.d.al))),(o_ 0 7 [[(iI 1),(iI sq.d.st.t),(iI sq.d.st.node),(iI sq.d.st.n),(j3 0),(j3 2),(j3 3)]]),(o_ 0 3 [[(d9 7 1 1 2),(d9 8 0 1 2),(iI sq.lost)]]),(o_ 1 1 (List.map y5 [0,2])),(o_ 0 1 [[(d9 9 sq.ga 9 sq.a.length)],[(d9 10 sq.gb 9 sq.b.length)]]),(o_ sq.ga 9 (mC sq.a)),(o_ sq.gb 9 (mC sq.b)),(o_ 1 1 []),(o_ 0 6 [[(iI sq.now),(iI sq.swept),(sA 1 [[z_],[(iI 2)]]),(iN sq.nx),(j3 5),(j3 6)]]),(o_ 0 2 [[(iI (r9 32)),(d9 14 (j6 1 0 2 j s).1.d.g 10 (List.length (j6 1 0 2 j s).1.d.l))]]),(o_ ((j6 1 0 2 j s).1.d.g) 10 (mE (j6 1 0 2 j s).1.d.l)),(o_ 0 3 [[(iI (j6 1 0 2 j s).1.d.gf),(iI (j6 1 0 2 j s).1.d.gl),(iI (j6 1 0 2 j s).1.d.gt)]]),(o_ 0 2 [[(iN ((List.length (j6 1 0 2 j s).1.d.al))),(d9 17 (j6 1 0 2 j s).1.d.ga 2 (l7 (j6 1 0 2 j s).1.d.al).length)]]),(o_ ((j6 1 0 2 j s).1.d.ga) 2 (mK (l7 (j6 1 0 2 j s).1.d.al))),(o_ 0 7 [[(iI 1),(iI (j6 1 0 2 j s).1.d.st.t),(iI (j6 1 0 2 j s).1.d.st.node),(iI (j6 1 0 2 j s).1.d.st.n),(j3 13),(j3 15),(j3 16)]]),(o_ 0 3 [[(d9 20 1 1 2),(d9 21 0 1 2),(iI (j6 1 0 2 j s).1.lost)]]),(o_ 1 1 (List.map y5 [0,2])),(o_ 0 1 [[(d9 22 (j6 1 0 2 j s).1.ga 9 (List.length (j6 1 0 2 j s).1.a))],[(d9 23 (j6 1 0 2 j s).1.gb 9 (List.length (j6 1 0 2 j s).1.b))]]),(o_ ((j6 1 0 2 j s).1.ga) 9 (mC (j6 1 0 2 j s).1.a)),(o_ ((j6 1 0 2 j s).1.gb) 9 (mC (j6 1 0 2 j s).1.b)),(o_ 1 1 []),(o_ 0 6 [[(iI (j6 1 0 2 j s).1.now),(iI (j6 1 0 2 j s).1.swept),(sA 1 [[z_],[(iI 2)]]),(iN ((j6 1 0 2 j s).1.nx)),(j3 18),(j3 19)]]),(o_ j 14 (List.map u7.row (j6 1 0 2 j s).2))] (.exit 2) (mkF 95 [(1,(iI n)),(5,(j3 12)),(6,(j3 25)),(9,(iN K)),(10,(sA 14 (List.map u7.row lo))),(11,(d9 26 K 14 (List.length (j6 1 0 2 K s).2))),(27,(sA 16 (List.map y8.row xs))),(28,(iN xs.length)),(29,(iN i))]) [(o_ 0 2 [[(iI (r9 32)),(d9 1 sq.d.g 10 sq.d.l.length)]]),(o_ sq.d.g 10 (mE sq.d.l)),(o_ 0 3 [[(iI sq.d.gf),(iI sq.d.gl),(iI sq.d.gt)]]),(o_ 0 2 [[(iN (sq.d.al.length)),(d9 4 sq.d.ga 2 (l7 sq.d.al).length)]]),(o_ sq.d.ga 2 (mK (l7 sq.d.al))),(o_ 0 7 [[(iI 1),(iI sq.d.st.t),(iI sq.d.st.node),(iI sq.d.st.n),(j3 0),(j3 2),(j3 3)]]),(o_ 0 3 [[(d9 7 1 1 2),(d9 8 0 1 2),(iI sq.lost)]]),(o_ 1 1 (List.map y5 [0,2])),(o_ 0 1 [[(d9 9 sq.ga 9 sq.a.length)],[(d9 10 sq.gb 9 sq.b.length)]]),(o_ sq.ga 9 (mC sq.a)),(o_ sq.gb 9 (mC sq.b)),(o_ 1 1 []),(o_ 0 6 [[(iI sq.now),(iI sq.swept),(sA 1 [[z_],[(iI 2)]]),(iN sq.nx),(j3 5),(j3 6)]]),(o_ 0 2 [[(iI (r9 32)),(d9 14 (j6 1 0 2 K s).1.d.g 10 (List.length (j6 1 0 2 K s).1.d.l))]]),(o_ ((j6 1 0 2 K s).1.d.g) 10 (mE (j6 1 0 2 K s).1.d.l)),(o_ 0 3 [[(iI (j6 1 0 2 K s).1.d.gf),(iI (j6 1 0 2 K s).1.d.gl),(iI (j6 1 0 2 K s).1.d.gt)]]),(o_ 0 2 [[(iN ((List.length (j6 1 0 2 K s).1.d.al))),(d9 17 (j6 1 0 2 K s).1.d.ga 2 (l7 (j6 1 0 2 K s).1.d.al).length)]]),(o_ ((j6 1 0 2 K s).1.d.ga) 2 (mK (l7 (j6 1 0 2 K s).1.d.al))),(o_ 0 7 [[(iI 1),(iI (j6 1 0 2 K s).1.d.st.t),(iI (j6 1 0 2 K s).1.d.st.node),(iI (j6 1 0 2 K s).1.d.st.n),(j3 13),(j3 15),(j3 16)]]),(o_ 0 3 [[(d9 20 1 1 2),(d9 21 0 1 2),(iI (j6 1 0 2 K s).1.lost)]]),(o_ 1 1 (List.map y5 [0,2])),(o_ 0 1 [[(d9 22 (j6 1 0 2 K s).1.ga 9 (List.length (j6 1 0 2 K s).1.a))],[(d9 23 (j6 1 0 2 K s).1.gb 9 (List.length (j6 1 0 2 K s).1.b))]]),(o_ ((j6 1 0 2 K s).1.ga) 9 (mC (j6 1 0 2 K s).1.a)),(o_ ((j6 1 0 2 K s).1.gb) 9 (mC (j6 1 0 2 K s).1.b)),(o_ 1 1 []),(o_ 0 6 [[(iI (j6 1 0 2 K s).1.now),(iI (j6 1 0 2 K s).1.swept),(sA 1 [[z_],[(iI 2)]]),(iN ((j6 1 0 2 K s).1.nx)),(j3 18),(j3 19)]]),(o_ K 14 (List.map u7.row (j6 1 0 2 K s).2))]:=by
 induction r with
 | zero =>
  intro j hj
  obtain rfl:j=K:=by omega
  refine d2G n xs i j q b s sq lo j hI ow hq hb J8 (fun h=>absurd (of_decide_eq_true h) ow) fun _=>rfl
 | succ r ih =>
  intro j hj
  refine d2G n xs i K q b s sq lo j hI hK hq hb ow (fun _=>?_) (fun h=>absurd (of_decide_eq_false h) ow)
  have q_:=ih (j+1) ow
  rw [c2H] at q_
  have e:((j6 1 0 2 j s).2++cB 1 0 2 (j6 1 0 2 j s).1).length=(j6 1 0 2 j s).2.length+(cB 1 0 2 (j6 1 0 2 j s).1).length:=List.length_append
  simp only at q_
  rw [e] at q_
  exact q_
theorem d6u (n:Int) (xs:List y8) (i K q:Nat) (b:Int) (s sq:S2) (lo:List u7) (hI:S2I q b s) (hK:K<=64) (hq:q < 40000) (hb:b < 1000000):l6 (C8 gK Tryz.f3 1) (some [1,5,6,9,10,11,12,27,28,29]) (some [1,5,6,9,10,11,27,28,29]) (mkF 95 [(1,(iI n)),(5,(j3 12)),(6,(j3 25)),(9,(iN K)),(10,(sA 14 (List.map u7.row lo))),(11,(d9 26 0 14 0)),(12,z_),(27,(sA 16 (List.map y8.row xs))),(28,(iN xs.length)),(29,(iN i))]) [(o_ 0 2 [[(iI (r9 32)),(d9 1 sq.d.g 10 sq.d.l.length)]]),(o_ sq.d.g 10 (mE sq.d.l)),(o_ 0 3 [[(iI sq.d.gf),(iI sq.d.gl),(iI sq.d.gt)]]),(o_ 0 2 [[(iN (sq.d.al.length)),(d9 4 sq.d.ga 2 (l7 sq.d.al).length)]]),(o_ sq.d.ga 2 (mK (l7 sq.d.al))),(o_ 0 7 [[(iI 1),(iI sq.d.st.t),(iI sq.d.st.node),(iI sq.d.st.n),(j3 0),(j3 2),(j3 3)]]),(o_ 0 3 [[(d9 7 1 1 2),(d9 8 0 1 2),(iI sq.lost)]]),(o_ 1 1 (List.map y5 [0,2])),(o_ 0 1 [[(d9 9 sq.ga 9 sq.a.length)],[(d9 10 sq.gb 9 sq.b.length)]]),(o_ sq.ga 9 (mC sq.a)),(o_ sq.gb 9 (mC sq.b)),(o_ 1 1 []),(o_ 0 6 [[(iI sq.now),(iI sq.swept),(sA 1 [[z_],[(iI 2)]]),(iN sq.nx),(j3 5),(j3 6)]]),(o_ 0 2 [[(iI (r9 32)),(d9 14 s.d.g 10 s.d.l.length)]]),(o_ s.d.g 10 (mE s.d.l)),(o_ 0 3 [[(iI s.d.gf),(iI s.d.gl),(iI s.d.gt)]]),(o_ 0 2 [[(iN (s.d.al.length)),(d9 17 s.d.ga 2 (l7 s.d.al).length)]]),(o_ s.d.ga 2 (mK (l7 s.d.al))),(o_ 0 7 [[(iI 1),(iI s.d.st.t),(iI s.d.st.node),(iI s.d.st.n),(j3 13),(j3 15),(j3 16)]]),(o_ 0 3 [[(d9 20 1 1 2),(d9 21 0 1 2),(iI s.lost)]]),(o_ 1 1 (List.map y5 [0,2])),(o_ 0 1 [[(d9 22 s.ga 9 s.a.length)],[(d9 23 s.gb 9 s.b.length)]]),(o_ s.ga 9 (mC s.a)),(o_ s.gb 9 (mC s.b)),(o_ 1 1 []),(o_ 0 6 [[(iI s.now),(iI s.swept),(sA 1 [[z_],[(iI 2)]]),(iN s.nx),(j3 18),(j3 19)]]),(o_ 0 14 (List.map u7.row ([]:List u7)))] (.exit 2) (mkF 95 [(1,(iI n)),(5,(j3 12)),(6,(j3 25)),(9,(iN K)),(10,(sA 14 (List.map u7.row lo))),(11,(d9 26 K 14 (List.length (j6 1 0 2 K s).2))),(27,(sA 16 (List.map y8.row xs))),(28,(iN xs.length)),(29,(iN i))]) [(o_ 0 2 [[(iI (r9 32)),(d9 1 sq.d.g 10 sq.d.l.length)]]),(o_ sq.d.g 10 (mE sq.d.l)),(o_ 0 3 [[(iI sq.d.gf),(iI sq.d.gl),(iI sq.d.gt)]]),(o_ 0 2 [[(iN (sq.d.al.length)),(d9 4 sq.d.ga 2 (l7 sq.d.al).length)]]),(o_ sq.d.ga 2 (mK (l7 sq.d.al))),(o_ 0 7 [[(iI 1),(iI sq.d.st.t),(iI sq.d.st.node),(iI sq.d.st.n),(j3 0),(j3 2),(j3 3)]]),(o_ 0 3 [[(d9 7 1 1 2),(d9 8 0 1 2),(iI sq.lost)]]),(o_ 1 1 (List.map y5 [0,2])),(o_ 0 1 [[(d9 9 sq.ga 9 sq.a.length)],[(d9 10 sq.gb 9 sq.b.length)]]),(o_ sq.ga 9 (mC sq.a)),(o_ sq.gb 9 (mC sq.b)),(o_ 1 1 []),(o_ 0 6 [[(iI sq.now),(iI sq.swept),(sA 1 [[z_],[(iI 2)]]),(iN sq.nx),(j3 5),(j3 6)]]),(o_ 0 2 [[(iI (r9 32)),(d9 14 (j6 1 0 2 K s).1.d.g 10 (List.length (j6 1 0 2 K s).1.d.l))]]),(o_ ((j6 1 0 2 K s).1.d.g) 10 (mE (j6 1 0 2 K s).1.d.l)),(o_ 0 3 [[(iI (j6 1 0 2 K s).1.d.gf),(iI (j6 1 0 2 K s).1.d.gl),(iI (j6 1 0 2 K s).1.d.gt)]]),(o_ 0 2 [[(iN ((List.length (j6 1 0 2 K s).1.d.al))),(d9 17 (j6 1 0 2 K s).1.d.ga 2 (l7 (j6 1 0 2 K s).1.d.al).length)]]),(o_ ((j6 1 0 2 K s).1.d.ga) 2 (mK (l7 (j6 1 0 2 K s).1.d.al))),(o_ 0 7 [[(iI 1),(iI (j6 1 0 2 K s).1.d.st.t),(iI (j6 1 0 2 K s).1.d.st.node),(iI (j6 1 0 2 K s).1.d.st.n),(j3 13),(j3 15),(j3 16)]]),(o_ 0 3 [[(d9 20 1 1 2),(d9 21 0 1 2),(iI (j6 1 0 2 K s).1.lost)]]),(o_ 1 1 (List.map y5 [0,2])),(o_ 0 1 [[(d9 22 (j6 1 0 2 K s).1.ga 9 (List.length (j6 1 0 2 K s).1.a))],[(d9 23 (j6 1 0 2 K s).1.gb 9 (List.length (j6 1 0 2 K s).1.b))]]),(o_ ((j6 1 0 2 K s).1.ga) 9 (mC (j6 1 0 2 K s).1.a)),(o_ ((j6 1 0 2 K s).1.gb) 9 (mC (j6 1 0 2 K s).1.b)),(o_ 1 1 []),(o_ 0 6 [[(iI (j6 1 0 2 K s).1.now),(iI (j6 1 0 2 K s).1.swept),(sA 1 [[z_],[(iI 2)]]),(iN ((j6 1 0 2 K s).1.nx)),(j3 18),(j3 19)]]),(o_ K 14 (List.map u7.row (j6 1 0 2 K s).2))]:=by
 have q:=b5f n xs i K q b s sq lo hI hK hq hb K 0 ow
 rw [c2I] at q
 exact q
theorem d2F (n:Int) (K q:Nat) (b:Int) (s sq:S2) (lo:List u7) (j:Nat) (hI:S2I q b s) (hK:K=maskN n 63) (hq:q < 40000) (hb:b < 1000000) (hj:j<=K) {eX:Ex} {FX:Fr} {HX:Heap} (k1:(l9 j (maskN n 63))=true->l6 (C8 gK Tryz.f3 2) (some [1,6,13,14,15]) (some [13,14]) (mkF 95 [(1,(iI n)),(6,(j3 25)),(13,(mV lo)),(14,(b8O j s)),(15,(iN (j+1)))]) (a9d sq j s) eX FX HX) (k2:(l9 j (maskN n 63))=false->((.exit 4:Ex),(mkF 95 [(13,(mV lo)),(14,(a6E j s))]),(a2D sq j s))=(eX,FX,HX)):l6 (C8 gK Tryz.f3 2) (some [1,6,13,14,15]) (some [13,14]) (mkF 95 [(1,(iI n)),(6,(j3 25)),(13,(mV lo)),(14,(a6E j s)),(15,(iN j))]) (a2D sq j s) eX FX HX:=by
 have hl:=(gL hI 1 0 2 j).2
 have hl2:=zC 1 0 2 (j6 1 0 2 j s).1
 have hm63:=a3x n 63 ow
 exact J7 (.r (.y 2 (iW ((BitVec.ofInt 64 n &&& BitVec.ofInt 64 63).toNat)) (iN (maskN n 63)) (Yes.mask (m:=63) ow) (.g (.two (l9 j (maskN n 63)) (fun h1 h1'=>(.r (.ch 2 (a9c sq j s) (j5.put2 [13,14,15,16,17,18,19,20,21,22,23,11,25] (a2D sq j s) (b8N j s) (a9c sq j s) (a0L 1 0 2 (q+32 * j) (b+(j:Int)) (j6 1 0 2 j s).1 D8 ((gL hI 1 0 2 j).1) ow ow) rlH rlH) (.ao 3 36 (a6E j s) (b8N j s) (b8O j s) (a9d sq j s) (I8 (T:=tt) (e:=56) (te:=iQ) (z:=1) (b:=24) (y:=[.sl .nil 0 []]) (row:=u7.row) (l:=(j6 1 0 2 j s).2) kr kr rfl D8 D8 kr Y3 om rfl rfl iP) (.s (.y 1 (.int .i64 (cb_ j)) (iN (j+1)) Yes.o (.g (.l (k1 h1))))))))) (fun h1 h1'=>(.l (k2 h1)))))))
theorem b5e (n:Int) (K q:Nat) (b:Int) (s sq:S2) (lo:List u7) (hI:S2I q b s) (hK:K=maskN n 63) (hq:q < 40000) (hb:b < 1000000) (r:Nat):∀ j,j+r=K ->
 l6 (C8 gK Tryz.f3 2) (some [1,6,13,14,15]) (some [13,14]) (mkF 95 [(1,(iI n)),(6,(j3 25)),(13,(sA 14 (List.map u7.row lo))),(14,(d9 26 j 14 (List.length (j6 1 0 2 j s).2))),(15,(iN j))]) [(o_ 0 2 [[(iI (r9 32)),(d9 1 sq.d.g 10 sq.d.l.length)]]),(o_ sq.d.g 10 (mE sq.d.l)),(o_ 0 3 [[(iI sq.d.gf),(iI sq.d.gl),(iI sq.d.gt)]]),(o_ 0 2 [[(iN (sq.d.al.length)),(d9 4 sq.d.ga 2 (l7 sq.d.al).length)]]),(o_ sq.d.ga 2 (mK (l7 sq.d.al))),(o_ 0 7 [[(iI 1),(iI sq.d.st.t),(iI sq.d.st.node),(iI sq.d.st.n),(j3 0),(j3 2),(j3 3)]]),(o_ 0 3 [[(d9 7 1 1 2),(d9 8 0 1 2),(iI sq.lost)]]),(o_ 1 1 (List.map y5 [0,2])),(o_ 0 1 [[(d9 9 sq.ga 9 sq.a.length)],[(d9 10 sq.gb 9 sq.b.length)]]),(o_ sq.ga 9 (mC sq.a)),(o_ sq.gb 9 (mC sq.b)),(o_ 1 1 []),(o_ 0 6 [[(iI sq.now),(iI sq.swept),(sA 1 [[z_],[(iI 2)]]),(iN sq.nx),(j3 5),(j3 6)]]),(o_ 0 2 [[(iI (r9 32)),(d9 14 (j6 1 0 2 j s).1.d.g 10 (List.length (j6 1 0 2 j s).1.d.l))]]),(o_ ((j6 1 0 2 j s).1.d.g) 10 (mE (j6 1 0 2 j s).1.d.l)),(o_ 0 3 [[(iI (j6 1 0 2 j s).1.d.gf),(iI (j6 1 0 2 j s).1.d.gl),(iI (j6 1 0 2 j s).1.d.gt)]]),(o_ 0 2 [[(iN ((List.length (j6 1 0 2 j s).1.d.al))),(d9 17 (j6 1 0 2 j s).1.d.ga 2 (l7 (j6 1 0 2 j s).1.d.al).length)]]),(o_ ((j6 1 0 2 j s).1.d.ga) 2 (mK (l7 (j6 1 0 2 j s).1.d.al))),(o_ 0 7 [[(iI 1),(iI (j6 1 0 2 j s).1.d.st.t),(iI (j6 1 0 2 j s).1.d.st.node),(iI (j6 1 0 2 j s).1.d.st.n),(j3 13),(j3 15),(j3 16)]]),(o_ 0 3 [[(d9 20 1 1 2),(d9 21 0 1 2),(iI (j6 1 0 2 j s).1.lost)]]),(o_ 1 1 (List.map y5 [0,2])),(o_ 0 1 [[(d9 22 (j6 1 0 2 j s).1.ga 9 (List.length (j6 1 0 2 j s).1.a))],[(d9 23 (j6 1 0 2 j s).1.gb 9 (List.length (j6 1 0 2 j s).1.b))]]),(o_ ((j6 1 0 2 j s).1.ga) 9 (mC (j6 1 0 2 j s).1.a)),(o_ ((j6 1 0 2 j s).1.gb) 9 (mC (j6 1 0 2 j s).1.b)),(o_ 1 1 []),(o_ 0 6 [[(iI (j6 1 0 2 j s).1.now),(iI (j6 1 0 2 j s).1.swept),(sA 1 [[z_],[(iI 2)]]),(iN ((j6 1 0 2 j s).1.nx)),(j3 18),(j3 19)]]),(o_ j 14 (List.map u7.row (j6 1 0 2 j s).2))] (.exit 4) (mkF 95 [(13,(sA 14 (List.map u7.row lo))),(14,(d9 26 K 14 (List.length (j6 1 0 2 K s).2)))]) [(o_ 0 2 [[(iI (r9 32)),(d9 1 sq.d.g 10 sq.d.l.length)]]),(o_ sq.d.g 10 (mE sq.d.l)),(o_ 0 3 [[(iI sq.d.gf),(iI sq.d.gl),(iI sq.d.gt)]]),(o_ 0 2 [[(iN (sq.d.al.length)),(d9 4 sq.d.ga 2 (l7 sq.d.al).length)]]),(o_ sq.d.ga 2 (mK (l7 sq.d.al))),(o_ 0 7 [[(iI 1),(iI sq.d.st.t),(iI sq.d.st.node),(iI sq.d.st.n),(j3 0),(j3 2),(j3 3)]]),(o_ 0 3 [[(d9 7 1 1 2),(d9 8 0 1 2),(iI sq.lost)]]),(o_ 1 1 (List.map y5 [0,2])),(o_ 0 1 [[(d9 9 sq.ga 9 sq.a.length)],[(d9 10 sq.gb 9 sq.b.length)]]),(o_ sq.ga 9 (mC sq.a)),(o_ sq.gb 9 (mC sq.b)),(o_ 1 1 []),(o_ 0 6 [[(iI sq.now),(iI sq.swept),(sA 1 [[z_],[(iI 2)]]),(iN sq.nx),(j3 5),(j3 6)]]),(o_ 0 2 [[(iI (r9 32)),(d9 14 (j6 1 0 2 K s).1.d.g 10 (List.length (j6 1 0 2 K s).1.d.l))]]),(o_ ((j6 1 0 2 K s).1.d.g) 10 (mE (j6 1 0 2 K s).1.d.l)),(o_ 0 3 [[(iI (j6 1 0 2 K s).1.d.gf),(iI (j6 1 0 2 K s).1.d.gl),(iI (j6 1 0 2 K s).1.d.gt)]]),(o_ 0 2 [[(iN ((List.length (j6 1 0 2 K s).1.d.al))),(d9 17 (j6 1 0 2 K s).1.d.ga 2 (l7 (j6 1 0 2 K s).1.d.al).length)]]),(o_ ((j6 1 0 2 K s).1.d.ga) 2 (mK (l7 (j6 1 0 2 K s).1.d.al))),(o_ 0 7 [[(iI 1),(iI (j6 1 0 2 K s).1.d.st.t),(iI (j6 1 0 2 K s).1.d.st.node),(iI (j6 1 0 2 K s).1.d.st.n),(j3 13),(j3 15),(j3 16)]]),(o_ 0 3 [[(d9 20 1 1 2),(d9 21 0 1 2),(iI (j6 1 0 2 K s).1.lost)]]),(o_ 1 1 (List.map y5 [0,2])),(o_ 0 1 [[(d9 22 (j6 1 0 2 K s).1.ga 9 (List.length (j6 1 0 2 K s).1.a))],[(d9 23 (j6 1 0 2 K s).1.gb 9 (List.length (j6 1 0 2 K s).1.b))]]),(o_ ((j6 1 0 2 K s).1.ga) 9 (mC (j6 1 0 2 K s).1.a)),(o_ ((j6 1 0 2 K s).1.gb) 9 (mC (j6 1 0 2 K s).1.b)),(o_ 1 1 []),(o_ 0 6 [[(iI (j6 1 0 2 K s).1.now),(iI (j6 1 0 2 K s).1.swept),(sA 1 [[z_],[(iI 2)]]),(iN ((j6 1 0 2 K s).1.nx)),(j3 18),(j3 19)]]),(o_ K 14 (List.map u7.row (j6 1 0 2 K s).2))]:=by
 induction r with
 | zero =>
  intro j hj
  obtain rfl:j=K:=by omega
  refine d2F n j q b s sq lo j hI hK hq hb J8 (fun h=>absurd (of_decide_eq_true h) ow) fun _=>rfl
 | succ r ih =>
  intro j hj
  refine d2F n K q b s sq lo j hI hK hq hb ow (fun _=>?_) (fun h=>absurd (of_decide_eq_false h) ow)
  have q_:=ih (j+1) ow
  rw [c2H] at q_
  have e:((j6 1 0 2 j s).2++cB 1 0 2 (j6 1 0 2 j s).1).length=(j6 1 0 2 j s).2.length+(cB 1 0 2 (j6 1 0 2 j s).1).length:=List.length_append
  simp only at q_
  rw [e] at q_
  exact q_
theorem d6t (n:Int) (K q:Nat) (b:Int) (s sq:S2) (lo:List u7) (hI:S2I q b s) (hK:K=maskN n 63) (hq:q < 40000) (hb:b < 1000000):l6 (C8 gK Tryz.f3 2) (some [1,6,13,14,15]) (some [13,14]) (mkF 95 [(1,(iI n)),(6,(j3 25)),(13,(sA 14 (List.map u7.row lo))),(14,(d9 26 0 14 0)),(15,z_)]) [(o_ 0 2 [[(iI (r9 32)),(d9 1 sq.d.g 10 sq.d.l.length)]]),(o_ sq.d.g 10 (mE sq.d.l)),(o_ 0 3 [[(iI sq.d.gf),(iI sq.d.gl),(iI sq.d.gt)]]),(o_ 0 2 [[(iN (sq.d.al.length)),(d9 4 sq.d.ga 2 (l7 sq.d.al).length)]]),(o_ sq.d.ga 2 (mK (l7 sq.d.al))),(o_ 0 7 [[(iI 1),(iI sq.d.st.t),(iI sq.d.st.node),(iI sq.d.st.n),(j3 0),(j3 2),(j3 3)]]),(o_ 0 3 [[(d9 7 1 1 2),(d9 8 0 1 2),(iI sq.lost)]]),(o_ 1 1 (List.map y5 [0,2])),(o_ 0 1 [[(d9 9 sq.ga 9 sq.a.length)],[(d9 10 sq.gb 9 sq.b.length)]]),(o_ sq.ga 9 (mC sq.a)),(o_ sq.gb 9 (mC sq.b)),(o_ 1 1 []),(o_ 0 6 [[(iI sq.now),(iI sq.swept),(sA 1 [[z_],[(iI 2)]]),(iN sq.nx),(j3 5),(j3 6)]]),(o_ 0 2 [[(iI (r9 32)),(d9 14 s.d.g 10 s.d.l.length)]]),(o_ s.d.g 10 (mE s.d.l)),(o_ 0 3 [[(iI s.d.gf),(iI s.d.gl),(iI s.d.gt)]]),(o_ 0 2 [[(iN (s.d.al.length)),(d9 17 s.d.ga 2 (l7 s.d.al).length)]]),(o_ s.d.ga 2 (mK (l7 s.d.al))),(o_ 0 7 [[(iI 1),(iI s.d.st.t),(iI s.d.st.node),(iI s.d.st.n),(j3 13),(j3 15),(j3 16)]]),(o_ 0 3 [[(d9 20 1 1 2),(d9 21 0 1 2),(iI s.lost)]]),(o_ 1 1 (List.map y5 [0,2])),(o_ 0 1 [[(d9 22 s.ga 9 s.a.length)],[(d9 23 s.gb 9 s.b.length)]]),(o_ s.ga 9 (mC s.a)),(o_ s.gb 9 (mC s.b)),(o_ 1 1 []),(o_ 0 6 [[(iI s.now),(iI s.swept),(sA 1 [[z_],[(iI 2)]]),(iN s.nx),(j3 18),(j3 19)]]),(o_ 0 14 (List.map u7.row ([]:List u7)))] (.exit 4) (mkF 95 [(13,(sA 14 (List.map u7.row lo))),(14,(d9 26 K 14 (List.length (j6 1 0 2 K s).2)))]) [(o_ 0 2 [[(iI (r9 32)),(d9 1 sq.d.g 10 sq.d.l.length)]]),(o_ sq.d.g 10 (mE sq.d.l)),(o_ 0 3 [[(iI sq.d.gf),(iI sq.d.gl),(iI sq.d.gt)]]),(o_ 0 2 [[(iN (sq.d.al.length)),(d9 4 sq.d.ga 2 (l7 sq.d.al).length)]]),(o_ sq.d.ga 2 (mK (l7 sq.d.al))),(o_ 0 7 [[(iI 1),(iI sq.d.st.t),(iI sq.d.st.node),(iI sq.d.st.n),(j3 0),(j3 2),(j3 3)]]),(o_ 0 3 [[(d9 7 1 1 2),(d9 8 0 1 2),(iI sq.lost)]]),(o_ 1 1 (List.map y5 [0,2])),(o_ 0 1 [[(d9 9 sq.ga 9 sq.a.length)],[(d9 10 sq.gb 9 sq.b.length)]]),(o_ sq.ga 9 (mC sq.a)),(o_ sq.gb 9 (mC sq.b)),(o_ 1 1 []),(o_ 0 6 [[(iI sq.now),(iI sq.swept),(sA 1 [[z_],[(iI 2)]]),(iN sq.nx),(j3 5),(j3 6)]]),(o_ 0 2 [[(iI (r9 32)),(d9 14 (j6 1 0 2 K s).1.d.g 10 (List.length (j6 1 0 2 K s).1.d.l))]]),(o_ ((j6 1 0 2 K s).1.d.g) 10 (mE (j6 1 0 2 K s).1.d.l)),(o_ 0 3 [[(iI (j6 1 0 2 K s).1.d.gf),(iI (j6 1 0 2 K s).1.d.gl),(iI (j6 1 0 2 K s).1.d.gt)]]),(o_ 0 2 [[(iN ((List.length (j6 1 0 2 K s).1.d.al))),(d9 17 (j6 1 0 2 K s).1.d.ga 2 (l7 (j6 1 0 2 K s).1.d.al).length)]]),(o_ ((j6 1 0 2 K s).1.d.ga) 2 (mK (l7 (j6 1 0 2 K s).1.d.al))),(o_ 0 7 [[(iI 1),(iI (j6 1 0 2 K s).1.d.st.t),(iI (j6 1 0 2 K s).1.d.st.node),(iI (j6 1 0 2 K s).1.d.st.n),(j3 13),(j3 15),(j3 16)]]),(o_ 0 3 [[(d9 20 1 1 2),(d9 21 0 1 2),(iI (j6 1 0 2 K s).1.lost)]]),(o_ 1 1 (List.map y5 [0,2])),(o_ 0 1 [[(d9 22 (j6 1 0 2 K s).1.ga 9 (List.length (j6 1 0 2 K s).1.a))],[(d9 23 (j6 1 0 2 K s).1.gb 9 (List.length (j6 1 0 2 K s).1.b))]]),(o_ ((j6 1 0 2 K s).1.ga) 9 (mC (j6 1 0 2 K s).1.a)),(o_ ((j6 1 0 2 K s).1.gb) 9 (mC (j6 1 0 2 K s).1.b)),(o_ 1 1 []),(o_ 0 6 [[(iI (j6 1 0 2 K s).1.now),(iI (j6 1 0 2 K s).1.swept),(sA 1 [[z_],[(iI 2)]]),(iN ((j6 1 0 2 K s).1.nx)),(j3 18),(j3 19)]]),(o_ K 14 (List.map u7.row (j6 1 0 2 K s).2))]:=by
 have q:=b5e n K q b s sq lo hI hK hq hb K 0 ow
 rw [c2I] at q
 exact q
@[simp] abbrev d4z (a:Int) (b:List y8) (c:Nat):Fr:=(mkF 95 [(1,(iI a)),(5,(j3 12)),(6,(j3 25)),(27,(a6F b)),(28,(iN b.length)),(29,(iN (c+1)))])
@[simp] abbrev b2B (a:S2) (b:List y8) (c:Nat):Ob:=(o_ 0 2 [[(iI (r9 32)),(d9 1 (rv2 1 a (nth b c).m).d.g 10 (List.length (rv2 1 a (nth b c).m).d.l))]])
@[simp] abbrev a1U (a:S2) (b:List y8) (c:Nat):Ob:=(o_ ((rv2 1 a (nth b c).m).d.g) 10 (mE (rv2 1 a (nth b c).m).d.l))
@[simp] abbrev a1T (a:S2) (b:List y8) (c:Nat):Ob:=(o_ 0 3 [[(iI (rv2 1 a (nth b c).m).d.gf),(iI (rv2 1 a (nth b c).m).d.gl),(iI (rv2 1 a (nth b c).m).d.gt)]])
@[simp] abbrev b2A (a:S2) (b:List y8) (c:Nat):Ob:=(o_ 0 2 [[(iN ((List.length (rv2 1 a (nth b c).m).d.al))),(d9 4 (rv2 1 a (nth b c).m).d.ga 2 (l7 (rv2 1 a (nth b c).m).d.al).length)]])
@[simp] abbrev a1S (a:S2) (b:List y8) (c:Nat):Ob:=(o_ ((rv2 1 a (nth b c).m).d.ga) 2 (mK (l7 (rv2 1 a (nth b c).m).d.al)))
@[simp] abbrev b2z (a:S2) (b:List y8) (c:Nat):Ob:=(o_ 0 7 [[(iI 1),(iI (rv2 1 a (nth b c).m).d.st.t),(iI (rv2 1 a (nth b c).m).d.st.node),(iI (rv2 1 a (nth b c).m).d.st.n),(j3 0),(j3 2),(j3 3)]])
@[simp] abbrev b2y (a:S2) (b:List y8) (c:Nat):Ob:=(o_ 0 3 [[(d9 7 1 1 2),(d9 8 0 1 2),(iI (rv2 1 a (nth b c).m).lost)]])
@[simp] abbrev b2x (c:S2) (d:List y8) (e:Nat):Ob:=(o_ 0 1 [[(d9 9 (rv2 1 c (nth d e).m).ga 9 (List.length (rv2 1 c (nth d e).m).a))],[(d9 10 (rv2 1 c (nth d e).m).gb 9 (List.length (rv2 1 c (nth d e).m).b))]])
@[simp] abbrev a1R (b:S2) (c:List y8) (d:Nat):Ob:=(o_ ((rv2 1 b (nth c d).m).ga) 9 (mC (rv2 1 b (nth c d).m).a))
@[simp] abbrev a1Q (a:S2) (c:List y8) (d:Nat):Ob:=(o_ ((rv2 1 a (nth c d).m).gb) 9 (mC (rv2 1 a (nth c d).m).b))
@[simp] abbrev b2w (a:S2) (b:List y8) (c:Nat):Ob:=(o_ 0 6 [[(iI (rv2 1 a (nth b c).m).now),(iI (rv2 1 a (nth b c).m).swept),(sA 1 [[z_],[(iI 2)]]),(iN ((rv2 1 a (nth b c).m).nx)),(j3 5),(j3 6)]])
@[simp] abbrev c7f (a:S2) (b:List y8) (c:Nat):Ob:=(o_ 0 2 [[(iI (r9 32)),(d9 14 (rv2 1 a (nth b c).m).d.g 10 (List.length (rv2 1 a (nth b c).m).d.l))]])
@[simp] abbrev c7e (a:S2) (b:List y8) (c:Nat):Ob:=(o_ 0 2 [[(iN ((List.length (rv2 1 a (nth b c).m).d.al))),(d9 17 (rv2 1 a (nth b c).m).d.ga 2 (l7 (rv2 1 a (nth b c).m).d.al).length)]])
@[simp] abbrev c7d (a:S2) (b:List y8) (c:Nat):Ob:=(o_ 0 7 [[(iI 1),(iI (rv2 1 a (nth b c).m).d.st.t),(iI (rv2 1 a (nth b c).m).d.st.node),(iI (rv2 1 a (nth b c).m).d.st.n),(j3 13),(j3 15),(j3 16)]])
@[simp] abbrev c7c (a:S2) (b:List y8) (c:Nat):Ob:=(o_ 0 3 [[(d9 20 1 1 2),(d9 21 0 1 2),(iI (rv2 1 a (nth b c).m).lost)]])
@[simp] abbrev c7b (c:S2) (d:List y8) (e:Nat):Ob:=(o_ 0 1 [[(d9 22 (rv2 1 c (nth d e).m).ga 9 (List.length (rv2 1 c (nth d e).m).a))],[(d9 23 (rv2 1 c (nth d e).m).gb 9 (List.length (rv2 1 c (nth d e).m).b))]])
@[simp] abbrev c7a (a:S2) (b:List y8) (c:Nat):Ob:=(o_ 0 6 [[(iI (rv2 1 a (nth b c).m).now),(iI (rv2 1 a (nth b c).m).swept),(sA 1 [[z_],[(iI 2)]]),(iN ((rv2 1 a (nth b c).m).nx)),(j3 18),(j3 19)]])
@[simp] abbrev d4y (a:S2) (b:List y8) (c:Nat):Heap:=[b2B a b c,a1U a b c,a1T a b c,b2A a b c,a1S a b c,b2z a b c,b2y a b c,(o_ 1 1 (List.map y5 [0,2])),b2x a b c,a1R a b c,a1Q a b c,(o_ 1 1 []),b2w a b c,c7f a b c,a1U a b c,a1T a b c,c7e a b c,a1S a b c,c7d a b c,c7c a b c,(o_ 1 1 (List.map y5 [0,2])),c7b a b c,a1R a b c,a1Q a b c,(o_ 1 1 []),c7a a b c]
@[simp] abbrev b2v (a:List y8) (b:Nat) (c:S2):Ob:=(o_ 0 2 [[(iI (r9 32)),(d9 1 (j6 1 0 2 ((nth a b).n % 40) c).1.d.g 10 (List.length (j6 1 0 2 ((nth a b).n % 40) c).1.d.l))]])
@[simp] abbrev a1P (a:List y8) (b:Nat) (c:S2):Ob:=(o_ ((j6 1 0 2 ((nth a b).n % 40) c).1.d.g) 10 (mE (j6 1 0 2 ((nth a b).n % 40) c).1.d.l))
@[simp] abbrev a1O (a:List y8) (b:Nat) (c:S2):Ob:=(o_ 0 3 [[(iI (j6 1 0 2 ((nth a b).n % 40) c).1.d.gf),(iI (j6 1 0 2 ((nth a b).n % 40) c).1.d.gl),(iI (j6 1 0 2 ((nth a b).n % 40) c).1.d.gt)]])
@[simp] abbrev b2u (a:List y8) (b:Nat) (c:S2):Ob:=(o_ 0 2 [[(iN ((List.length (j6 1 0 2 ((nth a b).n % 40) c).1.d.al))),(d9 4 (j6 1 0 2 ((nth a b).n % 40) c).1.d.ga 2 (l7 (j6 1 0 2 ((nth a b).n % 40) c).1.d.al).length)]])
@[simp] abbrev a1N (a:List y8) (b:Nat) (c:S2):Ob:=(o_ ((j6 1 0 2 ((nth a b).n % 40) c).1.d.ga) 2 (mK (l7 (j6 1 0 2 ((nth a b).n % 40) c).1.d.al)))
@[simp] abbrev b2t (a:List y8) (b:Nat) (c:S2):Ob:=(o_ 0 7 [[(iI 1),(iI (j6 1 0 2 ((nth a b).n % 40) c).1.d.st.t),(iI (j6 1 0 2 ((nth a b).n % 40) c).1.d.st.node),(iI (j6 1 0 2 ((nth a b).n % 40) c).1.d.st.n),(j3 0),(j3 2),(j3 3)]])
@[simp] abbrev b2s (a:List y8) (b:Nat) (c:S2):Ob:=(o_ 0 3 [[(d9 7 1 1 2),(d9 8 0 1 2),(iI (j6 1 0 2 ((nth a b).n % 40) c).1.lost)]])
@[simp] abbrev b2r (c:List y8) (d:Nat) (e:S2):Ob:=(o_ 0 1 [[(d9 9 (j6 1 0 2 ((nth c d).n % 40) e).1.ga 9 (List.length (j6 1 0 2 ((nth c d).n % 40) e).1.a))],[(d9 10 (j6 1 0 2 ((nth c d).n % 40) e).1.gb 9 (List.length (j6 1 0 2 ((nth c d).n % 40) e).1.b))]])
@[simp] abbrev a1M (b:List y8) (c:Nat) (d:S2):Ob:=(o_ ((j6 1 0 2 ((nth b c).n % 40) d).1.ga) 9 (mC (j6 1 0 2 ((nth b c).n % 40) d).1.a))
@[simp] abbrev a1L (a:List y8) (c:Nat) (d:S2):Ob:=(o_ ((j6 1 0 2 ((nth a c).n % 40) d).1.gb) 9 (mC (j6 1 0 2 ((nth a c).n % 40) d).1.b))
@[simp] abbrev b2q (a:List y8) (b:Nat) (c:S2):Ob:=(o_ 0 6 [[(iI (j6 1 0 2 ((nth a b).n % 40) c).1.now),(iI (j6 1 0 2 ((nth a b).n % 40) c).1.swept),(sA 1 [[z_],[(iI 2)]]),(iN ((j6 1 0 2 ((nth a b).n % 40) c).1.nx)),(j3 5),(j3 6)]])
@[simp] abbrev c6Z (a:List y8) (b:Nat) (c:S2):Ob:=(o_ 0 2 [[(iI (r9 32)),(d9 14 (j6 1 0 2 ((nth a b).n % 40) c).1.d.g 10 (List.length (j6 1 0 2 ((nth a b).n % 40) c).1.d.l))]])
@[simp] abbrev c6Y (a:List y8) (b:Nat) (c:S2):Ob:=(o_ 0 2 [[(iN ((List.length (j6 1 0 2 ((nth a b).n % 40) c).1.d.al))),(d9 17 (j6 1 0 2 ((nth a b).n % 40) c).1.d.ga 2 (l7 (j6 1 0 2 ((nth a b).n % 40) c).1.d.al).length)]])
@[simp] abbrev c6X (a:List y8) (b:Nat) (c:S2):Ob:=(o_ 0 7 [[(iI 1),(iI (j6 1 0 2 ((nth a b).n % 40) c).1.d.st.t),(iI (j6 1 0 2 ((nth a b).n % 40) c).1.d.st.node),(iI (j6 1 0 2 ((nth a b).n % 40) c).1.d.st.n),(j3 13),(j3 15),(j3 16)]])
@[simp] abbrev c6W (a:List y8) (b:Nat) (c:S2):Ob:=(o_ 0 3 [[(d9 20 1 1 2),(d9 21 0 1 2),(iI (j6 1 0 2 ((nth a b).n % 40) c).1.lost)]])
@[simp] abbrev c6V (c:List y8) (d:Nat) (e:S2):Ob:=(o_ 0 1 [[(d9 22 (j6 1 0 2 ((nth c d).n % 40) e).1.ga 9 (List.length (j6 1 0 2 ((nth c d).n % 40) e).1.a))],[(d9 23 (j6 1 0 2 ((nth c d).n % 40) e).1.gb 9 (List.length (j6 1 0 2 ((nth c d).n % 40) e).1.b))]])
@[simp] abbrev c6U (a:List y8) (b:Nat) (c:S2):Ob:=(o_ 0 6 [[(iI (j6 1 0 2 ((nth a b).n % 40) c).1.now),(iI (j6 1 0 2 ((nth a b).n % 40) c).1.swept),(sA 1 [[z_],[(iI 2)]]),(iN ((j6 1 0 2 ((nth a b).n % 40) c).1.nx)),(j3 18),(j3 19)]])
@[simp] abbrev d4x (a:List y8) (b:Nat) (c:S2):Heap:=[b2v a b c,a1P a b c,a1O a b c,b2u a b c,a1N a b c,b2t a b c,b2s a b c,(o_ 1 1 (List.map y5 [0,2])),b2r a b c,a1M a b c,a1L a b c,(o_ 1 1 []),b2q a b c,c6Z a b c,a1P a b c,a1O a b c,c6Y a b c,a1N a b c,c6X a b c,c6W a b c,(o_ 1 1 (List.map y5 [0,2])),c6V a b c,a1M a b c,a1L a b c,(o_ 1 1 []),c6U a b c]
@[simp] abbrev c0Z (a:Int):Fr:=(mkF 95 [(1,(iI a)),(5,(j3 12)),(6,(j3 25))])
@[simp] abbrev a5H (a:S2):Ob:=(o_ 0 2 [[(iI (r9 32)),(d9 14 a.d.g 10 a.d.l.length)]])
@[simp] abbrev a5G (a:S2):Ob:=(o_ 0 2 [[(iN (a.d.al.length)),(d9 17 a.d.ga 2 (l7 a.d.al).length)]])
@[simp] abbrev d6V (a:S2):=[[(iI 1),(iI a.d.st.t),(iI a.d.st.node),(iI a.d.st.n),(j3 13),(j3 15),(j3 16)]]
@[simp] abbrev a5F (a:S2):Ob:=(o_ 0 7 (d6V a))
@[simp] abbrev a5E (a:S2):Ob:=(o_ 0 3 [[(d9 20 1 1 2),(d9 21 0 1 2),(iI a.lost)]])
@[simp] abbrev a5D (c:S2):Ob:=(o_ 0 1 [[(d9 22 c.ga 9 c.a.length)],[(d9 23 c.gb 9 c.b.length)]])
@[simp] abbrev d6U (a:S2):=[[(iI a.now),(iI a.swept),(sA 1 [[z_],[(iI 2)]]),(iN a.nx),(j3 18),(j3 19)]]
@[simp] abbrev a5C (a:S2):Ob:=(o_ 0 6 (d6U a))
@[simp] abbrev a2C (c:S2):Heap:=[aO c,(o_ c.d.g 10 (mE c.d.l)),eG c,aN c,X5 c,a1W c,X4 c,(o_ 1 1 (List.map y5 [0,2])),cZ c,(o_ c.ga 9 (mC c.a)),(o_ c.gb 9 (mC c.b)),(o_ 1 1 []),a1V c,a5H c,(o_ c.d.g 10 (mE c.d.l)),eG c,a5G c,X5 c,a5F c,a5E c,(o_ 1 1 (List.map y5 [0,2])),a5D c,(o_ c.ga 9 (mC c.a)),(o_ c.gb 9 (mC c.b)),(o_ 1 1 []),a5C c]
@[simp] abbrev d4w (a:Int) (b:List y8) (c:Nat):Fr:=(mkF 95 [(1,(iI a)),(5,(j3 12)),(6,(j3 25)),(27,(a6F b)),(28,(iN b.length)),(29,(iN c))])
abbrev c0Y (c:S2) (e:List y8) (f:Nat):Heap:=[b2B c e f,a1U c e f,a1T c e f,b2A c e f,a1S c e f,b2z c e f,b2y c e f,(o_ 1 1 (List.map y5 [0,2])),b2x c e f,a1R c e f,a1Q c e f,(o_ 1 1 []),b2w c e f,a5H c,(o_ c.d.g 10 (mE c.d.l)),eG c,a5G c,X5 c,a5F c,a5E c,(o_ 1 1 (List.map y5 [0,2])),a5D c,(o_ c.ga 9 (mC c.a)),(o_ c.gb 9 (mC c.b)),(o_ 1 1 []),a5C c,(o_ 0 16 [(y8.row (nth e f))])]
abbrev d4v (c:S2) (e:List y8) (f:Nat):Heap:=[aO c,(o_ c.d.g 10 (mE c.d.l)),eG c,aN c,X5 c,a1W c,X4 c,(o_ 1 1 (List.map y5 [0,2])),cZ c,(o_ c.ga 9 (mC c.a)),(o_ c.gb 9 (mC c.b)),(o_ 1 1 []),a1V c,a5H c,(o_ c.d.g 10 (mE c.d.l)),eG c,a5G c,X5 c,a5F c,a5E c,(o_ 1 1 (List.map y5 [0,2])),a5D c,(o_ c.ga 9 (mC c.a)),(o_ c.gb 9 (mC c.b)),(o_ 1 1 []),a5C c,(o_ 0 16 [(y8.row (nth e f))])]
abbrev d4u (a:S2) (b:List y8) (c:Nat):Heap:=[b2B a b c,a1U a b c,a1T a b c,b2A a b c,a1S a b c,b2z a b c,b2y a b c,(o_ 1 1 (List.map y5 [0,2])),b2x a b c,a1R a b c,a1Q a b c,(o_ 1 1 []),b2w a b c,c7f a b c,a1U a b c,a1T a b c,c7e a b c,a1S a b c,c7d a b c,c7c a b c,(o_ 1 1 (List.map y5 [0,2])),c7b a b c,a1R a b c,a1Q a b c,(o_ 1 1 []),c7a a b c,(o_ 0 16 [(y8.row (nth b c))])]
abbrev d4t (c:List y8) (e:Nat) (f:S2):Heap:=[b2v c e f,a1P c e f,a1O c e f,b2u c e f,a1N c e f,b2t c e f,b2s c e f,(o_ 1 1 (List.map y5 [0,2])),b2r c e f,a1M c e f,a1L c e f,(o_ 1 1 []),b2q c e f,a5H f,(o_ f.d.g 10 (mE f.d.l)),eG f,a5G f,X5 f,a5F f,a5E f,(o_ 1 1 (List.map y5 [0,2])),a5D f,(o_ f.ga 9 (mC f.a)),(o_ f.gb 9 (mC f.b)),(o_ 1 1 []),a5C f]
abbrev a1p (a:List y8) (b:Nat) (c:S2):=(sA 14 (List.map u7.row (j6 1 0 2 ((nth a b).n % 40) c).2))
abbrev d0q (a:List y8) (b:Nat) (c:S2):=(d9 26 ((nth a b).n % 40) 14 (List.length (j6 1 0 2 ((nth a b).n % 40) c).2))
abbrev e0j (a:Int) (b:List y8) (c:Nat) (d:S2):Fr:=(mkF 95 [(1,(iI a)),(5,(j3 12)),(6,(j3 25)),(9,(iN (((nth b c).n % 40)))),(10,(a1p b c d)),(11,(d0q b c d)),(27,(a6F b)),(28,(iN b.length)),(29,(iN c))])
abbrev a2B (a:List y8) (b:Nat) (c:S2):Heap:=[b2v a b c,a1P a b c,a1O a b c,b2u a b c,a1N a b c,b2t a b c,b2s a b c,(o_ 1 1 (List.map y5 [0,2])),b2r a b c,a1M a b c,a1L a b c,(o_ 1 1 []),b2q a b c,c6Z a b c,a1P a b c,a1O a b c,c6Y a b c,a1N a b c,c6X a b c,c6W a b c,(o_ 1 1 (List.map y5 [0,2])),c6V a b c,a1M a b c,a1L a b c,(o_ 1 1 []),c6U a b c,(o_ ((nth a b).n % 40) 14 (List.map u7.row (j6 1 0 2 ((nth a b).n % 40) c).2))]
@[simp] abbrev d0p :=(C8 gK Tryz.f3 0)
theorem a9v (n:Int) (xs:List y8) (s:S2) (i:Nat) (hx:xs.length<=20) (hI:S2I (1400 * i) (40 * (i:Int)) s) (hle_:i<=xs.length) {eX:Ex} {FX:Fr} {HX:Heap} (k1:(l9 i xs.length)=true->(decide ((nth xs i).kind < 6))=true->l6 d0p (some [1,5,6,27,28,29]) (some [1,5,6]) (d4z n xs i) (d4y s xs i) eX FX HX) (k2:(l9 i xs.length)=true->(decide ((nth xs i).kind < 6))=false->l6 d0p (some [1,5,6,27,28,29]) (some [1,5,6]) (d4z n xs i) (d4x xs i s) eX FX HX) (k3:(l9 i xs.length)=false->((.exit 0:Ex),(c0Z n),(a2C s))=(eX,FX,HX)):l6 d0p (some [1,5,6,27,28,29]) (some [1,5,6]) (d4w n xs i) (a2C s) eX FX HX :=
 J7 (.r (.g (.two (l9 i xs.length) (fun h1 h1'=>(.r (.h' [(o_ 0 2 (a3M s)),(o_ s.d.g 10 (mE s.d.l)),(o_ 0 3 (b8S s)),(o_ 0 2 (a3L s)),(o_ s.d.ga 2 (mK (l7 s.d.al))),(o_ 0 7 (d6X s)),(o_ 0 3 (a3K s)),(o_ 1 1 (List.map y5 [0,2])),(o_ 0 1 (b1m s)),(o_ s.ga 9 (mC s.a)),(o_ s.gb 9 (mC s.b)),(o_ 1 1 []),(o_ 0 6 (d6W s)),(o_ 0 2 [[(iI (r9 32)),(d9 14 s.d.g 10 s.d.l.length)]]),(o_ s.d.g 10 (mE s.d.l)),(o_ 0 3 (b8S s)),(o_ 0 2 [[(iN (s.d.al.length)),(d9 17 s.d.ga 2 (l7 s.d.al).length)]]),(o_ s.d.ga 2 (mK (l7 s.d.al))),(o_ 0 7 (d6V s)),(o_ 0 3 [[(d9 20 1 1 2),(d9 21 0 1 2),(iI s.lost)]]),(o_ 1 1 (List.map y5 [0,2])),(o_ 0 1 [[(d9 22 s.ga 9 s.a.length)],[(d9 23 s.gb 9 s.b.length)]]),(o_ s.ga 9 (mC s.a)),(o_ s.gb 9 (mC s.b)),(o_ 1 1 []),(o_ 0 6 (d6U s)),(o_ 0 16 [[z_,z_,z_,z_,z_,z_,z_,z_,z_,e_,e_,bF,H9,w9,w9,z_]])] (.is 0 16 16 (xs.map y8.row) (i:Int) (y8.row (nth xs i)) (N7.mk _ ow ow) (.s (.g (.two (decide ((nth xs i).kind < 6)) (fun h2 h2'=>(.r (.ch 5 (c0Y s xs i) (j5.put2 [0,1,2,3,4,5,6,7,8,9,10,11,12] (d4v s xs i) AV.unk (c0Y s xs i) (a4B 1 0 2 s (nth xs i).src (nth xs i).m ((1400 * i)) ((40 * (i:Int))) hI oa) rlH rlH) (.s (.ch 5 (d4u s xs i) (j5.pre (args:=[(j3 25),(iI (nth xs i).src),(p9 (Msg.row (nth xs i).m))]) (args':=[(j3 25),(iI (nth xs i).src),(p9 (Msg.row (nth xs i).m))]) (j5.put2 [13,14,15,16,17,18,19,20,21,22,23,11,25] (c0Y s xs i) AV.unk (d4u s xs i) (a4B 1 0 2 s (nth xs i).src (nth xs i).m ((1400 * i)) ((40 * (i:Int))) hI oa) rlH rlH) ⟨AV.l5 _,AV.l5 _,⟨AV.l5 _,AV.l5 _,AV.l5 _,AV.l5 _,AV.l5 _,AV.l5 _,AV.l5 _,AV.l5 _,AV.l5 _,AV.l5 _,AV.l5 _,⟨rfl,rfl,.inl rfl⟩,⟨rfl,rfl,.inl rfl⟩,trivial⟩,trivial⟩) (.h' (d4y s xs i) (.b 26 (.s (.y 0 (.int .i64 (cb_ i)) (iN (i+1)) Yes.o (.g (.l (k1 h1 h2)))))))))))) (fun h2 h2'=>(.r (.h' (d4v s xs i) (.y 2 (.int .i64 (Int.tmod (((nth xs i).n:Nat):Int) 40)) (iN ((nth xs i).n % 40)) (Yes.rem) (.h' (a2C s) (.b 26 (.s (.ch 2 (d4t xs i s) (j5.put2 [0,1,2,3,4,5,6,7,8,9,10,11,12] (a2C s) (a1p xs i s) (d4t xs i s) (wU 1 0 2 ((nth xs i).n % 40) (1400 * i) (40 * (i:Int)) s D8 oa oa hI oa oa) rlH rlH) (.s (.s (.g (.loop (e0j n xs i s) (d6u n xs i ((nth xs i).n % 40) (1400 * i) (40 * (i:Int)) s (j6 1 0 2 ((nth xs i).n % 40) s).1 (j6 1 0 2 ((nth xs i).n % 40) s).2 hI ow ow ow) (.r (.c 2 (j5.borrow (args:=[(a1p xs i s),(a1p xs i s)]) (args':=[(a1p xs i s),(d0q xs i s)]) (H:=(a2B xs i s)) (a4m (j6 1 0 2 ((nth xs i).n % 40) s).2 (by have h_:=(gL hI 1 0 2 ((nth xs i).n % 40)).2; omega) (a4z 1 0 2 s ((nth xs i).n % 40))) rfl (show Brs (a2B xs i s) [(a1p xs i s),(d0q xs i s)] [(a1p xs i s),(a1p xs i s)] from ⟨Br.same kr,Br.osl (G5 (room:=none) kr uG) (u7.z8 _ _),trivial⟩)) (.n2 (.c 6 (j5.put2 [0,1,2,3,4,5,6,7,8,9,10,11,12] (a2B xs i s) (iI (j6 1 0 2 ((nth xs i).n % 40) s).1.now) (a2B xs i s) (a4f 1 0 2 (j6 1 0 2 ((nth xs i).n % 40) s).1 ) rlH rlH) (.n2 (.c 8 (j5.put2 [13,14,15,16,17,18,19,20,21,22,23,11,25] (a2B xs i s) (iI (j6 1 0 2 ((nth xs i).n % 40) s).1.now) (a2B xs i s) (a4f 1 0 2 (j6 1 0 2 ((nth xs i).n % 40) s).1 ) rlH rlH) (.n (.y 9 (bB ((j6 1 0 2 ((nth xs i).n % 40) s).1.now != (j6 1 0 2 ((nth xs i).n % 40) s).1.now)) bF (Yes.b ye_) (.h' (d4x xs i s) (.b 26 (.rn (.y 0 (.int .i64 (cb_ i)) (iN (i+1)) Yes.o (.g (.l (k2 h1 h2)))))))))))))))))))))))))))))))))) (fun h1 h1'=>(.l (k3 h1))))))
def a2f (n:Int) (xs:List y8) (i:Nat) (s:S2):S2:=(if (decide ((nth xs i).kind < 6))=true then (rv2 1 s (nth xs i).m) else ((j6 1 0 2 ((nth xs i).n % 40) s).1))
theorem c8e (n:Int) (xs:List y8) (hx:xs.length<=20)  (r_:Nat):∀ (s:S2) (i:Nat) (sF:S2),i+r_=xs.length->S2I (1400 * i) (40 * (i:Int)) s->sF=iter (a2f n xs) r_ i s ->
 l6 (C8 gK Tryz.f3 0) (some [1,5,6,27,28,29]) (some [1,5,6]) (d4w n xs i) (a2C s) (.exit 0) (c0Z n) (a2C sF):=by
 induction r_ with
 | zero =>
  intro s i sF hi_ hI  hF
  obtain rfl:xs.length=i:=by omega
  have e_:sF=s:=hF
  refine a9v n xs s xs.length hx hI J8 (fun h _=>by simp at h <;> omega) (fun h _=>by simp at h <;> omega) (fun _=>?_)
  first | done | rfl | (rw [e_]; done) | (rw [e_]; rfl)
 | succ r_ ih =>
  intro s i sF hi_ hI  hF
  refine a9v n xs s i hx hI ow (fun h1 h2=>?_) (fun h1 h2=>?_) (fun h=>by simp at h <;> omega)
  · exact ih (rv2 1 s (nth xs i).m) (i+1) sF ow (by first | exact (b5X hI).mono ow ow | exact (gL hI 1 0 2 ((nth xs i).n % 40)).1.mono ow ow)  (by rw [hF] <;> simp only [iter,a2f,h2,if_true,Bool.false_eq_true,if_false])
  · exact ih (j6 1 0 2 ((nth xs i).n % 40) s).1 (i+1) sF ow (by first | exact (b5X hI).mono ow ow | exact (gL hI 1 0 2 ((nth xs i).n % 40)).1.mono ow ow)  (by rw [hF] <;> simp only [iter,a2f,h2,if_true,Bool.false_eq_true,if_false])
def I9 (n:Int) (xs:List y8):S2:=iter (a2f n xs) xs.length 0 (s20 1)
theorem d2I (nd:Int):S2I 0 0 (s20 nd) :=
 have hd:aP 0 (s20 nd).d:=⟨a9x,by simp [s20],by simp [s20],by simp [s20],by simp [s20]⟩
 ⟨hd,by simp [s20],by simp [s20],by simp [s20],by simp [s20],by simp [s20],by simp [s20],by simp [s20]⟩
theorem d6v (n:Int) (xs:List y8) (hx:xs.length<=20):S2I 28000 800 (I9 n xs):=by
 have h:=oD (a2f n xs) (fun i s=>S2I (1400 * i) (40 * (i:Int)) s) xs.length (fun i s hi hI=>by
  unfold a2f
  split
  · exact (b5X hI).mono ow ow
  · exact (gL hI 1 0 2 ((nth xs i).n % 40)).1.mono ow ow) xs.length 0 (s20 1) ow (by simpa using d2I 1)
 rw [Nat.zero_add] at h
 exact h.mono ow ow
attribute [local irreducible] I9 D6 maskN
abbrev c6T :Ob:=(o_ 0 2 [[(iI (r9 32)),(d9 1 (s20 1).d.g 10 (List.length (s20 1).d.l))]])
abbrev b2p :Ob:=(o_ ((s20 1).d.g) 10 (mE (s20 1).d.l))
abbrev b2o :Ob:=(o_ 0 3 [[(iI (s20 1).d.gf),(iI (s20 1).d.gl),(iI (s20 1).d.gt)]])
abbrev c6S :Ob:=(o_ 0 2 [[(iN ((List.length (s20 1).d.al))),(d9 4 (s20 1).d.ga 2 (l7 (s20 1).d.al).length)]])
abbrev b2n :Ob:=(o_ ((s20 1).d.ga) 2 (mK (l7 (s20 1).d.al)))
abbrev c6R :Ob:=(o_ 0 7 [[(iI 1),(iI (s20 1).d.st.t),(iI (s20 1).d.st.node),(iI (s20 1).d.st.n),(j3 0),(j3 2),(j3 3)]])
abbrev c6Q :Ob:=(o_ 0 3 [[(d9 7 1 1 2),(d9 8 0 1 2),(iI (s20 1).lost)]])
abbrev c6P :Ob:=(o_ 0 1 [[(d9 9 (s20 1).ga 9 (List.length (s20 1).a))],[(d9 10 (s20 1).gb 9 (List.length (s20 1).b))]])
abbrev b2m :Ob:=(o_ ((s20 1).ga) 9 (mC (s20 1).a))
abbrev b2l :Ob:=(o_ ((s20 1).gb) 9 (mC (s20 1).b))
abbrev c6O :Ob:=(o_ 0 6 [[(iI (s20 1).now),(iI (s20 1).swept),(sA 1 [[z_],[(iI 2)]]),(iN ((s20 1).nx)),(j3 5),(j3 6)]])
abbrev c0X :Heap:=[c6T,b2p,b2o,c6S,b2n,c6R,c6Q,(o_ 1 1 (List.map y5 [0,2])),c6P,b2m,b2l,(o_ 1 1 []),c6O]
abbrev c0W :Heap:=[c6T,b2p,b2o,c6S,b2n,c6R,c6Q,(o_ 1 1 (List.map y5 [0,2])),c6P,b2m,b2l,(o_ 1 1 []),c6O,(o_ 0 2 [[(iI (r9 32)),(d9 14 (s20 1).d.g 10 (List.length (s20 1).d.l))]]),b2p,b2o,(o_ 0 2 [[(iN ((List.length (s20 1).d.al))),(d9 17 (s20 1).d.ga 2 (l7 (s20 1).d.al).length)]]),b2n,(o_ 0 7 [[(iI 1),(iI (s20 1).d.st.t),(iI (s20 1).d.st.node),(iI (s20 1).d.st.n),(j3 13),(j3 15),(j3 16)]]),(o_ 0 3 [[(d9 20 1 1 2),(d9 21 0 1 2),(iI (s20 1).lost)]]),(o_ 1 1 (List.map y5 [0,2])),(o_ 0 1 [[(d9 22 (s20 1).ga 9 (List.length (s20 1).a))],[(d9 23 (s20 1).gb 9 (List.length (s20 1).b))]]),b2m,b2l,(o_ 1 1 []),(o_ 0 6 [[(iI (s20 1).now),(iI (s20 1).swept),(sA 1 [[z_],[(iI 2)]]),(iN ((s20 1).nx)),(j3 18),(j3 19)]])]
abbrev b2k (a:Int) (b:List Int):Ob:=(o_ ((I9 a (D6 b 20)).d.g) 10 (mE (I9 a (D6 b 20)).d.l))
abbrev b2j (a:Int) (b:List Int):Ob:=(o_ 0 3 [[(iI (I9 a (D6 b 20)).d.gf),(iI (I9 a (D6 b 20)).d.gl),(iI (I9 a (D6 b 20)).d.gt)]])
abbrev b2i (a:Int) (b:List Int):Ob:=(o_ ((I9 a (D6 b 20)).d.ga) 2 (mK (l7 (I9 a (D6 b 20)).d.al)))
abbrev b2h (b:Int) (c:List Int):Ob:=(o_ ((I9 b (D6 c 20)).ga) 9 (mC (I9 b (D6 c 20)).a))
abbrev b2g (a:Int) (c:List Int):Ob:=(o_ ((I9 a (D6 c 20)).gb) 9 (mC (I9 a (D6 c 20)).b))
abbrev c6N (a:Int) (b:List Int):Ob:=(o_ 0 2 [[(iI (r9 32)),(d9 14 (I9 a (D6 b 20)).d.g 10 (List.length (I9 a (D6 b 20)).d.l))]])
abbrev c6M (a:Int) (b:List Int):Ob:=(o_ 0 2 [[(iN ((List.length (I9 a (D6 b 20)).d.al))),(d9 17 (I9 a (D6 b 20)).d.ga 2 (l7 (I9 a (D6 b 20)).d.al).length)]])
abbrev c6L (a:Int) (b:List Int):Ob:=(o_ 0 7 [[(iI 1),(iI (I9 a (D6 b 20)).d.st.t),(iI (I9 a (D6 b 20)).d.st.node),(iI (I9 a (D6 b 20)).d.st.n),(j3 13),(j3 15),(j3 16)]])
abbrev c6K (a:Int) (b:List Int):Ob:=(o_ 0 3 [[(d9 20 1 1 2),(d9 21 0 1 2),(iI (I9 a (D6 b 20)).lost)]])
abbrev c6J (c:Int) (d:List Int):Ob:=(o_ 0 1 [[(d9 22 (I9 c (D6 d 20)).ga 9 (List.length (I9 c (D6 d 20)).a))],[(d9 23 (I9 c (D6 d 20)).gb 9 (List.length (I9 c (D6 d 20)).b))]])
abbrev c6I (a:Int) (b:List Int):Ob:=(o_ 0 6 [[(iI (I9 a (D6 b 20)).now),(iI (I9 a (D6 b 20)).swept),(sA 1 [[z_],[(iI 2)]]),(iN ((I9 a (D6 b 20)).nx)),(j3 18),(j3 19)]])
abbrev e0i (c:Int) (e:List Int):Heap:=[(o_ 0 2 [[(iI (r9 32)),(d9 1 (I9 c (D6 e 20)).d.g 10 (List.length (I9 c (D6 e 20)).d.l))]]),b2k c e,b2j c e,(o_ 0 2 [[(iN ((List.length (I9 c (D6 e 20)).d.al))),(d9 4 (I9 c (D6 e 20)).d.ga 2 (l7 (I9 c (D6 e 20)).d.al).length)]]),b2i c e,(o_ 0 7 [[(iI 1),(iI (I9 c (D6 e 20)).d.st.t),(iI (I9 c (D6 e 20)).d.st.node),(iI (I9 c (D6 e 20)).d.st.n),(j3 0),(j3 2),(j3 3)]]),(o_ 0 3 [[(d9 7 1 1 2),(d9 8 0 1 2),(iI (I9 c (D6 e 20)).lost)]]),(o_ 1 1 (List.map y5 [0,2])),(o_ 0 1 [[(d9 9 (I9 c (D6 e 20)).ga 9 (List.length (I9 c (D6 e 20)).a))],[(d9 10 (I9 c (D6 e 20)).gb 9 (List.length (I9 c (D6 e 20)).b))]]),b2h c e,b2g c e,(o_ 1 1 []),(o_ 0 6 [[(iI (I9 c (D6 e 20)).now),(iI (I9 c (D6 e 20)).swept),(sA 1 [[z_],[(iI 2)]]),(iN ((I9 c (D6 e 20)).nx)),(j3 5),(j3 6)]]),c6N c e,b2k c e,b2j c e,c6M c e,b2i c e,c6L c e,c6K c e,(o_ 1 1 (List.map y5 [0,2])),c6J c e,b2h c e,b2g c e,(o_ 1 1 []),c6I c e]
abbrev c6H (a:Int) (b:List Int):Ob:=(o_ 0 2 [[(iI (r9 32)),(d9 1 (j6 1 0 2 (maskN a 63) (I9 a (D6 b 20))).1.d.g 10 (List.length (j6 1 0 2 (maskN a 63) (I9 a (D6 b 20))).1.d.l))]])
abbrev b2f (a:Int) (b:List Int):Ob:=(o_ ((j6 1 0 2 (maskN a 63) (I9 a (D6 b 20))).1.d.g) 10 (mE (j6 1 0 2 (maskN a 63) (I9 a (D6 b 20))).1.d.l))
abbrev b2e (a:Int) (b:List Int):Ob:=(o_ 0 3 [[(iI (j6 1 0 2 (maskN a 63) (I9 a (D6 b 20))).1.d.gf),(iI (j6 1 0 2 (maskN a 63) (I9 a (D6 b 20))).1.d.gl),(iI (j6 1 0 2 (maskN a 63) (I9 a (D6 b 20))).1.d.gt)]])
abbrev c6G (a:Int) (b:List Int):Ob:=(o_ 0 2 [[(iN ((List.length (j6 1 0 2 (maskN a 63) (I9 a (D6 b 20))).1.d.al))),(d9 4 (j6 1 0 2 (maskN a 63) (I9 a (D6 b 20))).1.d.ga 2 (l7 (j6 1 0 2 (maskN a 63) (I9 a (D6 b 20))).1.d.al).length)]])
abbrev b2d (a:Int) (b:List Int):Ob:=(o_ ((j6 1 0 2 (maskN a 63) (I9 a (D6 b 20))).1.d.ga) 2 (mK (l7 (j6 1 0 2 (maskN a 63) (I9 a (D6 b 20))).1.d.al)))
abbrev c6F (a:Int) (b:List Int):Ob:=(o_ 0 7 [[(iI 1),(iI (j6 1 0 2 (maskN a 63) (I9 a (D6 b 20))).1.d.st.t),(iI (j6 1 0 2 (maskN a 63) (I9 a (D6 b 20))).1.d.st.node),(iI (j6 1 0 2 (maskN a 63) (I9 a (D6 b 20))).1.d.st.n),(j3 0),(j3 2),(j3 3)]])
abbrev c6E (a:Int) (b:List Int):Ob:=(o_ 0 3 [[(d9 7 1 1 2),(d9 8 0 1 2),(iI (j6 1 0 2 (maskN a 63) (I9 a (D6 b 20))).1.lost)]])
abbrev c6D (c:Int) (d:List Int):Ob:=(o_ 0 1 [[(d9 9 (j6 1 0 2 (maskN c 63) (I9 c (D6 d 20))).1.ga 9 (List.length (j6 1 0 2 (maskN c 63) (I9 c (D6 d 20))).1.a))],[(d9 10 (j6 1 0 2 (maskN c 63) (I9 c (D6 d 20))).1.gb 9 (List.length (j6 1 0 2 (maskN c 63) (I9 c (D6 d 20))).1.b))]])
abbrev a6Z (b:Int) (c:List Int):Ob:=(o_ ((j6 1 0 2 (maskN b 63) (I9 b (D6 c 20))).1.ga) 9 (mC (j6 1 0 2 (maskN b 63) (I9 b (D6 c 20))).1.a))
abbrev a6Y (a:Int) (c:List Int):Ob:=(o_ ((j6 1 0 2 (maskN a 63) (I9 a (D6 c 20))).1.gb) 9 (mC (j6 1 0 2 (maskN a 63) (I9 a (D6 c 20))).1.b))
abbrev b4K (a:Int) (b:List Int):Ob:=(o_ 0 6 [[(iI (j6 1 0 2 (maskN a 63) (I9 a (D6 b 20))).1.now),(iI (j6 1 0 2 (maskN a 63) (I9 a (D6 b 20))).1.swept),(sA 1 [[z_],[(iI 2)]]),(iN ((j6 1 0 2 (maskN a 63) (I9 a (D6 b 20))).1.nx)),(j3 5),(j3 6)]])
abbrev d4s (a:Int) (b:List Int):Heap:=[c6H a b,b2f a b,b2e a b,c6G a b,b2d a b,c6F a b,c6E a b,(o_ 1 1 (List.map y5 [0,2])),c6D a b,a6Z a b,a6Y a b,(o_ 1 1 []),b4K a b,c6N a b,b2k a b,b2j a b,c6M a b,b2i a b,c6L a b,c6K a b,(o_ 1 1 (List.map y5 [0,2])),c6J a b,b2h a b,b2g a b,(o_ 1 1 []),c6I a b]
abbrev a1o (a:Int) (b:List Int):=(sA 14 (List.map u7.row (j6 1 0 2 (maskN a 63) (I9 a (D6 b 20))).2))
abbrev d0o (a:Int) (b:List Int):=(d9 26 (maskN a 63) 14 (List.length (j6 1 0 2 (maskN a 63) (I9 a (D6 b 20))).2))
abbrev e0h (a:Int) (b:List Int):Fr:=(mkF 95 [(13,(a1o a b)),(14,(d0o a b))])
abbrev c0V (c:Int) (e:List Int):Heap:=[c6H c e,b2f c e,b2e c e,c6G c e,b2d c e,c6F c e,c6E c e,(o_ 1 1 (List.map y5 [0,2])),c6D c e,a6Z c e,a6Y c e,(o_ 1 1 []),b4K c e,(o_ 0 2 [[(iI (r9 32)),(d9 14 (j6 1 0 2 (maskN c 63) (I9 c (D6 e 20))).1.d.g 10 (List.length (j6 1 0 2 (maskN c 63) (I9 c (D6 e 20))).1.d.l))]]),b2f c e,b2e c e,(o_ 0 2 [[(iN ((List.length (j6 1 0 2 (maskN c 63) (I9 c (D6 e 20))).1.d.al))),(d9 17 (j6 1 0 2 (maskN c 63) (I9 c (D6 e 20))).1.d.ga 2 (l7 (j6 1 0 2 (maskN c 63) (I9 c (D6 e 20))).1.d.al).length)]]),b2d c e,(o_ 0 7 [[(iI 1),(iI (j6 1 0 2 (maskN c 63) (I9 c (D6 e 20))).1.d.st.t),(iI (j6 1 0 2 (maskN c 63) (I9 c (D6 e 20))).1.d.st.node),(iI (j6 1 0 2 (maskN c 63) (I9 c (D6 e 20))).1.d.st.n),(j3 13),(j3 15),(j3 16)]]),(o_ 0 3 [[(d9 20 1 1 2),(d9 21 0 1 2),(iI (j6 1 0 2 (maskN c 63) (I9 c (D6 e 20))).1.lost)]]),(o_ 1 1 (List.map y5 [0,2])),(o_ 0 1 [[(d9 22 (j6 1 0 2 (maskN c 63) (I9 c (D6 e 20))).1.ga 9 (List.length (j6 1 0 2 (maskN c 63) (I9 c (D6 e 20))).1.a))],[(d9 23 (j6 1 0 2 (maskN c 63) (I9 c (D6 e 20))).1.gb 9 (List.length (j6 1 0 2 (maskN c 63) (I9 c (D6 e 20))).1.b))]]),a6Z c e,a6Y c e,(o_ 1 1 []),(o_ 0 6 [[(iI (j6 1 0 2 (maskN c 63) (I9 c (D6 e 20))).1.now),(iI (j6 1 0 2 (maskN c 63) (I9 c (D6 e 20))).1.swept),(sA 1 [[z_],[(iI 2)]]),(iN ((j6 1 0 2 (maskN c 63) (I9 c (D6 e 20))).1.nx)),(j3 18),(j3 19)]]),(o_ (maskN c 63) 14 (List.map u7.row (j6 1 0 2 (maskN c 63) (I9 c (D6 e 20))).2))]
theorem wL {p:Prop} (h:p:=by first | omega | assumption | (simp; done) | (simp; omega) | exact kr):p:=h
theorem b3x (tape:List Int) (n:Int) (hl:tape.length < 9223372036854775808):AC 3 [(a0k tape),(iI n)] [] (bT,[]):=by
 have hal:=a5g tape 20
 have hm:maskN n 63<=63:=by with_unfolding_all exact a3x n 63 ow
 have hZ:=d6v n (D6 tape 20) hal
 have hR:=gL hZ 1 0 2 (maskN n 63)
 exact x9 (fn:=Tryz.f3) (ann:=gK) (Has.o Tryz.func3) (.r (.s (.ch 1 c0X (j5.pre (args:=[(iI 1),(sA 1 [[z_],[(iI 2)]])]) (args':=[(iI 1),(AV.sl .clip 1 [[z_],[(iI 2)]])]) (j5.put2 [] [] (j3 12) c0X (a2N 1 0 2 wL wL D8) trivial rlH) ⟨AV.l5 _,⟨rfl,rfl,.inl rfl⟩,trivial⟩) (.ch 3 c0W (j5.pre (args:=[(iI 1),(sA 1 [[z_],[(iI 2)]])]) (args':=[(iI 1),(AV.sl .clip 1 [[z_],[(iI 2)]])]) (j5.put2 [] c0X (j3 25) c0W (a2N 1 0 2 wL wL D8) trivial rlH) ⟨AV.l5 _,⟨rfl,rfl,.inl rfl⟩,trivial⟩) (.s (.n2 (.rn (.c 1 (j5.pre (args:=[(a0k tape),(iN 20)]) (args':=[(a0k tape),(iI 20)]) ((b9G tape 20 wL wL).lift kr kr c0W) ⟨⟨rfl,rfl,.inl rfl⟩,AV.l5 _,trivial⟩) (.y 2 (.int .i64 ((List.length ((D6 tape 20).map y8.row):Nat):Int)) (iN ((D6 tape 20).length)) (Yes.len _ _ _) (.g (.loop (c0Z n) (c8e n (D6 tape 20) hal (D6 tape 20).length (s20 1) 0 (I9 n (D6 tape 20)) ow (d2I 1) wM) (.r (.y 2 (iW ((BitVec.ofInt 64 n &&& BitVec.ofInt 64 63).toNat)) (iN (maskN n 63)) (Yes.mask (m:=63) ow) (.ch 3 (d4s n tape) (j5.put2 [0,1,2,3,4,5,6,7,8,9,10,11,12] (e0i n tape) (a1o n tape) (d4s n tape) (wU 1 0 2 (maskN n 63) 28000 800 (I9 n (D6 tape 20)) D8 wL wL hZ wL wL) rlH rlH) (.s (.s (.g (.loop (e0h n tape) (d6t n (maskN n 63) 28000 800 (I9 n (D6 tape 20)) (j6 1 0 2 (maskN n 63) (I9 n (D6 tape 20))).1 (j6 1 0 2 (maskN n 63) (I9 n (D6 tape 20))).2 hZ rfl ow ow) (.r (.c 2 (j5.borrow (args:=[(a1o n tape),(a1o n tape)]) (args':=[(a1o n tape),(d0o n tape)]) (H:=(c0V n tape)) (a4m (j6 1 0 2 (maskN n 63) (I9 n (D6 tape 20))).2 (by have h_:=hR.2; omega) (a4z 1 0 2 (I9 n (D6 tape 20)) (maskN n 63))) rfl (show Brs (c0V n tape) [(a1o n tape),(d0o n tape)] [(a1o n tape),(a1o n tape)] from ⟨Br.same kr,Br.osl (G5 (room:=none) kr uG) (u7.z8 _ _),trivial⟩)) (.u (.c 4 ((a8v).lift kr kr (c0V n tape)) (.g (.h' [] (.q 0 bT)))))))))))))))))))))))))
end Go.Proofs.YtmghjcbabebanaaGreat.AM
namespace Go.Proofs.YtmghjcbabebanaaGreat.AM
open Go Go.RowKit
theorem Ev.below {G G':Nat->Prop} {w w':World} {C':Cx} (h:Ev G w Cx.none G' w' C'):Below w.heap.size w w' :=
 ⟨h.os,h.tape,h.output,h.size,fun b hb=>h.rest b hb fun id l hl=>by simp [Cx.none] at hl⟩
def a6a (w:World) (a:Option Addr) (len cap:Nat) (zs:List Int):Prop :=
 (a=none/\len=0/\cap=0/\zs=[])\/∃ x,a=some x/\len<=cap/\cap<=maxLen/\zs.length=cap/\∀ i,i < zs.length->w.cell? (x.add i)=some (.int .i64 (zs.getD i 0))
theorem d0K {w:World} {a:Addr} {v:Value} (h:w.cell? a=some v):a.block < w.heap.size:=by
 unfold World.cell? at h
 rcases Nat.lt_or_ge a.block w.heap.size with h' | h'
 · exact h'
 · rw [Array.getElem?_eq_none ya_] at h; simp at h
theorem a2Z {w:World} {a:Addr} {v:Value} (h:w.cell? a=some v):a.spot=none:=by
 unfold World.cell? at h
 split at h
 · split at h
   · simp at h
   · rename_i hs; simpa using hs
 · simp at h
theorem a6a.rel {w:World} {a:Option Addr} {len cap:Nat} {zs:List Int} (h:a6a w a len cap zs):VR (fun b=>b < w.heap.size) w Cx.none (.sl .any 1 ((zs.take len).map y5)) (.slice a len cap)/\(zs.take len).length < 9223372036854775808:=by
 rcases h with ⟨rfl,rfl,rfl,rfl⟩ | ⟨x,rfl,hl,hm,hz,hc⟩
 · exact ⟨.nils _ _ _ ye_,by simp⟩
 · have hm':cap<=9223372036854775807:=by simpa [maxLen] using hm
   have hlen:((zs.take len).map y5).length=len:=by simp; omega
   refine ⟨?_,by simp; omega⟩
   have key:=VR.sl (G:=fun b=>b < w.heap.size) (w:=w) Cx.none .any ((zs.take len).map y5) 1 x cap ye_ ye_ ya_ (fun hne=>?_) (fun i _=>.int .i64 (zs.getD i 0)) (fun i hi=>?_) (fun i j hi hj=>?_) (fun _ _ _ _=>rfl) fun i j hi hj=>?_
   · rwa [hlen] at key
   · have h0:0 < zs.length:=by
      rcases Nat.eq_zero_or_pos zs.length with h | h
      · have:zs=[]:=List.eq_nil_of_length_eq_zero h
        subst this; simp at hne
      · exact h
     have:=hc 0 h0
     simp only [Addr.add,if_true] at this
     exact ⟨a2Z this,d0K this⟩
   · have:((zs.take len).map y5)[i]?=some (y5 ((zs.take len)[i]'(by rw [hlen] at hi; simp; omega))):=by
      rw [List.getElem?_map,List.getElem?_eq_getElem (by rw [hlen] at hi; simp; omega)]; rfl
     rw [List.getD_eq_getElem?_getD,this]; rfl
   · obtain rfl:j=0:=by omega
     have h0:0 < zs.length:=by omega
     have hsp:=a2Z (hc 0 h0)
     simp only [Addr.add,if_true] at hsp
     have:=hc i ya_
     obtain ⟨xb,xo,xs⟩:=x
     simp only at hsp
     subst hsp
     rw [Z6] at this
     simpa using this
   · obtain rfl:j=0:=by omega
     have hi':i < zs.length:=by omega
     have:((zs.take len).map y5).getD i []=[.int .i64 (zs.getD i 0)]:=by
      simp [List.getD_eq_getElem?_getD,List.getElem?_take,show i < len by omega,hi',y5]
     rw [this]
     exact .int ..
theorem j5.yes {P:Program} {f:FuncId} {fn:Func} (hf:Has P f fn) {args:List AV} {H':Heap} (h:j5 P f args [] (.bool true,H')) {vs:Array Value} {w:World} (hsz:vs.size=args.length)
 (hargs:∀ i,i < args.length->VR (fun b=>b < w.heap.size) w Cx.none (args.getD i .skip) (vs.getD i undef)) :
 Calls P f vs w fun e w'=>e=.returned (.bool true)/\Below w.heap.size w w' :=
 Calls.mono (h.calls hf hsz hargs (fun b hb=>hb)) fun e w' ⟨v,G',C',he,h1,h2⟩=>by
  cases h2
  exact ⟨he,h1.below⟩
end Go.Proofs.YtmghjcbabebanaaGreat.AM
