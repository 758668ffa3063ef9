/-
  Texts of this claim, part 6 of 8: an abstract machine over the model; what functions come to; plain laws.
-/
import Derived.Test.YtmghjcbabebanaaGreatMServerCrash5
set_option maxRecDepth 100000
set_option linter.unusedVariables false
set_option linter.unusedSimpArgs false
namespace Go.Proofs.YtmghjcbabebanaaGreat.AM
open Go Go.Proofs.YtmghjcbabebanaaGreat
attribute [local irreducible] C8 F5 F6 H9 J2 J4 J6 L8 O1 j6 l6 l9 maxS
def c0v:Ann:={ refs:=[4],base:=6,fin:=some 6 }
@[simp] abbrev sZ (a:Int) (b:p9):=[[(iI a),(iI b.t),(iI b.node),(iI b.n),(oO 0 0 0 0),(oO 2 0 0 0),(oO 3 0 0 0)]]
@[simp] abbrev P7 (a:Int) (b:p9):Ob:=(o_ 0 7 (sZ a b))
@[simp] abbrev J7 (a:Nat) (b:l9E) (c:Int) (d:Int) (e:Int) (f:l9K) (g:Nat) (h:Int) (i:p9):Heap:=[Q9 a b,(o_ a 10 (mE b)),J3 c d e,M4 f g,(o_ g 2 (mK (l5 f))),P7 h i]
@[simp] abbrev c6p (a:Nat) (b:l9E) (c:Int) (d:Int) (e:Int) (f:l9K) (g:Nat) (h:Int) (i:p9):Heap:=[Q9 a b,(o_ a 10 (mE b)),J3 c d e,M4 f g,(o_ g 2 (mK (l5 f))),P7 h i,(o_ 0 3 [[z_,z_,z_]])]
theorem iM (l:l9E) (g:Nat) (al:l9K) (ga:Nat) (gf gl gt nd:Int) (st:p9) (c:j5) (now:Int) :AC 115 [(oO 5 0 0 0),(AV.agg (j5.row c)),(iI now)] (J7 g l gf gl gt al ga nd st) ((AV.agg (p9.row (C8 (maxS st c.stamp) now nd))),(J7 g l gf gl gt al ga nd st)) :=
 r9 (fn:=Tryz.f115) (ann:=c0v) (Has.o Tryz.func115) (.r (.s (.c 6 ((b7S st c.stamp).lift kr kr (c6p g l gf gl gt al ga nd st)) (.c 12 ((b2t (maxS st c.stamp) now nd).lift kr kr (c6p g l gf gl gt al ga nd st)) (.rd (iI nd) (c6p g l gf gl gt al ga nd st) (.q 6 (AV.agg (p9.row (C8 (maxS st c.stamp) now nd)))))))))
def kM (l:List Entry) (x:Entry):List j5:=if (J2 (q9 32) l x == 0)=true then [x.card] else []
def aL (l:List Entry) (x:Entry) (st:p9):p9:=if (J2 (q9 32) l x == 0)=true then x.card.stamp else st
def b4K:Ann:={ refs:=[3],gha:=[(3,.any 4 9),(5,.any 4 9)],base:=6,fin:=some 6 }
@[simp] abbrev c5x (a:l9E) (b:Entry) (c:l9K) (d:Nat):=[[(iN ((List.length (J4 a b c)))),(AV.osl 4 (O1 a b d) 2 0 (List.length (l5 (J4 a b c))))]]
@[simp] abbrev c8j (a:l9E) (b:Entry) (c:l9K) (d:Nat):Ob:=(o_ 0 2 (c5x a b c d))
@[simp] abbrev c8i (a:l9E) (b:Entry) (c:Nat) (d:l9K):Ob:=(o_ (O1 a b c) 2 (mK (l5 (J4 a b d))))
@[simp] abbrev d1j (a:Int) (b:Entry):=[[(iI a),(iI b.card.stamp.t),(iI b.card.stamp.node),(iI b.card.stamp.n),(oO 0 0 0 0),(oO 2 0 0 0),(oO 3 0 0 0)]]
@[simp] abbrev d2m (a:l9E) (b:Entry) (c:Nat) (d:Int) (e:Int) (f:Int) (g:l9K) (h:Nat) (i:Int):Heap:=[a6U a b c,a6T a b c,J3 d e f,c8j a b g h,c8i a b h g,(o_ 0 7 (d1j i b))]
@[simp] abbrev c6o (a:l9E) (b:Entry) (c:Nat) (d:Int) (e:Int) (f:Int) (g:l9K) (h:Nat) (i:Int) (j:p9):Heap:=[a6U a b c,a6T a b c,J3 d e f,c8j a b g h,c8i a b h g,P7 i j]
theorem b0N (l:l9E) (g:Nat) (al:l9K) (ga:Nat) (gf gl gt nd:Int) (st:p9) (x:Entry) (hl:l.length < 1000) (ha:al.length < 100000) (h:((J2 (q9 32) l x) == 0)=true):AC 117 [(oO 5 0 0 0),(AV.agg (Entry.row x))] (J7 g l gf gl gt al ga nd st) ((AV.tup [(sA 9 (mC [x.card])),z_]),(d2m l x g gf gl gt al ga nd)) :=
 r9 (fn:=Tryz.f117) (ann:=b4K) (Has.o Tryz.func117) (.r (.s (.ch 2 (c6o l x g gf gl gt al ga nd st) (wS l g al ga gf gl gt nd st.t st.node st.n x oa oa []) (.s (.y 1 (bB ((J2 (q9 32) l x) != 0)) bF (Yes.b (by have q:=eq_of_beq h; rw [q]; rfl)) (.rn (.s (.g (.h' (d2m l x g gf gl gt al ga nd) (.q 6 (AV.tup [(sA 9 [(j5.row x.card)]),z_])))))))))))
def b4L:Ann:={ refs:=[3],gha:=[(3,.any 4 9),(5,.any 4 9)],base:=6,fin:=some 6 }
theorem b0O (l:l9E) (g:Nat) (al:l9K) (ga:Nat) (gf gl gt nd:Int) (st:p9) (x:Entry) (hl:l.length < 1000) (ha:al.length < 100000) (h:((J2 (q9 32) l x) == 0)=false):AC 117 [(oO 5 0 0 0),(AV.agg (Entry.row x))] (J7 g l gf gl gt al ga nd st) ((AV.tup [(sA 9 (mC ([]:l9C))),(a4O l x)]),(c6o l x g gf gl gt al ga nd st)) :=
 r9 (fn:=Tryz.f117) (ann:=b4L) (Has.o Tryz.func117) (.r (.s (.ch 2 (c6o l x g gf gl gt al ga nd st) (wS l g al ga gf gl gt nd st.t st.node st.n x oa oa []) (.s (.y 1 (bB ((J2 (q9 32) l x) != 0)) bT (Yes.b (by rw [bne,h]; rfl)) (.g (.u (.qr 6 (AV.tup [(sA 9 []),(a4O l x)])))))))))
theorem b4I (l:l9E) (g:Nat) (al:l9K) (ga:Nat) (gf gl gt nd:Int) (st:p9) (x:Entry) (hl:l.length < 1000) (ha:al.length < 100000):AC 117 [(oO 5 0 0 0),(AV.agg (Entry.row x))] [(o_ 0 2 [[(iI (q9 32)),(AV.osl 1 g 10 0 (List.length l))]]),(o_ g 10 (mE l)),(o_ 0 3 [[(iI gf),(iI gl),(iI gt)]]),(o_ 0 2 [[(iN ((List.length al))),(AV.osl 4 ga 2 0 (List.length (l5 al)))]]),(o_ ga 2 (mK (l5 al))),(o_ 0 7 [[(iI nd),(iI st.t),(iI st.node),(iI st.n),(oO 0 0 0 0),(oO 2 0 0 0),(oO 3 0 0 0)]])] ((AV.tup [(sA 9 (mC (kM l x))),(iI (J2 (q9 32) l x))]),[(o_ 0 2 [[(iI (q9 32)),(AV.osl 1 (H9 (q9 32) l x g) 10 0 (List.length (F6 (q9 32) l x)))]]),(o_ (H9 (q9 32) l x g) 10 (mE (F6 (q9 32) l x))),(o_ 0 3 [[(iI gf),(iI gl),(iI gt)]]),(o_ 0 2 [[(iN ((List.length (J4 l x al)))),(AV.osl 4 (O1 l x ga) 2 0 (List.length (l5 (J4 l x al))))]]),(o_ (O1 l x ga) 2 (mK (l5 (J4 l x al)))),(o_ 0 7 [[(iI nd),(iI (aL l x st).t),(iI (aL l x st).node),(iI (aL l x st).n),(oO 0 0 0 0),(oO 2 0 0 0),(oO 3 0 0 0)]])]):=by
 unfold kM aL
 cases h:(J2 (q9 32) l x == 0) with
 | true=>rw [if_pos rfl,if_pos rfl,eq_of_beq h]; exact b0N l g al ga gf gl gt nd st x hl ha h
 | false=>rw [if_neg ye_,if_neg ye_]; exact b0O l g al ga gf gl gt nd st x hl ha h
theorem yI (l:l9E) (g:Nat) (al:l9K) (ga:Nat) (gf gl gt nd:Int) (st:p9) (x:Entry) (hl:l.length < 1000) (ha:al.length < 100000) (H:Heap):AC 117 [(oO 5 0 0 0),(AV.agg (Entry.row x))] ((J7 g l gf gl gt al ga nd st)++H) ((AV.tup [(sA 9 (mC (kM l x))),(iI (J2 (q9 32) l x))]),([(o_ 0 2 [[(iI (q9 32)),(AV.osl 1 (H9 (q9 32) l x g) 10 0 (List.length (F6 (q9 32) l x)))]]),(o_ (H9 (q9 32) l x g) 10 (mE (F6 (q9 32) l x))),(o_ 0 3 [[(iI gf),(iI gl),(iI gt)]]),(o_ 0 2 [[(iN ((List.length (J4 l x al)))),(AV.osl 4 (O1 l x ga) 2 0 (List.length (l5 (J4 l x al))))]]),(o_ (O1 l x ga) 2 (mK (l5 (J4 l x al)))),(o_ 0 7 [[(iI nd),(iI (aL l x st).t),(iI (aL l x st).node),(iI (aL l x st).n),(oO 0 0 0 0),(oO 2 0 0 0),(oO 3 0 0 0)]])]:Heap)++H):=(b4I l g al ga gf gl gt nd st x hl ha).ext kr kr ob ob kr H
def J5 (q:Msg) (old:Entry) (inn:Bool) (st:p9) (now nd:Int):Entry:=dD old inn ⟨q.key,q.status,0,q.n,C8 (maxS st old.card.stamp) now nd,false⟩ now
def jH (q:Msg):Prop:=1<=q.n/\q.n<=1048576/\(q.status=1\/q.status=2)
instance (q:Msg):Decidable (jH q):=by unfold jH; infer_instance
def c0u:Ann:={ refs:=[6,7],gha:=[(2,.any 10 9)],base:=6,fin:=some 6 }
@[simp] abbrev a9e :=(AV.tup [(sA 9 []),(iI 1)])
theorem b4E (l:l9E) (g:Nat) (al:l9K) (ga:Nat) (gf gl gt nd:Int) (st:p9) (q:Msg) (old:Entry) (inn:Bool) (now:Int) (r:¬ jH q):AC 111 [(oO 5 0 0 0),(AV.agg (Msg.row q)),(AV.agg (Entry.row old)),(bB inn),(iI now)] (J7 g l gf gl gt al ga nd st) ((AV.tup [(sA 9 (mC ([]:l9C))),(iI 1)]),(J7 g l gf gl gt al ga nd st)) :=
 r9 (fn:=Tryz.f111) (ann:=c0u) (Has.o Tryz.func111) (.r (.s (.two (decide (q.n < 1)) (fun h1 h1'=>(.u6 (.u (.g (.u (.qr 6 a9e)))))) (fun h1 h1'=>(.n2 (.two (decide (q.n > 1048576)) (fun h2 h2'=>(.u4 (.g (.u (.qr 6 a9e))))) (fun h2 h2'=>(.n2 (.y 11 (bB (q.status != 1)) bT (Yes.b (bne_iff_ne.2 (fun z=>r ⟨by have a:=of_decide_eq_false h1; omega,by have a:=of_decide_eq_false h2; omega,.inl z⟩))) (.n (.u3 (.y 15 (bB (q.status != 2)) bT (Yes.b (bne_iff_ne.2 (fun z=>r ⟨by have a:=of_decide_eq_false h1; omega,by have a:=of_decide_eq_false h2; omega,.inr z⟩))) (.n (.g (.u (.qr 6 a9e))))))))))))))))
def c0t:Ann:={ refs:=[6,7],base:=6,fin:=some 6 }
@[simp] abbrev b6B (a:Nat) (b:l9E) (c:Int) (d:Int) (e:Int) (f:l9K) (g:Nat) (h:Int) (i:p9):Heap:=[Q9 a b,(o_ a 10 (mE b)),J3 c d e,M4 f g,(o_ g 2 (mK (l5 f))),P7 h i,(o_ 0 9 [[e_,e_,z_,z_,z_,z_,z_,z_,bF]])]
@[simp] abbrev b6A (a:Msg) (b:p9) (c:Entry) (d:Int) (e:Int):Ob:=(o_ 0 9 [[(AV.str a.key.app),(AV.str a.key.id),(iI a.status),z_,(iI a.n),(iI (C8 (maxS b c.card.stamp) d e).t),(iI (C8 (maxS b c.card.stamp) d e).node),(iI (C8 (maxS b c.card.stamp) d e).n),bF]])
@[simp] abbrev d2l (a:Nat) (b:l9E) (c:Int) (d:Int) (e:Int) (f:l9K) (g:Nat) (h:Int) (i:p9) (j:Msg) (k:Entry) (l:Int):Heap:=[Q9 a b,(o_ a 10 (mE b)),J3 c d e,M4 f g,(o_ g 2 (mK (l5 f))),P7 h i,b6A j i k l h]
@[simp] abbrev c2d (a:l9E) (b:Entry) (c:Bool) (d:Msg) (e:p9) (f:Int) (g:Int) (h:Nat):Ob:=(o_ 0 2 [[(iI (q9 32)),(AV.osl 1 (H9 (q9 32) a (dD b c (j5.mk d.key d.status 0 d.n (C8 (maxS e b.card.stamp) f g) false) f) h) 10 0 (List.length (F6 (q9 32) a (dD b c (j5.mk d.key d.status 0 d.n (C8 (maxS e b.card.stamp) f g) false) f))))]])
@[simp] abbrev c2c (a:l9E) (b:Entry) (c:Bool) (d:Msg) (e:p9) (f:Int) (g:Int) (h:Nat):Ob:=(o_ (H9 (q9 32) a (dD b c (j5.mk d.key d.status 0 d.n (C8 (maxS e b.card.stamp) f g) false) f) h) 10 (mE (F6 (q9 32) a (dD b c (j5.mk d.key d.status 0 d.n (C8 (maxS e b.card.stamp) f g) false) f))))
@[simp] abbrev c2b (a:l9E) (b:Entry) (c:Bool) (d:Msg) (e:p9) (f:Int) (g:Int) (h:l9K) (i:Nat):Ob:=(o_ 0 2 [[(iN ((List.length (J4 a (dD b c (j5.mk d.key d.status 0 d.n (C8 (maxS e b.card.stamp) f g) false) f) h)))),(AV.osl 4 (O1 a (dD b c (j5.mk d.key d.status 0 d.n (C8 (maxS e b.card.stamp) f g) false) f) i) 2 0 (List.length (l5 (J4 a (dD b c (j5.mk d.key d.status 0 d.n (C8 (maxS e b.card.stamp) f g) false) f) h))))]])
@[simp] abbrev c2a (a:l9E) (b:Entry) (c:Bool) (d:Msg) (e:p9) (f:Int) (g:Int) (h:Nat) (i:l9K):Ob:=(o_ (O1 a (dD b c (j5.mk d.key d.status 0 d.n (C8 (maxS e b.card.stamp) f g) false) f) h) 2 (mK (l5 (J4 a (dD b c (j5.mk d.key d.status 0 d.n (C8 (maxS e b.card.stamp) f g) false) f) i))))
@[simp] abbrev c1Z (a:Int) (b:l9E) (c:Entry) (d:Bool) (e:Msg) (f:p9) (g:Int):Ob:=(o_ 0 7 [[(iI a),(iI (aL b (dD c d (j5.mk e.key e.status 0 e.n (C8 (maxS f c.card.stamp) g a) false) g) f).t),(iI (aL b (dD c d (j5.mk e.key e.status 0 e.n (C8 (maxS f c.card.stamp) g a) false) g) f).node),(iI (aL b (dD c d (j5.mk e.key e.status 0 e.n (C8 (maxS f c.card.stamp) g a) false) g) f).n),(oO 0 0 0 0),(oO 2 0 0 0),(oO 3 0 0 0)]])
@[simp] abbrev d2k (a:l9E) (b:Entry) (c:Bool) (d:Msg) (e:p9) (f:Int) (g:Int) (h:Nat) (i:Int) (j:Int) (k:Int) (l:l9K) (m:Nat):Heap:=[c2d a b c d e f g h,c2c a b c d e f g h,J3 i j k,c2b a b c d e f g l m,c2a a b c d e f g m l,c1Z g a b c d e f,b6A d e b f g]
@[simp] abbrev d2j (a:Msg) (b:p9) (c:Entry) (d:Int) (e:Int):Heap:=[b6A a b c d e]
@[simp] abbrev d2i (a:l9E) (b:Entry) (c:Bool) (d:Msg) (e:p9) (f:Int) (g:Int) (h:Nat) (i:Int) (j:Int) (k:Int) (l:l9K) (m:Nat):Heap:=[c2d a b c d e f g h,c2c a b c d e f g h,J3 i j k,c2b a b c d e f g l m,c2a a b c d e f g m l,c1Z g a b c d e f]
@[simp] abbrev d1i (a:l9E) (b:Entry) (c:Bool) (d:Msg) (e:p9) (f g:Int):=(AV.tup [(sA 9 (mC (kM a (dD b c (j5.mk d.key d.status 0 d.n (C8 (maxS e b.card.stamp) f g) false) f)))),(iI (J2 (q9 32) a (dD b c (j5.mk d.key d.status 0 d.n (C8 (maxS e b.card.stamp) f g) false) f)))])
theorem b4D (l:l9E) (g:Nat) (al:l9K) (ga:Nat) (gf gl gt nd:Int) (st:p9) (q:Msg) (old:Entry) (inn:Bool) (now:Int) (hl:l.length < 1000) (ha:al.length < 100000) (r:jH q):AC 111 [(oO 5 0 0 0),(AV.agg (Msg.row q)),(AV.agg (Entry.row old)),(bB inn),(iI now)] (J7 g l gf gl gt al ga nd st) ((AV.tup [(sA 9 (mC (kM l (J5 q old inn st now nd)))),(iI (J2 (q9 32) l (J5 q old inn st now nd)))]),[(o_ 0 2 [[(iI (q9 32)),(AV.osl 1 (H9 (q9 32) l (J5 q old inn st now nd) g) 10 0 (List.length (F6 (q9 32) l (J5 q old inn st now nd))))]]),(o_ (H9 (q9 32) l (J5 q old inn st now nd) g) 10 (mE (F6 (q9 32) l (J5 q old inn st now nd)))),(o_ 0 3 (gT gf gl gt)),(o_ 0 2 [[(iN ((List.length (J4 l (J5 q old inn st now nd) al)))),(AV.osl 4 (O1 l (J5 q old inn st now nd) ga) 2 0 (List.length (l5 (J4 l (J5 q old inn st now nd) al))))]]),(o_ (O1 l (J5 q old inn st now nd) ga) 2 (mK (l5 (J4 l (J5 q old inn st now nd) al)))),(o_ 0 7 [[(iI nd),(iI (aL l (J5 q old inn st now nd) st).t),(iI (aL l (J5 q old inn st now nd) st).node),(iI (aL l (J5 q old inn st now nd) st).n),(oO 0 0 0 0),(oO 2 0 0 0),(oO 3 0 0 0)]])]):=by
 obtain ⟨r1,r2,r3⟩:=r
 exact r9 (fn:=Tryz.f111) (ann:=c0t) (Has.o Tryz.func111) (.r (.s (.y 2 (bB (decide (q.n < 1))) bF (Yes.b (decide_eq_false ow)) (.n3 (.y 6 (bB (decide (q.n > 1048576))) bF (Yes.b (decide_eq_false ow)) (.n4 (.two (q.status != 1) (fun h1 h1'=>(.u2 (.y 15 (bB (q.status != 2)) bF (Yes.b (by rcases r3 with r | r; (rw [r] at h1; simp at h1); (rw [r]; rfl))) (.n (.rn (.c 10 (l6.put2 [0,1,2,3,4,5] (b6B g l gf gl gt al ga nd st) (AV.agg (p9.row (C8 (maxS st old.card.stamp) now nd))) (b6B g l gf gl gt al ga nd st) (iM l g al ga gf gl gt nd st old.card now ) (rlA) (rlA)) (.s (.c 5 ((a5B old inn (j5.mk q.key q.status 0 q.n (C8 (maxS st old.card.stamp) now nd) false) now).lift kr kr (d2l g l gf gl gt al ga nd st q old now)) (.ch 6 (d2k l old inn q st now nd g gf gl gt al ga) (yI l g al ga gf gl gt nd st (dD old inn (j5.mk q.key q.status 0 q.n (C8 (maxS st old.card.stamp) now nd) false) now) oa oa (d2j q st old now nd)) (.g (.h' (d2i l old inn q st now nd g gf gl gt al ga) (.q 6 (d1i l old inn q st now nd))))))))))))) (fun h1 h1'=>(.n3 (.rn (.c 10 (l6.put2 [0,1,2,3,4,5] (b6B g l gf gl gt al ga nd st) (AV.agg (p9.row (C8 (maxS st old.card.stamp) now nd))) (b6B g l gf gl gt al ga nd st) (iM l g al ga gf gl gt nd st old.card now ) (rlA) (rlA)) (.s (.c 5 ((a5B old inn (j5.mk q.key q.status 0 q.n (C8 (maxS st old.card.stamp) now nd) false) now).lift kr kr (d2l g l gf gl gt al ga nd st q old now)) (.ch 6 (d2k l old inn q st now nd g gf gl gt al ga) (yI l g al ga gf gl gt nd st (dD old inn (j5.mk q.key q.status 0 q.n (C8 (maxS st old.card.stamp) now nd) false) now) oa oa (d2j q st old now nd)) (.g (.h' (d2i l old inn q st now nd g gf gl gt al ga) (.q 6 (d1i l old inn q st now nd))))))))))))))))))
def a0d (l:List Entry) (q:Msg) (x:Entry):List j5:=if jH q then kM l x else []
def a0b (l:List Entry) (q:Msg) (x:Entry):Int:=if jH q then J2 (q9 32) l x else 1
def mR (l:List Entry) (q:Msg) (x:Entry):List Entry:=if jH q then F6 (q9 32) l x else l
def sJ (l:List Entry) (q:Msg) (x:Entry) (g:Nat):Nat:=if jH q then H9 (q9 32) l x g else g
def kD (l:List Entry) (q:Msg) (x:Entry) (al:List Key):List Key:=if jH q then J4 l x al else al
def kC (l:List Entry) (q:Msg) (x:Entry) (ga:Nat):Nat:=if jH q then O1 l x ga else ga
def jY (l:List Entry) (q:Msg) (x:Entry) (st:p9):p9:=if jH q then aL l x st else st
theorem c0s (l:l9E) (g:Nat) (al:l9K) (ga:Nat) (gf gl gt nd:Int) (st:p9) (q:Msg) (old:Entry) (inn:Bool) (now:Int) (hl:l.length < 1000) (ha:al.length < 100000):AC 111 [(oO 5 0 0 0),(AV.agg (Msg.row q)),(AV.agg (Entry.row old)),(bB inn),(iI now)] [(o_ 0 2 [[(iI (q9 32)),(AV.osl 1 g 10 0 (List.length l))]]),(o_ g 10 (mE l)),(o_ 0 3 [[(iI gf),(iI gl),(iI gt)]]),(o_ 0 2 [[(iN ((List.length al))),(AV.osl 4 ga 2 0 (List.length (l5 al)))]]),(o_ ga 2 (mK (l5 al))),(o_ 0 7 [[(iI nd),(iI st.t),(iI st.node),(iI st.n),(oO 0 0 0 0),(oO 2 0 0 0),(oO 3 0 0 0)]])] ((AV.tup [(sA 9 (mC (a0d l q (J5 q old inn st now nd)))),(iI (a0b l q (J5 q old inn st now nd)))]),[(o_ 0 2 [[(iI (q9 32)),(AV.osl 1 (sJ l q (J5 q old inn st now nd) g) 10 0 (List.length (mR l q (J5 q old inn st now nd))))]]),(o_ (sJ l q (J5 q old inn st now nd) g) 10 (mE (mR l q (J5 q old inn st now nd)))),(o_ 0 3 [[(iI gf),(iI gl),(iI gt)]]),(o_ 0 2 [[(iN ((List.length (kD l q (J5 q old inn st now nd) al)))),(AV.osl 4 (kC l q (J5 q old inn st now nd) ga) 2 0 (List.length (l5 (kD l q (J5 q old inn st now nd) al))))]]),(o_ (kC l q (J5 q old inn st now nd) ga) 2 (mK (l5 (kD l q (J5 q old inn st now nd) al)))),(o_ 0 7 [[(iI nd),(iI (jY l q (J5 q old inn st now nd) st).t),(iI (jY l q (J5 q old inn st now nd) st).node),(iI (jY l q (J5 q old inn st now nd) st).n),(oO 0 0 0 0),(oO 2 0 0 0),(oO 3 0 0 0)]])]):=by
 unfold a0d a0b mR sJ kD kC jY
 by_cases r:jH q
 · rw [if_pos r,if_pos r,if_pos r,if_pos r,if_pos r,if_pos r,if_pos r]
   exact b4D l g al ga gf gl gt nd st q old inn now hl ha r
 · rw [if_neg r,if_neg r,if_neg r,if_neg r,if_neg r,if_neg r,if_neg r]
   exact b4E l g al ga gf gl gt nd st q old inn now r
theorem b1F (l:l9E) (g:Nat) (al:l9K) (ga:Nat) (gf gl gt nd:Int) (st:p9) (q:Msg) (old:Entry) (inn:Bool) (now:Int) (hl:l.length < 1000) (ha:al.length < 100000) (H:Heap):AC 111 [(oO 5 0 0 0),(AV.agg (Msg.row q)),(AV.agg (Entry.row old)),(bB inn),(iI now)] ((J7 g l gf gl gt al ga nd st)++H) ((AV.tup [(sA 9 (mC (a0d l q (J5 q old inn st now nd)))),(iI (a0b l q (J5 q old inn st now nd)))]),([(o_ 0 2 [[(iI (q9 32)),(AV.osl 1 (sJ l q (J5 q old inn st now nd) g) 10 0 (List.length (mR l q (J5 q old inn st now nd))))]]),(o_ (sJ l q (J5 q old inn st now nd) g) 10 (mE (mR l q (J5 q old inn st now nd)))),(o_ 0 3 [[(iI gf),(iI gl),(iI gt)]]),(o_ 0 2 [[(iN ((List.length (kD l q (J5 q old inn st now nd) al)))),(AV.osl 4 (kC l q (J5 q old inn st now nd) ga) 2 0 (List.length (l5 (kD l q (J5 q old inn st now nd) al))))]]),(o_ (kC l q (J5 q old inn st now nd) ga) 2 (mK (l5 (kD l q (J5 q old inn st now nd) al)))),(o_ 0 7 [[(iI nd),(iI (jY l q (J5 q old inn st now nd) st).t),(iI (jY l q (J5 q old inn st now nd) st).node),(iI (jY l q (J5 q old inn st now nd) st).n),(oO 0 0 0 0),(oO 2 0 0 0),(oO 3 0 0 0)]])]:Heap)++H):=(c0s l g al ga gf gl gt nd st q old inn now hl ha).ext kr kr ob ob kr H
attribute [local irreducible] A8 G5 X4 Y3 a0b a0d aL dD jH jY kC kD kM l7 mR sJ
def c2x:Ann:={ refs:=[4],gha:=[(6,.any 6 9),(8,.any 6 9),(12,.any 6 9)],base:=6,fin:=some 6 }
@[simp] abbrev a2t (a:Int) (b:Int) (c:Int) (d:l9K) (e:Nat) (f:Int) (g:p9):Heap:=[J3 a b c,M4 d e,(o_ e 2 (mK (l5 d))),P7 f g,a3X]
@[simp] abbrev zA (a:Nat) (b:l9E) (c:Int) (d:Int) (e:Int) (f:l9K) (g:Nat) (h:Int) (i:p9) (j:Msg):Heap:=[Q9 a b,(o_ a 10 (mE b)),J3 c d e,M4 f g,(o_ g 2 (mK (l5 f))),P7 h i,(o_ 0 10 [(Entry.row (l7 b j.key))])]
theorem Z5 {p:Prop} (h:p:=by rw [ho]; rfl):p:=h
@[simp] abbrev a9d (a:Msg):=(bB (decide (a.status > 3)))
theorem b7q (l:l9E) (g:Nat) (al:l9K) (ga:Nat) (gf gl gt nd:Int) (st:p9) (q:Msg) (now:Int) (hl:l.length < 1000) (ha:al.length < 100000) (hgt:0<=gt/\gt < 4611686018427387904) (ho:q.op=4) (hs:3 < q.status):AC 64 [(oO 5 0 0 0),(AV.agg (Msg.row q)),(iI now)] (J7 g l gf gl gt al ga nd st) ((AV.tup [(sA 9 (mC ([]:l9C))),(iI 1)]),(J7 g l gf gl gt al ga nd st)) :=
 r9 (fn:=Tryz.f64) (ann:=c2x) (Has.o Tryz.func64) (.r (.s (.c 6 (get_at (q9 32) l q.key g (List.length l) oa oa (a2t gf gl gt al ga nd st)) (.s (.two (A8 l q.key) (fun h1 h1'=>(.u3 (.s (.h' (zA g l gf gl gt al ga nd st q) (.y 2 (bB (q.op == 1)) bF (Yes.b Z5) (.rn (.y 2 (bB (q.op == 4)) bT (Yes.b Z5) (.u3 (.y 6 (a9d q) bT (Yes.b (decide_eq_true ow)) (.ru (.g (.h' (J7 g l gf gl gt al ga nd st) (.q 6 a9e))))))))))))) (fun h1 h1'=>(.n3 (.s (.h' (zA g l gf gl gt al ga nd st q) (.y 2 (bB (q.op == 1)) bF (Yes.b Z5) (.rn (.y 2 (bB (q.op == 4)) bT (Yes.b Z5) (.u3 (.y 6 (a9d q) bT (Yes.b (decide_eq_true ow)) (.ru (.g (.h' (J7 g l gf gl gt al ga nd st) (.q 6 a9e))))))))))))))))))
def c8T:Ann:={ refs:=[4],gha:=[(6,.any 6 9),(8,.any 6 9),(12,.any 6 9)],base:=6,fin:=some 6 }
@[simp] abbrev d1h (a:l9E) (b:Msg) (c:p9) (d e:Int) (f:Nat):=[[(iI (q9 32)),(AV.osl 1 (H9 (q9 32) a (G5 (l7 a b.key) (C8 (maxS c (l7 a b.key).card.stamp) d e) d) f) 10 0 (List.length (F6 (q9 32) a (G5 (l7 a b.key) (C8 (maxS c (l7 a b.key).card.stamp) d e) d))))]]
@[simp] abbrev d1g (a:l9E) (b:Msg) (c:p9) (d e:Int) (f:l9K) (g:Nat):=[[(iN ((List.length (J4 a (G5 (l7 a b.key) (C8 (maxS c (l7 a b.key).card.stamp) d e) d) f)))),(AV.osl 4 (O1 a (G5 (l7 a b.key) (C8 (maxS c (l7 a b.key).card.stamp) d e) d) g) 2 0 (List.length (l5 (J4 a (G5 (l7 a b.key) (C8 (maxS c (l7 a b.key).card.stamp) d e) d) f))))]]
@[simp] abbrev d1f (a:Int) (b:l9E) (c:Msg) (d:p9) (e:Int):=[[(iI a),(iI (aL b (G5 (l7 b c.key) (C8 (maxS d (l7 b c.key).card.stamp) e a) e) d).t),(iI (aL b (G5 (l7 b c.key) (C8 (maxS d (l7 b c.key).card.stamp) e a) e) d).node),(iI (aL b (G5 (l7 b c.key) (C8 (maxS d (l7 b c.key).card.stamp) e a) e) d).n),(oO 0 0 0 0),(oO 2 0 0 0),(oO 3 0 0 0)]]
@[simp] abbrev d2h (a:l9E) (b:Msg) (c:p9) (d:Int) (e:Int) (f:Nat) (g:Int) (h:Int) (i:Int) (j:l9K) (k:Nat):Heap:=[(o_ 0 2 (d1h a b c d e f)),(o_ (H9 (q9 32) a (G5 (l7 a b.key) (C8 (maxS c (l7 a b.key).card.stamp) d e) d) f) 10 (mE (F6 (q9 32) a (G5 (l7 a b.key) (C8 (maxS c (l7 a b.key).card.stamp) d e) d)))),J3 g h i,(o_ 0 2 (d1g a b c d e j k)),(o_ (O1 a (G5 (l7 a b.key) (C8 (maxS c (l7 a b.key).card.stamp) d e) d) k) 2 (mK (l5 (J4 a (G5 (l7 a b.key) (C8 (maxS c (l7 a b.key).card.stamp) d e) d) j)))),(o_ 0 7 (d1f e a b c d))]
@[simp] abbrev yZ (a:Nat) (b:l9E) (c:Int) (d:Int) (e:Int) (f:l9K) (g:Nat) (h:Int) (i:p9) (j:Msg):Heap:=[Q9 a b,(o_ a 10 (mE b)),J3 c d e,M4 f g,(o_ g 2 (mK (l5 f))),P7 h i,(o_ 0 10 [(Entry.row (l7 b j.key))]),a3X]
@[simp] abbrev a4X (a:Nat) (b:l9E) (c:Int) (d:Int) (e:Int) (f:l9K) (g:Nat) (h:Int) (i:p9) (j:Msg) (k:Int):Heap:=[Q9 a b,(o_ a 10 (mE b)),J3 c d e,M4 f g,(o_ g 2 (mK (l5 f))),P7 h i,(o_ 0 10 [(Entry.row (l7 b j.key))]),(o_ 0 10 [(Entry.row (G5 (l7 b j.key) (C8 (maxS i (l7 b j.key).card.stamp) k h) k))])]
@[simp] abbrev d1e (a:l9E) (b:Msg) (c:p9) (d e:Int):=(AV.tup [(sA 9 (mC (kM a (G5 (l7 a b.key) (C8 (maxS c (l7 a b.key).card.stamp) d e) d)))),(iI (J2 (q9 32) a (G5 (l7 a b.key) (C8 (maxS c (l7 a b.key).card.stamp) d e) d)))])
theorem c2y (l:l9E) (g:Nat) (al:l9K) (ga:Nat) (gf gl gt nd:Int) (st:p9) (q:Msg) (now:Int) (hl:l.length < 1000) (ha:al.length < 100000) (hgt:0<=gt/\gt < 4611686018427387904) (ho:q.op=3) (hf:A8 l q.key=true) (hg:(l7 l q.key).card.gone=false):AC 64 [(oO 5 0 0 0),(AV.agg (Msg.row q)),(iI now)] (J7 g l gf gl gt al ga nd st) ((d1e l q st now nd),(d2h l q st now nd g gf gl gt al ga)) :=
 r9 (fn:=Tryz.f64) (ann:=c8T) (Has.o Tryz.func64) (.r (.s (.c 6 (get_at (q9 32) l q.key g (List.length l) oa oa (a2t gf gl gt al ga nd st)) (.s (.h' (zA g l gf gl gt al ga nd st q) (.y 0 (bB (A8 l q.key)) bT (Yes.b (hf)) (.u3 (.y 4 (bB (l7 l q.key).card.gone) bF (Yes.b (hg)) (.u (.s (.y 2 (bB (q.op == 1)) bF (Yes.b Z5) (.rn (.y 2 (bB (q.op == 4)) bF (Yes.b Z5) (.n3 (.rn (.rn (.y 2 (bB (q.op == 2)) bF (Yes.b Z5) (.rn (.c 5 (l6.put2 [0,1,2,3,4,5] (yZ g l gf gl gt al ga nd st q) (AV.agg (p9.row (C8 (maxS st (l7 l q.key).card.stamp) now nd))) (yZ g l gf gl gt al ga nd st q) (iM l g al ga gf gl gt nd st (l7 l q.key).card now ) (rlA) (rlA)) (.c 7 ((sO (l7 l q.key) (C8 (maxS st (l7 l q.key).card.stamp) now nd) now oa).lift kr kr (yZ g l gf gl gt al ga nd st q)) (.rd (AV.agg (Entry.row (l7 l q.key))) (yZ g l gf gl gt al ga nd st q) (.s (.h' (a4X g l gf gl gt al ga nd st q now) (.y 2 (bB (q.op == 4)) bF (Yes.b Z5) (.rn (.ch 2 [(o_ 0 2 (d1h l q st now nd g)),(o_ (H9 (q9 32) l (G5 (l7 l q.key) (C8 (maxS st (l7 l q.key).card.stamp) now nd) now) g) 10 (mE (F6 (q9 32) l (G5 (l7 l q.key) (C8 (maxS st (l7 l q.key).card.stamp) now nd) now)))),(o_ 0 3 (gT gf gl gt)),(o_ 0 2 (d1g l q st now nd al ga)),(o_ (O1 l (G5 (l7 l q.key) (C8 (maxS st (l7 l q.key).card.stamp) now nd) now) ga) 2 (mK (l5 (J4 l (G5 (l7 l q.key) (C8 (maxS st (l7 l q.key).card.stamp) now nd) now) al)))),(o_ 0 7 (d1f nd l q st now)),(o_ 0 10 [(Entry.row (l7 l q.key))]),(o_ 0 10 [(Entry.row (G5 (l7 l q.key) (C8 (maxS st (l7 l q.key).card.stamp) now nd) now))])] (yI l g al ga gf gl gt nd st (G5 (l7 l q.key) (C8 (maxS st (l7 l q.key).card.stamp) now nd) now) oa oa [(o_ 0 10 [(Entry.row (l7 l q.key))]),(o_ 0 10 [(Entry.row (G5 (l7 l q.key) (C8 (maxS st (l7 l q.key).card.stamp) now nd) now))])]) (.g (.h' (d2h l q st now nd g gf gl gt al ga) (.q 6 (d1e l q st now nd))))))))))))))))))))))))))))))
def c8S:Ann:={ refs:=[4],gha:=[(6,.any 6 9),(8,.any 6 9),(12,.any 6 9)],base:=6,fin:=some 6 }
@[simp] abbrev d1d (a:l9E) (b:Msg) (c:p9) (d e:Int) (f:Nat):=[[(iI (q9 32)),(AV.osl 1 (H9 (q9 32) a (Y3 (l7 a b.key) b.status (C8 (maxS c (l7 a b.key).card.stamp) d e)) f) 10 0 (List.length (F6 (q9 32) a (Y3 (l7 a b.key) b.status (C8 (maxS c (l7 a b.key).card.stamp) d e)))))]]
@[simp] abbrev d1c (a:l9E) (b:Msg) (c:p9) (d e:Int) (f:l9K) (g:Nat):=[[(iN ((List.length (J4 a (Y3 (l7 a b.key) b.status (C8 (maxS c (l7 a b.key).card.stamp) d e)) f)))),(AV.osl 4 (O1 a (Y3 (l7 a b.key) b.status (C8 (maxS c (l7 a b.key).card.stamp) d e)) g) 2 0 (List.length (l5 (J4 a (Y3 (l7 a b.key) b.status (C8 (maxS c (l7 a b.key).card.stamp) d e)) f))))]]
@[simp] abbrev d1b (a:Int) (b:l9E) (c:Msg) (d:p9) (e:Int):=[[(iI a),(iI (aL b (Y3 (l7 b c.key) c.status (C8 (maxS d (l7 b c.key).card.stamp) e a)) d).t),(iI (aL b (Y3 (l7 b c.key) c.status (C8 (maxS d (l7 b c.key).card.stamp) e a)) d).node),(iI (aL b (Y3 (l7 b c.key) c.status (C8 (maxS d (l7 b c.key).card.stamp) e a)) d).n),(oO 0 0 0 0),(oO 2 0 0 0),(oO 3 0 0 0)]]
@[simp] abbrev d2g (a:l9E) (b:Msg) (c:p9) (d:Int) (e:Int) (f:Nat) (g:Int) (h:Int) (i:Int) (j:l9K) (k:Nat):Heap:=[(o_ 0 2 (d1d a b c d e f)),(o_ (H9 (q9 32) a (Y3 (l7 a b.key) b.status (C8 (maxS c (l7 a b.key).card.stamp) d e)) f) 10 (mE (F6 (q9 32) a (Y3 (l7 a b.key) b.status (C8 (maxS c (l7 a b.key).card.stamp) d e))))),J3 g h i,(o_ 0 2 (d1c a b c d e j k)),(o_ (O1 a (Y3 (l7 a b.key) b.status (C8 (maxS c (l7 a b.key).card.stamp) d e)) k) 2 (mK (l5 (J4 a (Y3 (l7 a b.key) b.status (C8 (maxS c (l7 a b.key).card.stamp) d e)) j)))),(o_ 0 7 (d1b e a b c d))]
@[simp] abbrev d1a (a:l9E) (b:Msg) (c:p9) (d e:Int):=(AV.tup [(sA 9 (mC (kM a (Y3 (l7 a b.key) b.status (C8 (maxS c (l7 a b.key).card.stamp) d e))))),(iI (J2 (q9 32) a (Y3 (l7 a b.key) b.status (C8 (maxS c (l7 a b.key).card.stamp) d e))))])
theorem c2w (l:l9E) (g:Nat) (al:l9K) (ga:Nat) (gf gl gt nd:Int) (st:p9) (q:Msg) (now:Int) (hl:l.length < 1000) (ha:al.length < 100000) (hgt:0<=gt/\gt < 4611686018427387904) (ho:q.op=4) (hs:q.status<=3) (hs0:0<=q.status) (hf:A8 l q.key=true) (hg:(l7 l q.key).card.gone=false):AC 64 [(oO 5 0 0 0),(AV.agg (Msg.row q)),(iI now)] (J7 g l gf gl gt al ga nd st) ((d1a l q st now nd),(d2g l q st now nd g gf gl gt al ga)) :=
 r9 (fn:=Tryz.f64) (ann:=c8S) (Has.o Tryz.func64) (.r (.s (.c 6 (get_at (q9 32) l q.key g (List.length l) oa oa (a2t gf gl gt al ga nd st)) (.s (.h' (zA g l gf gl gt al ga nd st q) (.y 0 (bB (A8 l q.key)) bT (Yes.b (hf)) (.u3 (.y 4 (bB (l7 l q.key).card.gone) bF (Yes.b (hg)) (.u (.s (.y 2 (bB (q.op == 1)) bF (Yes.b Z5) (.rn (.y 2 (bB (q.op == 4)) bT (Yes.b Z5) (.u3 (.y 6 (a9d q) bF (Yes.b (decide_eq_false ow)) (.rn (.rn (.y 2 (bB (q.op == 2)) bF (Yes.b Z5) (.rn (.c 5 (l6.put2 [0,1,2,3,4,5] (yZ g l gf gl gt al ga nd st q) (AV.agg (p9.row (C8 (maxS st (l7 l q.key).card.stamp) now nd))) (yZ g l gf gl gt al ga nd st q) (iM l g al ga gf gl gt nd st (l7 l q.key).card now ) (rlA) (rlA)) (.c 7 ((sO (l7 l q.key) (C8 (maxS st (l7 l q.key).card.stamp) now nd) now oa).lift kr kr (yZ g l gf gl gt al ga nd st q)) (.rd (AV.agg (Entry.row (l7 l q.key))) (yZ g l gf gl gt al ga nd st q) (.s (.h' (a4X g l gf gl gt al ga nd st q now) (.y 2 (bB (q.op == 4)) bT (Yes.b Z5) (.ru (.c 7 (l6.put2 [0,1,2,3,4,5] (a4X g l gf gl gt al ga nd st q now) (AV.agg (p9.row (C8 (maxS st (l7 l q.key).card.stamp) now nd))) (a4X g l gf gl gt al ga nd st q now) (iM l g al ga gf gl gt nd st (l7 l q.key).card now ) (rlA) (rlA)) (.c 8 ((b3I (l7 l q.key) q.status (C8 (maxS st (l7 l q.key).card.stamp) now nd) oa oa oa).lift kr kr (a4X g l gf gl gt al ga nd st q now)) (.rd (AV.agg (Entry.row (l7 l q.key))) (a4X g l gf gl gt al ga nd st q now) (.s (.ch 2 [(o_ 0 2 (d1d l q st now nd g)),(o_ (H9 (q9 32) l (Y3 (l7 l q.key) q.status (C8 (maxS st (l7 l q.key).card.stamp) now nd)) g) 10 (mE (F6 (q9 32) l (Y3 (l7 l q.key) q.status (C8 (maxS st (l7 l q.key).card.stamp) now nd))))),(o_ 0 3 (gT gf gl gt)),(o_ 0 2 (d1c l q st now nd al ga)),(o_ (O1 l (Y3 (l7 l q.key) q.status (C8 (maxS st (l7 l q.key).card.stamp) now nd)) ga) 2 (mK (l5 (J4 l (Y3 (l7 l q.key) q.status (C8 (maxS st (l7 l q.key).card.stamp) now nd)) al)))),(o_ 0 7 (d1b nd l q st now)),(o_ 0 10 [(Entry.row (l7 l q.key))]),(o_ 0 10 [(Entry.row (Y3 (l7 l q.key) q.status (C8 (maxS st (l7 l q.key).card.stamp) now nd)))])] (yI l g al ga gf gl gt nd st (Y3 (l7 l q.key) q.status (C8 (maxS st (l7 l q.key).card.stamp) now nd)) oa oa [(o_ 0 10 [(Entry.row (l7 l q.key))]),(o_ 0 10 [(Entry.row (Y3 (l7 l q.key) q.status (C8 (maxS st (l7 l q.key).card.stamp) now nd)))])]) (.g (.h' (d2g l q st now nd g gf gl gt al ga) (.q 6 (d1a l q st now nd)))))))))))))))))))))))))))))))))))
def c8U:Ann:={ refs:=[4],gha:=[(6,.any 6 9),(8,.any 6 9),(12,.any 6 9)],base:=6,fin:=some 6 }
@[simp] abbrev c8g (a:Int) (b:Int) (c:Int):Ob:=(o_ 0 3 [[(iI a),(iI b),(iI (min (c+1) 1048576))]])
@[simp] abbrev d2f (a:l9E) (b:Msg) (c:Int) (d:Nat) (e:Int) (f:Int) (g:Int) (h:l9K) (i:Nat) (j:Int) (k:p9):Heap:=[(o_ 0 2 [[(iI (q9 32)),(AV.osl 1 (H9 (q9 32) a (X4 (l7 a b.key) c) d) 10 0 (List.length (F6 (q9 32) a (X4 (l7 a b.key) c))))]]),(o_ (H9 (q9 32) a (X4 (l7 a b.key) c) d) 10 (mE (F6 (q9 32) a (X4 (l7 a b.key) c)))),c8g e f g,M4 h i,(o_ i 2 (mK (l5 h))),P7 j k]
@[simp] abbrev d2e (a:Nat) (b:l9E) (c:Int) (d:Int) (e:Int) (f:l9K) (g:Nat) (h:Int) (i:p9) (j:Msg) (k:Int):Heap:=[Q9 a b,(o_ a 10 (mE b)),c8g c d e,M4 f g,(o_ g 2 (mK (l5 f))),P7 h i,(o_ 0 10 [(Entry.row (l7 b j.key))]),(o_ 0 10 [(Entry.row (X4 (l7 b j.key) k))])]
theorem c2z (l:l9E) (g:Nat) (al:l9K) (ga:Nat) (gf gl gt nd:Int) (st:p9) (q:Msg) (now:Int) (hl:l.length < 1000) (ha:al.length < 100000) (hgt:0<=gt/\gt < 4611686018427387904) (ho:q.op=2) (hf:A8 l q.key=true) (hg:(l7 l q.key).card.gone=false):AC 64 [(oO 5 0 0 0),(AV.agg (Msg.row q)),(iI now)] (J7 g l gf gl gt al ga nd st) ((AV.tup [(sA 9 (mC ([]:l9C))),(iI (J2 (q9 32) l (X4 (l7 l q.key) now)))]),(d2f l q now g gf gl gt al ga nd st)) :=
 r9 (fn:=Tryz.f64) (ann:=c8U) (Has.o Tryz.func64) (.r (.s (.c 6 (get_at (q9 32) l q.key g (List.length l) oa oa (a2t gf gl gt al ga nd st)) (.s (.h' (zA g l gf gl gt al ga nd st q) (.y 0 (bB (A8 l q.key)) bT (Yes.b (hf)) (.u3 (.y 4 (bB (l7 l q.key).card.gone) bF (Yes.b (hg)) (.u (.s (.y 2 (bB (q.op == 1)) bF (Yes.b Z5) (.rn (.y 2 (bB (q.op == 4)) bF (Yes.b Z5) (.n3 (.rn (.rn (.y 2 (bB (q.op == 2)) bT (Yes.b Z5) (.ru (.c 2 ((b0t (l7 l q.key) now oa).lift kr kr (yZ g l gf gl gt al ga nd st q)) (.s (.ch 4 (d2e g l gf gl gt al ga nd st q now) (l6.put2 [2] [(o_ 0 2 (a0y g l)),(o_ g 10 (mE l)),(o_ 0 3 (gT gf gl gt)),(o_ 0 2 (jO al ga)),(o_ ga 2 (mK (l5 al))),(o_ 0 7 (sZ nd st)),(o_ 0 10 [(Entry.row (l7 l q.key))]),(o_ 0 10 [(Entry.row (X4 (l7 l q.key) now))])] (AV.tup []) (d2e g l gf gl gt al ga nd st q now) (b0C gf gl gt oa oa) (⟨rfl,trivial⟩) (⟨rfl,trivial⟩)) (.s (.ch 5 [(o_ 0 2 [[(iI (q9 32)),(AV.osl 1 (H9 (q9 32) l (X4 (l7 l q.key) now) g) 10 0 (List.length (F6 (q9 32) l (X4 (l7 l q.key) now))))]]),(o_ (H9 (q9 32) l (X4 (l7 l q.key) now) g) 10 (mE (F6 (q9 32) l (X4 (l7 l q.key) now)))),(o_ 0 3 [[(iI gf),(iI gl),(iI (min (gt+1) 1048576))]]),(o_ 0 2 (jO al ga)),(o_ ga 2 (mK (l5 al))),(o_ 0 7 (sZ nd st)),(o_ 0 10 [(Entry.row (l7 l q.key))]),(o_ 0 10 [(Entry.row (X4 (l7 l q.key) now))])] (a2Y (q9 32) l (X4 (l7 l q.key) now) g (List.length l) oa oa [(o_ 0 3 [[(iI gf),(iI gl),(iI (min (gt+1) 1048576))]]),(o_ 0 2 (jO al ga)),(o_ ga 2 (mK (l5 al))),(o_ 0 7 (sZ nd st)),(o_ 0 10 [(Entry.row (l7 l q.key))]),(o_ 0 10 [(Entry.row (X4 (l7 l q.key) now))])]) (.g (.h' (d2f l q now g gf gl gt al ga nd st) (.q 6 (AV.tup [(sA 9 []),(iI (J2 (q9 32) l (X4 (l7 l q.key) now)))])))))))))))))))))))))))))))
def c8V:Ann:={ refs:=[4],gha:=[(6,.any 6 9),(8,.any 6 9),(12,.any 6 9)],base:=6,fin:=some 6 }
@[simp] abbrev c8f (a:l9E) (b:Msg) (c:p9) (d:Int) (e:Int) (f:Nat):Ob:=(o_ 0 2 [[(iI (q9 32)),(AV.osl 1 (sJ a b (J5 b (l7 a b.key) (A8 a b.key) c d e) f) 10 0 (List.length (mR a b (J5 b (l7 a b.key) (A8 a b.key) c d e))))]])
@[simp] abbrev c8e (a:l9E) (b:Msg) (c:p9) (d:Int) (e:Int) (f:Nat):Ob:=(o_ (sJ a b (J5 b (l7 a b.key) (A8 a b.key) c d e) f) 10 (mE (mR a b (J5 b (l7 a b.key) (A8 a b.key) c d e))))
@[simp] abbrev c8d (a:l9E) (b:Msg) (c:p9) (d:Int) (e:Int) (f:l9K) (g:Nat):Ob:=(o_ 0 2 [[(iN ((List.length (kD a b (J5 b (l7 a b.key) (A8 a b.key) c d e) f)))),(AV.osl 4 (kC a b (J5 b (l7 a b.key) (A8 a b.key) c d e) g) 2 0 (List.length (l5 (kD a b (J5 b (l7 a b.key) (A8 a b.key) c d e) f))))]])
@[simp] abbrev c1Y (a:l9E) (b:Msg) (c:p9) (d:Int) (e:Int) (f:Nat) (g:l9K):Ob:=(o_ (kC a b (J5 b (l7 a b.key) (A8 a b.key) c d e) f) 2 (mK (l5 (kD a b (J5 b (l7 a b.key) (A8 a b.key) c d e) g))))
@[simp] abbrev c1X (a:Int) (b:l9E) (c:Msg) (d:p9) (e:Int):Ob:=(o_ 0 7 [[(iI a),(iI (jY b c (J5 c (l7 b c.key) (A8 b c.key) d e a) d).t),(iI (jY b c (J5 c (l7 b c.key) (A8 b c.key) d e a) d).node),(iI (jY b c (J5 c (l7 b c.key) (A8 b c.key) d e a) d).n),(oO 0 0 0 0),(oO 2 0 0 0),(oO 3 0 0 0)]])
@[simp] abbrev b6z (a:l9E) (b:Msg) (c:p9) (d:Int) (e:Int) (f:Nat) (g:Int) (h:Int) (i:Int) (j:l9K) (k:Nat):Heap:=[c8f a b c d e f,c8e a b c d e f,J3 g h i,c8d a b c d e j k,c1Y a b c d e k j,c1X e a b c d]
@[simp] abbrev c8h (a:l9E) (b:Msg) (c:p9) (d:Int) (e:Int) (f:Nat) (g:Int) (h:Int) (i:Int) (j:l9K) (k:Nat):Heap:=[c8f a b c d e f,c8e a b c d e f,J3 g h i,c8d a b c d e j k,c1Y a b c d e k j,c1X e a b c d,(o_ 0 10 [(Entry.row (l7 a b.key))])]
@[simp] abbrev c5w (a:l9E) (b:Msg) (c:p9) (d e:Int):=(AV.tup [(sA 9 (mC (a0d a b (J5 b (l7 a b.key) (A8 a b.key) c d e)))),(iI (a0b a b (J5 b (l7 a b.key) (A8 a b.key) c d e)))])
theorem c2A (l:l9E) (g:Nat) (al:l9K) (ga:Nat) (gf gl gt nd:Int) (st:p9) (q:Msg) (now:Int) (hl:l.length < 1000) (ha:al.length < 100000) (hgt:0<=gt/\gt < 4611686018427387904) (ho:q.op=1):AC 64 [(oO 5 0 0 0),(AV.agg (Msg.row q)),(iI now)] (J7 g l gf gl gt al ga nd st) ((c5w l q st now nd),(b6z l q st now nd g gf gl gt al ga)) :=
 r9 (fn:=Tryz.f64) (ann:=c8V) (Has.o Tryz.func64) (.r (.s (.c 6 (get_at (q9 32) l q.key g (List.length l) oa oa (a2t gf gl gt al ga nd st)) (.s (.two (A8 l q.key) (fun h1 h1'=>(.u3 (.s (.h' (zA g l gf gl gt al ga nd st q) (.y 2 (bB (q.op == 1)) bT (Yes.b Z5) (.ru (.ch 5 (c8h l q st now nd g gf gl gt al ga) (b1F l g al ga gf gl gt nd st q (l7 l q.key) (A8 l q.key) now oa oa [(o_ 0 10 [(Entry.row (l7 l q.key))])]) (.g (.h' (b6z l q st now nd g gf gl gt al ga) (.q 6 (c5w l q st now nd))))))))))) (fun h1 h1'=>(.n3 (.s (.h' (zA g l gf gl gt al ga nd st q) (.y 2 (bB (q.op == 1)) bT (Yes.b Z5) (.ru (.ch 5 (c8h l q st now nd g gf gl gt al ga) (b1F l g al ga gf gl gt nd st q (l7 l q.key) (A8 l q.key) now oa oa [(o_ 0 10 [(Entry.row (l7 l q.key))])]) (.g (.h' (b6z l q st now nd g gf gl gt al ga) (.q 6 (c5w l q st now nd))))))))))))))))
def c8Q:Ann:={ refs:=[4],gha:=[(6,.any 6 9),(8,.any 6 9),(12,.any 6 9)],base:=6,fin:=some 6 }
@[simp] abbrev b5E :=(AV.tup [(sA 9 []),(iI 22)])
theorem c2u (l:l9E) (g:Nat) (al:l9K) (ga:Nat) (gf gl gt nd:Int) (st:p9) (q:Msg) (now:Int) (hl:l.length < 1000) (ha:al.length < 100000) (hgt:0<=gt/\gt < 4611686018427387904) (h1:¬ q.op=1) (h4:¬ (q.op=4/\3 < q.status)) (hf:A8 l q.key=false):AC 64 [(oO 5 0 0 0),(AV.agg (Msg.row q)),(iI now)] (J7 g l gf gl gt al ga nd st) ((AV.tup [(sA 9 (mC ([]:l9C))),(iI 22)]),(J7 g l gf gl gt al ga nd st)) :=
 r9 (fn:=Tryz.f64) (ann:=c8Q) (Has.o Tryz.func64) (.r (.s (.c 6 (get_at (q9 32) l q.key g (List.length l) oa oa (a2t gf gl gt al ga nd st)) (.s (.h' (zA g l gf gl gt al ga nd st q) (.y 0 (bB (A8 l q.key)) bF (Yes.b (hf)) (.n4 (.s (.y 2 (bB (q.op == 1)) bF (Yes.b yf_) (.rn (.two (q.op == 4) (fun h1 h1'=>(.u2 (.y 6 (a9d q) bF (Yes.b (decide_eq_false (fun z=>h4 ⟨eq_of_beq (by assumption),z⟩))) (.rn (.ru (.g (.h' (J7 g l gf gl gt al ga nd st) (.q 6 b5E)))))))) (fun h1 h1'=>(.n2 (.rn (.ru (.g (.h' (J7 g l gf gl gt al ga nd st) (.q 6 b5E))))))))))))))))))
def c8R:Ann:={ refs:=[4],gha:=[(6,.any 6 9),(8,.any 6 9),(12,.any 6 9)],base:=6,fin:=some 6 }
theorem c2v (l:l9E) (g:Nat) (al:l9K) (ga:Nat) (gf gl gt nd:Int) (st:p9) (q:Msg) (now:Int) (hl:l.length < 1000) (ha:al.length < 100000) (hgt:0<=gt/\gt < 4611686018427387904) (h1:¬ q.op=1) (h4:¬ (q.op=4/\3 < q.status)) (hf:A8 l q.key=true) (hg:(l7 l q.key).card.gone=true):AC 64 [(oO 5 0 0 0),(AV.agg (Msg.row q)),(iI now)] (J7 g l gf gl gt al ga nd st) ((AV.tup [(sA 9 (mC ([]:l9C))),(iI 22)]),(J7 g l gf gl gt al ga nd st)) :=
 r9 (fn:=Tryz.f64) (ann:=c8R) (Has.o Tryz.func64) (.r (.s (.c 6 (get_at (q9 32) l q.key g (List.length l) oa oa (a2t gf gl gt al ga nd st)) (.s (.h' (zA g l gf gl gt al ga nd st q) (.y 0 (bB (A8 l q.key)) bT (Yes.b (hf)) (.u3 (.y 4 (bB (l7 l q.key).card.gone) bT (Yes.b (hg)) (.u (.s (.y 2 (bB (q.op == 1)) bF (Yes.b yf_) (.rn (.two (q.op == 4) (fun h1 h1'=>(.u2 (.y 6 (a9d q) bF (Yes.b (decide_eq_false (fun z=>h4 ⟨eq_of_beq (by assumption),z⟩))) (.rn (.ru (.g (.h' (J7 g l gf gl gt al ga nd st) (.q 6 b5E)))))))) (fun h1 h1'=>(.n2 (.rn (.ru (.g (.h' (J7 g l gf gl gt al ga nd st) (.q 6 b5E))))))))))))))))))))
structure TuR where
 c:List j5
 code:Int
 l:List Entry
 g:Nat
 al:List Key
 ga:Nat
 st:p9
 gt:Int
def a0Q (l:List Entry) (g:Nat) (al:List Key) (ga:Nat) (gt:Int) (st:p9) (x:Entry):TuR:=⟨kM l x,J2 (q9 32) l x,F6 (q9 32) l x,H9 (q9 32) l x g,J4 l x al,O1 l x ga,aL l x st,gt⟩
def tuR (l:List Entry) (g:Nat) (al:List Key) (ga:Nat) (gt nd:Int) (st:p9) (q:Msg) (now:Int):TuR :=
 if q.op=1 then ⟨a0d l q (J5 q (l7 l q.key) (A8 l q.key) st now nd),a0b l q (J5 q (l7 l q.key) (A8 l q.key) st now nd),mR l q (J5 q (l7 l q.key) (A8 l q.key) st now nd),sJ l q (J5 q (l7 l q.key) (A8 l q.key) st now nd) g,kD l q (J5 q (l7 l q.key) (A8 l q.key) st now nd) al,kC l q (J5 q (l7 l q.key) (A8 l q.key) st now nd) ga,jY l q (J5 q (l7 l q.key) (A8 l q.key) st now nd) st,gt⟩
 else if q.op=4/\3 < q.status then ⟨[],1,l,g,al,ga,st,gt⟩
 else if A8 l q.key=true/\(l7 l q.key).card.gone=false then
  (if q.op=2 then ⟨[],J2 (q9 32) l (X4 (l7 l q.key) now),F6 (q9 32) l (X4 (l7 l q.key) now),H9 (q9 32) l (X4 (l7 l q.key) now) g,al,ga,st,min (gt+1) 1048576⟩
   else if q.op=4 then a0Q l g al ga gt st (Y3 (l7 l q.key) q.status (C8 (maxS st (l7 l q.key).card.stamp) now nd)) else a0Q l g al ga gt st (G5 (l7 l q.key) (C8 (maxS st (l7 l q.key).card.stamp) now nd) now))
 else ⟨[],22,l,g,al,ga,st,gt⟩
theorem b7p (l:l9E) (g:Nat) (al:l9K) (ga:Nat) (gf gl gt nd:Int) (st:p9) (q:Msg) (now:Int) (hl:l.length < 1000) (ha:al.length < 100000) (hgt:0<=gt/\gt < 4611686018427387904) (ho1:1<=q.op) (ho5:q.op < 5) (hs0:0<=q.status):AC 64 [(oO 5 0 0 0),(AV.agg (Msg.row q)),(iI now)] [(o_ 0 2 [[(iI (q9 32)),(AV.osl 1 g 10 0 (List.length l))]]),(o_ g 10 (mE l)),(o_ 0 3 [[(iI gf),(iI gl),(iI gt)]]),(o_ 0 2 [[(iN ((List.length al))),(AV.osl 4 ga 2 0 (List.length (l5 al)))]]),(o_ ga 2 (mK (l5 al))),(o_ 0 7 [[(iI nd),(iI st.t),(iI st.node),(iI st.n),(oO 0 0 0 0),(oO 2 0 0 0),(oO 3 0 0 0)]])] ((AV.tup [(sA 9 (mC (tuR l g al ga gt nd st q now).c)),(iI (tuR l g al ga gt nd st q now).code)]),[(o_ 0 2 [[(iI (q9 32)),(AV.osl 1 (tuR l g al ga gt nd st q now).g 10 0 (List.length (tuR l g al ga gt nd st q now).l))]]),(o_ ((tuR l g al ga gt nd st q now).g) 10 (mE (tuR l g al ga gt nd st q now).l)),(o_ 0 3 [[(iI gf),(iI gl),(iI (tuR l g al ga gt nd st q now).gt)]]),(o_ 0 2 [[(iN ((List.length (tuR l g al ga gt nd st q now).al))),(AV.osl 4 (tuR l g al ga gt nd st q now).ga 2 0 (List.length (l5 (tuR l g al ga gt nd st q now).al)))]]),(o_ ((tuR l g al ga gt nd st q now).ga) 2 (mK (l5 (tuR l g al ga gt nd st q now).al))),(o_ 0 7 [[(iI nd),(iI (tuR l g al ga gt nd st q now).st.t),(iI (tuR l g al ga gt nd st q now).st.node),(iI (tuR l g al ga gt nd st q now).st.n),(oO 0 0 0 0),(oO 2 0 0 0),(oO 3 0 0 0)]])]):=by
 unfold tuR a0Q
 by_cases o1:q.op=1
 · rw [if_pos o1]
   exact c2A l g al ga gf gl gt nd st q now hl ha hgt o1
 rw [if_neg o1]
 by_cases o4:q.op=4/\3 < q.status
 · rw [if_pos o4]
   exact b7q l g al ga gf gl gt nd st q now hl ha hgt o4.1 o4.2
 rw [if_neg o4]
 by_cases lv:A8 l q.key=true/\(l7 l q.key).card.gone=false
 · rw [if_pos lv]
   by_cases o2:q.op=2
   · rw [if_pos o2]
     exact c2z l g al ga gf gl gt nd st q now hl ha hgt o2 lv.1 lv.2
   rw [if_neg o2]
   by_cases o3:q.op=4
   · rw [if_pos o3]
     exact c2w l g al ga gf gl gt nd st q now hl ha hgt o3 (Int.not_lt.1 fun z=>o4 ⟨o3,z⟩) hs0 lv.1 lv.2
   · rw [if_neg o3]
     exact c2y l g al ga gf gl gt nd st q now hl ha hgt ow lv.1 lv.2
 · rw [if_neg lv]
   cases hf:A8 l q.key with
   | false=>exact c2u l g al ga gf gl gt nd st q now hl ha hgt o1 o4 hf
   | true=>exact c2v l g al ga gf gl gt nd st q now hl ha hgt o1 o4 hf (by
    rcases Bool.eq_false_or_eq_true (l7 l q.key).card.gone with z | z
    · exact z
    · exact absurd ⟨hf,z⟩ lv)
theorem c8P (l:l9E) (g:Nat) (al:l9K) (ga:Nat) (gf gl gt nd:Int) (st:p9) (q:Msg) (now:Int) (hl:l.length < 1000) (ha:al.length < 100000) (hgt:0<=gt/\gt < 4611686018427387904) (ho1:1<=q.op) (ho5:q.op < 5) (hs0:0<=q.status) (H:Heap):AC 64 [(oO 5 0 0 0),(AV.agg (Msg.row q)),(iI now)] ((J7 g l gf gl gt al ga nd st)++H) ((AV.tup [(sA 9 (mC (tuR l g al ga gt nd st q now).c)),(iI (tuR l g al ga gt nd st q now).code)]),([(o_ 0 2 [[(iI (q9 32)),(AV.osl 1 (tuR l g al ga gt nd st q now).g 10 0 (List.length (tuR l g al ga gt nd st q now).l))]]),(o_ ((tuR l g al ga gt nd st q now).g) 10 (mE (tuR l g al ga gt nd st q now).l)),(o_ 0 3 [[(iI gf),(iI gl),(iI (tuR l g al ga gt nd st q now).gt)]]),(o_ 0 2 [[(iN ((List.length (tuR l g al ga gt nd st q now).al))),(AV.osl 4 (tuR l g al ga gt nd st q now).ga 2 0 (List.length (l5 (tuR l g al ga gt nd st q now).al)))]]),(o_ ((tuR l g al ga gt nd st q now).ga) 2 (mK (l5 (tuR l g al ga gt nd st q now).al))),(o_ 0 7 [[(iI nd),(iI (tuR l g al ga gt nd st q now).st.t),(iI (tuR l g al ga gt nd st q now).st.node),(iI (tuR l g al ga gt nd st q now).st.n),(oO 0 0 0 0),(oO 2 0 0 0),(oO 3 0 0 0)]])]:Heap)++H):=(b7p l g al ga gf gl gt nd st q now hl ha hgt ho1 ho5 hs0).ext kr kr ob ob kr H
attribute [local irreducible] I6 L9 Q6 R4 Tp.key Tp.keyT Tp.next Tp.step opM tuR
def hdM (q:Msg) (code:Int):Msg:=⟨2,q.op,0,code,q.tag,0,0,q.key,false,0,[],[]⟩
def c9R:Ann:={ refs:=[4],gha:=[(10,.frzf 6 11 9),(10,.frzf 6 12 2)],base:=6,fin:=some 6 }
@[simp] abbrev d2d (a:l9E) (b:Nat) (c:l9K) (d:Nat) (e:Int) (f:Int) (h:p9) (i:Msg) (j:Int) (k:Int) (m:Int):Heap:=[(o_ 0 2 [[(iI (q9 32)),(AV.osl 1 (tuR a b c d e f h i (d9 j)).g 10 0 (List.length (tuR a b c d e f h i (d9 j)).l))]]),(o_ ((tuR a b c d e f h i (d9 j)).g) 10 (mE (tuR a b c d e f h i (d9 j)).l)),(o_ 0 3 [[(iI k),(iI m),(iI (tuR a b c d e f h i (d9 j)).gt)]]),(o_ 0 2 [[(iN ((List.length (tuR a b c d e f h i (d9 j)).al))),(AV.osl 4 (tuR a b c d e f h i (d9 j)).ga 2 0 (List.length (l5 (tuR a b c d e f h i (d9 j)).al)))]]),(o_ ((tuR a b c d e f h i (d9 j)).ga) 2 (mK (l5 (tuR a b c d e f h i (d9 j)).al))),(o_ 0 7 [[(iI f),(iI (tuR a b c d e f h i (d9 j)).st.t),(iI (tuR a b c d e f h i (d9 j)).st.node),(iI (tuR a b c d e f h i (d9 j)).st.n),(oO 0 0 0 0),(oO 2 0 0 0),(oO 3 0 0 0)]])]
@[simp] abbrev I7 :Ob:=(o_ 0 13 [[z_,z_,z_,z_,z_,z_,z_,e_,e_,bF,(AV.int .u32 0),(AV.sl .nil 0 []),(AV.sl .nil 0 [])]])
@[simp] abbrev c6n (a:Nat) (b:l9E) (c:Int) (d:Int) (e:Int) (f:l9K) (g:Nat) (h:Int) (i:p9):Heap:=[Q9 a b,(o_ a 10 (mE b)),J3 c d e,M4 f g,(o_ g 2 (mK (l5 f))),P7 h i,I7]
@[simp] abbrev b5D (a:Msg):=[[(iI 2),(iI a.op),z_,z_,(iI a.tag),z_,z_,(AV.str a.key.app),(AV.str a.key.id),bF,(AV.int .u32 0),(AV.sl .nil 0 []),(AV.sl .nil 0 [])]]
@[simp] abbrev a2s (a:Nat) (b:l9E) (c:Int) (d:Int) (e:Int) (f:l9K) (g:Nat) (h:Int) (i:p9) (j:Msg):Heap:=[Q9 a b,(o_ a 10 (mE b)),J3 c d e,M4 f g,(o_ g 2 (mK (l5 f))),P7 h i,I7,(o_ 0 13 (b5D j))]
theorem bC {p:Prop} (h:p:=by rw [hk]; rfl):p:=h
@[simp] abbrev d4q (a:Msg) (b:l9E) (d:Nat) (e:l9K) (f:Nat) (g h:Int) (i:p9) (j:Int):=(AV.tup [(AV.agg [(iI 2),(iI a.op),z_,(iI (tuR b d e f g h i a (d9 j)).code),(iI a.tag),z_,z_,(AV.str a.key.app),(AV.str a.key.id),bF,(AV.int .u32 0),(sA 9 (mC [])),(sA 2 (mK []))]),(sA 9 (mC (tuR b d e f g h i a (d9 j)).c))])
theorem c4I (l:l9E) (g:Nat) (al:l9K) (ga:Nat) (gf gl gt nd:Int) (st:p9) (q:Msg) (now:Int) (hl:l.length < 1000) (ha:al.length < 100000) (hgt:0<=gt/\gt < 4611686018427387904) (ho1:1<=q.op) (ho5:q.op < 5) (hs0:0<=q.status) (hk:q.kind=1) (hr:R4 q=true):AC 31 [(oO 5 0 0 0),(AV.agg (Msg.row q)),(iI now)] (J7 g l gf gl gt al ga nd st) ((AV.tup [(AV.agg (Msg.row (hdM q (tuR l g al ga gt nd st q (d9 now)).code))),(sA 9 (mC (tuR l g al ga gt nd st q (d9 now)).c))]),(d2d l g al ga gt nd st q now gf gl)) :=
 r9 (fn:=Tryz.f31) (ann:=c9R) (Has.o Tryz.func31) (.r (.s (.c 1 ((dO now).lift kr kr (c6n g l gf gl gt al ga nd st)) (.s (.s (.h' (a2s g l gf gl gt al ga nd st q) (.y 2 (bB (q.kind != 1)) bF (Yes.b bC) (.n2 (.c 5 ((bX q oa).lift kr kr (a2s g l gf gl gt al ga nd st q)) (.n (.rn (.y 2 (bB (q.op == 5)) bF (Yes.b (by have z:¬ q.op=5:=ow; simpa using z)) (.rn (.ch 3 [(o_ 0 2 [[(iI (q9 32)),(AV.osl 1 (tuR l g al ga gt nd st q (d9 now)).g 10 0 (List.length (tuR l g al ga gt nd st q (d9 now)).l))]]),(o_ ((tuR l g al ga gt nd st q (d9 now)).g) 10 (mE (tuR l g al ga gt nd st q (d9 now)).l)),(o_ 0 3 [[(iI gf),(iI gl),(iI (tuR l g al ga gt nd st q (d9 now)).gt)]]),(o_ 0 2 [[(iN ((List.length (tuR l g al ga gt nd st q (d9 now)).al))),(AV.osl 4 (tuR l g al ga gt nd st q (d9 now)).ga 2 0 (List.length (l5 (tuR l g al ga gt nd st q (d9 now)).al)))]]),(o_ ((tuR l g al ga gt nd st q (d9 now)).ga) 2 (mK (l5 (tuR l g al ga gt nd st q (d9 now)).al))),(o_ 0 7 [[(iI nd),(iI (tuR l g al ga gt nd st q (d9 now)).st.t),(iI (tuR l g al ga gt nd st q (d9 now)).st.node),(iI (tuR l g al ga gt nd st q (d9 now)).st.n),(oO 0 0 0 0),(oO 2 0 0 0),(oO 3 0 0 0)]]),(o_ 0 13 [[z_,z_,z_,z_,z_,z_,z_,e_,e_,bF,(AV.int .u32 0),(AV.sl .nil 0 []),(AV.sl .nil 0 [])]]),(o_ 0 13 (b5D q))] (c8P l g al ga gf gl gt nd st q (d9 now) oa oa oa oa oa oa [(o_ 0 13 [[z_,z_,z_,z_,z_,z_,z_,e_,e_,bF,(AV.int .u32 0),(AV.sl .nil 0 []),(AV.sl .nil 0 [])]]),(o_ 0 13 (b5D q))]) (.s (.s (.o (rfl:0=0) (.o (rfl:0=0) (.g (.h' (d2d l g al ga gt nd st q now gf gl) (.q 6 (d4q q l g al ga gt nd st now))))))))))))))))))))))
def c4Q:Ann:={ refs:=[11],fin:=some 0 }
theorem V7 (tx:ByteArray) (code:Int) (h:¬ code=0):AC 53 [(AV.str tx),(iI code)] [] ((AV.iface 166 (AV.ref [(AV.str tx),(AV.iface 109 (iI code))] 0)),[]) :=
 r9 (fn:=Tryz.f53) (ann:=c4Q) (Has.o Tryz.func53) (.r (.s (.y 1 (bB (code == 0)) bF (Yes.b yj_) (.g (.n (.qr 0 (AV.iface 166 (AV.ref [(AV.str tx),(AV.iface 109 (iI code))] 0))))))))
theorem a1D {q:Msg} (hk:q.kind=1) (h:L9 q=true):q.code=0/\q.full=false/\q.sum=0/\q.cards=[]/\q.keys=[]:=by
 with_unfolding_all
  unfold L9 at h
  rw [if_pos hk] at h
  simp only [gH,Bool.and_eq_true,decide_eq_true_eq,beq_iff_eq,List.length_eq_zero_iff] at h
  obtain ⟨h1,h2,_,_,_,h3,_,_,_,_,h4,h5⟩:=h
  exact ⟨h3,h4,h5,h1,h2⟩
def kN (b:List UInt8) (code:Int):AV:=.ref [.str (ByteArray.mk b.toArray),.iface 109 (.int .i64 code)] 0
def jM (q:Msg):AV:=if L9 q=false then kN [122,101,114,111] 12 else if opM q=false then kN [111,112] 12 else kN [110,117,109,98,101,114] 1
@[simp] theorem d4e (n:Nat) (q:Msg):AV.bdd n (jM q)=true:=by unfold jM kN; split <;> (try split) <;> simp [AV.bdd,AV.bdds]
def c9z:Ann:={ refs:=[1],fin:=some 0 }
theorem mI {p:Prop} (h:p:=by rw [hz]; rfl):p:=h
@[simp] abbrev b5C :=(AV.ref [(AV.str (ByteArray.mk #[122,101,114,111])),(AV.iface 109 (iI 12))] 0)
theorem c3I (q:Msg) (hk:q.kind=1) (hz:L9 q=false):AC 30 [(AV.agg (Msg.row q))] [] ((AV.iface 166 b5C),[]) :=
 r9 (fn:=Tryz.f30) (ann:=c9z) (Has.o Tryz.func30) (.r (.s (.y 2 (iO q) bF (Yes.b bC) (.n3 (.y 6 (jN q) bF (Yes.b bC) (.rn (.c 1 (Z8 q  ([]:Heap)) (.y 2 (bB (!(L9 q))) bT (Yes.b mI) (.ru (.c 0 ((V7 (ByteArray.mk #[122,101,114,111]) 12 oa).lift kr kr []) (.q 0 (AV.iface 166 b5C))))))))))))
def c9A:Ann:={ refs:=[1],fin:=some 0 }
@[simp] abbrev b5B :=(AV.ref [(AV.str (ByteArray.mk #[111,112])),(AV.iface 109 (iI 12))] 0)
theorem c3J (q:Msg) (hk:q.kind=1) (hz:L9 q=true) (ho:opM q=false):AC 30 [(AV.agg (Msg.row q))] [] ((AV.iface 166 b5B),[]) :=
 r9 (fn:=Tryz.f30) (ann:=c9A) (Has.o Tryz.func30) (.r (.s (.y 2 (iO q) bF (Yes.b bC) (.n3 (.y 6 (jN q) bF (Yes.b bC) (.rn (.c 1 (Z8 q  ([]:Heap)) (.y 2 (bB (!(L9 q))) bF (Yes.b mI) (.rn (.c 1 (fJ q  ([]:Heap)) (.y 2 (bB (!(opM q))) bT (Yes.b Z5) (.ru (.c 0 ((V7 (ByteArray.mk #[111,112]) 12 oa).lift kr kr []) (.q 0 (AV.iface 166 b5B)))))))))))))))
def c3L:Ann:={ refs:=[1],fin:=some 0 }
@[simp] abbrev vS :=(AV.ref [(AV.str (ByteArray.mk #[110,117,109,98,101,114])),(AV.iface 109 (iI 1))] 0)
theorem b8R (q:Msg) (hk:q.kind=1) (hz:L9 q=true) (ho:opM q=true) (hn:I6 q.status=false):AC 30 [(AV.agg (Msg.row q))] [] ((AV.iface 166 vS),[]) :=
 r9 (fn:=Tryz.f30) (ann:=c3L) (Has.o Tryz.func30) (.r (.s (.y 2 (iO q) bF (Yes.b bC) (.n3 (.y 6 (jN q) bF (Yes.b bC) (.rn (.c 1 (Z8 q  ([]:Heap)) (.y 2 (bB (!(L9 q))) bF (Yes.b mI) (.rn (.c 1 (fJ q  ([]:Heap)) (.y 2 (bB (!(opM q))) bF (Yes.b Z5) (.rn (.c 2 (O7 q.code  ([]:Heap)) (.y 3 (bB (!(I6 q.code))) bF (Yes.b (by rw [(a1D hk hz).1]; with_unfolding_all rfl)) (.n3 (.c 7 (O7 q.status  ([]:Heap)) (.n (.y 8 (bB (!(I6 q.status))) bT (Yes.b (by rw [hn]; rfl)) (.u3 (.ru (.c 0 ((V7 (ByteArray.mk #[110,117,109,98,101,114]) 1 oa).lift kr kr []) (.q 0 (AV.iface 166 vS)))))))))))))))))))))))
def c3K:Ann:={ refs:=[1],fin:=some 0 }
theorem b8Q (q:Msg) (hk:q.kind=1) (hz:L9 q=true) (ho:opM q=true) (hn:I6 q.status=true) (hs:q.seq < -1):AC 30 [(AV.agg (Msg.row q))] [] ((AV.iface 166 vS),[]) :=
 r9 (fn:=Tryz.f30) (ann:=c3K) (Has.o Tryz.func30) (.r (.s (.y 2 (iO q) bF (Yes.b bC) (.n3 (.y 6 (jN q) bF (Yes.b bC) (.rn (.c 1 (Z8 q  ([]:Heap)) (.y 2 (bB (!(L9 q))) bF (Yes.b mI) (.rn (.c 1 (fJ q  ([]:Heap)) (.y 2 (bB (!(opM q))) bF (Yes.b Z5) (.rn (.c 2 (O7 q.code  ([]:Heap)) (.y 3 (bB (!(I6 q.code))) bF (Yes.b (by rw [(a1D hk hz).1]; with_unfolding_all rfl)) (.n3 (.c 7 (O7 q.status  ([]:Heap)) (.n (.y 8 (bB (!(I6 q.status))) bF (Yes.b (by rw [hn]; rfl)) (.n3 (.y 13 (a2k q) bT (Yes.b (decide_eq_true hs)) (.ru (.c 0 ((V7 (ByteArray.mk #[110,117,109,98,101,114]) 1 oa).lift kr kr []) (.q 0 (AV.iface 166 vS))))))))))))))))))))))))
theorem c3N (q : Msg) (hk : q.kind = 1) (hr : R4 q = false) : AC 30 [(AV.agg (Msg.row q))] [] ((AV.iface 166 (jM q)), []) := by
  cases hz : L9 q with
  | false => have e : jM q = kN [122, 101, 114, 111] 12 := by unfold jM; rw [if_pos hz]
             rw [e]; exact c3I q hk hz
  | true =>
    cases ho : opM q with
    | false => have e : jM q = kN [111, 112] 12 := by unfold jM; rw [if_neg (by rw [hz]; simp), if_pos ho]
               rw [e]; exact c3J q hk hz ho
    | true =>
      have e : jM q = kN [110, 117, 109, 98, 101, 114] 1 := by unfold jM; rw [if_neg (by rw [hz]; simp), if_neg (by rw [ho]; simp)]
      rw [e]
      cases hn : I6 q.status with
      | false => exact b8R q hk hz ho hn
      | true =>
        refine b8Q q hk hz ho hn ?_
        obtain ⟨c1, c2, c3, c4, c5⟩ := a1D hk hz
        have hw : I6 0 = true := by with_unfolding_all rfl
        by_cases h : q.seq < -1
        · exact h
        · have : R4 q = true := by
            with_unfolding_all
              unfold R4
              rw [hz, ho, c1, hw, hn, c4, c5, hk, decide_eq_true (show -1 ≤ q.seq by omega)]
              rfl
          rw [this] at hr; simp at hr
theorem d0k (q:Msg) (hk:q.kind=1) (hr:R4 q=false) (H:Heap):AC 30 [(AV.agg (Msg.row q))] H ((AV.iface 166 (jM q)),H):=(c3N q hk hr).lift kr (by simp [AV.bdd,AV.bdds]) H
attribute [local irreducible] jM
def c9O:Ann:={ refs:=[4],gha:=[(5,.frzf 6 11 9),(5,.frzf 6 12 2),(5,.any 7 9)],base:=6,fin:=some 6 }
@[simp] abbrev d0Z (a:Msg):=(AV.tup [(AV.agg [(iI 2),(iI a.op),z_,(iI 1),(iI a.tag),z_,z_,(AV.str a.key.app),(AV.str a.key.id),bF,(AV.int .u32 0),(sA 9 (mC [])),(sA 2 (mK []))]),(sA 9 [])])
theorem c4F (l:l9E) (g:Nat) (al:l9K) (ga:Nat) (gf gl gt nd:Int) (st:p9) (q:Msg) (now:Int) (hk:¬ q.kind=1):AC 31 [(oO 5 0 0 0),(AV.agg (Msg.row q)),(iI now)] (J7 g l gf gl gt al ga nd st) ((AV.tup [(AV.agg (Msg.row (hdM q 1))),(sA 9 (mC ([]:l9C)))]),(J7 g l gf gl gt al ga nd st)) :=
 r9 (fn:=Tryz.f31) (ann:=c9O) (Has.o Tryz.func31) (.r (.s (.c 1 ((dO now).lift kr kr (c6n g l gf gl gt al ga nd st)) (.s (.s (.h' (a2s g l gf gl gt al ga nd st q) (.y 2 (bB (q.kind != 1)) bT (Yes.b (by simpa using hk)) (.u3 (.ru (.s (.o (rfl:0=0) (.o (rfl:0=0) (.g (.h' (J7 g l gf gl gt al ga nd st) (.q 6 (d0Z q))))))))))))))))
def c9Q:Ann:={ refs:=[4],gha:=[(5,.frzf 6 11 9),(5,.frzf 6 12 2),(5,.any 7 9)],base:=6,fin:=some 6 }
theorem c4H (l:l9E) (g:Nat) (al:l9K) (ga:Nat) (gf gl gt nd:Int) (st:p9) (q:Msg) (now:Int) (hk:q.kind=1) (hr:R4 q=false):AC 31 [(oO 5 0 0 0),(AV.agg (Msg.row q)),(iI now)] (J7 g l gf gl gt al ga nd st) ((AV.tup [(AV.agg (Msg.row (hdM q 1))),(sA 9 (mC ([]:l9C)))]),(J7 g l gf gl gt al ga nd st)) :=
 r9 (fn:=Tryz.f31) (ann:=c9Q) (Has.o Tryz.func31) (.r (.s (.c 1 ((dO now).lift kr kr (c6n g l gf gl gt al ga nd st)) (.s (.s (.h' (a2s g l gf gl gt al ga nd st q) (.y 2 (bB (q.kind != 1)) bF (Yes.b bC) (.n2 (.c 5 (d0k q oa oa (a2s g l gf gl gt al ga nd st q)) (.n (.ru (.s (.o (rfl:0=0) (.o (rfl:0=0) (.g (.h' (J7 g l gf gl gt al ga nd st) (.q 6 (d0Z q))))))))))))))))))
def Tp.ask (t:Tp):Msg × Tp :=
 let u:=(t.step 50).step 5
 if (((1+(t.step 50).next 5:Nat):Int) == 5)=true then (⟨1,((1+(t.step 50).next 5:Nat):Int),0,0,((t.next 50:Nat):Int),0,((u.next 40:Nat):Int) - 1,⟨⟨#[]⟩,⟨#[]⟩⟩,false,0,[],[]⟩,u.step 40)
 else (⟨1,((1+(t.step 50).next 5:Nat):Int),((((u.keyT).step 60).next 5:Nat):Int),0,((t.next 50:Nat):Int),(((u.keyT).next 60:Nat):Int),0,u.key,false,0,[],[]⟩,((u.keyT).step 60).step 5)
def c2G:Ann:={ gha:=[(4,.frzf 2 11 9),(4,.frzf 2 12 2),(6,.frzf 2 11 9),(6,.frzf 2 12 2)],base:=1,fin:=some 1 }
@[simp] abbrev a4W :Heap:=[I7,I7]
@[simp] abbrev a4V (a:Tp):Heap:=[I7,(o_ 0 13 [[(iI 1),(iN (1+((a.step 50).next 5))),z_,z_,(iN (a.next 50)),z_,z_,e_,e_,bF,(AV.int .u32 0),(AV.sl .nil 0 []),(AV.sl .nil 0 [])]])]
theorem a4e {p:Prop} (h:p:=by first | omega | assumption | (simp; done) | (simp; omega) | (simp only [Tp.Z6,Tp.kJ]; assumption)):p:=h
theorem b7x (t:Tp) (hl:t.l.length < 9223372036854775808):AC 28 [(AV.obj 0 0 0 0)] [(o_ 0 2 [(Tp.row t)])] ((AV.agg (Msg.row t.ask.1)),[(o_ 0 2 [(Tp.row t.ask.2)])]):=by
 have n5:=(t.step 50).next_lt 5 ow
 have n4:=((t.step 50).step 5).next_lt 40 ow
 exact r9 (fn:=Tryz.f28) (ann:=c2G) (Has.o Tryz.func28) (.r (.s (.ch 1 [(o_ 0 2 [(Tp.row (t.step 50))]),(o_ 0 13 [[(AV.int .i64 0),(AV.int .i64 0),(AV.int .i64 0),(AV.int .i64 0),(AV.int .i64 0),(AV.int .i64 0),(AV.int .i64 0),(AV.str ⟨#[]⟩),(AV.str ⟨#[]⟩),(AV.bool false),(AV.int .u32 0),(AV.sl .nil 0 []),(AV.sl .nil 0 [])]]),(o_ 0 13 [[(AV.int .i64 0),(AV.int .i64 0),(AV.int .i64 0),(AV.int .i64 0),(AV.int .i64 0),(AV.int .i64 0),(AV.int .i64 0),(AV.str ⟨#[]⟩),(AV.str ⟨#[]⟩),(AV.bool false),(AV.int .u32 0),(AV.sl .nil 0 []),(AV.sl .nil 0 [])]])] (F7 t 50 a4e a4W) (.ch 3 [(o_ 0 2 [(Tp.row ((t.step 50).step 5))]),(o_ 0 13 [[(AV.int .i64 0),(AV.int .i64 0),(AV.int .i64 0),(AV.int .i64 0),(AV.int .i64 0),(AV.int .i64 0),(AV.int .i64 0),(AV.str ⟨#[]⟩),(AV.str ⟨#[]⟩),(AV.bool false),(AV.int .u32 0),(AV.sl .nil 0 []),(AV.sl .nil 0 [])]]),(o_ 0 13 [[(AV.int .i64 0),(AV.int .i64 0),(AV.int .i64 0),(AV.int .i64 0),(AV.int .i64 0),(AV.int .i64 0),(AV.int .i64 0),(AV.str ⟨#[]⟩),(AV.str ⟨#[]⟩),(AV.bool false),(AV.int .u32 0),(AV.sl .nil 0 []),(AV.sl .nil 0 [])]])] (F7 (t.step 50) 5 a4e a4W) (.y 4 (iW (1+(((t.step 50).next 5:Nat):Int))) (AV.int .i64 ((1+((t.step 50).next 5):Nat):Int)) Yes.o (.s (.g (.two (((1+((t.step 50).next 5):Nat):Int) == 5) (fun h1 h1'=>(.r (.ch 1 [(o_ 0 2 [(Tp.row (((t.step 50).step 5).step 40))]),(o_ 0 13 [[(AV.int .i64 0),(AV.int .i64 0),(AV.int .i64 0),(AV.int .i64 0),(AV.int .i64 0),(AV.int .i64 0),(AV.int .i64 0),(AV.str ⟨#[]⟩),(AV.str ⟨#[]⟩),(AV.bool false),(AV.int .u32 0),(AV.sl .nil 0 []),(AV.sl .nil 0 [])]]),(o_ 0 13 [[(AV.int .i64 1),(AV.int .i64 ((1+((t.step 50).next 5):Nat):Int)),(AV.int .i64 0),(AV.int .i64 0),(AV.int .i64 ((t.next 50:Nat):Int)),(AV.int .i64 0),(AV.int .i64 0),(AV.str ⟨#[]⟩),(AV.str ⟨#[]⟩),(AV.bool false),(AV.int .u32 0),(AV.sl .nil 0 []),(AV.sl .nil 0 [])]])] (F7 ((t.step 50).step 5) 40 a4e (a4V t)) (.y 2 (iW (((((t.step 50).step 5).next 40:Nat):Int) - 1)) (AV.int .i64 (((((t.step 50).step 5).next 40:Nat):Int) - 1)) Yes.o (.s (.o (rfl:0=0) (.o (rfl:0=0) (.g (.h' [(o_ 0 2 [(Tp.row (((t.step 50).step 5).step 40))])] (.q 1 (AV.agg [(AV.int .i64 1),(AV.int .i64 ((1+((t.step 50).next 5):Nat):Int)),(AV.int .i64 0),(AV.int .i64 0),(AV.int .i64 ((t.next 50:Nat):Int)),(AV.int .i64 0),(AV.int .i64 (((((t.step 50).step 5).next 40:Nat):Int) - 1)),(AV.str ⟨#[]⟩),(AV.str ⟨#[]⟩),(AV.bool false),(AV.int .u32 0),(AV.sl .any 9 (List.map j5.row [])),(AV.sl .any 2 (List.map Key.row []))]) (by (try delta a4W a4V I7 I7); unfold Tp.ask; simp only []; rw [if_pos h1]; first | done | rfl))))))))))) (fun h1 h1'=>(.r (.ch 1 [(o_ 0 2 [(Tp.row ((t.step 50).step 5).keyT)]),(o_ 0 13 [[(AV.int .i64 0),(AV.int .i64 0),(AV.int .i64 0),(AV.int .i64 0),(AV.int .i64 0),(AV.int .i64 0),(AV.int .i64 0),(AV.str ⟨#[]⟩),(AV.str ⟨#[]⟩),(AV.bool false),(AV.int .u32 0),(AV.sl .nil 0 []),(AV.sl .nil 0 [])]]),(o_ 0 13 [[(AV.int .i64 1),(AV.int .i64 ((1+((t.step 50).next 5):Nat):Int)),(AV.int .i64 0),(AV.int .i64 0),(AV.int .i64 ((t.next 50:Nat):Int)),(AV.int .i64 0),(AV.int .i64 0),(AV.str ⟨#[]⟩),(AV.str ⟨#[]⟩),(AV.bool false),(AV.int .u32 0),(AV.sl .nil 0 []),(AV.sl .nil 0 [])]])] (a0k ((t.step 50).step 5) a4e (a4V t)) (.ch 3 [(o_ 0 2 [(Tp.row (((t.step 50).step 5).keyT.step 60))]),(o_ 0 13 [[(AV.int .i64 0),(AV.int .i64 0),(AV.int .i64 0),(AV.int .i64 0),(AV.int .i64 0),(AV.int .i64 0),(AV.int .i64 0),(AV.str ⟨#[]⟩),(AV.str ⟨#[]⟩),(AV.bool false),(AV.int .u32 0),(AV.sl .nil 0 []),(AV.sl .nil 0 [])]]),(o_ 0 13 [[(AV.int .i64 1),(AV.int .i64 ((1+((t.step 50).next 5):Nat):Int)),(AV.int .i64 0),(AV.int .i64 0),(AV.int .i64 ((t.next 50:Nat):Int)),(AV.int .i64 0),(AV.int .i64 0),(AV.str ⟨#[]⟩),(AV.str ⟨#[]⟩),(AV.bool false),(AV.int .u32 0),(AV.sl .nil 0 []),(AV.sl .nil 0 [])]])] (F7 ((t.step 50).step 5).keyT 60 a4e (a4V t)) (.ch 5 [(o_ 0 2 [(Tp.row ((((t.step 50).step 5).keyT.step 60).step 5))]),(o_ 0 13 [[(AV.int .i64 0),(AV.int .i64 0),(AV.int .i64 0),(AV.int .i64 0),(AV.int .i64 0),(AV.int .i64 0),(AV.int .i64 0),(AV.str ⟨#[]⟩),(AV.str ⟨#[]⟩),(AV.bool false),(AV.int .u32 0),(AV.sl .nil 0 []),(AV.sl .nil 0 [])]]),(o_ 0 13 [[(AV.int .i64 1),(AV.int .i64 ((1+((t.step 50).next 5):Nat):Int)),(AV.int .i64 0),(AV.int .i64 0),(AV.int .i64 ((t.next 50:Nat):Int)),(AV.int .i64 0),(AV.int .i64 0),(AV.str ⟨#[]⟩),(AV.str ⟨#[]⟩),(AV.bool false),(AV.int .u32 0),(AV.sl .nil 0 []),(AV.sl .nil 0 [])]])] (F7 (((t.step 50).step 5).keyT.step 60) 5 a4e (a4V t)) (.s (.o (rfl:0=0) (.o (rfl:0=0) (.g (.h' [(o_ 0 2 [(Tp.row ((((t.step 50).step 5).keyT.step 60).step 5))])] (.q 1 (AV.agg [(AV.int .i64 1),(AV.int .i64 ((1+((t.step 50).next 5):Nat):Int)),(AV.int .i64 (((((t.step 50).step 5).keyT.step 60).next 5:Nat):Int)),(AV.int .i64 0),(AV.int .i64 ((t.next 50:Nat):Int)),(AV.int .i64 ((((t.step 50).step 5).keyT.next 60:Nat):Int)),(AV.int .i64 0),(AV.str ((t.step 50).step 5).key.app),(AV.str ((t.step 50).step 5).key.id),(AV.bool false),(AV.int .u32 0),(AV.sl .any 9 (List.map j5.row [])),(AV.sl .any 2 (List.map Key.row []))]) (by (try delta a4W a4V I7 I7); unfold Tp.ask; simp only []; (rw [if_neg a1E]); first | done | rfl))))))))))))))))))))
theorem c9a (t:Tp) (hl:t.l.length < 9223372036854775808) (H:Heap):AC 28 [(oO 0 0 0 0)] (([(o_ 0 2 [(Tp.row t)])]:Heap)++H) ((AV.agg (Msg.row t.ask.1)),([(o_ 0 2 [(Tp.row t.ask.2)])]:Heap)++H):=(b7x t hl).ext kr kr ob ob kr H
end Go.Proofs.YtmghjcbabebanaaGreat.AM
namespace Go.Proofs.YtmghjcbabebanaaGreat.AM
open Go Go.Proofs.YtmghjcbabebanaaGreat
attribute [local irreducible] A8 E9 F5 F6 G9 H9 J2 J6 K5 K9 M6 U1 U6 aK atC dY gG j6 l5 l6 l7 l9 ofB okS q9
def b5T:Ann:={ base:=4,fin:=some 4 }
@[simp] abbrev qB (a:l9K) (b:Nat):=[[(iN ((List.length a))),(AV.osl 3 b 2 0 (List.length (l5 a)))]]
@[simp] abbrev yX (a:l9K) (b:Nat):Ob:=(o_ 0 2 (qB a b))
@[simp] abbrev mG (a:Int) (b:Nat) (c:Nat) (d:l9E) (e:l9K) (f:Nat):Heap:=[bM a b c,(o_ b 10 (mE d)),yX e f,(o_ f 2 (mK (l5 e)))]
@[simp] abbrev yY (a:Int) (b:Nat) (c:Nat) (d:l9E) (e:l9K) (f:Nat):Heap:=[bM a b c,(o_ b 10 (mE d)),yX e f,(o_ f 2 (mK (l5 e))),I7]
@[simp] abbrev aM (a:l9E):=(AV.int .u32 (ofB (List.map Entry.card a)))
theorem b1i (most:Int) (l:l9E) (g n:Nat) (al:l9K) (ga:Nat) (hn:n=l.length) (hl:l.length < 1000) (ha:al.length < 1000000):AC 160 [(oO 0 0 0 0),(oO 2 0 0 0)] (mG most g n l al ga) ((AV.agg [(iI 2),(iI 5),z_,z_,z_,z_,(iN al.length),e_,e_,bF,(aM l),(AV.sl .nil 0 []),(AV.sl .nil 0 [])]),(mG most g n l al ga)):=by
 have hm:(List.map Entry.card l).length=l.length:=List.length_map _
 exact r9 (fn:=Tryz.f160) (ann:=b5T) (Has.o Tryz.func160) (.r (.s (.c 1 (l6.put2 [2,3] (yY most g n l al ga) (iN al.length) (yY most g n l al ga) (c2V al ga ) (rlD) (rlD)) (.c 3 (fB most l g n oa oa [(o_ 0 2 (qB al ga)),(o_ ga 2 (mK (l5 al))),(o_ 0 13 [[z_,z_,z_,z_,z_,z_,z_,e_,e_,bF,(AV.int .u32 0),(AV.sl .nil 0 []),(AV.sl .nil 0 [])]])]) (.c 4 ((a7s (l.map (·.card)) oa).lift kr kr (yY most g n l al ga)) (.q 4 (AV.agg [(iI 2),(iI 5),z_,z_,z_,z_,(iN al.length),e_,e_,bF,(AV.int .u32 (ofB (l.map (·.card)))),(AV.sl .nil 0 []),(AV.sl .nil 0 [])])))))))
theorem a6f (most:Int) (l:l9E) (g n:Nat) (al:l9K) (ga:Nat) (hn:n=l.length) (hl:l.length < 1000) (ha:al.length < 1000000) (H:Heap):AC 160 [(oO 0 0 0 0),(oO 2 0 0 0)] ((mG most g n l al ga)++H) ((AV.agg [(iI 2),(iI 5),z_,z_,z_,z_,(iN al.length),e_,e_,bF,(AV.int .u32 (ofB (List.map Entry.card l))),(AV.sl .nil 0 []),(AV.sl .nil 0 [])]),(mG most g n l al ga)++H):=(b1i most l g n al ga hn hl ha).ext kr kr ob ob kr H
def b4p:Ann:={ base:=4,fin:=some 4 }
@[simp] abbrev a2j (a:l9E):=(sA 9 (mC (U6 (List.map Entry.card a))))
theorem vN (most:Int) (l:l9E) (g n:Nat) (al:l9K) (ga:Nat) (hn:n=l.length) (hl:l.length < 1000) (ha:al.length < 1000000):AC 109 [(oO 0 0 0 0),(oO 2 0 0 0)] (mG most g n l al ga) ((AV.agg [(iI 2),(iI 5),z_,z_,z_,z_,(iN al.length),e_,e_,bT,(aM l),(a2j l),(AV.sl .nil 0 [])]),(mG most g n l al ga)):=by
 have hm:(List.map Entry.card l).length=l.length:=List.length_map _
 exact r9 (fn:=Tryz.f109) (ann:=b4p) (Has.o Tryz.func109) (.r (.s (.n2 (.rn (.c 2 (a6f most l g n al ga oa oa oa a4W) (.s (.c 1 (fB most l g n oa oa [(o_ 0 2 (qB al ga)),(o_ ga 2 (mK (l5 al))),(o_ 0 13 [[z_,z_,z_,z_,z_,z_,z_,e_,e_,bF,(AV.int .u32 0),(AV.sl .nil 0 []),(AV.sl .nil 0 [])]]),(o_ 0 13 [[(iI 2),(iI 5),z_,z_,z_,z_,(iN al.length),e_,e_,bF,(aM l),(AV.sl .nil 0 []),(AV.sl .nil 0 [])]])]) (.c 2 ((a2J (l.map (·.card)) oa).lift kr kr [(o_ 0 2 (qF most g n)),(o_ g 10 (mE l)),(o_ 0 2 (qB al ga)),(o_ ga 2 (mK (l5 al))),(o_ 0 13 [[z_,z_,z_,z_,z_,z_,z_,e_,e_,bF,(AV.int .u32 0),(AV.sl .nil 0 []),(AV.sl .nil 0 [])]]),(o_ 0 13 [[(iI 2),(iI 5),z_,z_,z_,z_,(iN al.length),e_,e_,bF,(aM l),(AV.sl .nil 0 []),(AV.sl .nil 0 [])]])]) (.g (.qr 4 (AV.agg [(iI 2),(iI 5),z_,z_,z_,z_,(iN al.length),e_,e_,bT,(aM l),(sA 9 (mC (U6 (l.map (·.card))))),(AV.sl .nil 0 [])])))))))))))
theorem c0e (most:Int) (l:l9E) (g n:Nat) (al:l9K) (ga:Nat) (hn:n=l.length) (hl:l.length < 1000) (ha:al.length < 1000000) (H:Heap):AC 109 [(oO 0 0 0 0),(oO 2 0 0 0)] ((mG most g n l al ga)++H) ((AV.agg [(iI 2),(iI 5),z_,z_,z_,z_,(iN al.length),e_,e_,bT,(AV.int .u32 (ofB (List.map Entry.card l))),(sA 9 (mC (U6 (List.map Entry.card l)))),(AV.sl .nil 0 [])]),(mG most g n l al ga)++H):=(vN most l g n al ga hn hl ha).ext kr kr ob ob kr H
def qV:Ann:={ gh:=[(16,.frzf 9 11 9)],gha:=[(6,.virf 9 11 9),(15,.cut 7)],base:=4,fin:=some 4,live:=[(8,[0,6,9,36,37,38])],out:=[(8,[0,6,9,36,37,38])] }
@[simp] abbrev d2c (a:l9K) (b:Nat):Fr:=(mkF 61 [(0,(oO 0 0 0 0)),(6,(oO 4 0 0 0)),(9,(oO 5 0 0 0)),(36,(sA 2 (mK a))),(37,(iN a.length)),(38,(iN (b+1)))])
@[simp] abbrev c8a (a:l9K) (b:l9E) (c:Nat) (d:Nat):Ob:=(o_ 0 13 [[(iI 2),(iI 5),z_,z_,z_,z_,(iN a.length),e_,e_,bF,(aM b),(vU c d),(AV.sl .nil 0 [])]])
@[simp] abbrev d2b (a:Int) (b:Nat) (c:Nat) (d:l9E) (e:l9K) (f:Nat) (g:Nat) (h:Nat) (i:l9C) (j:l9K) (k:Nat):Heap:=[bM a b c,(o_ b 10 (mE d)),yX e f,(o_ f 2 (mK (l5 e))),I7,c8a e d g h,(o_ (g+1) 9 (mC (i++[(l7 d (nth j k)).card])))]
@[simp] abbrev d2a (a:Int) (b:Nat) (c:Nat) (d:l9E) (e:l9K) (f:Nat) (g:Nat) (h:Nat) (i:l9C) (j:l9K) (k:Nat):Heap:=[bM a b c,(o_ b 10 (mE d)),yX e f,(o_ f 2 (mK (l5 e))),I7,c8a e d g h,(o_ (g+1) 9 (mC (i++[(j5.mk (nth j k) 2 0 1 (p9.mk 0 0 0) true)])))]
@[simp] abbrev c6m (a:l9K) (b:Nat):Fr:=(mkF 61 [(0,(oO 0 0 0 0)),(6,(oO 4 0 0 0)),(9,(oO 5 0 0 0)),(36,(sA 2 (mK a))),(37,(iN a.length)),(38,(iN b))])
@[simp] abbrev c6l (a:Int) (b:Nat) (c:Nat) (d:l9E) (e:l9K) (f:Nat) (g:Nat) (h:Nat) (i:l9C):Heap:=[bM a b c,(o_ b 10 (mE d)),yX e f,(o_ f 2 (mK (l5 e))),I7,(o_ 0 13 [[(iI 2),(iI 5),z_,z_,z_,z_,(iN e.length),e_,e_,bF,(aM d),(AV.osl 6 g 9 0 h),(AV.sl .nil 0 [])]]),(o_ g 9 (mC i))]
@[simp] abbrev b5A :=(l9 Tryz.prog (X qV) (x9 Tryz.f110 0))
@[simp] abbrev a9c (a:l9K) (b:Nat):=[[(AV.str (nth a b).app),(AV.str (nth a b).id),(iI 2),z_,(iI 1),z_,z_,z_,bT]]
theorem a1y (most:Int) (l:l9E) (g:Nat) (n:Nat) (al:l9K) (ga:Nat) (ks:l9K) (out:l9C) (k:Nat) (gc:Nat) (i:Nat) (hn:n=l.length) (hl:l.length < 1000) (ha:al.length < 1000000) (hk:ks.length < 1000000) (hko:k=out.length) (hki:k<=i) (hle_:i<=ks.length) {eX:Ex} {FX:Fr} {HX:Heap} (k1:(decide ((i:Int) < (ks.length:Int)))=true->(A8 l (nth ks i))=true->j6 b5A (some [0,6,9,36,37,38]) (some [0,6,9,36,37,38]) (d2c ks i) (d2b most g n l al ga gc k out ks i) eX FX HX) (k2:(decide ((i:Int) < (ks.length:Int)))=true->(A8 l (nth ks i))=false->j6 b5A (some [0,6,9,36,37,38]) (some [0,6,9,36,37,38]) (d2c ks i) (d2a most g n l al ga gc k out ks i) eX FX HX) (k3:(decide ((i:Int) < (ks.length:Int)))=false->((.exit 0:Ex),(c6m ks i),(c6l most g n l al ga gc k out))=(eX,FX,HX)):j6 b5A (some [0,6,9,36,37,38]) (some [0,6,9,36,37,38]) (c6m ks i) (c6l most g n l al ga gc k out) eX FX HX :=
 I9 (.r (.g (.two (decide ((i:Int) < (ks.length:Int))) (fun h1 h1'=>(.r (.h' [(o_ 0 2 (qF most g n)),(o_ g 10 (mE l)),(o_ 0 2 (qB al ga)),(o_ ga 2 (mK (l5 al))),(o_ 0 13 [[z_,z_,z_,z_,z_,z_,z_,e_,e_,bF,(AV.int .u32 0),(AV.sl .nil 0 []),(AV.sl .nil 0 [])]]),(o_ 0 13 [[(iI 2),(iI 5),z_,z_,z_,z_,(iN al.length),e_,e_,bF,(aM l),(AV.osl 6 gc 9 0 k),(AV.sl .nil 0 [])]]),(o_ gc 9 (mC out)),(o_ 0 2 [[e_,e_]])] (.is 0 2 2 (mK ks) (i:Int) (Key.row (nth ks i)) (N7.mk _ ow ow) (.s (.s (.c 2 (get_at most l (nth ks i) g n oa oa [(o_ 0 2 (qB al ga)),(o_ ga 2 (mK (l5 al))),(o_ 0 13 [[z_,z_,z_,z_,z_,z_,z_,e_,e_,bF,(AV.int .u32 0),(AV.sl .nil 0 []),(AV.sl .nil 0 [])]]),(o_ 0 13 [[(iI 2),(iI 5),z_,z_,z_,z_,(iN al.length),e_,e_,bF,(aM l),(AV.osl 6 gc 9 0 k),(AV.sl .nil 0 [])]]),(o_ gc 9 (mC out)),(o_ 0 2 [(Key.row (nth ks i))]),(o_ 0 9 (a9c ks i)),(o_ 0 10 [[e_,e_,z_,z_,z_,z_,z_,z_,bF,z_]])]) (.s (.g (.two (A8 l (nth ks i)) (fun h2 h2'=>(.r (.s (.h' [(o_ 0 2 (qF most g n)),(o_ g 10 (mE l)),(o_ 0 2 (qB al ga)),(o_ ga 2 (mK (l5 al))),(o_ 0 13 [[z_,z_,z_,z_,z_,z_,z_,e_,e_,bF,(AV.int .u32 0),(AV.sl .nil 0 []),(AV.sl .nil 0 [])]]),(o_ 0 13 [[(iI 2),(iI 5),z_,z_,z_,z_,(iN al.length),e_,e_,bF,(aM l),(AV.osl 6 gc 9 0 k),(AV.sl .nil 0 [])]]),(o_ gc 9 (mC out)),(o_ 0 2 [(Key.row (nth ks i))]),(o_ 0 9 [(j5.row (l7 l (nth ks i)).card)]),(o_ 0 10 [(Entry.row (l7 l (nth ks i)))])] (.ap 4 30 (AV.osl 6 gc 9 0 k) (AV.sl .clip 9 [(j5.row (l7 l (nth ks i)).card)]) (vU gc k) [(o_ 0 2 (qF most g n)),(o_ g 10 (mE l)),(o_ 0 2 (qB al ga)),(o_ ga 2 (mK (l5 al))),(o_ 0 13 [[z_,z_,z_,z_,z_,z_,z_,e_,e_,bF,(AV.int .u32 0),(AV.sl .nil 0 []),(AV.sl .nil 0 [])]]),(o_ 0 13 [[(iI 2),(iI 5),z_,z_,z_,z_,(iN al.length),e_,e_,bF,(aM l),(AV.osl 6 gc 9 0 k),(AV.sl .nil 0 [])]]),(o_ (gc+1) 9 (mC (out++[(l7 l (nth ks i)).card]))),(o_ 0 2 [(Key.row (nth ks i))]),(o_ 0 9 [(j5.row (l7 l (nth ks i)).card)]),(o_ 0 10 [(Entry.row (l7 l (nth ks i)))])] (G7 (row:=j5.row) (l:=out) (x:=(l7 l (nth ks i)).card) (T:=tt) (e:=50) (te:=dB) (z:=1) (b:=24) (y:=[.sl .nil 0 []]) kr kr rfl E5 E5 kr Y5 rfl rfl jF) (.s (.h' [(o_ 0 2 (qF most g n)),(o_ g 10 (mE l)),(o_ 0 2 (qB al ga)),(o_ ga 2 (mK (l5 al))),(o_ 0 13 [[z_,z_,z_,z_,z_,z_,z_,e_,e_,bF,(AV.int .u32 0),(AV.sl .nil 0 []),(AV.sl .nil 0 [])]]),(o_ 0 13 [[(iI 2),(iI 5),z_,z_,z_,z_,(iN al.length),e_,e_,bF,(aM l),(vU gc k),(AV.sl .nil 0 [])]]),(o_ (gc+1) 9 (mC (out++[(l7 l (nth ks i)).card]))),(o_ 0 2 [(Key.row (nth ks i))]),(o_ 0 9 [(j5.row (l7 l (nth ks i)).card)]),(o_ 0 10 [(Entry.row (l7 l (nth ks i)))])] (.y 0 (.int .i64 (cb_ i)) (iN (i+1)) Yes.o (.h' (d2b most g n l al ga gc k out ks i) (.b 7 (.g (.l (k1 h1 h2))))))))))))) (fun h2 h2'=>(.r (.h' [(o_ 0 2 (qF most g n)),(o_ g 10 (mE l)),(o_ 0 2 (qB al ga)),(o_ ga 2 (mK (l5 al))),(o_ 0 13 [[z_,z_,z_,z_,z_,z_,z_,e_,e_,bF,(AV.int .u32 0),(AV.sl .nil 0 []),(AV.sl .nil 0 [])]]),(o_ 0 13 [[(iI 2),(iI 5),z_,z_,z_,z_,(iN al.length),e_,e_,bF,(aM l),(AV.osl 6 gc 9 0 k),(AV.sl .nil 0 [])]]),(o_ gc 9 (mC out)),(o_ 0 2 [(Key.row (nth ks i))]),(o_ 0 9 (a9c ks i)),(o_ 0 10 [(Entry.row (l7 l (nth ks i)))])] (.ap 4 30 (AV.osl 6 gc 9 0 k) (AV.sl .clip 9 (a9c ks i)) (vU gc k) [(o_ 0 2 (qF most g n)),(o_ g 10 (mE l)),(o_ 0 2 (qB al ga)),(o_ ga 2 (mK (l5 al))),(o_ 0 13 [[z_,z_,z_,z_,z_,z_,z_,e_,e_,bF,(AV.int .u32 0),(AV.sl .nil 0 []),(AV.sl .nil 0 [])]]),(o_ 0 13 [[(iI 2),(iI 5),z_,z_,z_,z_,(iN al.length),e_,e_,bF,(aM l),(AV.osl 6 gc 9 0 k),(AV.sl .nil 0 [])]]),(o_ (gc+1) 9 (mC (out++[(j5.mk (nth ks i) 2 0 1 (p9.mk 0 0 0) true)]))),(o_ 0 2 [(Key.row (nth ks i))]),(o_ 0 9 (a9c ks i)),(o_ 0 10 [(Entry.row (l7 l (nth ks i)))])] (G7 (row:=j5.row) (l:=out) (x:=(j5.mk (nth ks i) 2 0 1 (p9.mk 0 0 0) true)) (T:=tt) (e:=50) (te:=dB) (z:=1) (b:=24) (y:=[.sl .nil 0 []]) kr kr rfl E5 E5 kr Y5 rfl rfl jF) (.s (.h' [(o_ 0 2 (qF most g n)),(o_ g 10 (mE l)),(o_ 0 2 (qB al ga)),(o_ ga 2 (mK (l5 al))),(o_ 0 13 [[z_,z_,z_,z_,z_,z_,z_,e_,e_,bF,(AV.int .u32 0),(AV.sl .nil 0 []),(AV.sl .nil 0 [])]]),(o_ 0 13 [[(iI 2),(iI 5),z_,z_,z_,z_,(iN al.length),e_,e_,bF,(aM l),(vU gc k),(AV.sl .nil 0 [])]]),(o_ (gc+1) 9 (mC (out++[(j5.mk (nth ks i) 2 0 1 (p9.mk 0 0 0) true)]))),(o_ 0 2 [(Key.row (nth ks i))]),(o_ 0 9 (a9c ks i)),(o_ 0 10 [(Entry.row (l7 l (nth ks i)))])] (.y 0 (.int .i64 (cb_ i)) (iN (i+1)) Yes.o (.h' (d2a most g n l al ga gc k out ks i) (.b 7 (.g (.l (k2 h1 h2)))))))))))))))))))))) (fun h1 h1'=>(.l (k3 h1))))))
def nK (most:Int) (l:List Entry) (g:Nat) (n:Nat) (al:List Key) (ga:Nat) (ks:List Key) (i:Nat) (s:(List j5) × Nat × Nat):(List j5) × Nat × Nat:=(if (A8 l (nth ks i))=true then (s.1++[(l7 l (nth ks i)).card],(s.2.1+1),(s.2.2+1)) else (s.1++[(j5.mk (nth ks i) 2 0 1 (p9.mk 0 0 0) true)],(s.2.1+1),(s.2.2+1)))
theorem b0T (most:Int) (l:l9E) (g:Nat) (n:Nat) (al:l9K) (ga:Nat) (ks:l9K) (hn:n=l.length) (hl:l.length < 1000) (ha:al.length < 1000000) (hk:ks.length < 1000000)  (r_:Nat):∀ (out:l9C) (k:Nat) (gc:Nat) (i:Nat) (sF:(l9C) × Nat × Nat),i+r_=ks.length->k=out.length->k<=i->sF=iter (nK most l g n al ga ks) r_ i (out,k,gc) ->
 j6 (l9 Tryz.prog (X qV) (x9 Tryz.f110 0)) (some [0,6,9,36,37,38]) (some [0,6,9,36,37,38]) (c6m ks i) (c6l most g n l al ga gc k out) (.exit 0) (mkF 61 [(0,(oO 0 0 0 0)),(6,(oO 4 0 0 0)),(9,(oO 5 0 0 0)),(36,(sA 2 (mK ks))),(37,(iN ks.length)),(38,(iN ks.length))]) [(o_ 0 2 [[(iI most),(AV.osl 1 g 10 0 n)]]),(o_ g 10 (mE l)),(o_ 0 2 [[(iN ((List.length al))),(AV.osl 3 ga 2 0 (List.length (l5 al)))]]),(o_ ga 2 (mK (l5 al))),(o_ 0 13 [[z_,z_,z_,z_,z_,z_,z_,e_,e_,bF,(AV.int .u32 0),(AV.sl .nil 0 []),(AV.sl .nil 0 [])]]),(o_ 0 13 [[(iI 2),(iI 5),z_,z_,z_,z_,(iN al.length),e_,e_,bF,(AV.int .u32 (ofB (List.map Entry.card l))),(AV.osl 6 sF.2.2 9 0 sF.2.1),(AV.sl .nil 0 [])]]),(o_ sF.2.2 9 (mC sF.1))]:=by
 induction r_ with
 | zero =>
  intro out k gc i sF hi_ hko hki  hF
  obtain rfl:ks.length=i:=by omega
  have e_:sF=(out,k,gc):=hF
  refine a1y most l g n al ga ks out k gc ks.length hn hl ha hk hko hki (Nat.le_refl _) (fun h _=>by simp at h <;> omega) (fun h _=>by simp at h <;> omega) (fun _=>?_)
  first | done | rfl | (rw [e_]; done) | (rw [e_]; rfl)
 | succ r_ ih =>
  intro out k gc i sF hi_ hko hki  hF
  refine a1y most l g n al ga ks out k gc i hn hl ha hk hko hki ow (fun h1 h2=>?_) (fun h1 h2=>?_) (fun h=>by simp at h <;> omega)
  · exact ih (out++[(l7 l (nth ks i)).card]) (k+1) (gc+1) (i+1) sF ow U2 U2  (by rw [hF] <;> simp only [iter,nK,h2,if_true,Bool.false_eq_true,if_false])
  · exact ih (out++[(j5.mk (nth ks i) 2 0 1 (p9.mk 0 0 0) true)]) (k+1) (gc+1) (i+1) sF ow U2 U2  (by rw [hF] <;> simp only [iter,nK,h2,if_true,Bool.false_eq_true,if_false])
theorem b0U (most:Int) (l:l9E) (g n:Nat) (al:l9K) (ga:Nat) (ks:l9K):(ks.map (atC l),(ks.map (atC l)).length,(ks.map (atC l)).length)=iter (nK most l g n al ga ks) ks.length 0 ([],0,0):=by
 rw [dX (nK most l g n al ga ks) (fun s k=>(s.1++[atC l k],s.2.1+1,s.2.2+1)) ks (fun i s hi=>?_)]
 · rw [b9W (atC l) ks]; simp
 · with_unfolding_all simp only [nK,atC,c7a]
   by_cases h1:A8 l (nth ks i)=true <;> simp [h1]
@[simp] abbrev d1Z (a:Int) (b:Nat) (c:Nat) (d:l9E) (e:l9K) (f:Nat):Heap:=[bM a b c,(o_ b 10 (mE d)),yX e f,(o_ f 2 (mK (l5 e))),I7,(o_ 0 13 [[(iI 2),(iI 5),z_,z_,z_,z_,(iN e.length),e_,e_,bF,(aM d),(AV.osl 6 0 9 0 0),(AV.sl .nil 0 [])]]),(o_ 0 9 (mC []))]
@[simp] abbrev c8c (a:l9K) (b:Int):Fr:=(mkF 61 [(0,(oO 0 0 0 0)),(6,(oO 4 0 0 0)),(9,(oO 5 0 0 0)),(36,(sA 2 (mK (K5 a b)))),(37,(iN ((K5 a b).length))),(38,(iN ((K5 a b).length)))])
@[simp] abbrev c8b (a:Int) (b:Nat) (c:Nat) (d:l9E) (e:l9K) (f:Nat) (g:Int):Heap:=[bM a b c,(o_ b 10 (mE d)),yX e f,(o_ f 2 (mK (l5 e))),I7,(o_ 0 13 [[(iI 2),(iI 5),z_,z_,z_,z_,(iN e.length),e_,e_,bF,(aM d),(AV.osl 6 (List.map (atC d) (K5 e g)).length 9 0 (List.map (atC d) (K5 e g)).length),(AV.sl .nil 0 [])]]),(o_ ((List.map (atC d) (K5 e g)).length) 9 (mC (List.map (atC d) (K5 e g))))]
theorem a8G (most:Int) (l:l9E) (g n:Nat) (al:l9K) (ga:Nat) (since:Int) (hn:n=l.length) (hl:l.length < 1000) (ha:al.length < 1000000) (hok:okS al since=true):AC 110 [(oO 0 0 0 0),(oO 2 0 0 0),(iI since)] (mG most g n l al ga) ((AV.agg [(iI 2),(iI 5),z_,z_,z_,z_,(iN al.length),e_,e_,bF,(aM l),(sA 9 (mC (List.map (atC l) (K5 al since)))),(AV.sl .nil 0 [])]),(mG most g n l al ga)):=by
 have hm:(List.map Entry.card l).length=l.length:=List.length_map _
 have hs:=a2H al since
 have hd:(List.map (atC l) (K5 al since)).length=(K5 al since).length:=List.length_map _
 exact r9 (fn:=Tryz.f110) (ann:=qV) (Has.o Tryz.func110) (.r (.s (.n2 (.rn (.c 2 (l6.put2 [2,3] (yY most g n l al ga) (AV.tup [(sA 2 (mK (K5 al since))),(bB (okS al since))]) (yY most g n l al ga) (a2G al ga since oa) (rlD) (rlD)) (.s (.h' (yY most g n l al ga) (.y 1 (bB (!(okS al since))) bF (Yes.b (by rw [hok]; rfl)) (.rn (.c 2 (a6f most l g n al ga oa oa oa a4W) (.o (rfl:0=0) (.s (.h' (d1Z most g n l al ga) (.y 1 (.int .i64 ((List.length (mK (K5 al since)):Nat):Int)) (iN ((K5 al since).length)) (Yes.len _ _ _) (.g (.loop (c8c al since) (show j6 b5A (some [0,6,9,36,37,38]) (some [0,6,9,36,37,38]) (mkF 61 [(0,(oO 0 0 0 0)),(6,(oO 4 0 0 0)),(9,(oO 5 0 0 0)),(36,(sA 2 (mK (K5 al since)))),(37,(iN ((K5 al since).length))),(38,z_)]) (d1Z most g n l al ga) (.exit 0) (c8c al since) (c8b most g n l al ga since) from (b0T most l g n al ga (K5 al since) ow ow ow ow (List.length (K5 al since)) [] 0 0 0 (List.map (atC l) (K5 al since),(List.map (atC l) (K5 al since)).length,(List.map (atC l) (K5 al since)).length) ow rfl ow (b0U _ _ _ _ _ _ _))) (.r (.w 9 (mC (List.map (atC l) (K5 al since))) (And.intro rfl (And.intro (G8 (room:=none) kr om) (j5.y8 _ _)):0=0/\G6 (c8b most g n l al ga since) 9 (AV.osl 6 (List.map (atC l) (K5 al since)).length 9 0 (List.map (atC l) (K5 al since)).length)=some (mC (List.map (atC l) (K5 al since)))/\AV.D7 0 (mC (List.map (atC l) (K5 al since)))=true) (.g (.h' (mG most g n l al ga) (.q 4 (AV.agg [(iI 2),(iI 5),z_,z_,z_,z_,(iN al.length),e_,e_,bF,(aM l),(sA 9 (mC (List.map (atC l) (K5 al since)))),(AV.sl .nil 0 [])]))))))))))))))))))))))
theorem a8H (most:Int) (l:l9E) (g n:Nat) (al:l9K) (ga:Nat) (since:Int) (hn:n=l.length) (hl:l.length < 1000) (ha:al.length < 1000000) (hok:okS al since=false):AC 110 [(oO 0 0 0 0),(oO 2 0 0 0),(iI since)] (mG most g n l al ga) ((AV.agg [(iI 2),(iI 5),z_,z_,z_,z_,(iN al.length),e_,e_,bT,(aM l),(a2j l),(AV.sl .nil 0 [])]),(mG most g n l al ga)):=by
 have hm:(List.map Entry.card l).length=l.length:=List.length_map _
 have hs:=a2H al since
 have hd:(List.map (atC l) (K5 al since)).length=(K5 al since).length:=List.length_map _
 exact r9 (fn:=Tryz.f110) (ann:=qV) (Has.o Tryz.func110) (.r (.s (.n2 (.rn (.c 2 (l6.put2 [2,3] (yY most g n l al ga) (AV.tup [(sA 2 (mK (K5 al since))),(bB (okS al since))]) (yY most g n l al ga) (a2G al ga since oa) (rlD) (rlD)) (.s (.h' (yY most g n l al ga) (.y 1 (bB (!(okS al since))) bT (Yes.b (by rw [hok]; rfl)) (.ru (.c 2 (c0e most l g n al ga oa oa oa [(o_ 0 13 [[z_,z_,z_,z_,z_,z_,z_,e_,e_,bF,(AV.int .u32 0),(AV.sl .nil 0 []),(AV.sl .nil 0 [])]])]) (.g (.h' (mG most g n l al ga) (.q 4 (AV.agg [(iI 2),(iI 5),z_,z_,z_,z_,(iN al.length),e_,e_,bT,(aM l),(a2j l),(AV.sl .nil 0 [])]))))))))))))))
theorem b0S (most:Int) (l:l9E) (g n:Nat) (al:l9K) (ga:Nat) (since:Int) (hn:n=l.length) (hl:l.length < 1000) (ha:al.length < 1000000):AC 110 [(oO 0 0 0 0),(oO 2 0 0 0),(iI since)] [(o_ 0 2 [[(iI most),(AV.osl 1 g 10 0 n)]]),(o_ g 10 (mE l)),(o_ 0 2 [[(iN ((List.length al))),(AV.osl 3 ga 2 0 (List.length (l5 al)))]]),(o_ ga 2 (mK (l5 al)))] ((AV.agg [(iI 2),(iI 5),z_,z_,z_,z_,(iN al.length),e_,e_,(bB (!(okS al since))),(AV.int .u32 (ofB (List.map Entry.card l))),(sA 9 (mC (kP l al since))),(AV.sl .nil 0 [])]),[(o_ 0 2 [[(iI most),(AV.osl 1 g 10 0 n)]]),(o_ g 10 (mE l)),(o_ 0 2 [[(iN ((List.length al))),(AV.osl 3 ga 2 0 (List.length (l5 al)))]]),(o_ ga 2 (mK (l5 al)))]):=by
 cases h:okS al since with
 | true=>have h1:=a8G most l g n al ga since hn hl ha h; unfold kP; rw [if_pos h]; exact h1
 | false=>have h1:=a8H most l g n al ga since hn hl ha h; unfold kP; rw [if_neg (by rw [h]; simp)]; exact h1
def c4R (l:List Entry) (al:List Key) (seq tag:Int):Msg:=⟨2,5,0,0,tag,0,(al.length:Int),⟨⟨#[]⟩,⟨#[]⟩⟩,!(okS al seq),ofB (List.map Entry.card l),kP l al seq,[]⟩
def c4M (l:List Entry) (al:List Key) (tag:Int):Msg:=⟨2,5,0,0,tag,0,(al.length:Int),⟨⟨#[]⟩,⟨#[]⟩⟩,true,ofB (List.map Entry.card l),U6 (List.map Entry.card l),[]⟩
def jL (l:List Entry) (al:List Key) (seq tag:Int):Msg:=if seq = -1 then c4M l al tag else c4R l al seq tag
def b0Q:Ann:={ refs:=[3],gha:=[(5,.frzf 4 11 9),(5,.frzf 4 12 2)],base:=6,fin:=some 6 }
@[simp] abbrev a6Q (a:Nat) (b:l9E) (c:Int) (d:Int) (e:Int) (f:l9K) (g:Nat) (h:Int) (i:p9):Heap:=[Q9 a b,(o_ a 10 (mE b)),J3 c d e,M4 f g,(o_ g 2 (mK (l5 f))),P7 h i,I7,I7]
@[simp] abbrev a6P (a:Nat) (b:l9E) (c:Int) (d:Int) (e:Int) (f:l9K) (g:Nat) (h:Int) (i:p9):Heap:=[Q9 a b,(o_ a 10 (mE b)),J3 c d e,M4 f g,(o_ g 2 (mK (l5 f))),P7 h i,I7,(o_ 0 13 [[(iI 2),(iI 5),z_,z_,z_,z_,(iN f.length),e_,e_,bT,(aM b),(a2j b),(AV.sl .nil 0 [])]])]
theorem a8E (l:l9E) (g:Nat) (al:l9K) (ga:Nat) (gf gl gt nd:Int) (st:p9) (q:Msg) (hl:l.length < 1000) (ha:al.length < 100000) (hs:¬ q.seq = -1):AC 63 [(oO 5 0 0 0),(AV.agg (Msg.row q))] (J7 g l gf gl gt al ga nd st) ((AV.agg (Msg.row (c4R l al q.seq q.tag))),(J7 g l gf gl gt al ga nd st)) :=
 r9 (fn:=Tryz.f63) (ann:=b0Q) (Has.o Tryz.func63) (.r (.s (.c 8 (l6.put2 [0,1,3,4] (a6Q g l gf gl gt al ga nd st) (AV.agg [(iI 2),(iI 5),z_,z_,z_,z_,(iN al.length),e_,e_,bT,(aM l),(a2j l),(AV.sl .nil 0 [])]) (a6Q g l gf gl gt al ga nd st) (vN (q9 32) l g (List.length l) al ga oa oa oa) (rlE) (rlE)) (.s (.h' (a6P g l gf gl gt al ga nd st) (.y 2 (bB (q.seq != (-1))) bT (Yes.b (by simpa using hs)) (.ru (.c 10 (l6.put2 [0,1,3,4] (a6P g l gf gl gt al ga nd st) (AV.agg [(iI 2),(iI 5),z_,z_,z_,z_,(iN al.length),e_,e_,(bB (!(okS al q.seq))),(aM l),(sA 9 (mC (kP l al q.seq))),(AV.sl .nil 0 [])]) (a6P g l gf gl gt al ga nd st) (b0S (q9 32) l g (List.length l) al ga q.seq oa oa oa) (rlE) (rlE)) (.s (.s (.o (rfl:0=0) (.o (rfl:0=0) (.g (.h' (J7 g l gf gl gt al ga nd st) (.q 6 (AV.agg [(iI 2),(iI 5),z_,z_,(iI q.tag),z_,(iN al.length),e_,e_,(bB (!(okS al q.seq))),(aM l),(sA 9 (mC (kP l al q.seq))),(sA 2 (mK []))]))))))))))))))))
def b0R:Ann:={ refs:=[3],gha:=[(5,.frzf 4 11 9),(5,.frzf 4 12 2)],base:=6,fin:=some 6 }
theorem a4d {p:Prop} (h:p:=by rw [hs]; rfl):p:=h
theorem a8F (l:l9E) (g:Nat) (al:l9K) (ga:Nat) (gf gl gt nd:Int) (st:p9) (q:Msg) (hl:l.length < 1000) (ha:al.length < 100000) (hs:q.seq = -1):AC 63 [(oO 5 0 0 0),(AV.agg (Msg.row q))] (J7 g l gf gl gt al ga nd st) ((AV.agg (Msg.row (c4M l al q.tag))),(J7 g l gf gl gt al ga nd st)) :=
 r9 (fn:=Tryz.f63) (ann:=b0R) (Has.o Tryz.func63) (.r (.s (.c 8 (l6.put2 [0,1,3,4] (a6Q g l gf gl gt al ga nd st) (AV.agg [(iI 2),(iI 5),z_,z_,z_,z_,(iN al.length),e_,e_,bT,(aM l),(a2j l),(AV.sl .nil 0 [])]) (a6Q g l gf gl gt al ga nd st) (vN (q9 32) l g (List.length l) al ga oa oa oa) (rlE) (rlE)) (.s (.h' (a6P g l gf gl gt al ga nd st) (.y 2 (bB (q.seq != (-1))) bF (Yes.b a4d) (.rn (.s (.o (rfl:0=0) (.o (rfl:0=0) (.g (.h' (J7 g l gf gl gt al ga nd st) (.q 6 (AV.agg [(iI 2),(iI 5),z_,z_,(iI q.tag),z_,(iN al.length),e_,e_,bT,(aM l),(a2j l),(sA 2 (mK []))]))))))))))))))
theorem b0P (l:l9E) (g:Nat) (al:l9K) (ga:Nat) (gf gl gt nd:Int) (st:p9) (q:Msg) (hl:l.length < 1000) (ha:al.length < 100000):AC 63 [(oO 5 0 0 0),(AV.agg (Msg.row q))] [(o_ 0 2 [[(iI (q9 32)),(AV.osl 1 g 10 0 (List.length l))]]),(o_ g 10 (mE l)),(o_ 0 3 [[(iI gf),(iI gl),(iI gt)]]),(o_ 0 2 [[(iN ((List.length al))),(AV.osl 4 ga 2 0 (List.length (l5 al)))]]),(o_ ga 2 (mK (l5 al))),(o_ 0 7 [[(iI nd),(iI st.t),(iI st.node),(iI st.n),(oO 0 0 0 0),(oO 2 0 0 0),(oO 3 0 0 0)]])] ((AV.agg (Msg.row (jL l al q.seq q.tag))),[(o_ 0 2 [[(iI (q9 32)),(AV.osl 1 g 10 0 (List.length l))]]),(o_ g 10 (mE l)),(o_ 0 3 [[(iI gf),(iI gl),(iI gt)]]),(o_ 0 2 [[(iN ((List.length al))),(AV.osl 4 ga 2 0 (List.length (l5 al)))]]),(o_ ga 2 (mK (l5 al))),(o_ 0 7 [[(iI nd),(iI st.t),(iI st.node),(iI st.n),(oO 0 0 0 0),(oO 2 0 0 0),(oO 3 0 0 0)]])]):=by
 by_cases hs:q.seq = -1
 · have e:jL l al q.seq q.tag=c4M l al q.tag:=if_pos hs
   rw [e]; exact a8F l g al ga gf gl gt nd st q hl ha hs
 · have e:jL l al q.seq q.tag=c4R l al q.seq q.tag:=if_neg hs
   rw [e]; exact a8E l g al ga gf gl gt nd st q hl ha hs
theorem c0y (l:l9E) (g:Nat) (al:l9K) (ga:Nat) (gf gl gt nd:Int) (st:p9) (q:Msg) (hl:l.length < 1000) (ha:al.length < 100000) (H:Heap):AC 63 [(oO 5 0 0 0),(AV.agg (Msg.row q))] ((J7 g l gf gl gt al ga nd st)++H) ((AV.agg (Msg.row (jL l al q.seq q.tag))),(J7 g l gf gl gt al ga nd st)++H):=(b0P l g al ga gf gl gt nd st q hl ha).ext kr kr ob ob kr H
attribute [local irreducible] jL jM d9
def c9P:Ann:={ refs:=[4],gha:=[(7,.any 7 9)],base:=6,fin:=some 6 }
theorem c4G (l:l9E) (g:Nat) (al:l9K) (ga:Nat) (gf gl gt nd:Int) (st:p9) (q:Msg) (now:Int) (hl:l.length < 1000) (ha:al.length < 100000) (hk:q.kind=1) (hr:R4 q=true) (ho:q.op=5):AC 31 [(oO 5 0 0 0),(AV.agg (Msg.row q)),(iI now)] (J7 g l gf gl gt al ga nd st) ((AV.tup [(AV.agg (Msg.row (jL l al q.seq q.tag))),(sA 9 (mC ([]:l9C)))]),(J7 g l gf gl gt al ga nd st)) :=
 r9 (fn:=Tryz.f31) (ann:=c9P) (Has.o Tryz.func31) (.r (.s (.c 1 ((dO now).lift kr kr [(o_ 0 2 (a0y g l)),(o_ g 10 (mE l)),(o_ 0 3 (gT gf gl gt)),(o_ 0 2 (jO al ga)),(o_ ga 2 (mK (l5 al))),(o_ 0 7 (sZ nd st)),(o_ 0 13 [[z_,z_,z_,z_,z_,z_,z_,e_,e_,bF,(AV.int .u32 0),(AV.sl .nil 0 []),(AV.sl .nil 0 [])]])]) (.s (.s (.h' (a2s g l gf gl gt al ga nd st q) (.y 2 (bB (q.kind != 1)) bF (Yes.b bC) (.n2 (.c 5 ((bX q oa).lift kr kr (a2s g l gf gl gt al ga nd st q)) (.n (.rn (.y 2 (bB (q.op == 5)) bT (Yes.b Z5) (.ru (.c 2 (c0y l g al ga gf gl gt nd st q oa oa [(o_ 0 13 [[z_,z_,z_,z_,z_,z_,z_,e_,e_,bF,(AV.int .u32 0),(AV.sl .nil 0 []),(AV.sl .nil 0 [])]]),(o_ 0 13 (b5D q))]) (.g (.h' (J7 g l gf gl gt al ga nd st) (.q 6 (AV.tup [(AV.agg (Msg.row (jL l al q.seq q.tag))),(sA 9 [])]))))))))))))))))))
structure DS where
 l:List Entry
 g:Nat
 al:List Key
 ga:Nat
 gf:Int
 gl:Int
 gt:Int
 st:p9
def DS.turn (s:DS) (nd:Int) (q:Msg) (now:Int):DS :=
 ⟨(tuR s.l s.g s.al s.ga s.gt nd s.st q now).l,(tuR s.l s.g s.al s.ga s.gt nd s.st q now).g,(tuR s.l s.g s.al s.ga s.gt nd s.st q now).al,(tuR s.l s.g s.al s.ga s.gt nd s.st q now).ga,s.gf,s.gl,(tuR s.l s.g s.al s.ga s.gt nd s.st q now).gt,(tuR s.l s.g s.al s.ga s.gt nd s.st q now).st⟩
structure HdR where
 m:Msg
 c:List j5
 s:DS
def hdD (nd:Int) (s:DS) (q:Msg) (now:Int):HdR :=
 if q.kind=1/\R4 q=true then
  if q.op=5 then ⟨jL s.l s.al q.seq q.tag,[],s⟩
  else ⟨hdM q (tuR s.l s.g s.al s.ga s.gt nd s.st q (d9 now)).code,(tuR s.l s.g s.al s.ga s.gt nd s.st q (d9 now)).c,s.turn nd q (d9 now)⟩
 else ⟨hdM q 1,[],s⟩
theorem c9y {q:Msg} (h:R4 q=true) (hk:q.kind=1) (h5:¬ q.op=5):1<=q.op/\q.op < 5/\0<=q.status/\q.status<=255:=by
 obtain ⟨a1,a2,a3,a4,a5,a6⟩:=a1S h
 with_unfolding_all
  unfold opM at a3
  unfold I6 at a5
  rw [if_pos (.inl hk),if_neg h5] at a3
  simp only [Bool.and_eq_true,decide_eq_true_eq] at a3 a5
  exact ⟨a3.1,a3.2.1,a5.1,a5.2⟩
theorem c9N (l:l9E) (g:Nat) (al:l9K) (ga:Nat) (gf gl gt nd:Int) (st:p9) (q:Msg) (now:Int) (hl:l.length < 1000) (ha:al.length < 100000) (hgt:0<=gt/\gt < 4611686018427387904):AC 31 [(oO 5 0 0 0),(AV.agg (Msg.row q)),(iI now)] [(o_ 0 2 [[(iI (q9 32)),(AV.osl 1 g 10 0 (List.length l))]]),(o_ g 10 (mE l)),(o_ 0 3 [[(iI gf),(iI gl),(iI gt)]]),(o_ 0 2 [[(iN ((List.length al))),(AV.osl 4 ga 2 0 (List.length (l5 al)))]]),(o_ ga 2 (mK (l5 al))),(o_ 0 7 [[(iI nd),(iI st.t),(iI st.node),(iI st.n),(oO 0 0 0 0),(oO 2 0 0 0),(oO 3 0 0 0)]])] ((AV.tup [(AV.agg (Msg.row (hdD nd (DS.mk l g al ga gf gl gt st) q now).m)),(sA 9 (mC (hdD nd (DS.mk l g al ga gf gl gt st) q now).c))]),[(o_ 0 2 [[(iI (q9 32)),(AV.osl 1 (hdD nd (DS.mk l g al ga gf gl gt st) q now).s.g 10 0 (List.length (hdD nd (DS.mk l g al ga gf gl gt st) q now).s.l))]]),(o_ ((hdD nd (DS.mk l g al ga gf gl gt st) q now).s.g) 10 (mE (hdD nd (DS.mk l g al ga gf gl gt st) q now).s.l)),(o_ 0 3 [[(iI (hdD nd (DS.mk l g al ga gf gl gt st) q now).s.gf),(iI (hdD nd (DS.mk l g al ga gf gl gt st) q now).s.gl),(iI (hdD nd (DS.mk l g al ga gf gl gt st) q now).s.gt)]]),(o_ 0 2 [[(iN ((List.length (hdD nd (DS.mk l g al ga gf gl gt st) q now).s.al))),(AV.osl 4 (hdD nd (DS.mk l g al ga gf gl gt st) q now).s.ga 2 0 (List.length (l5 (hdD nd (DS.mk l g al ga gf gl gt st) q now).s.al)))]]),(o_ ((hdD nd (DS.mk l g al ga gf gl gt st) q now).s.ga) 2 (mK (l5 (hdD nd (DS.mk l g al ga gf gl gt st) q now).s.al))),(o_ 0 7 [[(iI nd),(iI (hdD nd (DS.mk l g al ga gf gl gt st) q now).s.st.t),(iI (hdD nd (DS.mk l g al ga gf gl gt st) q now).s.st.node),(iI (hdD nd (DS.mk l g al ga gf gl gt st) q now).s.st.n),(oO 0 0 0 0),(oO 2 0 0 0),(oO 3 0 0 0)]])]):=by
 by_cases hk:q.kind=1
 · cases hr:R4 q with
   | false =>
    have e:hdD nd (DS.mk l g al ga gf gl gt st) q now=⟨hdM q 1,[],(DS.mk l g al ga gf gl gt st)⟩:=if_neg (by rw [hr]; simp)
    rw [e]; exact c4H l g al ga gf gl gt nd st q now hk hr
   | true =>
    by_cases ho:q.op=5
    · have e:hdD nd (DS.mk l g al ga gf gl gt st) q now=⟨jL l al q.seq q.tag,[],(DS.mk l g al ga gf gl gt st)⟩:=by unfold hdD; rw [if_pos ⟨hk,hr⟩,if_pos ho]
      rw [e]; exact c4G l g al ga gf gl gt nd st q now hl ha hk hr ho
    · have e:hdD nd (DS.mk l g al ga gf gl gt st) q now=⟨hdM q (tuR l g al ga gt nd st q (d9 now)).code,(tuR l g al ga gt nd st q (d9 now)).c,(DS.mk l g al ga gf gl gt st).turn nd q (d9 now)⟩:=by unfold hdD; rw [if_pos ⟨hk,hr⟩,if_neg ho]
      obtain ⟨o1,o2,o3,_⟩:=c9y hr hk ho
      rw [e]; exact c4I l g al ga gf gl gt nd st q now hl ha hgt o1 o2 o3 hk hr
 · have e:hdD nd (DS.mk l g al ga gf gl gt st) q now=⟨hdM q 1,[],(DS.mk l g al ga gf gl gt st)⟩:=if_neg (fun z=>hk z.1)
   rw [e]; exact c4F l g al ga gf gl gt nd st q now hk
theorem d3x (l:l9E) (g:Nat) (al:l9K) (ga:Nat) (gf gl gt nd:Int) (st:p9) (q:Msg) (now:Int) (hl:l.length < 1000) (ha:al.length < 100000) (hgt:0<=gt/\gt < 4611686018427387904) (H:Heap):AC 31 [(oO 5 0 0 0),(AV.agg (Msg.row q)),(iI now)] ((J7 g l gf gl gt al ga nd st)++H) ((AV.tup [(AV.agg (Msg.row (hdD nd (DS.mk l g al ga gf gl gt st) q now).m)),(sA 9 (mC (hdD nd (DS.mk l g al ga gf gl gt st) q now).c))]),([(o_ 0 2 [[(iI (q9 32)),(AV.osl 1 (hdD nd (DS.mk l g al ga gf gl gt st) q now).s.g 10 0 (List.length (hdD nd (DS.mk l g al ga gf gl gt st) q now).s.l))]]),(o_ ((hdD nd (DS.mk l g al ga gf gl gt st) q now).s.g) 10 (mE (hdD nd (DS.mk l g al ga gf gl gt st) q now).s.l)),(o_ 0 3 [[(iI (hdD nd (DS.mk l g al ga gf gl gt st) q now).s.gf),(iI (hdD nd (DS.mk l g al ga gf gl gt st) q now).s.gl),(iI (hdD nd (DS.mk l g al ga gf gl gt st) q now).s.gt)]]),(o_ 0 2 [[(iN ((List.length (hdD nd (DS.mk l g al ga gf gl gt st) q now).s.al))),(AV.osl 4 (hdD nd (DS.mk l g al ga gf gl gt st) q now).s.ga 2 0 (List.length (l5 (hdD nd (DS.mk l g al ga gf gl gt st) q now).s.al)))]]),(o_ ((hdD nd (DS.mk l g al ga gf gl gt st) q now).s.ga) 2 (mK (l5 (hdD nd (DS.mk l g al ga gf gl gt st) q now).s.al))),(o_ 0 7 [[(iI nd),(iI (hdD nd (DS.mk l g al ga gf gl gt st) q now).s.st.t),(iI (hdD nd (DS.mk l g al ga gf gl gt st) q now).s.st.node),(iI (hdD nd (DS.mk l g al ga gf gl gt st) q now).s.st.n),(oO 0 0 0 0),(oO 2 0 0 0),(oO 3 0 0 0)]])]:Heap)++H):=(c9N l g al ga gf gl gt nd st q now hl ha hgt).ext kr kr ob ob kr H
attribute [local irreducible] Tp.H7 Tp.J8 Tp.ask Tp.card Tp.cards Tp.key Tp.keyT Tp.next Tp.step
structure zG where
 kind:Int
 m:Msg
 more:Int
 late:Int
 c:j5
 deriving Inhabited
def zG.row (x:zG):List AV:=[(iI x.kind),(iI x.m.kind),(iI x.m.op),(iI x.m.status),(iI x.m.code),(iI x.m.tag),(iI x.m.n),(iI x.m.seq),(AV.str x.m.key.app),(AV.str x.m.key.id),(bB x.m.full),(AV.int .u32 x.m.sum),(sA 9 (mC x.m.cards)),(sA 2 (mK x.m.keys)),(iI x.more),(iI x.late),(AV.str x.c.key.app),(AV.str x.c.key.id),(iI x.c.status),(iI x.c.over),(iI x.c.lease),(iI x.c.stamp.t),(iI x.c.stamp.node),(iI x.c.stamp.n),(bB x.c.gone)]
@[simp] theorem zG.R7 (n:Nat) (x:zG):AV.bdds n x.row=true:=by simp [zG.row,AV.bdds,AV.bdd]
@[simp] theorem zG.y8 (n:Nat) (l:List zG):AV.D7 n (l.map zG.row)=true:=by induction l with | nil=>rfl | cons x l ih=>simp [AV.D7,zG.R7,ih]
theorem Tp.c7d (t:Tp):t.ask.2.l=t.l:=by
 with_unfolding_all
  unfold Tp.ask
  simp only []
  split <;> simp only [Tp.Z6,Tp.kJ]
end Go.Proofs.YtmghjcbabebanaaGreat.AM
namespace Go.Proofs.YtmghjcbabebanaaGreat.AM
open Go
def kE (e:Entry):Key:=e.card.key
abbrev d2L (l:List Key):Prop:=List.Pairwise (fun a b:Key=>D8 a b=true) l
abbrev aR (l:List Entry):Prop:=d2L (l.map kE)
theorem a1G {l:l9E} (h:aR l) {i j:Nat} (hij:i < j) (hj:j < l.length):D8 (nth l i).card.key (nth l j).card.key=true:=by
 have h1:List.Pairwise (fun a b:Entry=>D8 a.card.key b.card.key=true) l:=List.pairwise_map.1 h
 exact a2X.1 h1 i j hij hj
theorem a5Q {l:l9E} (hs:aR l) {i:Nat} (hi:i < l.length):E9 l (nth l i).card.key=i :=
 c0d (Nat.le_of_lt hi) (fun j hj=>a1G hs hj hi) fun _=>a6e _
theorem yF {l:l9E} (hs:aR l) {e:Entry} (he:e∈l):A8 l e.card.key=true/\l7 l e.card.key=e:=by
 obtain ⟨i,hi,rfl⟩:=aW he
 have h1:=a5Q hs hi
 have h2:A8 l (nth l i).card.key=true:=by
  unfold A8; rw [h1]; simp [hi,Key.a8x]
 exact ⟨h2,by unfold l7; rw [if_pos h2,h1]⟩
theorem bY {l:l9E} {k:Key} (h:A8 l k=true):l7 l k∈l/\(l7 l k).card.key=k:=by
 have h1:=jK h
 unfold l7; rw [if_pos h]
 refine ⟨mZ h1,?_⟩
 unfold A8 at h; rw [Bool.and_eq_true] at h
 exact (Key.c9U _ _).1 h.2
theorem a8v {l:l9E} (hs:aR l) (k:Key):A8 l k=true↔∃ e∈l,e.card.key=k :=
 ⟨fun h=>⟨_,(bY h).1,(bY h).2⟩,fun ⟨e,he,hk⟩=>hk ▸ (yF hs he).1⟩
theorem c2U {l:l9E} {e:Entry} (h:A8 l e.card.key=true):(l.set (E9 l e.card.key) e).map kE=l.map kE:=by
 have h1:=jK h
 have h2:=(bY h).2
 unfold l7 at h2; rw [if_pos h] at h2
 rw [List.map_set]
 refine List.ext_getElem ye_ fun i hi hi2=>?_
 rw [List.getElem_set]
 split
 · rename_i e1; subst e1
   rw [List.getElem_map,<- V9 h1]; exact h2.symm
 · rfl
theorem mV {most:Int} {l:l9E} (hs:aR l) (e:Entry):aR (F6 most l e):=by
 unfold F6
 split
 · rename_i h
   show d2L ((l.set (E9 l e.card.key) e).map kE)
   rw [c2U h]; exact hs
 · rename_i h
   split
   · exact hs
   · have hp:=X6 l e.card.key
     have hs':List.Pairwise (fun a b:Entry=>D8 a.card.key b.card.key=true) l:=List.pairwise_map.1 hs
     refine List.pairwise_map.2 (List.pairwise_append.2 ⟨hs'.sublist (List.take_sublist _ _),List.pairwise_cons.2 ⟨fun x hx=>?_,hs'.sublist (List.drop_sublist _ _)⟩,fun a ha b hb=>?_⟩)
     · obtain ⟨j,hj,rfl⟩:=aW hx
       rw [List.length_drop] at hj
       rw [nA]
       have h0:E9 l e.card.key < l.length:=by omega
       have h1:=a2e h0
       have h2:D8 e.card.key (nth l (E9 l e.card.key)).card.key=true:=by
        cases hb:D8 e.card.key (nth l (E9 l e.card.key)).card.key with
        | true=>rfl
        | false =>
         have:=c0S h1 hb
         exfalso; apply h; unfold A8; rw [this,Key.a8x]; simp [h0]
       rcases Nat.eq_zero_or_pos j with rfl | hj0
       · exact h2
       · exact a9n h2 (a1G hs ya_ ya_)
     · obtain ⟨i,hi,rfl⟩:=aW ha
       rw [List.length_take] at hi
       rw [dV ya_]
       rcases List.mem_cons.1 hb with rfl | hb
       · exact a2d (k:=b.card.key) ya_
       · obtain ⟨j,hj,rfl⟩:=aW hb
         rw [List.length_drop] at hj
         rw [nA]
         exact a1G hs ya_ ya_
theorem a1V {most:Int} {l:l9E} (hs:aR l) {e:Entry} (h:A8 l e.card.key=true\/(l.length:Int) < most) (x:Entry):x∈F6 most l e↔x=e\/(x∈l/\x.card.key≠e.card.key):=by
 have hp:=X6 l e.card.key
 unfold F6
 split
 · rename_i hb
   have h1:=jK hb
   have h2:=(bY hb).2
   unfold l7 at h2; rw [if_pos hb] at h2
   constructor
   · intro hx
     obtain ⟨i,hi,e1⟩:=List.getElem_of_mem hx
     rw [List.getElem_set] at e1
     split at e1
     · exact .inl e1.symm
     · rename_i hne
       rw [List.length_set] at hi
       refine .inr ⟨e1 ▸ List.getElem_mem _,fun hk=>hne ?_⟩
       rw [<- e1,<- V9 hi] at hk
       rw [<- hk]; exact a5Q hs hi
   · rintro (rfl | ⟨hx,hk⟩)
     · exact List.mem_set h1 _
     · obtain ⟨i,hi,e1⟩:=List.getElem_of_mem hx
       have hne:E9 l e.card.key≠i:=fun q=>hk (by rw [<- e1,<- V9 hi,<- q]; exact h2)
       have:(l.set (E9 l e.card.key) e)[i]'yb_=x:=by rw [List.getElem_set,if_neg hne]; exact e1
       exact this ▸ List.getElem_mem _
 · rename_i hb
   have hlt:(l.length:Int) < most:=h.resolve_left hb
   rw [if_neg ya_]
   have hno:∀ y∈l,y.card.key≠e.card.key:=fun y hy hk=>hb ((a8v hs _).2 ⟨y,hy,hk⟩)
   rw [List.mem_append,List.mem_cons]
   constructor
   · rintro (hx | rfl | hx)
     · exact .inr ⟨List.mem_of_mem_take hx,hno _ (List.mem_of_mem_take hx)⟩
     · exact .inl rfl
     · exact .inr ⟨List.mem_of_mem_drop hx,hno _ (List.mem_of_mem_drop hx)⟩
   · rintro (rfl | ⟨hx,_⟩)
     · exact .inr (.inl rfl)
     · rw [<- List.take_append_drop (E9 l e.card.key) l,List.mem_append] at hx
       exact hx.imp id .inr
theorem b9Z {most:Int} {l:l9E} (hs:aR l) {e:Entry} (h:A8 l e.card.key=true\/(l.length:Int) < most):A8 (F6 most l e) e.card.key=true/\l7 (F6 most l e) e.card.key=e :=
 yF (mV hs e) ((a1V hs h e).2 (.inl rfl))
theorem a8u {most:Int} {l:l9E} (hs:aR l) {e:Entry} (h:A8 l e.card.key=true\/(l.length:Int) < most) {k:Key} (hk:k≠e.card.key):A8 (F6 most l e) k=A8 l k/\l7 (F6 most l e) k=l7 l k:=by
 have hs2:=mV (most:=most) hs e
 cases hb:A8 l k with
 | true =>
  obtain ⟨h1,h2⟩:=bY hb
  have h3:l7 l k∈F6 most l e:=(a1V hs h _).2 (.inr ⟨h1,by rw [h2]; exact hk⟩)
  have h4:=yF hs2 h3
  rw [h2] at h4; exact h4
 | false =>
  have h1:A8 (F6 most l e) k=false:=by
   cases hc:A8 (F6 most l e) k with
   | false=>rfl
   | true =>
    obtain ⟨h1,h2⟩:=bY hc
    rcases (a1V hs h _).1 h1 with h3 | ⟨h3,_⟩
    · exact absurd (by rw [<- h2,h3]) hk
    · exact absurd ((a8v hs k).2 ⟨_,h3,h2⟩) (by rw [hb]; simp)
  refine ⟨h1,?_⟩
  unfold l7; rw [h1,hb]; simp
theorem b8z {most:Int} {l:l9E} {e:Entry} (h:A8 l e.card.key=true\/(l.length:Int) < most):J2 most l e=0:=by
 unfold J2; split
 · rfl
 · rename_i hb; rw [if_neg (by have:=h.resolve_left hb; omega)]
theorem a7j:aR []:=List.Pairwise.nil
theorem b5P:q9 32=32:=by unfold q9; omega
theorem rZ (a b:p9):L8 a b < 0↔(a.t < b.t\/(a.t=b.t/\(a.n < b.n\/(a.n=b.n/\a.node < b.node)))):=by
 unfold L8 R5
 rcases Int.lt_trichotomy a.t b.t with h | h | h
 · rw [if_pos h,if_neg ya_]; omega
 · rw [if_neg (show ¬ a.t < b.t by omega),if_neg (show ¬ a.t > b.t by omega),if_pos rfl]
   rcases Int.lt_trichotomy a.n b.n with h2 | h2 | h2
   · rw [if_pos h2,if_neg ya_]; omega
   · rw [if_neg (show ¬ a.n < b.n by omega),if_neg (show ¬ a.n > b.n by omega),if_pos rfl]
     split
     · omega
     · split <;> omega
   · rw [if_neg (show ¬ a.n < b.n by omega),if_pos h2,if_neg ya_]; omega
 · rw [if_neg (show ¬ a.t < b.t by omega),if_pos h,if_neg ya_]; omega
theorem a9O {a b:p9} (h:L8 a b < 0):¬ L8 b a < 0:=by
 rw [rZ] at *; omega
theorem b2i (a:p9):L8 a a=0:=by unfold L8 R5; simp
theorem a4k (a:p9):p9.eqb a a=true:=by simp [p9.eqb]
attribute [local irreducible] A8 C8 E9 F6 H9 J2 L8 R4 d9 jL l7 maxS
theorem a7d (l:l9E) (g:Nat) (al:l9K) (ga:Nat) (gt nd:Int) (st:p9) (q:Msg) (now:Int) :
 ((tuR l g al ga gt nd st q now).c=[]/\(tuR l g al ga gt nd st q now).l=l/\(tuR l g al ga gt nd st q now).al=al/\(tuR l g al ga gt nd st q now).st=st/\(tuR l g al ga gt nd st q now).gt=gt) \/
 (A8 l q.key=true/\(tuR l g al ga gt nd st q now).c=[]/\(tuR l g al ga gt nd st q now).l=F6 (q9 32) l (X4 (l7 l q.key) now)/\(tuR l g al ga gt nd st q now).al=al/\(tuR l g al ga gt nd st q now).st=st/\(tuR l g al ga gt nd st q now).gt=min (gt+1) 1048576) \/
 ∃ x:Entry,x.card.key=q.key/\x.card.stamp=C8 (maxS st (l7 l q.key).card.stamp) now nd/\tuR l g al ga gt nd st q now=a0Q l g al ga gt st x:=by
 unfold tuR
 by_cases o1:q.op=1
 · rw [if_pos o1]
   by_cases r:jH q
   · refine .inr (.inr ⟨J5 q (l7 l q.key) (A8 l q.key) st now nd,rfl,rfl,?_⟩)
     unfold a0d a0b mR sJ kD kC jY a0Q
     simp only [if_pos r]
   · refine .inl ?_
     unfold a0d a0b mR sJ kD kC jY
     simp only [if_neg r]
     exact ⟨trivial,trivial,trivial,trivial,trivial⟩
 rw [if_neg o1]
 by_cases o4:q.op=4/\3 < q.status
 · rw [if_pos o4]; exact .inl ⟨rfl,rfl,rfl,rfl,rfl⟩
 rw [if_neg o4]
 by_cases lv:A8 l q.key=true/\(l7 l q.key).card.gone=false
 · rw [if_pos lv]
   by_cases o2:q.op=2
   · rw [if_pos o2]; exact .inr (.inl ⟨lv.1,rfl,rfl,rfl,rfl,rfl⟩)
   rw [if_neg o2]
   have hk:=(bY lv.1).2
   by_cases o3:q.op=4
   · rw [if_pos o3]; exact .inr (.inr ⟨Y3 (l7 l q.key) q.status (C8 (maxS st (l7 l q.key).card.stamp) now nd),hk,rfl,rfl⟩)
   · rw [if_neg o3]; exact .inr (.inr ⟨G5 (l7 l q.key) (C8 (maxS st (l7 l q.key).card.stamp) now nd) now,hk,rfl,rfl⟩)
 · rw [if_neg lv]; exact .inl ⟨rfl,rfl,rfl,rfl,rfl⟩
structure aG (n:Nat) (s:DS):Prop where
 srt:aR s.l
 len:s.l.length<=32
 al:s.al.length<=n
 g0:0<=s.gt
 g1:s.gt<=1048576
theorem a0Y {l:l9E} (x:Entry) (h:l.length<=32):(F6 (q9 32) l x).length<=32:=by
 have:=b8x (most:=q9 32) (l:=l) (e:=x) (by rw [b5P]; omega)
 rw [b5P] at this ⊢
 omega
theorem aG.mono {n m:Nat} {s:DS} (h:aG n s) (hm:n<=m):aG m s:=⟨h.srt,h.len,Nat.le_trans h.al hm,h.g0,h.g1⟩
theorem aG.put {n:Nat} {s:DS} (h:aG n s) (x:Entry):aG (n+1) ⟨F6 (q9 32) s.l x,H9 (q9 32) s.l x s.g,J4 s.l x s.al,O1 s.l x s.ga,s.gf,s.gl,s.gt,aL s.l x s.st⟩ :=
 ⟨mV h.srt x,a0Y x h.len,Nat.le_trans (sH s.l x s.al) (Nat.succ_le_succ h.al),h.g0,h.g1⟩
theorem aG.turn {n:Nat} {s:DS} (h:aG n s) (nd:Int) (q:Msg) (now:Int):aG (n+1) (s.turn nd q now):=by
 rcases a7d s.l s.g s.al s.ga s.gt nd s.st q now with ⟨_,e2,e3,_,e5⟩ | ⟨_,_,e2,e3,_,e5⟩ | ⟨x,_,_,e⟩
 · refine ⟨?_,?_,?_,?_,?_⟩ <;> simp only [DS.turn,e2,e3,e5]
   · exact h.srt
   · exact h.len
   · exact Nat.le_succ_of_le h.al
   · exact h.g0
   · exact h.g1
 · have g0:=h.g0
   refine ⟨?_,?_,?_,?_,?_⟩ <;> simp only [DS.turn,e2,e3,e5]
   · exact mV h.srt _
   · exact a0Y _ h.len
   · exact Nat.le_succ_of_le h.al
   · omega
   · omega
 · have e':s.turn nd q now=⟨F6 (q9 32) s.l x,H9 (q9 32) s.l x s.g,J4 s.l x s.al,O1 s.l x s.ga,s.gf,s.gl,s.gt,aL s.l x s.st⟩:=by unfold DS.turn; rw [e]; rfl
   rw [e']; exact h.put x
theorem c9r {l:l9E} (hs:aR l) (x:Entry) (al:l9K) :
 (kM l x=[]/\J4 l x al=al)\/(kM l x=[x.card]/\J4 l x al=al++[x.card.key]/\A8 (F6 (q9 32) l x) x.card.key=true/\l7 (F6 (q9 32) l x) x.card.key=x):=by
 unfold kM J4
 by_cases h:(J2 (q9 32) l x == 0)=true
 · rw [if_pos h,if_pos h]
   refine .inr ⟨rfl,rfl,?_⟩
   apply b9Z hs
   have h0:J2 (q9 32) l x=0:=by simpa using h
   with_unfolding_all unfold J2 at h0
   by_cases hf:A8 l x.card.key=true
   · exact .inl hf
   · rw [if_neg hf] at h0
     refine .inr ?_
     split at h0
     · simp at h0
     · omega
 · rw [if_neg h,if_neg h]; exact .inl ⟨rfl,rfl⟩
theorem d0p {n:Nat} {s:DS} (hs:aG n s) (nd:Int) (q:Msg) (now:Int) :
 ((hdD nd s q now).c=[]/\(hdD nd s q now).s.al=s.al)\/∃ c:j5,(hdD nd s q now).c=[c]/\(hdD nd s q now).s.al=s.al++[c.key]/\A8 (hdD nd s q now).s.l c.key=true/\(l7 (hdD nd s q now).s.l c.key).card=c:=by
 unfold hdD
 split
 · split
   · exact .inl ⟨rfl,rfl⟩
   · simp only [DS.turn]
     rcases a7d s.l s.g s.al s.ga s.gt nd s.st q (d9 now) with ⟨e1,e2,e3,_,e5⟩ | ⟨_,e1,e2,e3,_,e5⟩ | ⟨x,_,_,e⟩
     · exact .inl ⟨e1,e3⟩
     · exact .inl ⟨e1,e3⟩
     · rw [e]
       rcases c9r hs.srt x s.al with ⟨h1,h2⟩ | ⟨h1,h2,h3,h4⟩
       · exact .inl ⟨h1,h2⟩
       · exact .inr ⟨x.card,h1,h2,h3,congrArg Entry.card h4⟩
 · exact .inl ⟨rfl,rfl⟩
end Go.Proofs.YtmghjcbabebanaaGreat.AM
namespace Go.Proofs.YtmghjcbabebanaaGreat.AM
open Go
theorem sN {most:Int} {l:l9E} {e x:Entry} (h:x∈F6 most l e):x=e\/x∈l:=by
 unfold F6 at h
 split at h
 · exact (List.mem_or_eq_of_mem_set h).symm
 · split at h
   · exact .inr h
   · rw [List.mem_append,List.mem_cons] at h
     rcases h with h | h | h
     · exact .inr (List.mem_of_mem_take h)
     · exact .inl h
     · exact .inr (List.mem_of_mem_drop h)
def stB (n:Nat) (x:p9):Prop:=0<=x.t/\0<=x.n/\x.n<=(n:Int)
theorem stB.mono {n m:Nat} {x:p9} (h:stB n x) (hm:n<=m):stB m x:=⟨h.1,h.2.1,by have:=h.2.2; omega⟩
theorem a1W {n:Nat} {a b:p9} (ha:stB n a) (hb:stB n b):stB n (maxS a b):=by unfold maxS; split <;> assumption
theorem c9F (a b:p9):¬ L8 (maxS a b) b < 0:=by
 unfold maxS
 split
 · rename_i h; exact a9O h
 · rw [b2i]; omega
theorem a5w {n:Nat} {a:p9} (ha:stB n a) (hn:n < 100000) {now:Int} (nd:Int):stB (n+1) (C8 a now nd)/\L8 a (C8 a now nd) < 0/\(C8 a now nd).node=nd/\L8 ⟨0,0,0⟩ (C8 a now nd) < 0:=by
 obtain ⟨h1,h2,h3⟩:=ha
 have e:C8 a now nd=⟨max a.t now,nd,a.n+1⟩:=by
  have:IntKind.i64.wrap (a.n+1)=a.n+1:=sV ya_ ya_
  unfold C8; rw [if_pos ya_,this]
 rw [e]
 refine ⟨⟨?_,?_,?_⟩,?_,rfl,?_⟩
 · simp only; omega
 · simp only; omega
 · simp only; omega
 · rw [rZ]; simp only; omega
 · rw [rZ]; simp only; omega
attribute [local irreducible] R4 jL d9 A8 E9 l7 F6 J2 H9 C8 maxS L8
structure eZ (n:Nat) (s:DS):Prop where
 ok:aG n s
 l:∀ e∈s.l,stB (n+9) e.card.stamp
 st:stB (n+9) s.st
theorem eZ.mono {n m:Nat} {s:DS} (h:eZ n s) (hm:n<=m):eZ m s:=⟨h.ok.mono hm,fun e he=>(h.l e he).mono ya_,h.st.mono ya_⟩
theorem eZ.get {n:Nat} {s:DS} (h:eZ n s) (k:Key):stB (n+9) (l7 s.l k).card.stamp:=by
 cases hf:A8 s.l k with
 | true=>exact h.l _ (bY hf).1
 | false =>
  have e:l7 s.l k=zE:=by with_unfolding_all unfold l7; rw [if_neg (by rw [hf]; simp)]
  rw [e]; exact ⟨by decide,by decide,by simp [zE]; omega⟩
theorem eZ.set {n:Nat} {s:DS} (h:eZ n s) {x:Entry} (hx:stB (n+10) x.card.stamp) {st:p9} (hst:stB (n+10) st) :
 eZ (n+1) ⟨F6 (q9 32) s.l x,H9 (q9 32) s.l x s.g,J4 s.l x s.al,O1 s.l x s.ga,s.gf,s.gl,s.gt,st⟩:=by
 have ho:=h.ok.put x
 refine ⟨⟨ho.srt,ho.len,ho.al,ho.g0,ho.g1⟩,fun e he=>?_,hst.mono ya_⟩
 rcases sN he with rfl | he
 · exact hx.mono ya_
 · exact (h.l e he).mono ya_
theorem b9L {n:Nat} {s:DS} (h:eZ n s) (hn:n < 90000) (nd:Int) (q:Msg) (now:Int) :
 eZ (n+1) (hdD nd s q now).s/\∀ c∈(hdD nd s q now).c,L8 (l7 s.l q.key).card.stamp c.stamp < 0/\c.stamp.node=nd/\L8 ⟨0,0,0⟩ c.stamp < 0:=by
 unfold hdD
 split
 · split
   · exact ⟨h.mono (Nat.le_succ _),by simp⟩
   · have ho:=h.ok.turn nd q (d9 now)
     have hg:=h.get q.key
     rcases a7d s.l s.g s.al s.ga s.gt nd s.st q (d9 now) with ⟨e1,e2,e3,e4,e5⟩ | ⟨hf,e1,e2,e3,e4,e5⟩ | ⟨x,hk,hx,e⟩
     · refine ⟨⟨ho,?_,?_⟩,?_⟩
       · simp only [DS.turn,e2]; intro e he; exact (h.l e he).mono ya_
       · simp only [DS.turn,e4]; exact h.st.mono ya_
       · simp only [e1]; simp
     · refine ⟨⟨ho,?_,?_⟩,?_⟩
       · simp only [DS.turn,e2]; intro e he
         rcases sN he with rfl | he
         · exact hg.mono ya_
         · exact (h.l e he).mono ya_
       · simp only [DS.turn,e4]; exact h.st.mono ya_
       · simp only [e1]; simp
     · obtain ⟨p1,p2,p3,p4⟩:=a5w (now:=d9 now) (a1W h.st hg) ya_ nd
       rw [<- hx] at p1 p2 p3 p4
       have hgv:stB (n+10) (aL s.l x s.st):=by unfold aL; split; exact p1; exact h.st.mono ya_
       have e':s.turn nd q (d9 now)=⟨F6 (q9 32) s.l x,H9 (q9 32) s.l x s.g,J4 s.l x s.al,O1 s.l x s.ga,s.gf,s.gl,s.gt,aL s.l x s.st⟩:=by unfold DS.turn; rw [e]; rfl
       refine ⟨by simp only [e']; exact h.set p1 hgv,?_⟩
       rw [e]
       intro c hc
       have hc':c=x.card:=by
        simp only [a0Q,kM] at hc
        split at hc
        · simpa using hc
        · simp at hc
       subst hc'
       refine ⟨?_,p3,p4⟩
       have q1:=c9F s.st (l7 s.l q.key).card.stamp
       rw [rZ] at q1 p2 ⊢
       omega
 · exact ⟨h.mono (Nat.le_succ _),by simp⟩
theorem c2H (t:Tp):stB 9 t.card.stamp:=by
 have h6:=t.c3.next_lt 40 ya_
 have h8:=((t.c3.step 40).step 6).next_lt 9 ya_
 unfold Tp.card Tp.stamp
 refine ⟨?_,?_,?_⟩ <;> simp only <;> omega
open Go.Proofs.YtmghjcbabebanaaGreat
attribute [local irreducible] F5 I6 J4 J6 L9 O1 Q6 hdD j6 jM l6 l9 opM tuR
abbrev T16:=DS × Int × Msg × Int
attribute [local irreducible] Tp.ask Tp.card
attribute [local irreducible] C9 D8 D9 F3 I4 K8 N9 P6 R9 Tp.H7 Tp.J8 Tp.cards Tp.key Tp.keyT Tp.next Tp.step cmpL sink y5
def yJ (now:Int) (e:Entry):Bool:=if e.card.gone=true then decide (a4S e now > 400) else false
def cB (now:Int) (s:List Entry × Nat) (e:Entry):List Entry × Nat:=if yJ now e=true then (s.1++[e],s.2+1) else s
def bL (l:List Entry) (now:Int):List Entry × Nat:=l.foldl (cB now) ([],0)
theorem c0D (now:Int) (l:l9E):∀ (s:l9E × Nat),(l.foldl (cB now) s).1.length<=s.1.length+l.length:=by
 induction l with
 | nil=>intro s; simp
 | cons c l ih =>
  intro s
  have h1:=ih (cB now s c)
  have h2:(cB now s c).1.length<=s.1.length+1:=by unfold cB; split <;> simp
  simp only [List.foldl_cons,List.length_cons]; omega
theorem c0B (l:l9E) (now:Int):(bL l now).1.length<=l.length:=by
 have:=c0D now l ([],0)
 simpa [bL] using this
def O4 (l:List Entry) (now:Int):List Key:=(bL l now).1.map (·.card.key)
def a2h:Ann:={ gh:=[(8,.frz 5)],gha:=[(1,.vir 5 10),(7,.cut 1)],fin:=some 0,live:=[(3,[1,5,8,9,10])],out:=[(3,[1,5,8,9,10])] }
@[simp] abbrev d2Z (a:Nat) (b:l9E) (c:l9E) (d:Nat):Heap:=[(o_ (a+1) 10 (mE (b++[(nth c d)])))]
@[simp] abbrev d2Y (a:Int) (b:Nat) (c:Nat) (d:l9E) (e:Nat):Fr:=(mkF 30 [(1,(iI a)),(5,(AV.osl 0 b 10 0 c)),(8,(sA 10 (mE d))),(9,(iN d.length)),(10,(iN (e+1)))])
@[simp] abbrev d2X (a:Int) (b:Nat) (c:Nat) (d:l9E) (e:Nat):Fr:=(mkF 30 [(1,(iI a)),(5,(AV.osl 0 b 10 0 c)),(8,(sA 10 (mE d))),(9,(iN d.length)),(10,(iN e))])
@[simp] abbrev a9b :=(l9 Tryz.prog (X a2h) (x9 Tryz.f135 0))
theorem a5U (l few:l9E) (now:Int) (i k g:Nat) (hk:k=few.length) (hki:k<=l.length) (hl:l.length < 1099511627776) {eX:Ex} {FX:Fr} {HX:Heap} (k1:(decide ((i:Int) < (l.length:Int)))=true->(nth l i).card.gone=true->(decide ((a4S (nth l i) now) > 400))=true->j6 a9b (some [1,5,8,9,10]) (some [1,5,8,9,10]) (mkF 30 [(1,(iI now)),(5,(cv_ g k)),(8,(sA 10 (mE l))),(9,(iN l.length)),(10,(iN (i+1)))]) (d2Z g few l i) eX FX HX) (k2:(decide ((i:Int) < (l.length:Int)))=true->(nth l i).card.gone=true->(decide ((a4S (nth l i) now) > 400))=false->j6 a9b (some [1,5,8,9,10]) (some [1,5,8,9,10]) (d2Y now g k l i) [(o_ g 10 (mE few))] eX FX HX) (k3:(decide ((i:Int) < (l.length:Int)))=true->(nth l i).card.gone=false->j6 a9b (some [1,5,8,9,10]) (some [1,5,8,9,10]) (d2Y now g k l i) [(o_ g 10 (mE few))] eX FX HX) (k4:(decide ((i:Int) < (l.length:Int)))=false->((.exit 0:Ex),(d2X now g k l i),[(o_ g 10 (mE few))])=(eX,FX,HX)):j6 a9b (some [1,5,8,9,10]) (some [1,5,8,9,10]) (d2X now g k l i) [(o_ g 10 (mE few))] eX FX HX :=
 I9 (.r (.g (.two (decide ((i:Int) < (l.length:Int))) (fun h1 h1'=>(.r (.h' [(o_ g 10 (mE few)),(o_ 0 10 [[e_,e_,z_,z_,z_,z_,z_,z_,bF,z_]])] (.is 0 10 10 (mE l) (i:Int) (Entry.row (nth l i)) (N7.mk _ ow ow) (.s (.two (nth l i).card.gone (fun h2 h2'=>(.u2 (.c 6 ((c6b (nth l i) now).lift kr kr (zF g few l i)) (.u (.g (.two (decide ((a4S (nth l i) now) > 400)) (fun h3 h3'=>(.r (.h' (zF g few l i) (.ap 3 89 (AV.osl 0 g 10 0 k) (AV.sl .clip 10 [(Entry.row (nth l i))]) (cv_ g k) [(o_ (g+1) 10 (mE (few++[(nth l i)]))),(o_ 0 10 [(Entry.row (nth l i))])] (G7 (row:=Entry.row) (l:=few) (x:=(nth l i)) (T:=tt) (e:=93) (te:=jG) (z:=1) (b:=24) (y:=[.sl .nil 0 []]) kr kr rfl E5 E5 kr Y5 rfl rfl b1T) (.s (.y 0 (.int .i64 (cb_ i)) (iN (i+1)) Yes.o (.h' (d2Z g few l i) (.b 1 (.g (.l (k1 h1 h2 h3))))))))))) (fun h3 h3'=>(.r (.h' (zF g few l i) (.y 0 (.int .i64 (cb_ i)) (iN (i+1)) Yes.o (.h' [(o_ g 10 (mE few))] (.b 1 (.g (.l (k2 h1 h2 h3))))))))))))))) (fun h2 h2'=>(.n3 (.rn (.h' (zF g few l i) (.y 0 (.int .i64 (cb_ i)) (iN (i+1)) Yes.o (.h' [(o_ g 10 (mE few))] (.b 1 (.g (.l (k3 h1 h2)))))))))))))))) (fun h1 h1'=>(.l (k4 h1))))))
theorem c0A (l:l9E) (now:Int) (r:Nat):∀ (few:l9E) (i k g:Nat) (sF:l9E × Nat),i+r=l.length->k=few.length->k<=i->l.length < 1099511627776->sF=(l.drop i).foldl (cB now) (few,g) ->
 j6 (l9 Tryz.prog (X a2h) (x9 Tryz.f135 0)) (some [1,5,8,9,10]) (some [1,5,8,9,10]) (mkF 30 [(1,(iI now)),(5,(AV.osl 0 g 10 0 k)),(8,(sA 10 (mE l))),(9,(iN l.length)),(10,(iN i))]) [(o_ g 10 (mE few))] (.exit 0) (mkF 30 [(1,(iI now)),(5,(AV.osl 0 sF.2 10 0 sF.1.length)),(8,(sA 10 (mE l))),(9,(iN l.length)),(10,(iN l.length))]) [(o_ sF.2 10 (mE sF.1))]:=by
 induction r with
 | zero =>
  intro few i k g sF hi hk hki hl h
  have:l.drop i=[]:=List.drop_of_length_le ow
  rw [this] at h
  refine a5U l few now i k g hk ow hl (fun h=>by simp at h; omega) (fun h=>by simp at h; omega) (fun h=>by simp at h; omega) fun _=>?_
  have e3:i=l.length:=by omega
  rw [h,e3,hk]
  rfl
 | succ r ih =>
  intro few i k g sF hi hk hki hl h
  rw [Y7 ow,List.foldl_cons] at h
  refine a5U l few now i k g hk ow hl (fun _ h2 h3=>?_) (fun _ h2 h3=>?_) (fun _ h2=>?_) fun h=>by simp at h; omega
  · exact ih (few++[nth l i]) (i+1) (k+1) (g+1) sF ow rV ow hl (by rw [h]; simp only [cB,yJ,h2,h3,if_true])
  · exact ih few (i+1) k g sF ow hk ow hl (by rw [h]; simp only [cB,yJ,h2,h3,if_true,Bool.false_eq_true,if_false])
  · exact ih few (i+1) k g sF ow hk ow hl (by rw [h]; simp only [cB,yJ,h2,Bool.false_eq_true,if_false])
@[simp] abbrev d2W (a:Int) (b:l9E):Fr:=(mkF 30 [(1,(iI a)),(5,(AV.osl 0 (bL b a).2 10 0 (bL b a).1.length)),(8,(sA 10 (mE b))),(9,(iN b.length)),(10,(iN b.length))])
@[simp] abbrev d2V (a:l9E) (b:Int):Heap:=[(o_ ((bL a b).2) 10 (mE (bL a b).1))]
theorem c0z (l:l9E) (now:Int) (hl:l.length < 1099511627776):AC 135 [(sA 10 (mE l)),(iI now)] [] ((sA 2 (mK (O4 l now))),[]):=by
 have hd:=c0B l now
 exact r9 (fn:=Tryz.f135) (ann:=a2h) (Has.o Tryz.func135) (.r (.s (.s (.h' [(o_ 0 10 (mE []))] (.y 1 (.int .i64 ((List.length (mE l):Nat):Int)) (iN l.length) (Yes.len _ _ _) (.g (.loop (d2W now l) (show j6 a9b (some [1,5,8,9,10]) (some [1,5,8,9,10]) (mkF 30 [(1,(iI now)),(5,(AV.osl 0 0 10 0 0)),(8,(sA 10 (mE l))),(9,(iN l.length)),(10,z_)]) [(o_ 0 10 (mE []))] (.exit 0) (d2W now l) (d2V l now) from (c0A l now (List.length l) [] 0 0 0 _ ow rfl ow hl rfl)) (.r (.w 5 (mE (bL l now).1) (And.intro (G8 (room:=none) kr om) (Entry.y8 _ _):G6 (d2V l now) 10 (AV.osl 0 (bL l now).2 10 0 (bL l now).1.length)=some (mE (bL l now).1)/\AV.D7 0 (mE (bL l now).1)=true) (.c 1 ((a3k (bL l now).1 oa).lift kr kr [(o_ ((bL l now).2+1) 10 [])]) (.g (.h' [] (.q 0 (sA 2 (mK ((bL l now).1.map (·.card.key)))))))))))))))))
attribute [local irreducible] D5 G9 O4 R3 R8 bL
def yH (now:Int) (a b:Entry):Bool:=if (D9 a now != D9 b now)=true then decide (D9 a now > D9 b now) else D8 a.card.key b.card.key
def uI:List Entry->Nat
 | []=>0
 | e :: l=>(if (!e.card.gone)=true then 1 else 0)+uI l
theorem d3B (now:Int) (l:l9E):∀ (out:l9E) (g:Nat),(l.foldl (cB now) (out,g)).1=out++l.filter (yJ now):=by
 induction l with
 | nil=>intro out g; simp
 | cons e l ih =>
  intro out g
  rw [List.foldl_cons]
  unfold cB at ih ⊢
  by_cases h:yJ now e=true
  · rw [if_pos h,ih]; simp [List.filter_cons,h]
  · rw [if_neg h,ih]; simp [List.filter_cons,h]
theorem c4W (l:l9E) (now:Int):O4 l now=(l.filter (yJ now)).map (·.card.key):=by
 unfold O4 bL; rw [d3B]; simp
theorem c0C (l:l9E) (now:Int):(O4 l now).length<=l.length:=by rw [c4W,List.length_map]; exact List.length_filter_le _ _
def vI (now:Int) (e:Entry) (out:List Entry):Nat->Nat
 | 0=>0
 | k+1=>if yH now e (nth out k)=true then vI now e out k else k+1
theorem c9s (now:Int) (e:Entry) (out:l9E) (k:Nat):vI now e out k<=k:=by
 induction k with
 | zero=>simp only [vI]; omega
 | succ k ih=>simp only [vI]; split <;> omega
def a0n (now:Int) (out:List Entry) (e:Entry):List Entry:=(out.take (vI now e out out.length)++[e])++out.drop (vI now e out out.length)
theorem c4D (now:Int) (out:l9E) (e:Entry):(a0n now out e).length=out.length+1:=by
 have:=c9s now e out out.length
 simp [a0n]; omega
def tX (l:List Entry) (now late:Int):List Entry:=(l.filter fun e=>!decide (D9 e now<=late)).foldl (a0n now) []
theorem b9X (now:Int) (l:l9E):∀ (out:l9E),(l.foldl (a0n now) out).length=out.length+l.length:=by
 induction l with
 | nil=>intro out; simp
 | cons e l ih=>intro out; rw [List.foldl_cons,ih,c4D]; simp; omega
theorem b7M (l:l9E) (now late:Int):(tX l now late).length<=l.length:=by
 unfold tX; rw [b9X]; simpa using List.length_filter_le _ _
def a0a (l:List Entry) (now late:Int):List Key:=((tX l now (max late 0)).take (min (tX l now (max late 0)).length (N9 (uI l:Nat)))).map (·.card.key)
end Go.Proofs.YtmghjcbabebanaaGreat.AM
namespace Go.Proofs.YtmghjcbabebanaaGreat.AM
open Go
attribute [local irreducible] Tp.H7 Tp.J8 Tp.card Tp.cards Tp.key Tp.keyT Tp.next Tp.step
theorem d0g (now late:Int) (l:l9E):∀ (s:Nat × l9E × Nat),(l.foldl (X5 now late) s).2.1=s.2.1++l.filter (fun e=>decide (D9 e now > late))/\(l.foldl (X5 now late) s).1=s.1+uI l:=by
 induction l with
 | nil=>intro s; simp [uI]
 | cons e l ih =>
  intro s
  obtain ⟨h1,h2⟩:=ih (X5 now late s e)
  rw [List.foldl_cons,h1,h2]
  simp only [X5,uI,List.filter_cons]
  constructor
  · split <;> simp
  · split <;> omega
theorem b8G (l:l9E) (now late:Int):(C9 l now late).2.1=l.filter (fun e=>decide (D9 e now > late))/\(C9 l now late).1=uI l:=by
 have:=d0g now late l (0,[],0)
 exact ⟨by simpa [C9] using this.1,by simpa [C9] using this.2⟩
theorem b8C (now:Int) (e:Entry) (out:l9E) (k:Nat):vI now e out k=aI (yH now) e out k:=by
 induction k with
 | zero=>rfl
 | succ k ih=>simp only [vI,aI,ih]
theorem b9I (now:Int):a0n now=Z4 (yH now):=by funext out e; unfold a0n Z4; rw [b8C]
theorem b4w (now:Int):(fun a b:Entry=>decide (cmpL now a b < 0))=yH now:=by
 funext a b
 unfold cmpL yH
 by_cases h:D9 a now=D9 b now
 · have h1:R5 (D9 b now) (D9 a now)=0:=by simp [R5,h]
   have h2:(D9 a now != D9 b now)=false:=by simp [h]
   rw [if_pos h1,h2]
   simp only [Bool.false_eq_true,if_false]
   rw [<- fU]
   unfold K8
   cases h3:kI a.card.key b.card.key
   · simp only [Bool.false_eq_true,if_false]; split <;> simp
   · simp
 · have h2:(D9 a now != D9 b now)=true:=by simp [h]
   rw [h2]
   simp only [if_true]
   by_cases h3:D9 b now < D9 a now
   · have h1:R5 (D9 b now) (D9 a now) = -1:=by simp [R5,h3]
     rw [h1]; simp [h3]
   · have h1:R5 (D9 b now) (D9 a now)=1:=by
      have:D9 b now > D9 a now:=by omega
      simp [R5,h3,this]
     rw [h1]; simp [h3]
theorem b8E (l:l9E) (now late:Int):F3 l now late=a0a l now late:=by
 obtain ⟨h1,h2⟩:=b8G l now (max 0 late)
 have hm:max late 0=max 0 late:=by omega
 have hf:(l.filter fun e=>!decide (D9 e now<=max 0 late))=l.filter (fun e=>decide (D9 e now > max 0 late)):=by
  congr 1; funext e
  by_cases h:D9 e now<=max 0 late
  · have:¬ D9 e now > max 0 late:=by omega
    simp only [h,this,decide_true,decide_false,Bool.not_true]
  · have:D9 e now > max 0 late:=by omega
    simp only [h,this,decide_true,decide_false,Bool.not_false]
 have key:P6 l now late=tX l now (max late 0):=by
  unfold P6 tX
  rw [h1,hm,hf,pV,b4w,b9I]; rfl
 unfold F3 a0a R9
 rw [key,h2]
theorem c3B (l:l9E) (now late:Int):(F3 l now late).length<=l.length:=by
 rw [b8E]
 have:=b7M l now (max late 0)
 unfold a0a; simp; omega
theorem a3b (l:l9E) (now late:Int):List.Perm (P6 l now late) (l.filter (fun e=>decide (D9 e now > max 0 late))):=by
 unfold P6
 refine (a6s (cmpL now) _).trans ?_
 rw [(b8G l now (max 0 late)).1]
theorem c3C {l:l9E} {now late:Int} {k:Key} (h:k∈F3 l now late):∃ e∈l,e.card.key=k/\D9 e now > max 0 late:=by
 unfold F3 at h
 obtain ⟨e,he,rfl⟩:=List.mem_map.1 h
 have h1:=(a3b l now late).mem_iff.1 (List.mem_of_mem_take he)
 rw [List.mem_filter] at h1
 exact ⟨e,h1.1,rfl,by simpa using h1.2⟩
theorem a9S {l:l9E} (h:aR l):List.Pairwise (fun a b:Entry=>a.card.key≠b.card.key) l:=by
 have h2:List.Pairwise (fun a b:Entry=>D8 a.card.key b.card.key=true) l:=List.pairwise_map.1 h
 exact h2.imp fun h=>d3D h
theorem b3s {l:l9E} (h:aR l) (now late:Int):List.Pairwise (·≠·) (F3 l now late):=by
 unfold F3
 rw [List.pairwise_map]
 have h2:List.Pairwise (fun a b:Entry=>a.card.key≠b.card.key) (P6 l now late):=List.Perm.pairwise (a3b l now late).symm (List.Pairwise.filter _ (a9S h)) fun h e=>h e.symm
 exact h2.sublist (List.take_sublist _ _)
def a4h (l:List Entry) (ks:List Key):Prop:=List.Pairwise (·≠·) ks/\∀ k∈ks,A8 l k=true/\(l7 l k).card.gone=false
theorem b8D {l:l9E} (h:aR l) (now late:Int):a4h l (F3 l now late):=by
 refine ⟨b3s h now late,fun k hk=>?_⟩
 obtain ⟨e,he,rfl,hl⟩:=c3C hk
 obtain ⟨f1,f2⟩:=yF h he
 refine ⟨f1,?_⟩
 rw [f2]
 cases hg:e.card.gone with
 | false=>rfl
 | true =>
  have:D9 e now=0:=by unfold D9; rw [if_pos hg]
  omega
theorem a4h.next {l:l9E} (hs:aR l) {k:Key} {ks:l9K} (h:a4h l (k :: ks)) {x:Entry} (hx:x.card.key=k):a4h (F6 (q9 32) l x) ks:=by
 obtain ⟨h1,h2⟩:=h
 have h3:=List.pairwise_cons.1 h1
 refine ⟨h3.2,fun k' hk'=>?_⟩
 have hf:=h2 k (List.mem_cons_self)
 have hf':=h2 k' (List.mem_cons_of_mem _ hk')
 have hne:k'≠x.card.key:=by rw [hx]; exact fun e=>h3.1 k' hk' e.symm
 obtain ⟨g1,g2⟩:=a8u (most:=q9 32) hs (e:=x) (.inl (by rw [hx]; exact hf.1)) hne
 rw [g1,g2]; exact hf'
open Go.Proofs.YtmghjcbabebanaaGreat
attribute [local irreducible] C9 D5 D8 D9 F3 F5 G9 I4 J6 K3 K8 N9 P6 P9 R3 R8 R9 U0 bsr cmpL j6 l6 l9 mAt mg mgL shD shU sink y5
@[simp] abbrev b6P (a:Nat) (b:l9E) (c:l9E) (d:Entry) (e:l9E) (f:l9E):Heap:=[(o_ a 10 (mE (b++(c++(d :: (e++f))))))]
@[simp] abbrev d2z (a:Nat) (b:Nat) (c:Nat) (d:Nat):Fr:=(mkF 220 [(0,(AV.osl 0 a 10 0 b)),(1,(iN c)),(10,(iN d))])
@[simp] abbrev d2y (a:Nat) (b:Nat) (c:Nat):Fr:=(mkF 220 [(0,(AV.osl 0 a 10 0 b)),(10,(iN c)),(13,(iN ((c - 1))))])
theorem c3i (cmp:Entry->Entry->Int) (f:Nat) (xs:List AV) (A R1 R2 B:l9E) (x:Entry) (a p b n g i:Nat) (l:l9E) (hc:h9E cmp f xs) (hxs:AV.bdds 1 xs=true) (hn:n=l.length) (hnb:n < 1048576) (hl:l=A++(x :: (R1++(R2++B)))) (hA:a=A.length) (hp:p=a+1) (hpb:p<=b) (hbn:b<=n) (hi:i=p+R1.length) (hib:i<=b) (hs:i=bsr (fun c=>decide (cmp (nth l c) (nth l a) < 0)) (b - p) p b):AC 219 [(AV.osl 0 g 10 0 n),(AV.int .i64 (a:Int)),(AV.int .i64 (p:Int)),(AV.int .i64 (b:Int)),(AV.func f xs)] [(o_ g 10 (List.map Entry.row l))] ((AV.tup []),(b6P g A R1 x R2 B)):=by
 have hfin:shU (i - 1 - a) a l=A++(R1++(x :: (R2++B))):=by rw [hl,show i - 1 - a=R1.length by omega]; exact a5i x R1 A (R2++B) a hA
 exact r9 (fn:=Tryz.f219) (ann:=Y0) (Has.o Tryz.func219) (.r (.y 2 (iW ((p:Int) - (a:Int))) (AV.int .i64 ((p - a:Nat):Int)) Yes.o (.y 3 (AV.bool (((p - a:Nat):Int) == 1)) (AV.bool true) (Yes.b b1Q) (.ru (.s (.g (.loop (d2z g n a i) (show j6 (l9 Tryz.prog (X Y0) (x9 Tryz.f219 0)) (some [0,1,4,10,11]) (some [0,1,10]) (mkF 220 [(0,(AV.osl 0 g 10 0 n)),(1,(AV.int .i64 (a:Int))),(4,(AV.func f xs)),(10,(AV.int .i64 (p:Int))),(11,(AV.int .i64 (b:Int)))]) [(o_ g 10 (List.map Entry.row l))] (.exit 0) (d2z g n a i) [(o_ g 10 (List.map Entry.row l))] from (by rw [hs]; exact c3e cmp f xs hc a n g l hn hnb ow (b - p) p b ow ow ow)) (.r (.g (.loop (d2y g n i) (show j6 (l9 Tryz.prog (X Y0) (x9 Tryz.f219 1)) (some [0,10,13]) (some [0,10,13]) (mkF 220 [(0,(AV.osl 0 g 10 0 n)),(10,(AV.int .i64 (i:Int))),(13,(AV.int .i64 (a:Int)))]) [(o_ g 10 (List.map Entry.row l))] (.exit 2) (d2y g n i) [(o_ g 10 (List.map Entry.row (shU (i - 1 - a) a l)))] from (c2Z i n g ow ow hnb (i - 1 - a) l a _ ow hn (c3a _ _ _ _ _ _))) (.q 1 (AV.tup []) (by (try delta b6P); rw [hfin]))))))))))))
@[simp] abbrev d2x (a:Nat) (b:Nat) (c:Nat) (d:Nat):Fr:=(mkF 220 [(0,(AV.osl 0 a 10 0 b)),(2,(iN c)),(14,(iN d))])
@[simp] abbrev d4C (a:Nat) (b:Nat) (c:Nat):Fr:=(mkF 220 [(0,(AV.osl 0 a 10 0 b)),(14,(iN c)),(17,(iN c))])
theorem c3h (cmp:Entry->Entry->Int) (f:Nat) (xs:List AV) (A L1 L2 B:l9E) (y:Entry) (a p b n g i:Nat) (l:l9E) (hc:h9E cmp f xs) (hxs:AV.bdds 1 xs=true) (hn:n=l.length) (hnb:n < 1048576) (hl:l=A++(L1++(L2++(y :: B)))) (hA:a=A.length) (hi:i=a+L1.length) (hp:p=i+L2.length) (h1:p≠a+1) (hb:b=p+1) (hbn:b<=n) (hs:i=bsr (fun c=>!decide (cmp (nth l p) (nth l c) < 0)) (p - a) a p):AC 219 [(AV.osl 0 g 10 0 n),(AV.int .i64 (a:Int)),(AV.int .i64 (p:Int)),(AV.int .i64 (b:Int)),(AV.func f xs)] [(o_ g 10 (List.map Entry.row l))] ((AV.tup []),(b6P g A L1 y L2 B)):=by
 have hfin:shD (p - i) p l=A++(L1++(y :: (L2++B))):=by rw [hl,show p - i=L2.length by omega,show A++(L1++(L2++(y :: B)))=(A++L1)++(L2++(y :: B)) by simp,a5j y L2.length (A++L1) L2 B p rfl yg_]; simp
 exact r9 (fn:=Tryz.f219) (ann:=Y0) (Has.o Tryz.func219) (.r (.y 2 (iW ((p:Int) - (a:Int))) (AV.int .i64 ((p - a:Nat):Int)) Yes.o (.y 3 (AV.bool (((p - a:Nat):Int) == 1)) (AV.bool false) (Yes.b rU) (.rn (.y 2 (iW ((b:Int) - (p:Int))) (AV.int .i64 ((b - p:Nat):Int)) Yes.o (.y 3 (AV.bool (((b - p:Nat):Int) == 1)) (AV.bool true) (Yes.b b1Q) (.ru (.s (.g (.loop (d2x g n p i) (show j6 (l9 Tryz.prog (X Y0) (x9 Tryz.f219 2)) (some [0,2,4,14,15]) (some [0,2,14]) (mkF 220 [(0,(AV.osl 0 g 10 0 n)),(2,(AV.int .i64 (p:Int))),(4,(AV.func f xs)),(14,(AV.int .i64 (a:Int))),(15,(AV.int .i64 (p:Int)))]) [(o_ g 10 (List.map Entry.row l))] (.exit 4) (d2x g n p i) [(o_ g 10 (List.map Entry.row l))] from (by rw [hs]; exact c3d cmp f xs hc p n g l hn hnb ow (p - a) a p ow ow ow)) (.r (.g (.loop (d4C g n i) (c3c i n g hnb (p - i) p l ow hn ow) (.q 1 (AV.tup []) (by (try delta b6P); rw [hfin])))))))))))))))
@[simp] abbrev b6O (a:Nat) (b:Nat) (c:Nat) (d:Nat) (e:Nat) (f:Nat) (g:List AV) (h:Nat) (i:Nat):Fr:=(mkF 220 [(0,(AV.osl 0 a 10 0 b)),(1,(iN c)),(2,(iN d)),(3,(iN e)),(4,(AV.func f g)),(18,(iN h)),(19,(iN ((h+d)))),(20,(iN i))])
@[simp] abbrev c6H (a:Nat) (b:Nat) (c:Nat) (d:Nat) (e:l9E):Heap:=[(o_ a 10 (mE (P9 b c ((d+c) - b) e)))]
theorem M7 {p:Prop} (h:p:=by (try delta c6H); first | (exfalso; omega) | ((first | rw [if_pos ow] at e1 | rw [if_neg ow] at e1); (first | rw [if_pos ow] at e2 | rw [if_neg ow] at e2); (first | rw [if_pos ow] at e3 | rw [if_neg ow] at e3); rw [e1,e2,e3])):p:=h
set_option maxHeartbeats 4000000 in
theorem c3g (cmp:Entry->Entry->Int) (f:Nat) (xs:List AV) (A L1 L2 R1 R2 B:l9E) (a p b n g i mid Nz:Nat) (l:l9E) (hc:h9E cmp f xs) (hxs:AV.bdds 1 xs=true) (hn:n=l.length) (hnb:n < 1048576) (ih_at:∀ (a p b n g:Nat) (l:l9E),n=l.length->n < 1048576->a < p->p < b->b<=n->b - a < Nz->Srt (ltF cmp) ((l.drop a).take (p - a))->Srt (ltF cmp) ((l.drop p).take (b - p))->∀ H:Heap,AC 219 [(AV.osl 0 g 10 0 n),(AV.int .i64 (a:Int)),(AV.int .i64 (p:Int)),(AV.int .i64 (b:Int)),(AV.func f xs)] (([(o_ g 10 (List.map Entry.row l))]:Heap)++H) (.tup [],([(o_ g 10 (List.map Entry.row (mAt (ltF cmp) a p b l)))]:Heap)++H)) (hl:l=A++(L1++(L2++(R1++(R2++B))))) (hA:a=A.length) (hi:i=a+L1.length) (hp:p=i+L2.length) (hR1:mid=i+R1.length) (hb:b=p+R1.length+R2.length) (hbn:b<=n) (hap:a < p) (hpb:p < b) (h1:p≠a+1) (h2:b≠p+1) (hmid:mid=(a+b) / 2) (hNz:b - a<=Nz) (hgt:mid < p) (hs:i=bsr (fun c=>!decide (cmp (nth l (mid+p - 1 - c)) (nth l c) < 0)) (mid - (mid+p - b)) (mid+p - b) mid) (hlo:mid+p - b<=i) (hhi:i<=mid) (q1:Srt (ltF cmp) L1) (q2:Srt (ltF cmp) L2) (q3:Srt (ltF cmp) R1) (q4:Srt (ltF cmp) R2):AC 219 [(AV.osl 0 g 10 0 n),(AV.int .i64 (a:Int)),(AV.int .i64 (p:Int)),(AV.int .i64 (b:Int)),(AV.func f xs)] [(o_ g 10 (List.map Entry.row l))] ((AV.tup []),[(o_ g 10 (List.map Entry.row (A++(mg (ltF cmp) L1 R1++(mg (ltF cmp) L2 R2++B)))))]):=by
 have hll:n=A.length+L1.length+L2.length+R1.length+R2.length+B.length:=by rw [hn,hl]; simp; omega
 have e1:=sm1 A L1 L2 R1 R2 B hl (s:=i) (m:=p) (e:=mid+p - i) ow hp ow
 have e2:=sm2 (ltF cmp) A L1 R1 (L2++(R2++B)) (a:=a) (s:=i) (mid:=mid) hA hi hR1
 have e3:=sm3 (ltF cmp) A (mg (ltF cmp) L1 R1) L2 R2 B (mid:=mid) (e:=mid+p - i) (b:=b) b1P ow ow
 have hrot:0 < L2.length->0 < R1.length->_:=tY (A++L1) L2 R1 (R2++B) (l:=l) (by rw [hl]; simp) (a:=i) (m:=p) (b:=mid+p - i) yg_ hp ow
 have hlen2:(A++(mg (ltF cmp) L1 R1++(L2++(R2++B)))).length=n:=by rw [hll]; simp [sM]; omega
 have hlen1:(A++(L1++(R1++(L2++(R2++B))))).length=n:=by rw [hll]; simp; omega
 exact r9 (fn:=Tryz.f219) (ann:=Y0) (Has.o Tryz.func219) (.r (.y 2 (iW ((p:Int) - (a:Int))) (AV.int .i64 ((p - a:Nat):Int)) Yes.o (.y 3 (AV.bool (((p - a:Nat):Int) == 1)) (AV.bool false) (Yes.b rU) (.rn (.y 2 (iW ((b:Int) - (p:Int))) (AV.int .i64 ((b - p:Nat):Int)) Yes.o (.y 3 (AV.bool (((b - p:Nat):Int) == 1)) (AV.bool false) (Yes.b rU) (.rn (.y 2 (iW ((a:Int)+(b:Int))) (AV.int .i64 ((a+b:Nat):Int)) Yes.o (.y 5 (iW (Int.fdiv (IntKind.u64.wrap ((a+b:Nat):Int)) (2 ^ (min (Int.toNat 1) 64)))) (AV.int .i64 (mid:Int)) (Yes.int (dZ ow ow)) (.s (.y 2 (iW ((mid:Int)+(p:Int))) (AV.int .i64 ((mid+p:Nat):Int)) Yes.o (.s (.s (.y 2 (AV.bool (decide ((p:Int) > (mid:Int)))) (AV.bool true) (Yes.b (by exact decide_eq_true ow)) (.ru (.y 2 (iW (((mid+p:Nat):Int) - (b:Int))) (AV.int .i64 ((mid+p - b:Nat):Int)) Yes.o (.s (.s (.y 1 (iW (((mid+p:Nat):Int) - 1)) (AV.int .i64 ((mid+p - 1:Nat):Int)) Yes.o (.g (.loop (b6O g n a p b f xs mid i) (show j6 (l9 Tryz.prog (X Y0) (x9 Tryz.f219 4)) (some [0,1,2,3,4,18,19,20,21,22]) (some [0,1,2,3,4,18,19,20]) (mkF 220 [(0,(AV.osl 0 g 10 0 n)),(1,(AV.int .i64 (a:Int))),(2,(AV.int .i64 (p:Int))),(3,(AV.int .i64 (b:Int))),(4,(AV.func f xs)),(18,(AV.int .i64 (mid:Int))),(19,(AV.int .i64 ((mid+p:Nat):Int))),(20,(AV.int .i64 ((mid+p - b:Nat):Int))),(21,(AV.int .i64 (mid:Int))),(22,(AV.int .i64 ((mid+p - 1:Nat):Int)))]) [(o_ g 10 (List.map Entry.row l))] (.exit 8) (b6O g n a p b f xs mid i) [(o_ g 10 (List.map Entry.row l))] from (by rw [hs]; exact a7y cmp f xs hc a p b mid (mid+p) (mid+p - 1) n g l hn hnb (mid - ((mid+p - b))) (mid+p - b) mid ow ow ow)) (.r (.y 2 (iW ((((mid+p):Nat):Int) - (i:Int))) (AV.int .i64 (((mid+p) - i:Nat):Int)) Yes.o (.s (.two (decide ((i:Int) < (p:Int))) (fun h1 h1'=>(.u2 (.g (.two (decide ((p:Int) < (((mid+p) - i:Nat):Int))) (fun h2 h2'=>(.r (.ch 5 (c6H g i p mid l) (b9h f xs i p ((mid+p) - i) n g l u7 u7 u7 u7 u7 u7 ((hrot ow ow).1) ((hrot ow ow).2.1) ((hrot ow ow).2.2) []) (.s (.two (decide ((a:Int) < (i:Int))) (fun h3 h3'=>(.u2 (.g (.two (decide ((i:Int) < (mid:Int))) (fun h4 h4'=>(.r (.ch 5 [(o_ g 10 (List.map Entry.row (mAt (ltF cmp) a i mid (P9 i p ((mid+p) - i) l))))] (ih_at a i mid n g (P9 i p ((mid+p) - i) l) pO u7 u7 u7 u7 u7 pK pJ []) (.s (.two (decide ((mid:Int) < (((mid+p) - i:Nat):Int))) (fun h5 h5'=>(.u2 (.g (.two (decide ((((mid+p) - i:Nat):Int) < (b:Int))) (fun h6 h6'=>(.r (.ch 5 [(o_ g 10 (List.map Entry.row (mAt (ltF cmp) mid ((mid+p) - i) b (mAt (ltF cmp) a i mid (P9 i p ((mid+p) - i) l)))))] (ih_at mid ((mid+p) - i) b n g (mAt (ltF cmp) a i mid (P9 i p ((mid+p) - i) l)) U9 u7 u7 u7 u7 u7 U8 U7 []) (.q 1 (AV.tup []) M7)))) (fun h6 h6'=>(.q 1 (AV.tup []) M7)))))) (fun h5 h5'=>(.n2 (.g (.n (.q 1 (AV.tup []) M7)))))))))) (fun h4 h4'=>(.r (.two (decide ((mid:Int) < (((mid+p) - i:Nat):Int))) (fun h5 h5'=>(.u2 (.g (.two (decide ((((mid+p) - i:Nat):Int) < (b:Int))) (fun h6 h6'=>(.r (.ch 5 [(o_ g 10 (List.map Entry.row (mAt (ltF cmp) mid ((mid+p) - i) b (P9 i p ((mid+p) - i) l))))] (ih_at mid ((mid+p) - i) b n g (P9 i p ((mid+p) - i) l) U9 u7 u7 u7 u7 u7 U8 U7 []) (.q 1 (AV.tup []) M7)))) (fun h6 h6'=>(.q 1 (AV.tup []) M7)))))) (fun h5 h5'=>(.n2 (.g (.n (.q 1 (AV.tup []) M7)))))))))))) (fun h3 h3'=>(.n2 (.rn (.two (decide ((mid:Int) < (((mid+p) - i:Nat):Int))) (fun h4 h4'=>(.u2 (.g (.two (decide ((((mid+p) - i:Nat):Int) < (b:Int))) (fun h5 h5'=>(.r (.ch 5 [(o_ g 10 (List.map Entry.row (mAt (ltF cmp) mid ((mid+p) - i) b (P9 i p ((mid+p) - i) l))))] (ih_at mid ((mid+p) - i) b n g (P9 i p ((mid+p) - i) l) U9 u7 u7 u7 u7 u7 U8 U7 []) (.q 1 (AV.tup []) M7)))) (fun h5 h5'=>(.q 1 (AV.tup []) M7)))))) (fun h4 h4'=>(.n2 (.g (.n (.q 1 (AV.tup []) M7)))))))))))))) (fun h2 h2'=>(.r (.two (decide ((a:Int) < (i:Int))) (fun h3 h3'=>(.u2 (.g (.two (decide ((i:Int) < (mid:Int))) (fun h4 h4'=>(.r (.ch 5 [(o_ g 10 (List.map Entry.row (mAt (ltF cmp) a i mid l)))] (ih_at a i mid n g l pO u7 u7 u7 u7 u7 pK pJ []) (.s (.two (decide ((mid:Int) < (((mid+p) - i:Nat):Int))) (fun h5 h5'=>(.u2 (.g (.two (decide ((((mid+p) - i:Nat):Int) < (b:Int))) (fun h6 h6'=>(.r (.ch 5 [(o_ g 10 (List.map Entry.row (mAt (ltF cmp) mid ((mid+p) - i) b (mAt (ltF cmp) a i mid l))))] (ih_at mid ((mid+p) - i) b n g (mAt (ltF cmp) a i mid l) U9 u7 u7 u7 u7 u7 U8 U7 []) (.q 1 (AV.tup []) M7)))) (fun h6 h6'=>(.q 1 (AV.tup []) M7)))))) (fun h5 h5'=>(.n2 (.g (.n (.q 1 (AV.tup []) M7)))))))))) (fun h4 h4'=>(.r (.two (decide ((mid:Int) < (((mid+p) - i:Nat):Int))) (fun h5 h5'=>(.u2 (.g (.two (decide ((((mid+p) - i:Nat):Int) < (b:Int))) (fun h6 h6'=>(.r (.ch 5 [(o_ g 10 (List.map Entry.row (mAt (ltF cmp) mid ((mid+p) - i) b l)))] (ih_at mid ((mid+p) - i) b n g l U9 u7 u7 u7 u7 u7 U8 U7 []) (.q 1 (AV.tup []) M7)))) (fun h6 h6'=>(.q 1 (AV.tup []) M7)))))) (fun h5 h5'=>(.n2 (.g (.n (.q 1 (AV.tup []) M7)))))))))))) (fun h3 h3'=>(.n2 (.rn (.two (decide ((mid:Int) < (((mid+p) - i:Nat):Int))) (fun h4 h4'=>(.u2 (.g (.two (decide ((((mid+p) - i:Nat):Int) < (b:Int))) (fun h5 h5'=>(.r (.ch 5 [(o_ g 10 (List.map Entry.row (mAt (ltF cmp) mid ((mid+p) - i) b l)))] (ih_at mid ((mid+p) - i) b n g l U9 u7 u7 u7 u7 u7 U8 U7 []) (.q 1 (AV.tup []) M7)))) (fun h5 h5'=>(.q 1 (AV.tup []) M7)))))) (fun h4 h4'=>(.n2 (.g (.n (.q 1 (AV.tup []) M7)))))))))))))))) (fun h1 h1'=>(.n2 (.rn (.two (decide ((a:Int) < (i:Int))) (fun h2 h2'=>(.u2 (.g (.two (decide ((i:Int) < (mid:Int))) (fun h3 h3'=>(.r (.ch 5 [(o_ g 10 (List.map Entry.row (mAt (ltF cmp) a i mid l)))] (ih_at a i mid n g l pO u7 u7 u7 u7 u7 pK pJ []) (.s (.two (decide ((mid:Int) < (((mid+p) - i:Nat):Int))) (fun h4 h4'=>(.u2 (.g (.two (decide ((((mid+p) - i:Nat):Int) < (b:Int))) (fun h5 h5'=>(.r (.ch 5 [(o_ g 10 (List.map Entry.row (mAt (ltF cmp) mid ((mid+p) - i) b (mAt (ltF cmp) a i mid l))))] (ih_at mid ((mid+p) - i) b n g (mAt (ltF cmp) a i mid l) U9 u7 u7 u7 u7 u7 U8 U7 []) (.q 1 (AV.tup []) M7)))) (fun h5 h5'=>(.q 1 (AV.tup []) M7)))))) (fun h4 h4'=>(.n2 (.g (.n (.q 1 (AV.tup []) M7)))))))))) (fun h3 h3'=>(.r (.two (decide ((mid:Int) < (((mid+p) - i:Nat):Int))) (fun h4 h4'=>(.u2 (.g (.two (decide ((((mid+p) - i:Nat):Int) < (b:Int))) (fun h5 h5'=>(.r (.ch 5 [(o_ g 10 (List.map Entry.row (mAt (ltF cmp) mid ((mid+p) - i) b l)))] (ih_at mid ((mid+p) - i) b n g l U9 u7 u7 u7 u7 u7 U8 U7 []) (.q 1 (AV.tup []) M7)))) (fun h5 h5'=>(.q 1 (AV.tup []) M7)))))) (fun h4 h4'=>(.n2 (.g (.n (.q 1 (AV.tup []) M7)))))))))))) (fun h2 h2'=>(.n2 (.rn (.two (decide ((mid:Int) < (((mid+p) - i:Nat):Int))) (fun h3 h3'=>(.u2 (.g (.two (decide ((((mid+p) - i:Nat):Int) < (b:Int))) (fun h4 h4'=>(.r (.ch 5 [(o_ g 10 (List.map Entry.row (mAt (ltF cmp) mid ((mid+p) - i) b l)))] (ih_at mid ((mid+p) - i) b n g l U9 u7 u7 u7 u7 u7 U8 U7 []) (.q 1 (AV.tup []) M7)))) (fun h4 h4'=>(.q 1 (AV.tup []) M7)))))) (fun h3 h3'=>(.n2 (.g (.n (.q 1 (AV.tup []) M7))))))))))))))))))))))))))))))))))))))
set_option maxHeartbeats 4000000 in
theorem c3f (cmp:Entry->Entry->Int) (f:Nat) (xs:List AV) (A L1 L2 R1 R2 B:l9E) (a p b n g i mid Nz:Nat) (l:l9E) (hc:h9E cmp f xs) (hxs:AV.bdds 1 xs=true) (hn:n=l.length) (hnb:n < 1048576) (ih_at:∀ (a p b n g:Nat) (l:l9E),n=l.length->n < 1048576->a < p->p < b->b<=n->b - a < Nz->Srt (ltF cmp) ((l.drop a).take (p - a))->Srt (ltF cmp) ((l.drop p).take (b - p))->∀ H:Heap,AC 219 [(AV.osl 0 g 10 0 n),(AV.int .i64 (a:Int)),(AV.int .i64 (p:Int)),(AV.int .i64 (b:Int)),(AV.func f xs)] (([(o_ g 10 (List.map Entry.row l))]:Heap)++H) (.tup [],([(o_ g 10 (List.map Entry.row (mAt (ltF cmp) a p b l)))]:Heap)++H)) (hl:l=A++(L1++(L2++(R1++(R2++B))))) (hA:a=A.length) (hi:i=a+L1.length) (hp:p=i+L2.length) (hR1:mid=i+R1.length) (hb:b=p+R1.length+R2.length) (hbn:b<=n) (hap:a < p) (hpb:p < b) (h1:p≠a+1) (h2:b≠p+1) (hmid:mid=(a+b) / 2) (hNz:b - a<=Nz) (hgt:p<=mid) (hs:i=bsr (fun c=>!decide (cmp (nth l (mid+p - 1 - c)) (nth l c) < 0)) (p - (a)) (a) p) (hlo:a<=i) (hhi:i<=p) (q1:Srt (ltF cmp) L1) (q2:Srt (ltF cmp) L2) (q3:Srt (ltF cmp) R1) (q4:Srt (ltF cmp) R2):AC 219 [(AV.osl 0 g 10 0 n),(AV.int .i64 (a:Int)),(AV.int .i64 (p:Int)),(AV.int .i64 (b:Int)),(AV.func f xs)] [(o_ g 10 (List.map Entry.row l))] ((AV.tup []),[(o_ g 10 (List.map Entry.row (A++(mg (ltF cmp) L1 R1++(mg (ltF cmp) L2 R2++B)))))]):=by
 have hll:n=A.length+L1.length+L2.length+R1.length+R2.length+B.length:=by rw [hn,hl]; simp; omega
 have e1:=sm1 A L1 L2 R1 R2 B hl (s:=i) (m:=p) (e:=mid+p - i) ow hp ow
 have e2:=sm2 (ltF cmp) A L1 R1 (L2++(R2++B)) (a:=a) (s:=i) (mid:=mid) hA hi hR1
 have e3:=sm3 (ltF cmp) A (mg (ltF cmp) L1 R1) L2 R2 B (mid:=mid) (e:=mid+p - i) (b:=b) b1P ow ow
 have hrot:0 < L2.length->0 < R1.length->_:=tY (A++L1) L2 R1 (R2++B) (l:=l) (by rw [hl]; simp) (a:=i) (m:=p) (b:=mid+p - i) yg_ hp ow
 have hlen2:(A++(mg (ltF cmp) L1 R1++(L2++(R2++B)))).length=n:=by rw [hll]; simp [sM]; omega
 have hlen1:(A++(L1++(R1++(L2++(R2++B))))).length=n:=by rw [hll]; simp; omega
 exact r9 (fn:=Tryz.f219) (ann:=Y0) (Has.o Tryz.func219) (.r (.y 2 (iW ((p:Int) - (a:Int))) (AV.int .i64 ((p - a:Nat):Int)) Yes.o (.y 3 (AV.bool (((p - a:Nat):Int) == 1)) (AV.bool false) (Yes.b rU) (.rn (.y 2 (iW ((b:Int) - (p:Int))) (AV.int .i64 ((b - p:Nat):Int)) Yes.o (.y 3 (AV.bool (((b - p:Nat):Int) == 1)) (AV.bool false) (Yes.b rU) (.rn (.y 2 (iW ((a:Int)+(b:Int))) (AV.int .i64 ((a+b:Nat):Int)) Yes.o (.y 5 (iW (Int.fdiv (IntKind.u64.wrap ((a+b:Nat):Int)) (2 ^ (min (Int.toNat 1) 64)))) (AV.int .i64 (mid:Int)) (Yes.int (dZ ow ow)) (.s (.y 2 (iW ((mid:Int)+(p:Int))) (AV.int .i64 ((mid+p:Nat):Int)) Yes.o (.s (.s (.y 2 (AV.bool (decide ((p:Int) > (mid:Int)))) (AV.bool false) (Yes.b (by exact decide_eq_false ow)) (.rn (.s (.s (.y 1 (iW (((mid+p:Nat):Int) - 1)) (AV.int .i64 ((mid+p - 1:Nat):Int)) Yes.o (.g (.loop (b6O g n a p b f xs mid i) (show j6 (l9 Tryz.prog (X Y0) (x9 Tryz.f219 4)) (some [0,1,2,3,4,18,19,20,21,22]) (some [0,1,2,3,4,18,19,20]) (mkF 220 [(0,(AV.osl 0 g 10 0 n)),(1,(AV.int .i64 (a:Int))),(2,(AV.int .i64 (p:Int))),(3,(AV.int .i64 (b:Int))),(4,(AV.func f xs)),(18,(AV.int .i64 (mid:Int))),(19,(AV.int .i64 ((mid+p:Nat):Int))),(20,(AV.int .i64 (a:Int))),(21,(AV.int .i64 (p:Int))),(22,(AV.int .i64 ((mid+p - 1:Nat):Int)))]) [(o_ g 10 (List.map Entry.row l))] (.exit 8) (b6O g n a p b f xs mid i) [(o_ g 10 (List.map Entry.row l))] from (by rw [hs]; exact a7y cmp f xs hc a p b mid (mid+p) (mid+p - 1) n g l hn hnb (p - (a)) a p ow ow ow)) (.r (.y 2 (iW ((((mid+p):Nat):Int) - (i:Int))) (AV.int .i64 (((mid+p) - i:Nat):Int)) Yes.o (.s (.two (decide ((i:Int) < (p:Int))) (fun h1 h1'=>(.u2 (.g (.two (decide ((p:Int) < (((mid+p) - i:Nat):Int))) (fun h2 h2'=>(.r (.ch 5 (c6H g i p mid l) (b9h f xs i p ((mid+p) - i) n g l u7 u7 u7 u7 u7 u7 ((hrot ow ow).1) ((hrot ow ow).2.1) ((hrot ow ow).2.2) []) (.s (.two (decide ((a:Int) < (i:Int))) (fun h3 h3'=>(.u2 (.g (.two (decide ((i:Int) < (mid:Int))) (fun h4 h4'=>(.r (.ch 5 [(o_ g 10 (List.map Entry.row (mAt (ltF cmp) a i mid (P9 i p ((mid+p) - i) l))))] (ih_at a i mid n g (P9 i p ((mid+p) - i) l) pO u7 u7 u7 u7 u7 pK pJ []) (.s (.two (decide ((mid:Int) < (((mid+p) - i:Nat):Int))) (fun h5 h5'=>(.u2 (.g (.two (decide ((((mid+p) - i:Nat):Int) < (b:Int))) (fun h6 h6'=>(.r (.ch 5 [(o_ g 10 (List.map Entry.row (mAt (ltF cmp) mid ((mid+p) - i) b (mAt (ltF cmp) a i mid (P9 i p ((mid+p) - i) l)))))] (ih_at mid ((mid+p) - i) b n g (mAt (ltF cmp) a i mid (P9 i p ((mid+p) - i) l)) U9 u7 u7 u7 u7 u7 U8 U7 []) (.q 1 (AV.tup []) M7)))) (fun h6 h6'=>(.q 1 (AV.tup []) M7)))))) (fun h5 h5'=>(.n2 (.g (.n (.q 1 (AV.tup []) M7)))))))))) (fun h4 h4'=>(.r (.two (decide ((mid:Int) < (((mid+p) - i:Nat):Int))) (fun h5 h5'=>(.u2 (.g (.two (decide ((((mid+p) - i:Nat):Int) < (b:Int))) (fun h6 h6'=>(.r (.ch 5 [(o_ g 10 (List.map Entry.row (mAt (ltF cmp) mid ((mid+p) - i) b (P9 i p ((mid+p) - i) l))))] (ih_at mid ((mid+p) - i) b n g (P9 i p ((mid+p) - i) l) U9 u7 u7 u7 u7 u7 U8 U7 []) (.q 1 (AV.tup []) M7)))) (fun h6 h6'=>(.q 1 (AV.tup []) M7)))))) (fun h5 h5'=>(.n2 (.g (.n (.q 1 (AV.tup []) M7)))))))))))) (fun h3 h3'=>(.n2 (.rn (.two (decide ((mid:Int) < (((mid+p) - i:Nat):Int))) (fun h4 h4'=>(.u2 (.g (.two (decide ((((mid+p) - i:Nat):Int) < (b:Int))) (fun h5 h5'=>(.r (.ch 5 [(o_ g 10 (List.map Entry.row (mAt (ltF cmp) mid ((mid+p) - i) b (P9 i p ((mid+p) - i) l))))] (ih_at mid ((mid+p) - i) b n g (P9 i p ((mid+p) - i) l) U9 u7 u7 u7 u7 u7 U8 U7 []) (.q 1 (AV.tup []) M7)))) (fun h5 h5'=>(.q 1 (AV.tup []) M7)))))) (fun h4 h4'=>(.n2 (.g (.n (.q 1 (AV.tup []) M7)))))))))))))) (fun h2 h2'=>(.r (.two (decide ((a:Int) < (i:Int))) (fun h3 h3'=>(.u2 (.g (.two (decide ((i:Int) < (mid:Int))) (fun h4 h4'=>(.r (.ch 5 [(o_ g 10 (List.map Entry.row (mAt (ltF cmp) a i mid l)))] (ih_at a i mid n g l pO u7 u7 u7 u7 u7 pK pJ []) (.s (.two (decide ((mid:Int) < (((mid+p) - i:Nat):Int))) (fun h5 h5'=>(.u2 (.g (.two (decide ((((mid+p) - i:Nat):Int) < (b:Int))) (fun h6 h6'=>(.r (.ch 5 [(o_ g 10 (List.map Entry.row (mAt (ltF cmp) mid ((mid+p) - i) b (mAt (ltF cmp) a i mid l))))] (ih_at mid ((mid+p) - i) b n g (mAt (ltF cmp) a i mid l) U9 u7 u7 u7 u7 u7 U8 U7 []) (.q 1 (AV.tup []) M7)))) (fun h6 h6'=>(.q 1 (AV.tup []) M7)))))) (fun h5 h5'=>(.n2 (.g (.n (.q 1 (AV.tup []) M7)))))))))) (fun h4 h4'=>(.r (.two (decide ((mid:Int) < (((mid+p) - i:Nat):Int))) (fun h5 h5'=>(.u2 (.g (.two (decide ((((mid+p) - i:Nat):Int) < (b:Int))) (fun h6 h6'=>(.r (.ch 5 [(o_ g 10 (List.map Entry.row (mAt (ltF cmp) mid ((mid+p) - i) b l)))] (ih_at mid ((mid+p) - i) b n g l U9 u7 u7 u7 u7 u7 U8 U7 []) (.q 1 (AV.tup []) M7)))) (fun h6 h6'=>(.q 1 (AV.tup []) M7)))))) (fun h5 h5'=>(.n2 (.g (.n (.q 1 (AV.tup []) M7)))))))))))) (fun h3 h3'=>(.n2 (.rn (.two (decide ((mid:Int) < (((mid+p) - i:Nat):Int))) (fun h4 h4'=>(.u2 (.g (.two (decide ((((mid+p) - i:Nat):Int) < (b:Int))) (fun h5 h5'=>(.r (.ch 5 [(o_ g 10 (List.map Entry.row (mAt (ltF cmp) mid ((mid+p) - i) b l)))] (ih_at mid ((mid+p) - i) b n g l U9 u7 u7 u7 u7 u7 U8 U7 []) (.q 1 (AV.tup []) M7)))) (fun h5 h5'=>(.q 1 (AV.tup []) M7)))))) (fun h4 h4'=>(.n2 (.g (.n (.q 1 (AV.tup []) M7)))))))))))))))) (fun h1 h1'=>(.n2 (.rn (.two (decide ((a:Int) < (i:Int))) (fun h2 h2'=>(.u2 (.g (.two (decide ((i:Int) < (mid:Int))) (fun h3 h3'=>(.r (.ch 5 [(o_ g 10 (List.map Entry.row (mAt (ltF cmp) a i mid l)))] (ih_at a i mid n g l pO u7 u7 u7 u7 u7 pK pJ []) (.s (.two (decide ((mid:Int) < (((mid+p) - i:Nat):Int))) (fun h4 h4'=>(.u2 (.g (.two (decide ((((mid+p) - i:Nat):Int) < (b:Int))) (fun h5 h5'=>(.r (.ch 5 [(o_ g 10 (List.map Entry.row (mAt (ltF cmp) mid ((mid+p) - i) b (mAt (ltF cmp) a i mid l))))] (ih_at mid ((mid+p) - i) b n g (mAt (ltF cmp) a i mid l) U9 u7 u7 u7 u7 u7 U8 U7 []) (.q 1 (AV.tup []) M7)))) (fun h5 h5'=>(.q 1 (AV.tup []) M7)))))) (fun h4 h4'=>(.n2 (.g (.n (.q 1 (AV.tup []) M7)))))))))) (fun h3 h3'=>(.r (.two (decide ((mid:Int) < (((mid+p) - i:Nat):Int))) (fun h4 h4'=>(.u2 (.g (.two (decide ((((mid+p) - i:Nat):Int) < (b:Int))) (fun h5 h5'=>(.r (.ch 5 [(o_ g 10 (List.map Entry.row (mAt (ltF cmp) mid ((mid+p) - i) b l)))] (ih_at mid ((mid+p) - i) b n g l U9 u7 u7 u7 u7 u7 U8 U7 []) (.q 1 (AV.tup []) M7)))) (fun h5 h5'=>(.q 1 (AV.tup []) M7)))))) (fun h4 h4'=>(.n2 (.g (.n (.q 1 (AV.tup []) M7)))))))))))) (fun h2 h2'=>(.n2 (.rn (.two (decide ((mid:Int) < (((mid+p) - i:Nat):Int))) (fun h3 h3'=>(.u2 (.g (.two (decide ((((mid+p) - i:Nat):Int) < (b:Int))) (fun h4 h4'=>(.r (.ch 5 [(o_ g 10 (List.map Entry.row (mAt (ltF cmp) mid ((mid+p) - i) b l)))] (ih_at mid ((mid+p) - i) b n g l U9 u7 u7 u7 u7 u7 U8 U7 []) (.q 1 (AV.tup []) M7)))) (fun h4 h4'=>(.q 1 (AV.tup []) M7)))))) (fun h3 h3'=>(.n2 (.g (.n (.q 1 (AV.tup []) M7)))))))))))))))))))))))))))))))))))))
end Go.Proofs.YtmghjcbabebanaaGreat.AM
namespace Go.Proofs.YtmghjcbabebanaaGreat.AM
open Go Go.Proofs.YtmghjcbabebanaaGreat
attribute [local irreducible] C9 D5 D8 D9 F3 F5 G9 I4 J6 K3 K8 N9 P6 P9 R3 R8 R9 Tp.H7 Tp.J8 Tp.card Tp.cards Tp.key Tp.keyT Tp.next Tp.step U0 bsr cmpL j6 l6 l9 mg mgL shD shU sink y5
theorem d0d (cmp:Entry->Entry->Int) (f:Nat) (xs:List AV) (hc:h9E cmp f xs) (hxs:AV.bdds 1 xs=true) (W:R6 (ltF cmp)) (Nz:Nat):∀ (a p b n g:Nat) (l:l9E),n=l.length->n < 1048576->a < p->p < b->b<=n->b - a < Nz ->
 Srt (ltF cmp) ((l.drop a).take (p - a))->Srt (ltF cmp) ((l.drop p).take (b - p))->AC 219 [(AV.osl 0 g 10 0 n),(iN a),(iN p),(iN b),(AV.func f xs)] [(o_ g 10 (mE l))] (.tup [],[(o_ g 10 (mE (mAt (ltF cmp) a p b l)))]):=by
 induction Nz with
 | zero=>intro a p b n g l _ _ _ _ _ h; omega
 | succ Nz ih =>
  intro a p b n g l hn hnb hap hpb hbn hN h7 h8
  by_cases c1:p=a+1
  · obtain ⟨s1,s2,s3,s4⟩:=nN (fun c=>decide (cmp (nth l c) (nth l a) < 0)) (b - p) p b (Nat.le_refl _) ow
    generalize hs:bsr (fun c=>decide (cmp (nth l c) (nth l a) < 0)) (b - p) p b=s at s1 s2 s3 s4
    have hlaw:=mW W (l:=l) (a:=a) (p:=p) (b:=b) (s:=a) (e:=s) ow ow ow h7 h8 ow ow s1 s2 (fun _ h=>s3 h) (fun h=>by omega)
    have hx:(l.drop a).take (p - a)=[nth l a]:=by rw [show p - a=1 by omega]; exact xZ ow
    rw [Nat.sub_self,List.take_zero,Z9,hx,a8d (fun y hy=>by
     obtain ⟨q1,q2⟩:=uM hy ow
     rw [q2]; exact s4 ow)] at hlaw
    rw [hlaw]
    have hl:=four (l:=l) (a:=a) (m:=p) (b:=b) ow ow
    rw [hx,bV (l:=l) (a:=p) (k:=b - p) (s:=s - p) ow,show p+(s - p)=s by omega,show b - p - (s - p)=b - s by omega,List.append_assoc] at hl
    exact c3i cmp f xs (l.take a) ((l.drop p).take (s - p)) ((l.drop s).take (b - s)) (l.drop b) (nth l a) a p b n g s l hc hxs hn hnb hl yg_ c1 ow hbn pI s2 hs.symm
  by_cases c2:b=p+1
  · obtain ⟨s1,s2,s3,s4⟩:=nN (fun c=>!decide (cmp (nth l p) (nth l c) < 0)) (p - a) a p (Nat.le_refl _) ow
    generalize hs:bsr (fun c=>!decide (cmp (nth l p) (nth l c) < 0)) (p - a) a p=s at s1 s2 s3 s4
    have hlaw:=mW W (l:=l) (a:=a) (p:=p) (b:=b) (s:=s) (e:=p) ow ow ow h7 h8 s1 s2 ow ow (fun _ h=>by omega) (fun h _=>by have:=s3 h; simp only [Bool.not_eq_true'] at this; exact this)
    have hx:(l.drop p).take (b - p)=[nth l p]:=by rw [show b - p=1 by omega]; exact xZ ow
    rw [Nat.sub_self,List.take_zero,dW,hx,a8c (fun y hy=>by
     obtain ⟨q1,q2⟩:=uM hy ow
     rw [q2]; simpa [ltF] using s4 ow)] at hlaw
    rw [hlaw]
    have hl:=four (l:=l) (a:=a) (m:=p) (b:=b) ow ow
    rw [hx,bV (l:=l) (a:=a) (k:=p - a) (s:=s - a) ow,show a+(s - a)=s by omega,show p - a - (s - a)=p - s by omega,List.append_assoc] at hl
    exact c3h cmp f xs (l.take a) ((l.drop a).take (s - a)) ((l.drop s).take (p - s)) (l.drop b) (nth l p) a p b n g s l hc hxs hn hnb hl yg_ pI pI c1 c2 hbn hs.symm
  have ih_at:∀ (a p b n g:Nat) (l:l9E),n=l.length->n < 1048576->a < p->p < b->b<=n->b - a < Nz->Srt (ltF cmp) ((l.drop a).take (p - a))->Srt (ltF cmp) ((l.drop p).take (b - p))->∀ H:Heap,AC 219 [(AV.osl 0 g 10 0 n),(iN a),(iN p),(iN b),(AV.func f xs)] (([(o_ g 10 (mE l))]:Heap)++H) (.tup [],([(o_ g 10 (mE (mAt (ltF cmp) a p b l)))]:Heap)++H) :=
   fun a p b n g l q1 q2 q3 q4 q5 q6 q7 q8 H=>(ih a p b n g l q1 q2 q3 q4 q5 q6 q7 q8).ext (by simp [AV.bdds,AV.bdd,hxs]) kr ob ob kr H
  obtain ⟨mid,hmid⟩:∃ mid,mid=(a+b) / 2:=⟨_,rfl⟩
  have go:∀ lo hi,lo<=hi->(∀ s,lo<=s->s<=hi->a<=s/\s<=p/\p<=mid+p - s/\mid+p - s<=b/\(s < p->p < mid+p - s->s < hi)/\(a < s->mid+p - s < b->lo < s)) ->
   (∀ s,s=bsr (fun c=>!decide (cmp (nth l (mid+p - 1 - c)) (nth l c) < 0)) (hi - lo) lo hi->lo<=s->s<=hi->∀ (L1 L2 R1 R2:l9E),l=l.take a++(L1++(L2++(R1++(R2++l.drop b))))->s=a+L1.length->p=s+L2.length->mid=s+R1.length->b=p+R1.length+R2.length->Srt (ltF cmp) L1->Srt (ltF cmp) L2->Srt (ltF cmp) R1->Srt (ltF cmp) R2 ->
    AC 219 [(AV.osl 0 g 10 0 n),(iN a),(iN p),(iN b),(AV.func f xs)] [(o_ g 10 (mE l))] (.tup [],([(o_ g 10 (mE (l.take a++(mg (ltF cmp) L1 R1++(mg (ltF cmp) L2 R2++l.drop b)))))]:Heap))) ->
   AC 219 [(AV.osl 0 g 10 0 n),(iN a),(iN p),(iN b),(AV.func f xs)] [(o_ g 10 (mE l))] (.tup [],([(o_ g 10 (mE (mAt (ltF cmp) a p b l)))]:Heap)):=by
   intro lo hi hlh hb walk
   obtain ⟨s1,s2,s3,s4⟩:=nN (fun c=>!decide (cmp (nth l (mid+p - 1 - c)) (nth l c) < 0)) (hi - lo) lo hi (Nat.le_refl _) hlh
   generalize hs:bsr (fun c=>!decide (cmp (nth l (mid+p - 1 - c)) (nth l c) < 0)) (hi - lo) lo hi=s at s1 s2 s3 s4
   obtain ⟨b1,b2,b3,b4,b5,b6⟩:=hb s s1 s2
   have hlaw:=mW W (l:=l) (a:=a) (p:=p) (b:=b) (s:=s) (e:=mid+p - s) ow ow ow h7 h8 b1 b2 b3 b4 (fun h1 h2=>by
    have:=s4 (b5 h1 h2)
    simp only [Bool.not_eq_false'] at this
    rwa [show mid+p - 1 - s=mid+p - s - 1 by omega] at this) (fun h1 h2=>by
    have:=s3 (b6 h1 h2)
    simp only [Bool.not_eq_true'] at this
    rwa [show mid+p - 1 - (s - 1)=mid+p - s by omega] at this)
   rw [hlaw]
   have hl:=four (l:=l) (a:=a) (m:=p) (b:=b) ow ow
   rw [bV (l:=l) (a:=a) (k:=p - a) (s:=s - a) ow,show a+(s - a)=s by omega,show p - a - (s - a)=p - s by omega,
    bV (l:=l) (a:=p) (k:=b - p) (s:=mid+p - s - p) ow,show p+(mid+p - s - p)=mid+p - s by omega,show b - p - (mid+p - s - p)=b - (mid+p - s) by omega,List.append_assoc,List.append_assoc] at hl
   have q1:=a0T (l:=l) (a:=a) (k:=p - a) (s:=s - a) ow h7
   have q2:=a0T (l:=l) (a:=p) (k:=b - p) (s:=mid+p - s - p) ow h8
   rw [show a+(s - a)=s by omega,show p - a - (s - a)=p - s by omega] at q1
   rw [show p+(mid+p - s - p)=mid+p - s by omega,show b - p - (mid+p - s - p)=b - (mid+p - s) by omega] at q2
   exact walk s hs.symm s1 s2 _ _ _ _ hl pI pI pI (by rw [jI ow,jI ow]; omega) q1.1 q1.2 q2.1 q2.2
  have hA:a=(l.take a).length:=by simp; omega
  by_cases hgt:mid < p
  · refine go (mid+p - b) mid ow (fun s h1 h2=>⟨by omega,by omega,by omega,by omega,fun _ _=>by omega,fun _ _=>by omega⟩) fun s hs h1 h2 L1 L2 R1 R2 hl e1 e2 e3 e4 q1 q2 q3 q4=>?_
    exact c3g cmp f xs (l.take a) L1 L2 R1 R2 (l.drop b) a p b n g s mid Nz l hc hxs hn hnb ih_at hl hA e1 e2 e3 e4 hbn hap hpb c1 c2 hmid ow hgt hs h1 h2 q1 q2 q3 q4
  · refine go a p ow (fun s h1 h2=>⟨by omega,by omega,by omega,by omega,fun _ _=>by omega,fun _ _=>by omega⟩) fun s hs h1 h2 L1 L2 R1 R2 hl e1 e2 e3 e4 q1 q2 q3 q4=>?_
    exact c3f cmp f xs (l.take a) L1 L2 R1 R2 (l.drop b) a p b n g s mid Nz l hc hxs hn hnb ih_at hl hA e1 e2 e3 e4 hbn hap hpb c1 c2 hmid ow ow hs h1 h2 q1 q2 q3 q4
attribute [local irreducible] N8 blk fG mAt mix
theorem c3b (cmp:Entry->Entry->Int) (f:Nat) (xs:List AV) (a p b n g:Nat) (l:l9E) (hc:h9E cmp f xs) (hxs:AV.bdds 1 xs=true) (W:R6 (ltF cmp)) (h1:n=l.length) (h2:n < 1048576) (h3:a < p) (h4:p < b) (h5:b<=n) (h7:Srt (ltF cmp) ((l.drop a).take (p - a))) (h8:Srt (ltF cmp) ((l.drop p).take (b - p))):AC 219 [(AV.osl 0 g 10 0 n),(iN a),(iN p),(iN b),(AV.func f xs)] [(o_ g 10 (mE l))] ((AV.tup []),[(o_ g 10 (mE (mAt (ltF cmp) a p b l)))]):=d0d cmp f xs hc hxs W (b - a+1) a p b n g l h1 h2 h3 h4 h5 ow h7 h8
theorem b8h (cmp:Entry->Entry->Int) (f:Nat) (xs:List AV) (a p b n g:Nat) (l:l9E) (hc:h9E cmp f xs) (hxs:AV.bdds 1 xs=true) (W:R6 (ltF cmp)) (h1:n=l.length) (h2:n < 1048576) (h3:a < p) (h4:p < b) (h5:b<=n) (h7:Srt (ltF cmp) ((l.drop a).take (p - a))) (h8:Srt (ltF cmp) ((l.drop p).take (b - p))) (H:Heap):AC 219 [(AV.osl 0 g 10 0 n),(iN a),(iN p),(iN b),(AV.func f xs)] (([(o_ g 10 (mE l))]:Heap)++H) ((AV.tup []),([(o_ g 10 (mE (mAt (ltF cmp) a p b l)))]:Heap)++H):=(c3b cmp f xs a p b n g l hc hxs W h1 h2 h3 h4 h5 h7 h8).ext jX kr ob ob kr H
def fD:Ann:={ base:=1,fin:=some 1,live:=[(2,[0,1,2,6,7,8]),(7,[0,1,2,6]),(9,[0,1,2,6,7,8])],out:=[(2,[0,1,2,6,7]),(7,[]),(9,[0,1,2,6,7])] }
theorem a2O (cmp:Entry->Entry->Int) (f:Nat) (xs:List AV) (a b n g:Nat) (l:l9E) (hc:h9E cmp f xs) (hxs:AV.bdds 1 xs=true) (W:R6 (ltF cmp)) (hn:n=l.length) (hnb:n < 524288) (hb:b=a+20) (han:a<=n) {eX:Ex} {FX:Fr} {HX:Heap} (k1:(decide ((b:Int)<=(n:Int)))=true->j6 (l9 Tryz.prog (X fD) (x9 Tryz.f209 0)) (some [0,1,2,6,7,8]) (some [0,1,2,6,7]) (mkF 63 [(0,(AV.osl 0 g 10 0 n)),(1,(iN n)),(2,(AV.func f xs)),(6,(iI 20)),(7,(iN b)),(8,(iN (b+20)))]) [(o_ g 10 (mE (y5 cmp a (b - (a+1)) (a+1) l)))] eX FX HX) (k2:(decide ((b:Int)<=(n:Int)))=false->((.exit 0:Ex),(mkF 63 [(0,(AV.osl 0 g 10 0 n)),(1,(iN n)),(2,(AV.func f xs)),(6,(iI 20)),(7,(iN a))]),[(o_ g 10 (mE l))])=(eX,FX,HX)):j6 (l9 Tryz.prog (X fD) (x9 Tryz.f209 0)) (some [0,1,2,6,7,8]) (some [0,1,2,6,7]) (mkF 63 [(0,(AV.osl 0 g 10 0 n)),(1,(iN n)),(2,(AV.func f xs)),(6,(iI 20)),(7,(iN a)),(8,(iN b))]) [(o_ g 10 (mE l))] eX FX HX :=
 I9 (.r (.g (.two (decide ((b:Int)<=(n:Int))) (fun h1 h1'=>(.r (.t 4 (AV.tup []) [(o_ g 10 (mE (y5 cmp a (b - (a+1)) (a+1) l)))] (b1D _ f xs a b n g l aH aH aH aH aH aH []:AC 218 [(AV.osl 0 g 10 0 n),(iN a),(iN b),(AV.func f xs)] [(o_ g 10 (mE l))] ((AV.tup []),([(o_ g 10 (mE (y5 cmp a (b - (a+1)) (a+1) l)))]:Heap))) (.s (.s (.h' [(o_ g 10 (mE (y5 cmp a (b - (a+1)) (a+1) l)))] (.y 2 (iW ((b:Int)+20)) (iN (b+20)) Yes.o (.g (.l (k1 h1)))))))))) (fun h1 h1'=>(.l (k2 h1))))))
theorem b2L (cmp:Entry->Entry->Int) (f:Nat) (xs:List AV) (hc:h9E cmp f xs) (hxs:AV.bdds 1 xs=true) (W:R6 (ltF cmp)) (n g:Nat) (l0:l9E) (hn:n=l0.length) (hnb:n < 524288) (r:Nat):∀ (j a b:Nat) (l:l9E),j+r=n / 20->a=j * 20->b=a+20->l=blk (ltF cmp) 20 j l0 ->
 j6 (l9 Tryz.prog (X fD) (x9 Tryz.f209 0)) (some [0,1,2,6,7,8]) (some [0,1,2,6,7]) (mkF 63 [(0,(AV.osl 0 g 10 0 n)),(1,(iN n)),(2,(AV.func f xs)),(6,(iI 20)),(7,(iN a)),(8,(iN b))]) [(o_ g 10 (mE l))] (.exit 0) (mkF 63 [(0,(AV.osl 0 g 10 0 n)),(1,(iN n)),(2,(AV.func f xs)),(6,(iI 20)),(7,(iN ((n / 20 * 20))))]) [(o_ g 10 (mE (blk (ltF cmp) 20 (n / 20) l0)))]:=by
 induction r with
 | zero =>
  intro j a b l hj ha hb hl
  subst hl
  refine a2O cmp f xs a b n g _ hc hxs W b1O hnb hb ow (fun h=>by simp at h; omega) (fun _=>?_)
  rw [show n / 20=j by omega,<- ha]
 | succ r ih =>
  intro j a b l hj ha hb hl
  subst hl
  refine a2O cmp f xs a b n g _ hc hxs W b1O hnb hb ow (fun h=>?_) (fun h=>by simp at h; omega)
  rw [a7h cmp ha hb ow]
  exact ih (j+1) b (b+20) _ ow ow rfl rfl
theorem a2N (cmp:Entry->Entry->Int) (f:Nat) (xs:List AV) (bs a b n g:Nat) (l:l9E) (hc:h9E cmp f xs) (hxs:AV.bdds 1 xs=true) (W:R6 (ltF cmp)) (hn:n=l.length) (hnb:n < 524288) (hb:b=a+2 * bs) (hbs:0 < bs) (hbn:bs < 524288) (han:a<=n) (hs7:b<=n->Srt (ltF cmp) ((l.drop a).take (a+bs - a))) (hs8:b<=n->Srt (ltF cmp) ((l.drop (a+bs)).take (b - (a+bs)))) {eX:Ex} {FX:Fr} {HX:Heap} (k1:(decide ((b:Int)<=(n:Int)))=true->j6 (l9 Tryz.prog (X fD) (x9 Tryz.f209 2)) (some [0,1,2,6,7,8]) (some [0,1,2,6,7]) (mkF 63 [(0,(AV.osl 0 g 10 0 n)),(1,(iN n)),(2,(AV.func f xs)),(6,(iN bs)),(7,(iN b)),(8,(iN (b+(2 * bs))))]) [(o_ g 10 (mE (mAt (ltF cmp) a (a+bs) b l)))] eX FX HX) (k2:(decide ((b:Int)<=(n:Int)))=false->((.exit 4:Ex),(mkF 63 [(0,(AV.osl 0 g 10 0 n)),(1,(iN n)),(2,(AV.func f xs)),(6,(iN bs)),(7,(iN a))]),[(o_ g 10 (mE l))])=(eX,FX,HX)):j6 (l9 Tryz.prog (X fD) (x9 Tryz.f209 2)) (some [0,1,2,6,7,8]) (some [0,1,2,6,7]) (mkF 63 [(0,(AV.osl 0 g 10 0 n)),(1,(iN n)),(2,(AV.func f xs)),(6,(iN bs)),(7,(iN a)),(8,(iN b))]) [(o_ g 10 (mE l))] eX FX HX :=
 I9 (.r (.g (.two (decide ((b:Int)<=(n:Int))) (fun h1 h1'=>(.r (.y 4 (.int .i64 (fZ a bs)) (iN (a+bs)) Yes.o (.t 7 (AV.tup []) [(o_ g 10 (mE (mAt (ltF cmp) a (a+bs) b l)))] (b8h _ f xs a (a+bs) b n g l aH aH aH aH aH aH aH aH (hs7 a6Z) (hs8 a6Z) []:AC 219 [(AV.osl 0 g 10 0 n),(iN a),(iN (a+bs)),(iN b),(AV.func f xs)] [(o_ g 10 (mE l))] ((AV.tup []),([(o_ g 10 (mE (mAt (ltF cmp) a (a+bs) b l)))]:Heap))) (.s (.s (.h' [(o_ g 10 (mE (mAt (ltF cmp) a (a+bs) b l)))] (.y 2 (.int .i64 (b5I bs)) (iN (2 * bs)) Yes.o (.y 3 (iW ((b:Int)+((2 * bs:Nat):Int))) (iN (b+(2 * bs))) Yes.o (.g (.l (k1 h1)))))))))))) (fun h1 h1'=>(.l (k2 h1))))))
theorem b2K (cmp:Entry->Entry->Int) (f:Nat) (xs:List AV) (hc:h9E cmp f xs) (hxs:AV.bdds 1 xs=true) (W:R6 (ltF cmp)) (bs n g:Nat) (l0:l9E) (hn:n=l0.length) (hnb:n < 524288) (hbs:0 < bs) (hbn:bs < 524288) (J:Nat) (hJ:J=n / (2 * bs)) (r:Nat):∀ (j a b:Nat) (l:l9E),j+r=J->a=j * (2 * bs)->b=a+2 * bs->l=mix (ltF cmp) bs j l0 ->
 j6 (l9 Tryz.prog (X fD) (x9 Tryz.f209 2)) (some [0,1,2,6,7,8]) (some [0,1,2,6,7]) (mkF 63 [(0,(AV.osl 0 g 10 0 n)),(1,(iN n)),(2,(AV.func f xs)),(6,(iN bs)),(7,(iN a)),(8,(iN b))]) [(o_ g 10 (mE l))] (.exit 4) (mkF 63 [(0,(AV.osl 0 g 10 0 n)),(1,(iN n)),(2,(AV.func f xs)),(6,(iN bs)),(7,(iN ((J * (2 * bs)))))]) [(o_ g 10 (mE (mix (ltF cmp) bs J l0)))]:=by
 have hdm:=Nat.div_mul_le_self n (2 * bs)
 have hlt:=Nat.lt_div_mul_add (a:=n) (b:=2 * bs) ow
 rw [<- hJ] at hdm hlt
 induction r with
 | zero =>
  intro j a b l hj ha hb hl
  subst hl
  obtain rfl:j=J:=by omega
  refine a2N cmp f xs bs a b n g _ hc hxs W b1N hnb hb hbs hbn ow (fun h=>by omega) (fun h=>by omega) (fun h=>by simp at h; omega) (fun _=>?_)
  rw [<- ha]
 | succ r ih =>
  intro j a b l hj ha hb hl
  subst hl
  have hmul:(j+1) * (2 * bs)=j * (2 * bs)+2 * bs:=Nat.succ_mul _ _
  have hle:(j+1) * (2 * bs)<=J * (2 * bs):=Nat.mul_le_mul_right _ ow
  obtain ⟨q1,q2,q3⟩:=a5y W hbs (l:=l0) ha hb ow
  refine a2N cmp f xs bs a b n g _ hc hxs W b1N hnb hb hbs hbn ow (fun _=>q2) (fun _=>q3) (fun h=>?_) (fun h=>by simp at h; omega)
  rw [q1]
  exact ih (j+1) b (b+2 * bs) _ ow ow rfl rfl
@[simp] abbrev d2w (a:Nat) (b:Nat) (c:Nat) (d:List AV) (e:Nat):Fr:=(mkF 63 [(0,(AV.osl 0 a 10 0 b)),(1,(iN b)),(2,(AV.func c d)),(6,(iN (e * 2)))])
@[simp] abbrev d4B (a:Nat) (b:Nat) (c:Nat) (d:List AV) (e:Nat) (f:Nat):Fr:=(mkF 63 [(0,(AV.osl 0 a 10 0 b)),(1,(iN b)),(2,(AV.func c d)),(6,(iN e)),(7,(iN ((f * (2 * e)))))])
@[simp] abbrev c5u :=(l9 Tryz.prog (X fD) (x9 Tryz.f209 1))
theorem a2M (cmp:Entry->Entry->Int) (f:Nat) (xs:List AV) (bs J n g:Nat) (l l0:l9E) (hc:h9E cmp f xs) (hxs:AV.bdds 1 xs=true) (W:R6 (ltF cmp)) (hn:n=l0.length) (hnb:n < 524288) (hbs:0 < bs) (hbn:bs < 1048576) (hl:l=fG (ltF cmp) bs l0) (hJ:J=n / (2 * bs)) (hJn:J * (2 * bs)<=n) (hs7:J * (2 * bs)+bs < n->Srt (ltF cmp) (((mix (ltF cmp) bs J l0).drop (J * (2 * bs))).take (J * (2 * bs)+bs - J * (2 * bs)))) (hs8:J * (2 * bs)+bs < n->Srt (ltF cmp) (((mix (ltF cmp) bs J l0).drop (J * (2 * bs)+bs)).take (n - (J * (2 * bs)+bs)))) {eX:Ex} {FX:Fr} {HX:Heap} (k1:(decide ((bs:Int) < (n:Int)))=true->(decide ((((J * (2 * bs))+bs:Nat):Int) < (n:Int)))=true->j6 c5u (some [0,1,2,6]) (some []) (d2w g n f xs bs) [(o_ g 10 (mE (mAt (ltF cmp) (J * (2 * bs)) ((J * (2 * bs))+bs) n (mix (ltF cmp) bs J l0))))] eX FX HX) (k2:(decide ((bs:Int) < (n:Int)))=true->(decide ((((J * (2 * bs))+bs:Nat):Int) < (n:Int)))=false->j6 c5u (some [0,1,2,6]) (some []) (d2w g n f xs bs) [(o_ g 10 (mE (mix (ltF cmp) bs J l0)))] eX FX HX) (k3:(decide ((bs:Int) < (n:Int)))=false->((.exit 2:Ex),(mkF 63 []),[(o_ g 10 (mE l))])=(eX,FX,HX)):j6 c5u (some [0,1,2,6]) (some []) (mkF 63 [(0,(AV.osl 0 g 10 0 n)),(1,(iN n)),(2,(AV.func f xs)),(6,(iN bs))]) [(o_ g 10 (mE l))] eX FX HX :=
 I9 (.r (.g (.two (decide ((bs:Int) < (n:Int))) (fun h1 h1'=>(.r (.y 1 (.int .i64 (b5I bs)) (iN (2 * bs)) Yes.o (.g (.loop (d4B g n f xs bs J) (b2K cmp f xs hc hxs W bs n g l0 hn hnb hbs ow J hJ J 0 0 (2 * bs) l ow ow ow (by rw [hl]; simp only [mix])) (.r (.y 2 (iW ((((J * (2 * bs)):Nat):Int)+(bs:Int))) (iN ((J * (2 * bs))+bs)) Yes.o (.s (.g (.two (decide ((((J * (2 * bs))+bs:Nat):Int) < (n:Int))) (fun h2 h2'=>(.r (.t 5 (AV.tup []) [(o_ g 10 (mE (mAt (ltF cmp) (J * (2 * bs)) ((J * (2 * bs))+bs) n (mix (ltF cmp) bs J l0))))] (b8h _ f xs (J * (2 * bs)) ((J * (2 * bs))+bs) n n g (mix (ltF cmp) bs J l0) pG pG pG pG pG pG zP ow (hs7 zP) (hs8 zP) []:AC 219 [(AV.osl 0 g 10 0 n),(iN ((J * (2 * bs)))),(iN ((J * (2 * bs))+bs)),(iN n),(AV.func f xs)] [(o_ g 10 (mE (mix (ltF cmp) bs J l0)))] ((AV.tup []),([(o_ g 10 (mE (mAt (ltF cmp) (J * (2 * bs)) ((J * (2 * bs))+bs) n (mix (ltF cmp) bs J l0))))]:Heap))) (.s (.h' [(o_ g 10 (mE (mAt (ltF cmp) (J * (2 * bs)) ((J * (2 * bs))+bs) n (mix (ltF cmp) bs J l0))))] (.y 1 (.int .i64 (b5H bs)) (iN (bs * 2)) Yes.o (.g (.l (k1 h1 h2))))))))) (fun h2 h2'=>(.r (.y 1 (.int .i64 (b5H bs)) (iN (bs * 2)) Yes.o (.g (.l (k2 h1 h2)))))))))))))))) (fun h1 h1'=>(.l (k3 h1))))))
theorem b2J (cmp:Entry->Entry->Int) (f:Nat) (xs:List AV) (hc:h9E cmp f xs) (hxs:AV.bdds 1 xs=true) (W:R6 (ltF cmp)) (n g:Nat) (l0:l9E) (hn:n=l0.length) (hnb:n < 524288) (r:Nat):∀ (bs:Nat) (l:l9E),n - bs<=r->0 < bs->bs < 1048576->l=fG (ltF cmp) bs l0 ->
 j6 (l9 Tryz.prog (X fD) (x9 Tryz.f209 1)) (some [0,1,2,6]) (some []) (mkF 63 [(0,(AV.osl 0 g 10 0 n)),(1,(iN n)),(2,(AV.func f xs)),(6,(iN bs))]) [(o_ g 10 (mE l))] (.exit 2) (mkF 63 []) [(o_ g 10 (mE (N8 (ltF cmp) l0)))]:=by
 have key:∀ bs,0 < bs->(n / (2 * bs) * (2 * bs)<=n/\n < n / (2 * bs) * (2 * bs)+2 * bs):=fun bs hbs=>⟨Nat.div_mul_le_self n (2 * bs),Nat.lt_div_mul_add (a:=n) (b:=2 * bs) ow⟩
 induction r with
 | zero =>
  intro bs l h1 hbs hbn hl
  obtain ⟨k1,k2⟩:=key bs hbs
  obtain ⟨q1,q2⟩:=yA W hbs (l:=l0) (J:=n / (2 * bs)) rfl hn k1 k2
  refine a2M cmp f xs bs (n / (2 * bs)) n g l l0 hc hxs W hn hnb hbs hbn hl rfl k1 (fun h=>(q1 h).2.1) (fun h=>(q1 h).2.2) (fun h=>by simp at h; omega) (fun h=>by simp at h; omega) (fun _=>?_)
  rw [hl,nQ (ltF cmp) ow hbs]
 | succ r ih =>
  intro bs l h1 hbs hbn hl
  obtain ⟨k1,k2⟩:=key bs hbs
  obtain ⟨q1,q2⟩:=yA W hbs (l:=l0) (J:=n / (2 * bs)) rfl hn k1 k2
  refine a2M cmp f xs bs (n / (2 * bs)) n g l l0 hc hxs W hn hnb hbs hbn hl rfl k1 (fun h=>(q1 h).2.1) (fun h=>(q1 h).2.2) (fun h h2=>?_) (fun h h2=>?_) (fun h=>?_)
  · rw [(q1 zP).1]
    exact ih (bs * 2) _ pR ow pR b1M
  · rw [q2 (by have:=of_decide_eq_false h2; omega)]
    exact ih (bs * 2) _ pR ow pR b1M
  · rw [hl,nQ (ltF cmp) pR hbs]
@[simp] abbrev d4A (a:Nat) (b:Nat) (c:Nat) (d:List AV):Fr:=(mkF 63 [(0,(AV.osl 0 a 10 0 b)),(1,(iN b)),(2,(AV.func c d)),(6,(iI 20)),(7,(iN ((b / 20 * 20))))])
theorem b8g (cmp:Entry->Entry->Int) (f:Nat) (xs:List AV) (n g:Nat) (l:l9E) (hc:h9E cmp f xs) (hxs:AV.bdds 1 xs=true) (W:R6 (ltF cmp)) (hn:n=l.length) (hb:n < 524288):AC 209 [(AV.osl 0 g 10 0 n),(AV.int .i64 (n:Int)),(AV.func f xs)] [(o_ g 10 (List.map Entry.row l))] ((AV.tup []),[(o_ g 10 (List.map Entry.row (y5 cmp 0 (n - 1) 1 l)))]):=by
 have hq:(blk (ltF cmp) 20 (n / 20) l).length=n:=by rw [wU]; exact hn.symm
 have ht:=b1n cmp (l:=l) (j:=n / 20) (a:=n / 20 * 20) rfl hn ow ow
 have hfin:N8 (ltF cmp) l=y5 cmp 0 (n - 1) 1 l:=by subst hn; exact (pV cmp l).symm
 exact r9 (fn:=Tryz.f209) (ann:=fD) (Has.o Tryz.func209) (.r (.s (.g (.loop (d4A g n f xs) (b2L cmp f xs hc hxs W n g l hn hb (n / 20) 0 0 20 l ow rfl ow (by simp only [blk])) (.r (.t 4 (AV.tup []) [(o_ g 10 (List.map Entry.row (y5 cmp (n / 20 * 20) (n - ((n / 20 * 20)+1)) ((n / 20 * 20)+1) (blk (ltF cmp) 20 (n / 20) l))))] (b1D _ f xs (n / 20 * 20) n n g (blk (ltF cmp) 20 (n / 20) l) pF pF pF pF pF pF []:AC 218 [(AV.osl 0 g 10 0 n),(AV.int .i64 (((n / 20 * 20):Nat):Int)),(AV.int .i64 (n:Int)),(AV.func f xs)] [(o_ g 10 (List.map Entry.row (blk (ltF cmp) 20 (n / 20) l)))] ((AV.tup []),([(o_ g 10 (List.map Entry.row (y5 cmp (n / 20 * 20) (n - ((n / 20 * 20)+1)) ((n / 20 * 20)+1) (blk (ltF cmp) 20 (n / 20) l))))]:Heap))) (.g (.loop (mkF 63 []) (b2J cmp f xs hc hxs W n g l hn hb n 20 (y5 cmp (n / 20 * 20) (n - ((n / 20 * 20)+1)) ((n / 20 * 20)+1) (blk (ltF cmp) 20 (n / 20) l)) ow ow ow ht) (.q 1 (AV.tup []) (by rw [hfin]))))))))))
theorem c9h (cmp:Entry->Entry->Int) (f:Nat) (xs:List AV) (n g:Nat) (l:l9E) (hc:h9E cmp f xs) (hxs:AV.bdds 1 xs=true) (W:R6 (ltF cmp)) (hn:n=l.length) (hb:n < 524288) (H:Heap):AC 209 [(AV.osl 0 g 10 0 n),(iN n),(AV.func f xs)] (([(o_ g 10 (mE l))]:Heap)++H) ((AV.tup []),([(o_ g 10 (mE (y5 cmp 0 (n - 1) 1 l)))]:Heap)++H):=(b8g cmp f xs n g l hc hxs W hn hb).ext jX kr ob ob kr H
def b2r:Ann:={ base:=1,fin:=some 1 }
theorem a9U (cmp:Entry->Entry->Int) (f:Nat) (xs:List AV) (n g:Nat) (l:l9E) (hc:h9E cmp f xs) (hxs:AV.bdds 1 xs=true) (W:R6 (ltF cmp)) (hn:n=l.length) (hb:n < 524288):AC 178 [(AV.osl 0 g 10 0 n),(AV.func f xs)] [(o_ g 10 (mE l))] ((AV.tup []),[(o_ g 10 (mE (y5 cmp 0 (n - 1) 1 l)))]) :=
 r9 (fn:=Tryz.f178) (ann:=b2r) (Has.o Tryz.func178) (.r (.t 4 (AV.tup []) [(o_ g 10 (mE (y5 cmp 0 (n - 1) 1 l)))] (c9h _ f xs n g l uX uX uX uX uX []:AC 209 [(AV.osl 0 g 10 0 n),(iN n),(AV.func f xs)] [(o_ g 10 (mE l))] ((AV.tup []),([(o_ g 10 (mE (y5 cmp 0 (n - 1) 1 l)))]:Heap))) (.g (.h' [(o_ g 10 (mE (y5 cmp 0 (n - 1) 1 l)))] (.q 1 (AV.tup []))))))
theorem b7K (cmp:Entry->Entry->Int) (f:Nat) (xs:List AV) (n g:Nat) (l:l9E) (hc:h9E cmp f xs) (hxs:AV.bdds 1 xs=true) (W:R6 (ltF cmp)) (hn:n=l.length) (hb:n < 524288) (H:Heap):AC 178 [(AV.osl 0 g 10 0 n),(AV.func f xs)] (([(o_ g 10 (mE l))]:Heap)++H) ((AV.tup []),([(o_ g 10 (mE (y5 cmp 0 (n - 1) 1 l)))]:Heap)++H):=(a9U cmp f xs n g l hc hxs W hn hb).ext jX kr ob ob kr H
attribute [local irreducible] O4 a0a a0n bL tX uI vI yH
def ltM (now:Int) (a b:Entry):Bool:=decide (cmpL now a b < 0)
theorem c4Y (a b:Int):R5 a b < 0↔a < b:=by unfold R5; split <;> (try split) <;> omega
theorem a5Y (a b:Int):R5 a b=0↔a=b:=by unfold R5; split <;> (try split) <;> omega
theorem b3u (a b:Key):K8 a b < 0↔D8 a b=true:=by
 unfold K8
 rw [fU,fU]
 cases D8 a b <;> cases D8 b a <;> simp
theorem b1A (now:Int) (a b:Entry):ltM now a b=true↔D9 b now < D9 a now\/(D9 b now=D9 a now/\D8 a.card.key b.card.key=true):=by
 unfold ltM cmpL
 rw [decide_eq_true_eq]
 split
 · rename_i h
   rw [a5Y] at h
   rw [b3u]
   constructor
   · intro h2; exact .inr ⟨h,h2⟩
   · rintro (h2 | h2)
     · omega
     · exact h2.2
 · rename_i h
   rw [a5Y] at h
   rw [c4Y]
   constructor
   · intro h2; exact .inl h2
   · rintro (h2 | h2)
     · exact h2
     · exact absurd h2.1 h
theorem a5A (now:Int) (a b:Entry):ltM now a b=false↔D9 a now < D9 b now\/(D9 a now=D9 b now/\D8 a.card.key b.card.key=false):=by
 rw [<- Bool.not_eq_true,b1A]
 constructor
 · intro h
   rcases Nat.lt_or_ge 0 1 with _ | _
   · by_cases h1:D9 a now < D9 b now
     · exact .inl h1
     · refine .inr ⟨?_,?_⟩
       · have:¬ D9 b now < D9 a now:=fun x=>h (.inl x)
         omega
       · cases hb:D8 a.card.key b.card.key with
         | false=>rfl
         | true =>
          have:¬ D9 b now < D9 a now:=fun x=>h (.inl x)
          exact absurd (.inr ⟨by omega,hb⟩) h
   · omega
 · rintro (h | h) (k | k)
   · omega
   · omega
   · omega
   · rw [h.2] at k; exact absurd k.2 ye_
theorem c4p (now:Int):R6 (ltM now):=by
 refine ⟨fun a b h=>?_,fun a b c h k=>?_⟩
 · rw [b1A] at h
   rw [a5A]
   rcases h with h | h
   · exact .inl h
   · exact .inr ⟨h.1,a9o h.2⟩
 · rw [a5A] at h k ⊢
   rcases h with h | h <;> rcases k with k | k
   · exact .inl ow
   · exact .inl ow
   · exact .inl ow
   · exact .inr ⟨by omega,a1B h.2 k.2⟩
@[simp] abbrev d2v (a:Int) (b:Int) (c:l9E):Fr:=(mkF 46 [(2,(iI (max 0 a))),(4,(AV.ref [(iI b)] 0)),(7,(iN ((C9 c b (max 0 a)).1))),(8,(AV.osl 0 (C9 c b (max 0 a)).2.2 10 0 (C9 c b (max 0 a)).2.1.length)),(13,(sA 10 (mE c))),(14,(iN c.length)),(15,(iN c.length))])
@[simp] abbrev c6G (a:l9E) (b:Int) (c:Int):Heap:=[(o_ ((C9 a b (max 0 c)).2.2) 10 (mE (y5 (cmpL b) 0 ((C9 a b (max 0 c)).2.1.length - 1) 1 (C9 a b (max 0 c)).2.1)))]
theorem b3r (l:l9E) (now late:Int) (hl:l.length < 1000):AC 133 [(sA 10 (mE l)),(iI now),(iI late)] [] ((sA 2 (mK (F3 l now late))),[]):=by
 have hp:=b8H l now (max 0 late)
 have hpl:=bS (cmpL now) 0 ((C9 l now (max 0 late)).2.1.length - 1) 1 (C9 l now (max 0 late)).2.1
 exact r9 (fn:=Tryz.f133) (ann:=xU) (Has.o Tryz.func133) (.r (.s (.y 1 (.int .i64 (if late > 0 then late else 0)) (iI (max 0 late)) (Yes.int yv_) (.s (.s (.s (.h' [(o_ 0 10 (mE []))] (.y 1 (.int .i64 ((List.length (mE l):Nat):Int)) (iN l.length) (Yes.len _ _ _) (.g (.loop (d2v late now l) (show j6 (l9 Tryz.prog (X xU) (x9 Tryz.f133 0)) (some [2,4,7,8,13,14,15]) (some [2,4,7,8,13,14,15]) (mkF 46 [(2,(iI (max 0 late))),(4,(AV.ref [(iI now)] 0)),(7,z_),(8,(AV.osl 0 0 10 0 0)),(13,(sA 10 (mE l))),(14,(iN l.length)),(15,z_)]) [(o_ 0 10 (mE []))] (.exit 0) (d2v late now l) [(o_ ((C9 l now (max 0 late)).2.2) 10 (mE (C9 l now (max 0 late)).2.1))] from (b8F l now (max 0 late) (List.length l) 0 0 0 0 [] _ ow rfl ow ow ow (by unfold C9; rfl))) (.r (.ch 2 (c6G l now late) (b7K (cmpL now) 179 ([(AV.ref [(iI now)] 0)]) (C9 l now (max 0 late)).2.1.length (C9 l now (max 0 late)).2.2 (C9 l now (max 0 late)).2.1 (fun x y H=>b3q now x y H) (rfl) (c4p now) oa oa []) (.w' 8 (mE (y5 (cmpL now) 0 ((C9 l now (max 0 late)).2.1.length - 1) 1 (C9 l now (max 0 late)).2.1)) (And.intro (G8 (room:=none) kr (by first | omega | (simp [bS]; done) | (simp [bS]; omega))) (Entry.y8 _ _):G6 (c6G l now late) 10 (AV.osl 0 (C9 l now (max 0 late)).2.2 10 0 (C9 l now (max 0 late)).2.1.length)=some (mE (y5 (cmpL now) 0 ((C9 l now (max 0 late)).2.1.length - 1) 1 (C9 l now (max 0 late)).2.1))/\AV.D7 0 (mE (y5 (cmpL now) 0 ((C9 l now (max 0 late)).2.1.length - 1) 1 (C9 l now (max 0 late)).2.1))=true) (.s (.h' [(o_ ((C9 l now (max 0 late)).2.2+1) 10 [])] (.y 2 (.int .i64 ((List.length (mE (y5 (cmpL now) 0 ((C9 l now (max 0 late)).2.1.length - 1) 1 (C9 l now (max 0 late)).2.1)):Nat):Int)) (iN ((y5 (cmpL now) 0 ((C9 l now (max 0 late)).2.1.length - 1) 1 (C9 l now (max 0 late)).2.1).length)) (Yes.len _ _ _) (.c 4 ((b8S (((C9 l now (max 0 late)).1:Nat):Int)).lift kr kr [(o_ ((C9 l now (max 0 late)).2.2+1) 10 [])]) (.y 5 (.int .i64 (if ((N9 (((C9 l now (max 0 late)).1:Nat):Int):Nat):Int) < (((y5 (cmpL now) 0 ((C9 l now (max 0 late)).2.1.length - 1) 1 (C9 l now (max 0 late)).2.1).length:Nat):Int) then ((N9 (((C9 l now (max 0 late)).1:Nat):Int):Nat):Int) else (((y5 (cmpL now) 0 ((C9 l now (max 0 late)).2.1.length - 1) 1 (C9 l now (max 0 late)).2.1).length:Nat):Int))) (iN (min (y5 (cmpL now) 0 ((C9 l now (max 0 late)).2.1.length - 1) 1 (C9 l now (max 0 late)).2.1).length (N9 (((C9 l now (max 0 late)).1:Nat):Int)))) (Yes.int yv_) (.t 6 (sA 10 (mE ((y5 (cmpL now) 0 ((C9 l now (max 0 late)).2.1.length - 1) 1 (C9 l now (max 0 late)).2.1).take (min (y5 (cmpL now) 0 ((C9 l now (max 0 late)).2.1.length - 1) 1 (C9 l now (max 0 late)).2.1).length (N9 (((C9 l now (max 0 late)).1:Nat):Int)))))) [(o_ ((C9 l now (max 0 late)).2.2+1) 10 [])] (xH (l:=0) (h:=min (y5 (cmpL now) 0 ((C9 l now (max 0 late)).2.1.length - 1) 1 (C9 l now (max 0 late)).2.1).length (N9 (((C9 l now (max 0 late)).1:Nat):Int))) om om om om a7a:Option.map (fun a=>(a,([(o_ ((C9 l now (max 0 late)).2.2+1) 10 [])]:Heap))) (if 10=10\/((mE (y5 (cmpL now) 0 ((C9 l now (max 0 late)).2.1.length - 1) 1 (C9 l now (max 0 late)).2.1))).isEmpty=true then (bounds 0 ((min (y5 (cmpL now) 0 ((C9 l now (max 0 late)).2.1.length - 1) 1 (C9 l now (max 0 late)).2.1).length (N9 (((C9 l now (max 0 late)).1:Nat):Int)):Nat):Int) (List.length (mE (y5 (cmpL now) 0 ((C9 l now (max 0 late)).2.1.length - 1) 1 (C9 l now (max 0 late)).2.1)))).map fun p=>sA 10 ((List.take p.2 (mE (y5 (cmpL now) 0 ((C9 l now (max 0 late)).2.1.length - 1) 1 (C9 l now (max 0 late)).2.1))).drop p.1) else none)=some ((sA 10 (mE ((y5 (cmpL now) 0 ((C9 l now (max 0 late)).2.1.length - 1) 1 (C9 l now (max 0 late)).2.1).take (min (y5 (cmpL now) 0 ((C9 l now (max 0 late)).2.1.length - 1) 1 (C9 l now (max 0 late)).2.1).length (N9 (((C9 l now (max 0 late)).1:Nat):Int)))))),([(o_ ((C9 l now (max 0 late)).2.2+1) 10 [])]:Heap))) (.c 7 ((a3k ((y5 (cmpL now) 0 ((C9 l now (max 0 late)).2.1.length - 1) 1 (C9 l now (max 0 late)).2.1).take (min (y5 (cmpL now) 0 ((C9 l now (max 0 late)).2.1.length - 1) 1 (C9 l now (max 0 late)).2.1).length (N9 (((C9 l now (max 0 late)).1:Nat):Int)))) oa).lift kr kr [(o_ ((C9 l now (max 0 late)).2.2+1) 10 [])]) (.g (.h' [] (.q 0 (sA 2 (mK (((y5 (cmpL now) 0 ((C9 l now (max 0 late)).2.1.length - 1) 1 (C9 l now (max 0 late)).2.1).take (min (y5 (cmpL now) 0 ((C9 l now (max 0 late)).2.1.length - 1) 1 (C9 l now (max 0 late)).2.1).length (N9 (((C9 l now (max 0 late)).1:Nat):Int)))).map (·.card.key)))) (by (try delta c6G); simp only [F3,R9,P6,bS]))))))))))))))))))))))))
attribute [local irreducible] A8 C8 F6 H9 I6 J2 J4 K9 L8 L9 O1 Q6 R4 aK d9 hdD jL jM l7 maxS opM tuR
def b4H:Ann:={ base:=6,fin:=some 6 }
theorem iT (l:l9E) (g:Nat) (al:l9K) (ga:Nat) (gf gl gt nd:Int) (st:p9) :AC 74 [(oO 5 0 0 0)] (J7 g l gf gl gt al ga nd st) ((oO 2 0 0 0),(J7 g l gf gl gt al ga nd st)) :=
 r9 (fn:=Tryz.f74) (ann:=b4H) (Has.o Tryz.func74) (.r (.g (.qr 6 (oO 2 0 0 0))))
@[simp] abbrev yV (a:Int) (b:Int) (c:Int):Heap:=[J3 a b c]
def vC (a now:Int):Int:=IntKind.u64.wrap (Int.tdiv (IntKind.u64.wrap ((IntKind.u64.wrap now) - (IntKind.u64.wrap a))) 60)
def tkN (a now:Int):Bool:=decide (now < a) || (vC a now == 0)
def tkF (a now:Int):Int:=if tkN a now=true then a else IntKind.i64.wrap (IntKind.u64.wrap ((IntKind.u64.wrap a)+(IntKind.u64.wrap (vC a now * 60))))
def tkL (a b c now:Int):Int:=if tkN a now=true then b else if (vC a now == 1)=true then c else 0
def tkT (a c now:Int):Int:=if tkN a now=true then c else 0
def b9N:Ann:={ base:=1,fin:=some 1 }
@[simp] abbrev a9C (a:Int) (b:Int) (c:Int) (d:Int):Heap:=[(o_ 0 3 [[(iI (tkF a b)),(iI (tkL a c d b)),(iI (tkT a d b))]])]
theorem a4c {p:Prop} (h:p:=by rw [e]; simp):p:=h
theorem kL (a b c now:Int) :AC 75 [(AV.obj 0 0 0 0),(AV.int .i64 now)] (yV a b c) ((AV.tup []),(a9C a now b c)) :=
 r9 (fn:=Tryz.f75) (ann:=b9N) (Has.o Tryz.func75) (.r (.g (.two (decide (now < a)) (fun h1 h1'=>(.q 1 (AV.tup []) (by (try delta yV a9C J3); (have e:tkN a now=true:=by unfold tkN; rw [h1]; rfl); have e1:tkF a now=a:=if_pos e; have e2:tkL a b c now=b:=if_pos e; have e3:tkT a c now=c:=if_pos e; rw [e1,e2,e3]))) (fun h1 h1'=>(.r (.s (.s (.g (.two ((IntKind.u64.wrap (Int.tdiv (IntKind.u64.wrap ((IntKind.u64.wrap now) - (IntKind.u64.wrap a))) 60)) == 0) (fun h2 h2'=>(.q 1 (AV.tup []) (by (try delta yV a9C J3); (have e:tkN a now=true:=by unfold tkN vC; rw [h1,h2]; rfl); have e1:tkF a now=a:=if_pos e; have e2:tkL a b c now=b:=if_pos e; have e3:tkT a c now=c:=if_pos e; rw [e1,e2,e3]))) (fun h2 h2'=>(.r (.g (.two ((IntKind.u64.wrap (Int.tdiv (IntKind.u64.wrap ((IntKind.u64.wrap now) - (IntKind.u64.wrap a))) 60)) == 1) (fun h3 h3'=>(.r (.s (.s (.g (.h' [(o_ 0 3 [[(iW (IntKind.u64.wrap ((IntKind.u64.wrap a)+(IntKind.u64.wrap ((IntKind.u64.wrap (Int.tdiv (IntKind.u64.wrap ((IntKind.u64.wrap now) - (IntKind.u64.wrap a))) 60)) * 60))))),(AV.int .i64 c),(AV.int .i64 0)]])] (.q 1 (AV.tup []) (by (try delta yV a9C J3); (have e:tkN a now=false:=by unfold tkN vC; rw [h1,h2]; rfl); (have e1:tkF a now=IntKind.i64.wrap (IntKind.u64.wrap ((IntKind.u64.wrap a)+(IntKind.u64.wrap (vC a now * 60)))):=if_neg a4c); (have e2:tkL a b c now=c:=by unfold tkL; rw [if_neg a4c,if_pos]; unfold vC; rw [h3]); (have e3:tkT a c now=0:=if_neg a4c); rw [e1,e2,e3]; first | done | rfl)))))))) (fun h3 h3'=>(.r (.s (.s (.g (.h' [(o_ 0 3 [[(iW (IntKind.u64.wrap ((IntKind.u64.wrap a)+(IntKind.u64.wrap ((IntKind.u64.wrap (Int.tdiv (IntKind.u64.wrap ((IntKind.u64.wrap now) - (IntKind.u64.wrap a))) 60)) * 60))))),(AV.int .i64 0),(AV.int .i64 0)]])] (.q 1 (AV.tup []) (by (try delta yV a9C J3); (have e:tkN a now=false:=by unfold tkN vC; rw [h1,h2]; rfl); (have e1:tkF a now=IntKind.i64.wrap (IntKind.u64.wrap ((IntKind.u64.wrap a)+(IntKind.u64.wrap (vC a now * 60)))):=if_neg a4c); (have e2:tkL a b c now=0:=by unfold tkL; rw [if_neg a4c,if_neg]; unfold vC; rw [h3]; simp); (have e3:tkT a c now=0:=if_neg a4c); rw [e1,e2,e3]; first | done | rfl)))))))))))))))))))))
attribute [local irreducible] tkF tkL tkT
def qN (n:Nat):Int:=Int.tdiv (((min n 1048576) * 6 * 85:Nat):Int) 100
def b9R:Ann:={ fin:=some 0 }
theorem b4f (n:Nat) (hn:n < 1000000):AC 176 [(AV.int .i64 (n:Int))] [] ((AV.int .i64 (qN n)),[]) :=
 r9 (fn:=Tryz.f176) (ann:=b9R) (Has.o Tryz.func176) (.r (.s (.y 1 (.int .i64 (if 1048576 < (n:Int) then 1048576 else (n:Int))) (AV.int .i64 ((min n 1048576:Nat):Int)) (Yes.int yv_) (.y 2 (.int .i64 (if ((min n 1048576:Nat):Int) > 0 then ((min n 1048576:Nat):Int) else 0)) (AV.int .i64 ((max 0 (min n 1048576):Nat):Int)) (Yes.int yv_) (.s (.y 1 (iW (((max 0 (min n 1048576):Nat):Int) * 6)) (AV.int .i64 ((max 0 (min n 1048576) * 6:Nat):Int)) Yes.o (.y 2 (iW (((max 0 (min n 1048576) * 6:Nat):Int) * 85)) (AV.int .i64 ((max 0 (min n 1048576) * 6 * 85:Nat):Int)) Yes.o (.y 3 (iW (Int.tdiv ((max 0 (min n 1048576) * 6 * 85:Nat):Int) 100)) (AV.int .i64 (((max 0 (min n 1048576) * 6 * 85) / 100:Nat):Int)) (Yes.quo ow) (.q 0 (AV.int .i64 (((max 0 (min n 1048576) * 6 * 85) / 100:Nat):Int)) (by unfold qN; first | rfl | (rw [Int.min_def]; simp; omega)))))))))))
def b9P:Ann:={ base:=1,fin:=some 1 }
theorem b4e (a b c:Int) (n:Nat) (hn:n < 1000000):AC 131 [(oO 0 0 0 0),(iN n)] (yV a b c) ((bB (decide (b < qN n))),(yV a b c)) :=
 r9 (fn:=Tryz.f131) (ann:=b9P) (Has.o Tryz.func131) (.r (.s (.c 5 ((b4f n oa).lift kr kr (yV a b c)) (.rd (iI b) (yV a b c) (.q 1 (bB (decide (b < (qN n)))))))))
attribute [local irreducible] qN
def b4J:Ann:={ refs:=[3],base:=6,fin:=some 6 }
@[simp] abbrev d1Y (a:l9E) (b:Entry) (c:Nat) (d:Int) (e:Int) (f:Int) (g:l9K) (h:Nat) (i:Int):Heap:=[(o_ 0 2 (c5N a b c)),(o_ (H9 (q9 32) a b c) 10 (mE (F6 (q9 32) a b))),J3 d e f,(o_ 0 2 (c5x a b g h)),(o_ (O1 a b h) 2 (mK (l5 (J4 a b g)))),(o_ 0 7 (d1j i b))]
@[simp] abbrev d0Y (a:Entry):=(AV.tup [(AV.sl .clip 9 [(j5.row a.card)]),z_])
theorem b0M (l:l9E) (g:Nat) (al:l9K) (ga:Nat) (gf gl gt nd:Int) (st:p9) (x:Entry) (hl:l.length < 1000) (ha:al.length < 100000) (h:(J2 (q9 32) l x == 0)=true):AC 117 [(oO 5 0 0 0),(AV.agg (Entry.row x))] (J7 g l gf gl gt al ga nd st) ((d0Y x),(d1Y l x g gf gl gt al ga nd)) :=
 r9 (fn:=Tryz.f117) (ann:=b4J) (Has.o Tryz.func117) (.r (.s (.ch 2 [(o_ 0 2 (c5N l x g)),(o_ (H9 (q9 32) l x g) 10 (mE (F6 (q9 32) l x))),(o_ 0 3 (gT gf gl gt)),(o_ 0 2 (c5x l x al ga)),(o_ (O1 l x ga) 2 (mK (l5 (J4 l x al)))),(o_ 0 7 (sZ nd st))] (wS l g al ga gf gl gt nd st.t st.node st.n x oa oa []) (.s (.y 1 (bB ((J2 (q9 32) l x) != 0)) bF (Yes.b (by have q:=eq_of_beq h; rw [q]; rfl)) (.rn (.s (.g (.h' (d1Y l x g gf gl gt al ga nd) (.q 6 (d0Y x)))))))))))
def swX (nd now:Int) (s:DS) (k:Key):Entry:=G5 (l7 s.l k) (C8 (maxS s.st (l7 s.l k).card.stamp) now nd) now
def swS (nd now:Int) (s:DS) (k:Key):DS:=⟨F6 (q9 32) s.l (swX nd now s k),H9 (q9 32) s.l (swX nd now s k) s.g,J4 s.l (swX nd now s k) s.al,O1 s.l (swX nd now s k) s.ga,s.gf,s.gl,s.gt,(swX nd now s k).card.stamp⟩
def swF (nd now:Int):List Key->DS->DS
 | [],s=>s
 | k :: ks,s=>swF nd now ks (swS nd now s k)
def swC (nd now:Int):List Key->DS->List j5
 | [],_=>[]
 | k :: ks,s=>(swX nd now s k).card :: swC nd now ks (swS nd now s k)
theorem a4i (nd now:Int):∀ (ks:l9K) (s:DS),(swC nd now ks s).length=ks.length
 | [],_=>rfl
 | k :: ks,s=>by simp only [swC,List.length_cons,a4i nd now ks]
theorem b5Q {l:l9E} {k:Key} (hf:A8 l k=true) (st:p9) (now:Int):(J2 (q9 32) l (G5 (l7 l k) st now) == 0)=true:=by
 have e:(G5 (l7 l k) st now).card.key=k:=(bY hf).2
 have h:=b8z (most:=q9 32) (l:=l) (e:=G5 (l7 l k) st now) (.inl (by rw [e]; exact hf))
 rw [h]; rfl
theorem b7B {n:Nat} {s:DS} (h:aG n s) (nd now:Int) (k:Key):aG (n+1) (swS nd now s k):=by
 have ho:=h.put (swX nd now s k)
 exact ⟨ho.srt,ho.len,ho.al,ho.g0,ho.g1⟩
theorem b7C (nd now:Int):∀ (ks:l9K) {n:Nat} {s:DS},aG n s->aG (n+ks.length) (swF nd now ks s)
 | [],n,s,h=>h
 | k :: ks,n,s,h=>by
  have:=b7C nd now ks (b7B h nd now k)
  rw [List.length_cons,show n+(ks.length+1)=n+1+ks.length by omega]; exact this
theorem c9d {nd now:Int} {s:DS} {k:Key} (hf:A8 s.l k=true):(swX nd now s k).card.key=k:=(bY hf).2
def vZ:Ann:={ gh:=[(13,.frz 7)],gha:=[(4,.vir 7 9),(11,.cut 7),(3,.any 6 9)],base:=6,fin:=some 6,live:=[(6,[0,1,7,35,36,37])],out:=[(6,[0,1,7,35,36,37])] }
@[simp] abbrev d0X (a:DS) (b:l9K) (c:Nat) (d e:Int):=[[(iI (q9 32)),(AV.osl 1 (H9 (q9 32) a.l (G5 (l7 a.l (nth b c)) (C8 (maxS a.st (l7 a.l (nth b c)).card.stamp) d e) d) a.g) 10 0 (List.length (F6 (q9 32) a.l (G5 (l7 a.l (nth b c)) (C8 (maxS a.st (l7 a.l (nth b c)).card.stamp) d e) d))))]]
@[simp] abbrev c7V (a:DS) (b:l9K) (c:Nat) (d:Int) (e:Int):Ob:=(o_ 0 2 (d0X a b c d e))
@[simp] abbrev c7U (a:DS) (b:l9K) (c:Nat) (d:Int) (e:Int):Ob:=(o_ (H9 (q9 32) a.l (G5 (l7 a.l (nth b c)) (C8 (maxS a.st (l7 a.l (nth b c)).card.stamp) d e) d) a.g) 10 (mE (F6 (q9 32) a.l (G5 (l7 a.l (nth b c)) (C8 (maxS a.st (l7 a.l (nth b c)).card.stamp) d e) d))))
@[simp] abbrev a9a (a:DS):=[[(iI a.gf),(iI a.gl),(iI a.gt)]]
@[simp] abbrev a6M (a:DS):Ob:=(o_ 0 3 (a9a a))
@[simp] abbrev d0W (a:DS) (b:l9K) (c:Nat) (d e:Int):=[[(iN ((List.length (J4 a.l (G5 (l7 a.l (nth b c)) (C8 (maxS a.st (l7 a.l (nth b c)).card.stamp) d e) d) a.al)))),(AV.osl 4 (O1 a.l (G5 (l7 a.l (nth b c)) (C8 (maxS a.st (l7 a.l (nth b c)).card.stamp) d e) d) a.ga) 2 0 (List.length (l5 (J4 a.l (G5 (l7 a.l (nth b c)) (C8 (maxS a.st (l7 a.l (nth b c)).card.stamp) d e) d) a.al))))]]
@[simp] abbrev c7T (a:DS) (b:l9K) (c:Nat) (d:Int) (e:Int):Ob:=(o_ 0 2 (d0W a b c d e))
@[simp] abbrev c7S (a:DS) (b:l9K) (c:Nat) (d:Int) (e:Int):Ob:=(o_ (O1 a.l (G5 (l7 a.l (nth b c)) (C8 (maxS a.st (l7 a.l (nth b c)).card.stamp) d e) d) a.ga) 2 (mK (l5 (J4 a.l (G5 (l7 a.l (nth b c)) (C8 (maxS a.st (l7 a.l (nth b c)).card.stamp) d e) d) a.al))))
@[simp] abbrev d0V (a:Int) (b:DS) (c:l9K) (d:Nat) (e:Int):=[[(iI a),(iI (G5 (l7 b.l (nth c d)) (C8 (maxS b.st (l7 b.l (nth c d)).card.stamp) e a) e).card.stamp.t),(iI (G5 (l7 b.l (nth c d)) (C8 (maxS b.st (l7 b.l (nth c d)).card.stamp) e a) e).card.stamp.node),(iI (G5 (l7 b.l (nth c d)) (C8 (maxS b.st (l7 b.l (nth c d)).card.stamp) e a) e).card.stamp.n),(oO 0 0 0 0),(oO 2 0 0 0),(oO 3 0 0 0)]]
@[simp] abbrev c1W (a:Int) (b:DS) (c:l9K) (d:Nat) (e:Int):Ob:=(o_ 0 7 (d0V a b c d e))
@[simp] abbrev d1X (a:DS) (b:l9K) (c:Nat) (d:Int) (e:Int) (f:Nat) (g:l9C):Heap:=[c7V a b c d e,c7U a b c d e,a6M a,c7T a b c d e,c7S a b c d e,c1W e a b c d,(o_ (f+1) 9 (mC (g++[(G5 (l7 a.l (nth b c)) (C8 (maxS a.st (l7 a.l (nth b c)).card.stamp) d e) d).card])))]
@[simp] abbrev d1W (a:Int) (b:Nat) (c:Nat) (d:l9K) (e:Nat):Fr:=(mkF 72 [(0,(oO 5 0 0 0)),(1,(iI a)),(7,(AV.osl 6 b 9 0 c)),(35,(sA 2 (mK d))),(36,(iN d.length)),(37,(iN e))])
@[simp] abbrev c5t (a:DS):=[[(iI (q9 32)),(AV.osl 1 a.g 10 0 (List.length a.l))]]
@[simp] abbrev c1V (a:DS):Ob:=(o_ 0 2 (c5t a))
@[simp] abbrev b5z (a:DS):=[[(iN ((List.length a.al))),(AV.osl 4 a.ga 2 0 (List.length (l5 a.al)))]]
@[simp] abbrev c1U (a:DS):Ob:=(o_ 0 2 (b5z a))
@[simp] abbrev c1T (a:DS):Ob:=(o_ a.ga 2 (mK (l5 a.al)))
@[simp] abbrev b5y (a:Int) (b:DS):=[[(iI a),(iI b.st.t),(iI b.st.node),(iI b.st.n),(oO 0 0 0 0),(oO 2 0 0 0),(oO 3 0 0 0)]]
@[simp] abbrev c1S (a:Int) (b:DS):Ob:=(o_ 0 7 (b5y a b))
@[simp] abbrev d1V (a:DS) (b:Int) (c:Nat) (d:l9C):Heap:=[c1V a,(o_ a.g 10 (mE a.l)),a6M a,c1U a,c1T a,c1S b a,(o_ c 9 (mC d))]
@[simp] abbrev c1R (a:DS) (b:l9K) (c:Nat):Ob:=(o_ 0 10 [(Entry.row (l7 a.l (nth b c)))])
@[simp] abbrev b6x (a:DS) (b:Int) (c:Nat) (d:l9C) (e:l9K) (f:Nat):Heap:=[c1V a,(o_ a.g 10 (mE a.l)),a6M a,c1U a,c1T a,c1S b a,(o_ c 9 (mC d)),(o_ 0 2 [(Key.row (nth e f))]),c1R a e f,(o_ 0 10 [[e_,e_,z_,z_,z_,z_,z_,z_,bF,z_]])]
@[simp] abbrev d1U (a:DS) (b:l9K) (c:Nat) (d:Int) (e:Int) (f:Nat) (g:l9C):Heap:=[c7V a b c d e,c7U a b c d e,a6M a,c7T a b c d e,c7S a b c d e,c1W e a b c d,(o_ f 9 (mC g)),(o_ 0 2 [(Key.row (nth b c))]),c1R a b c,(o_ 0 10 [(Entry.row (G5 (l7 a.l (nth b c)) (C8 (maxS a.st (l7 a.l (nth b c)).card.stamp) d e) d))])]
theorem b1m (nd now:Int) (ks:l9K) (s:DS) (out:l9C) (k h i:Nat) (hk:k=out.length) (hki:k<=i) (hks:ks.length < 1000) (hi:i<=ks.length) (hl:s.l.length < 1000) (ha:s.al.length < 100000) (hf:i < ks.length->A8 s.l (nth ks i)=true/\(l7 s.l (nth ks i)).card.gone=false) {eX:Ex} {FX:Fr} {HX:Heap} (k1:(decide ((i:Int) < (ks.length:Int)))=true->j6 (l9 Tryz.prog (X vZ) (x9 Tryz.f76 0)) (some [0,1,7,35,36,37]) (some [0,1,7,35,36,37]) (mkF 72 [(0,(oO 5 0 0 0)),(1,(iI now)),(7,(vU h k)),(35,(sA 2 (mK ks))),(36,(iN ks.length)),(37,(iN (i+1)))]) (d1X s ks i now nd h out) eX FX HX) (k2:(decide ((i:Int) < (ks.length:Int)))=false->((.exit 0:Ex),(d1W now h k ks i),(d1V s nd h out))=(eX,FX,HX)):j6 (l9 Tryz.prog (X vZ) (x9 Tryz.f76 0)) (some [0,1,7,35,36,37]) (some [0,1,7,35,36,37]) (d1W now h k ks i) (d1V s nd h out) eX FX HX :=
 I9 (.r (.g (.two (decide ((i:Int) < (ks.length:Int))) (fun h1 h1'=>(.r (.h' [(o_ 0 2 (c5t s)),(o_ s.g 10 (mE s.l)),(o_ 0 3 (a9a s)),(o_ 0 2 (b5z s)),(o_ s.ga 2 (mK (l5 s.al))),(o_ 0 7 (b5y nd s)),(o_ h 9 (mC out)),(o_ 0 2 [[e_,e_]])] (.is 0 2 2 (mK ks) (i:Int) (Key.row (nth ks i)) (N7.mk _ ow ow) (.s (.c 5 (get_at (q9 32) s.l (nth ks i) s.g (List.length s.l) oa oa [(o_ 0 3 (a9a s)),(o_ 0 2 (b5z s)),(o_ s.ga 2 (mK (l5 s.al))),(o_ 0 7 (b5y nd s)),(o_ h 9 (mC out)),(o_ 0 2 [(Key.row (nth ks i))]),(o_ 0 10 [[e_,e_,z_,z_,z_,z_,z_,z_,bF,z_]])]) (.s (.c 5 (l6.put2 [0,1,2,3,4,5] (b6x s nd h out ks i) (AV.agg (p9.row (C8 (maxS s.st (l7 s.l (nth ks i)).card.stamp) now nd))) (b6x s nd h out ks i) (iM s.l s.g s.al s.ga s.gf s.gl s.gt nd s.st (l7 s.l (nth ks i)).card now ) (rlA) (rlA)) (.c 7 ((sO (l7 s.l (nth ks i)) (C8 (maxS s.st (l7 s.l (nth ks i)).card.stamp) now nd) now ((hf (by have q:=of_decide_eq_true h1; omega)).2)).lift kr kr (b6x s nd h out ks i)) (.rd (AV.agg (Entry.row (l7 s.l (nth ks i)))) (b6x s nd h out ks i) (.s (.ch 2 (d1U s ks i now nd h out) (l6.put2 [0,1,2,3,4,5] [(o_ 0 2 (c5t s)),(o_ s.g 10 (mE s.l)),(o_ 0 3 (a9a s)),(o_ 0 2 (b5z s)),(o_ s.ga 2 (mK (l5 s.al))),(o_ 0 7 (b5y nd s)),(o_ h 9 (mC out)),(o_ 0 2 [(Key.row (nth ks i))]),(o_ 0 10 [(Entry.row (l7 s.l (nth ks i)))]),(o_ 0 10 [(Entry.row (G5 (l7 s.l (nth ks i)) (C8 (maxS s.st (l7 s.l (nth ks i)).card.stamp) now nd) now))])] (AV.tup [(AV.sl .clip 9 [(j5.row (G5 (l7 s.l (nth ks i)) (C8 (maxS s.st (l7 s.l (nth ks i)).card.stamp) now nd) now).card)]),z_]) (d1U s ks i now nd h out) (b0M s.l s.g s.al s.ga s.gf s.gl s.gt nd s.st (G5 (l7 s.l (nth ks i)) (C8 (maxS s.st (l7 s.l (nth ks i)).card.stamp) now nd) now) oa oa (b5Q (hf (by have q:=of_decide_eq_true h1; omega)).1 _ _)) (rlA) (rlA)) (.s (.ap 2 30 (AV.osl 6 h 9 0 k) (AV.sl .clip 9 [(j5.row (G5 (l7 s.l (nth ks i)) (C8 (maxS s.st (l7 s.l (nth ks i)).card.stamp) now nd) now).card)]) (vU h k) [(o_ 0 2 (d0X s ks i now nd)),(o_ (H9 (q9 32) s.l (G5 (l7 s.l (nth ks i)) (C8 (maxS s.st (l7 s.l (nth ks i)).card.stamp) now nd) now) s.g) 10 (mE (F6 (q9 32) s.l (G5 (l7 s.l (nth ks i)) (C8 (maxS s.st (l7 s.l (nth ks i)).card.stamp) now nd) now)))),(o_ 0 3 (a9a s)),(o_ 0 2 (d0W s ks i now nd)),(o_ (O1 s.l (G5 (l7 s.l (nth ks i)) (C8 (maxS s.st (l7 s.l (nth ks i)).card.stamp) now nd) now) s.ga) 2 (mK (l5 (J4 s.l (G5 (l7 s.l (nth ks i)) (C8 (maxS s.st (l7 s.l (nth ks i)).card.stamp) now nd) now) s.al)))),(o_ 0 7 (d0V nd s ks i now)),(o_ (h+1) 9 (mC (out++[(G5 (l7 s.l (nth ks i)) (C8 (maxS s.st (l7 s.l (nth ks i)).card.stamp) now nd) now).card]))),(o_ 0 2 [(Key.row (nth ks i))]),(o_ 0 10 [(Entry.row (l7 s.l (nth ks i)))]),(o_ 0 10 [(Entry.row (G5 (l7 s.l (nth ks i)) (C8 (maxS s.st (l7 s.l (nth ks i)).card.stamp) now nd) now))])] (G7 (row:=j5.row) (l:=out) (x:=(G5 (l7 s.l (nth ks i)) (C8 (maxS s.st (l7 s.l (nth ks i)).card.stamp) now nd) now).card) (T:=tt) (e:=50) (te:=dB) (z:=1) (b:=24) (y:=[.sl .nil 0 []]) kr kr rfl E5 E5 kr Y5 rfl rfl jF) (.h' (d1X s ks i now nd h out) (.b 7 (.s (.y 0 (.int .i64 (cb_ i)) (iN (i+1)) Yes.o (.g (.l (k1 h1))))))))))))))))))))) (fun h1 h1'=>(.l (k2 h1))))))
theorem c9c (nd now:Int) (ks:l9K) (hks:ks.length < 1000) (r:Nat):∀ (n i:Nat) (s:DS) (out:l9C) (k h:Nat),i+r=ks.length->k=out.length->k<=i->aG n s->n+r < 100000->a4h s.l (ks.drop i) ->
 j6 (l9 Tryz.prog (X vZ) (x9 Tryz.f76 0)) (some [0,1,7,35,36,37]) (some [0,1,7,35,36,37]) (mkF 72 [(0,(oO 5 0 0 0)),(1,(iI now)),(7,(AV.osl 6 h 9 0 k)),(35,(sA 2 (mK ks))),(36,(iN ks.length)),(37,(iN i))]) [(o_ 0 2 [[(iI (q9 32)),(AV.osl 1 s.g 10 0 (List.length s.l))]]),(o_ s.g 10 (mE s.l)),(o_ 0 3 [[(iI s.gf),(iI s.gl),(iI s.gt)]]),(o_ 0 2 [[(iN ((List.length s.al))),(AV.osl 4 s.ga 2 0 (List.length (l5 s.al)))]]),(o_ s.ga 2 (mK (l5 s.al))),(o_ 0 7 [[(iI nd),(iI s.st.t),(iI s.st.node),(iI s.st.n),(oO 0 0 0 0),(oO 2 0 0 0),(oO 3 0 0 0)]]),(o_ h 9 (mC out))] (.exit 0) (mkF 72 [(0,(oO 5 0 0 0)),(1,(iI now)),(7,(AV.osl 6 (h+r) 9 0 (k+r))),(35,(sA 2 (mK ks))),(36,(iN ks.length)),(37,(iN ks.length))]) [(o_ 0 2 [[(iI (q9 32)),(AV.osl 1 (swF nd now (ks.drop i) s).g 10 0 (List.length (swF nd now (ks.drop i) s).l))]]),(o_ ((swF nd now (ks.drop i) s).g) 10 (mE (swF nd now (ks.drop i) s).l)),(o_ 0 3 [[(iI (swF nd now (ks.drop i) s).gf),(iI (swF nd now (ks.drop i) s).gl),(iI (swF nd now (ks.drop i) s).gt)]]),(o_ 0 2 [[(iN ((List.length (swF nd now (ks.drop i) s).al))),(AV.osl 4 (swF nd now (ks.drop i) s).ga 2 0 (List.length (l5 (swF nd now (ks.drop i) s).al)))]]),(o_ ((swF nd now (ks.drop i) s).ga) 2 (mK (l5 (swF nd now (ks.drop i) s).al))),(o_ 0 7 [[(iI nd),(iI (swF nd now (ks.drop i) s).st.t),(iI (swF nd now (ks.drop i) s).st.node),(iI (swF nd now (ks.drop i) s).st.n),(oO 0 0 0 0),(oO 2 0 0 0),(oO 3 0 0 0)]]),(o_ (h+r) 9 (mC (out++swC nd now (ks.drop i) s)))]:=by
 induction r with
 | zero =>
  intro n i s out k h hi hk hki hI hn hw
  have e:ks.drop i=[]:=List.drop_of_length_le ow
  have hl:=hI.len
  have ha:=hI.al
  rw [e]
  refine b1m nd now ks s out k h i hk hki hks ow ow ow (fun q=>absurd q ow) (fun q=>absurd (of_decide_eq_true q) ow) fun _=>?_
  obtain rfl:i=ks.length:=by omega
  simp only [swF,swC,List.append_nil,Nat.add_zero]
 | succ r ih =>
  intro n i s out k h hi hk hki hI hn hw
  have e:ks.drop i=nth ks i :: ks.drop (i+1):=Y7 ow
  have hl:=hI.len
  have ha:=hI.al
  rw [e] at hw ⊢
  have hf:=hw.2 _ List.mem_cons_self
  refine b1m nd now ks s out k h i hk hki hks ow ow ow (fun _=>hf) (fun _=>?_) fun q=>absurd (of_decide_eq_false q) ow
  have q:=ih (n+1) (i+1) (swS nd now s (nth ks i)) (out++[(swX nd now s (nth ks i)).card]) (k+1) (h+1) ow rV ow (b7B hI nd now _) ow (hw.next hI.srt (x:=swX nd now s (nth ks i)) (c9d hf.1))
  rw [show k+1+r=k+(r+1) by omega,show h+1+r=h+(r+1) by omega,List.append_assoc] at q
  exact q
def b7y (s:DS):Bool:=decide (s.gl < qN (aK s.l))
def y7 (s:DS) (now late:Int):List Key:=if b7y s=true then [] else F3 s.l now late
theorem a3c {l:l9E} (h:l.length<=32) (now late:Int):(F3 l now late).length<=32:=Nat.le_trans (c3B l now late) h
theorem c4r (l:l9E):aK l<=l.length:=by
 with_unfolding_all
  unfold aK
  have key:∀ (l:l9E) (n:Nat),l.foldl (fun s (e:Entry)=>if (!e.card.gone)=true then s+1 else s) n<=n+l.length:=by
   intro l
   induction l with
   | nil=>intro n; simp
   | cons e l ih =>
    intro n
    rw [List.foldl_cons,List.length_cons]
    by_cases hq:(!e.card.gone)=true
    · rw [if_pos hq]; have:=ih (n+1); omega
    · rw [if_neg hq]; have:=ih n; omega
  have:=key l 0
  omega
theorem c2J (nd now:Int) (ks:l9K) (hks:ks.length < 1000) (n:Nat) (s:DS) (hI:aG n s) (hn:n+ks.length < 100000) (hw:a4h s.l ks) :
 j6 (l9 Tryz.prog (X vZ) (x9 Tryz.f76 0)) (some [0,1,7,35,36,37]) (some [0,1,7,35,36,37]) (mkF 72 [(0,(oO 5 0 0 0)),(1,(iI now)),(7,(AV.osl 6 0 9 0 0)),(35,(sA 2 (mK ks))),(36,(iN ks.length)),(37,(iN 0))]) [(o_ 0 2 [[(iI (q9 32)),(AV.osl 1 s.g 10 0 (List.length s.l))]]),(o_ s.g 10 (mE s.l)),(o_ 0 3 [[(iI s.gf),(iI s.gl),(iI s.gt)]]),(o_ 0 2 [[(iN ((List.length s.al))),(AV.osl 4 s.ga 2 0 (List.length (l5 s.al)))]]),(o_ s.ga 2 (mK (l5 s.al))),(o_ 0 7 [[(iI nd),(iI s.st.t),(iI s.st.node),(iI s.st.n),(oO 0 0 0 0),(oO 2 0 0 0),(oO 3 0 0 0)]]),(o_ 0 9 (mC ([]:l9C)))] (.exit 0) (mkF 72 [(0,(oO 5 0 0 0)),(1,(iI now)),(7,(AV.osl 6 ks.length 9 0 ks.length)),(35,(sA 2 (mK ks))),(36,(iN ks.length)),(37,(iN ks.length))]) [(o_ 0 2 [[(iI (q9 32)),(AV.osl 1 (swF nd now ks s).g 10 0 (List.length (swF nd now ks s).l))]]),(o_ ((swF nd now ks s).g) 10 (mE (swF nd now ks s).l)),(o_ 0 3 [[(iI (swF nd now ks s).gf),(iI (swF nd now ks s).gl),(iI (swF nd now ks s).gt)]]),(o_ 0 2 [[(iN ((List.length (swF nd now ks s).al))),(AV.osl 4 (swF nd now ks s).ga 2 0 (List.length (l5 (swF nd now ks s).al)))]]),(o_ ((swF nd now ks s).ga) 2 (mK (l5 (swF nd now ks s).al))),(o_ 0 7 [[(iI nd),(iI (swF nd now ks s).st.t),(iI (swF nd now ks s).st.node),(iI (swF nd now ks s).st.n),(oO 0 0 0 0),(oO 2 0 0 0),(oO 3 0 0 0)]]),(o_ ks.length 9 (mC (swC nd now ks s)))]:=by
 have q:=c9c nd now ks hks ks.length n 0 s [] 0 0 ow rfl ow hI hn hw
 simpa only [List.drop_zero,Nat.zero_add,List.nil_append] using q
@[simp] abbrev a6O (a:Int) (b:Int) (c:Int) (d:l9K) (e:Nat) (f:Int) (g:p9):Heap:=[J3 a b c,M4 d e,(o_ e 2 (mK (l5 d))),P7 f g]
@[simp] abbrev a3S (a:Nat) (b:l9E) (c:Int) (d:Int) (e:Int) (f:l9K) (g:Nat) (h:Int) (i:p9):Heap:=[Q9 a b,(o_ a 10 (mE b)),J3 c d e,M4 f g,(o_ g 2 (mK (l5 f))),P7 h i,(o_ 0 9 (mC []))]
@[simp] abbrev c7Z (a:Int) (b:l9E) (c:Int):Fr:=(mkF 72 [(0,(oO 5 0 0 0)),(1,(iI (d9 a))),(7,(AV.osl 6 (F3 b (d9 a) c).length 9 0 (F3 b (d9 a) c).length)),(35,(sA 2 (mK (F3 b (d9 a) c)))),(36,(iN ((F3 b (d9 a) c).length))),(37,(iN ((F3 b (d9 a) c).length)))])
@[simp] abbrev a6N (a:Int) (b:Int) (c:l9E) (d:Int) (e:Nat) (f:l9K) (h:Nat) (i:Int) (j:Int) (k:Int) (m:p9):Heap:=[(o_ 0 2 [[(iI (q9 32)),(AV.osl 1 (swF a (d9 b) (F3 c (d9 b) d) (DS.mk c e f h i j k m)).g 10 0 (List.length (swF a (d9 b) (F3 c (d9 b) d) (DS.mk c e f h i j k m)).l))]]),(o_ ((swF a (d9 b) (F3 c (d9 b) d) (DS.mk c e f h i j k m)).g) 10 (mE (swF a (d9 b) (F3 c (d9 b) d) (DS.mk c e f h i j k m)).l)),(o_ 0 3 [[(iI (swF a (d9 b) (F3 c (d9 b) d) (DS.mk c e f h i j k m)).gf),(iI (swF a (d9 b) (F3 c (d9 b) d) (DS.mk c e f h i j k m)).gl),(iI (swF a (d9 b) (F3 c (d9 b) d) (DS.mk c e f h i j k m)).gt)]]),(o_ 0 2 [[(iN ((List.length (swF a (d9 b) (F3 c (d9 b) d) (DS.mk c e f h i j k m)).al))),(AV.osl 4 (swF a (d9 b) (F3 c (d9 b) d) (DS.mk c e f h i j k m)).ga 2 0 (List.length (l5 (swF a (d9 b) (F3 c (d9 b) d) (DS.mk c e f h i j k m)).al)))]]),(o_ ((swF a (d9 b) (F3 c (d9 b) d) (DS.mk c e f h i j k m)).ga) 2 (mK (l5 (swF a (d9 b) (F3 c (d9 b) d) (DS.mk c e f h i j k m)).al))),(o_ 0 7 [[(iI a),(iI (swF a (d9 b) (F3 c (d9 b) d) (DS.mk c e f h i j k m)).st.t),(iI (swF a (d9 b) (F3 c (d9 b) d) (DS.mk c e f h i j k m)).st.node),(iI (swF a (d9 b) (F3 c (d9 b) d) (DS.mk c e f h i j k m)).st.n),(oO 0 0 0 0),(oO 2 0 0 0),(oO 3 0 0 0)]]),(o_ ((F3 c (d9 b) d).length) 9 (mC (swC a (d9 b) (F3 c (d9 b) d) (DS.mk c e f h i j k m))))]
theorem a8y (l:l9E) (g:Nat) (al:l9K) (ga:Nat) (gf gl gt nd:Int) (st:p9) (now late:Int) (hs:aR l) (hl:l.length<=32) (ha:al.length < 10000) (hgt:0<=gt/\gt<=1048576):AC 76 [(AV.obj 5 0 0 0),(AV.int .i64 now),(AV.int .i64 late)] (J7 g l gf gl gt al ga nd st) ((AV.sl .any 9 (List.map j5.row (swC nd (d9 now) (y7 (DS.mk l g al ga gf gl gt st) (d9 now) late) (DS.mk l g al ga gf gl gt st)))),[(o_ 0 2 [[(AV.int .i64 (q9 32)),(AV.osl 1 (swF nd (d9 now) (y7 (DS.mk l g al ga gf gl gt st) (d9 now) late) (DS.mk l g al ga gf gl gt st)).g 10 0 (List.length (swF nd (d9 now) (y7 (DS.mk l g al ga gf gl gt st) (d9 now) late) (DS.mk l g al ga gf gl gt st)).l))]]),(o_ ((swF nd (d9 now) (y7 (DS.mk l g al ga gf gl gt st) (d9 now) late) (DS.mk l g al ga gf gl gt st)).g) 10 (List.map Entry.row (swF nd (d9 now) (y7 (DS.mk l g al ga gf gl gt st) (d9 now) late) (DS.mk l g al ga gf gl gt st)).l)),(o_ 0 3 [[(AV.int .i64 (swF nd (d9 now) (y7 (DS.mk l g al ga gf gl gt st) (d9 now) late) (DS.mk l g al ga gf gl gt st)).gf),(AV.int .i64 (swF nd (d9 now) (y7 (DS.mk l g al ga gf gl gt st) (d9 now) late) (DS.mk l g al ga gf gl gt st)).gl),(AV.int .i64 (swF nd (d9 now) (y7 (DS.mk l g al ga gf gl gt st) (d9 now) late) (DS.mk l g al ga gf gl gt st)).gt)]]),(o_ 0 2 [[(AV.int .i64 (((List.length (swF nd (d9 now) (y7 (DS.mk l g al ga gf gl gt st) (d9 now) late) (DS.mk l g al ga gf gl gt st)).al):Nat):Int)),(AV.osl 4 (swF nd (d9 now) (y7 (DS.mk l g al ga gf gl gt st) (d9 now) late) (DS.mk l g al ga gf gl gt st)).ga 2 0 (List.length (l5 (swF nd (d9 now) (y7 (DS.mk l g al ga gf gl gt st) (d9 now) late) (DS.mk l g al ga gf gl gt st)).al)))]]),(o_ ((swF nd (d9 now) (y7 (DS.mk l g al ga gf gl gt st) (d9 now) late) (DS.mk l g al ga gf gl gt st)).ga) 2 (List.map Key.row (l5 (swF nd (d9 now) (y7 (DS.mk l g al ga gf gl gt st) (d9 now) late) (DS.mk l g al ga gf gl gt st)).al))),(o_ 0 7 [[(AV.int .i64 nd),(AV.int .i64 (swF nd (d9 now) (y7 (DS.mk l g al ga gf gl gt st) (d9 now) late) (DS.mk l g al ga gf gl gt st)).st.t),(AV.int .i64 (swF nd (d9 now) (y7 (DS.mk l g al ga gf gl gt st) (d9 now) late) (DS.mk l g al ga gf gl gt st)).st.node),(AV.int .i64 (swF nd (d9 now) (y7 (DS.mk l g al ga gf gl gt st) (d9 now) late) (DS.mk l g al ga gf gl gt st)).st.n),(AV.obj 0 0 0 0),(AV.obj 2 0 0 0),(AV.obj 3 0 0 0)]])]):=by
 have hlv:aK l<=1000:=Nat.le_trans (c4r l) ow
 have hpk:=a3c hl (d9 now) late
 have hcl:=a4i nd (d9 now) (F3 l (d9 now) late) (DS.mk l g al ga gf gl gt st)
 exact r9 (fn:=Tryz.f76) (ann:=vZ) (Has.o Tryz.func76) (.r (.s (.c 1 ((dO now).lift kr kr (J7 g l gf gl gt al ga nd st)) (.s (.c 8 (c2S (q9 32) l g (List.length l) oa oa (a6O gf gl gt al ga nd st)) (.c 9 (l6.put2 [2] (J7 g l gf gl gt al ga nd st) (AV.bool (decide (gl < qN (aK l)))) (J7 g l gf gl gt al ga nd st) (b4e gf gl gt (aK l) oa) (⟨rfl,trivial⟩) (⟨rfl,trivial⟩)) (.rd (AV.obj 2 0 0 0) (J7 g l gf gl gt al ga nd st) (.g (.two (decide (gl < qN (aK l))) (fun h1 h1'=>(.qr 6 (AV.sl .any 9 []) (by (try delta J7 a6O a3S a6N Q9 J3 M4 P7); (have e:y7 (DS.mk l g al ga gf gl gt st) (d9 now) late=[]:=by with_unfolding_all exact if_pos h1); rw [e]; first | done | rfl))) (fun h1 h1'=>(.r (.s (.c 4 (b1q (q9 32) l g (List.length l) oa oa [(o_ 0 3 [[(AV.int .i64 gf),(AV.int .i64 gl),(AV.int .i64 gt)]]),(o_ 0 2 [[(AV.int .i64 (((List.length al):Nat):Int)),(AV.osl 4 ga 2 0 (List.length (l5 al)))]]),(o_ ga 2 (List.map Key.row (l5 al))),(o_ 0 7 [[(AV.int .i64 nd),(AV.int .i64 st.t),(AV.int .i64 st.node),(AV.int .i64 st.n),(AV.obj 0 0 0 0),(AV.obj 2 0 0 0),(AV.obj 3 0 0 0)]]),(o_ 0 9 (List.map j5.row []))]) (.c 7 ((b3r l (d9 now) late oa).lift kr kr (a3S g l gf gl gt al ga nd st)) (.h' (a3S g l gf gl gt al ga nd st) (.y 8 (.int .i64 ((List.length (List.map Key.row (F3 l (d9 now) late)):Nat):Int)) (AV.int .i64 (((F3 l (d9 now) late).length:Nat):Int)) (Yes.len _ _ _) (.g (.loop (c7Z now l late) (show j6 (l9 Tryz.prog (X vZ) (x9 Tryz.f76 0)) (some [0,1,7,35,36,37]) (some [0,1,7,35,36,37]) (mkF 72 [(0,(AV.obj 5 0 0 0)),(1,(AV.int .i64 (d9 now))),(7,(AV.osl 6 0 9 0 0)),(35,(AV.sl .any 2 (List.map Key.row (F3 l (d9 now) late)))),(36,(AV.int .i64 (((F3 l (d9 now) late).length:Nat):Int))),(37,(AV.int .i64 0))]) (a3S g l gf gl gt al ga nd st) (.exit 0) (c7Z now l late) (a6N nd now l late g al ga gf gl gt st) from (c2J nd (d9 now) (F3 l (d9 now) late) ow al.length (DS.mk l g al ga gf gl gt st) ⟨hs,hl,Nat.le_refl _,hgt.1,hgt.2⟩ ow (b8D hs _ _))) (.r (.w 7 (List.map j5.row (swC nd (d9 now) (F3 l (d9 now) late) (DS.mk l g al ga gf gl gt st))) (And.intro (G8 (room:=none) kr om) (j5.y8 _ _):G6 (a6N nd now l late g al ga gf gl gt st) 9 (AV.osl 6 (F3 l (d9 now) late).length 9 0 (F3 l (d9 now) late).length)=some (List.map j5.row (swC nd (d9 now) (F3 l (d9 now) late) (DS.mk l g al ga gf gl gt st)))/\AV.D7 0 (List.map j5.row (swC nd (d9 now) (F3 l (d9 now) late) (DS.mk l g al ga gf gl gt st)))=true) (.g (.h' [(o_ 0 2 [[(AV.int .i64 (q9 32)),(AV.osl 1 (swF nd (d9 now) (F3 l (d9 now) late) (DS.mk l g al ga gf gl gt st)).g 10 0 (List.length (swF nd (d9 now) (F3 l (d9 now) late) (DS.mk l g al ga gf gl gt st)).l))]]),(o_ ((swF nd (d9 now) (F3 l (d9 now) late) (DS.mk l g al ga gf gl gt st)).g) 10 (List.map Entry.row (swF nd (d9 now) (F3 l (d9 now) late) (DS.mk l g al ga gf gl gt st)).l)),(o_ 0 3 [[(AV.int .i64 (swF nd (d9 now) (F3 l (d9 now) late) (DS.mk l g al ga gf gl gt st)).gf),(AV.int .i64 (swF nd (d9 now) (F3 l (d9 now) late) (DS.mk l g al ga gf gl gt st)).gl),(AV.int .i64 (swF nd (d9 now) (F3 l (d9 now) late) (DS.mk l g al ga gf gl gt st)).gt)]]),(o_ 0 2 [[(AV.int .i64 (((List.length (swF nd (d9 now) (F3 l (d9 now) late) (DS.mk l g al ga gf gl gt st)).al):Nat):Int)),(AV.osl 4 (swF nd (d9 now) (F3 l (d9 now) late) (DS.mk l g al ga gf gl gt st)).ga 2 0 (List.length (l5 (swF nd (d9 now) (F3 l (d9 now) late) (DS.mk l g al ga gf gl gt st)).al)))]]),(o_ ((swF nd (d9 now) (F3 l (d9 now) late) (DS.mk l g al ga gf gl gt st)).ga) 2 (List.map Key.row (l5 (swF nd (d9 now) (F3 l (d9 now) late) (DS.mk l g al ga gf gl gt st)).al))),(o_ 0 7 [[(AV.int .i64 nd),(AV.int .i64 (swF nd (d9 now) (F3 l (d9 now) late) (DS.mk l g al ga gf gl gt st)).st.t),(AV.int .i64 (swF nd (d9 now) (F3 l (d9 now) late) (DS.mk l g al ga gf gl gt st)).st.node),(AV.int .i64 (swF nd (d9 now) (F3 l (d9 now) late) (DS.mk l g al ga gf gl gt st)).st.n),(AV.obj 0 0 0 0),(AV.obj 2 0 0 0),(AV.obj 3 0 0 0)]])] (.q 6 (AV.sl .any 9 (List.map j5.row (swC nd (d9 now) (F3 l (d9 now) late) (DS.mk l g al ga gf gl gt st)))) (by (try delta J7 a6O a3S a6N Q9 J3 M4 P7); (have e:y7 (DS.mk l g al ga gf gl gt st) (d9 now) late=F3 l (d9 now) late:=by with_unfolding_all exact if_neg (by unfold b7y; rw [h1]; simp)); rw [e]; first | done | rfl))))))))))))))))))))))))
def a4A:Ann:={ gha:=[(5,.cut 6)],base:=6,fin:=some 6,live:=[(3,[0,5,16,17,18])],out:=[(3,[0,5,16,17,18])] }
@[simp] abbrev c7Y (a:Nat) (b:l9E) (c:l9K) (d:Nat) (e:Int) (f:Int) (g:Int) (h:l9K) (i:Nat) (j:Int) (k:p9):Heap:=[(o_ 0 2 [[(iI (q9 32)),(AV.osl 1 a 10 0 (List.length (K9 b (nth c d))))]]),(o_ a 10 (mE (K9 b (nth c d)))),J3 e f g,M4 h i,(o_ i 2 (mK (l5 h))),P7 j k]
@[simp] abbrev b6y (a:l9K) (b:Nat):Fr:=(mkF 31 [(0,(oO 5 0 0 0)),(5,(sA 2 (mK a))),(16,(sA 2 (mK a))),(17,(iN a.length)),(18,(iN b))])
@[simp] abbrev c5s :=(l9 Tryz.prog (X a4A) (x9 Tryz.f77 0))
theorem a8B (g:Nat) (al:l9K) (ga:Nat) (gf:Int) (gl:Int) (gt:Int) (nd:Int) (st:p9) (ks:l9K) (l:l9E) (i:Nat) (hks:ks.length < 1000) (hl:l.length < 1000) (hle_:i<=ks.length) {eX:Ex} {FX:Fr} {HX:Heap} (k1:(decide ((i:Int) < (ks.length:Int)))=true->j6 c5s (some [0,5,16,17,18]) (some [0,5,16,17,18]) (mkF 31 [(0,(oO 5 0 0 0)),(5,(sA 2 (mK ks))),(16,(sA 2 (mK ks))),(17,(iN ks.length)),(18,(iN (i+1)))]) (c7Y g l ks i gf gl gt al ga nd st) eX FX HX) (k2:(decide ((i:Int) < (ks.length:Int)))=false->((.exit 0:Ex),(b6y ks i),(J7 g l gf gl gt al ga nd st))=(eX,FX,HX)):j6 c5s (some [0,5,16,17,18]) (some [0,5,16,17,18]) (b6y ks i) (J7 g l gf gl gt al ga nd st) eX FX HX :=
 I9 (.r (.g (.two (decide ((i:Int) < (ks.length:Int))) (fun h1 h1'=>(.r (.h' [(o_ 0 2 (a0y g l)),(o_ g 10 (mE l)),(o_ 0 3 (gT gf gl gt)),(o_ 0 2 (jO al ga)),(o_ ga 2 (mK (l5 al))),(o_ 0 7 (sZ nd st)),(o_ 0 2 [[e_,e_]])] (.is 0 2 2 (mK ks) (i:Int) (Key.row (nth ks i)) (N7.mk _ ow ow) (.s (.ch 5 [(o_ 0 2 [[(iI (q9 32)),(AV.osl 1 g 10 0 (List.length (K9 l (nth ks i))))]]),(o_ g 10 (mE (K9 l (nth ks i)))),(o_ 0 3 (gT gf gl gt)),(o_ 0 2 (jO al ga)),(o_ ga 2 (mK (l5 al))),(o_ 0 7 (sZ nd st)),(o_ 0 2 [(Key.row (nth ks i))])] (drop_at (q9 32) l (nth ks i) g (List.length l) oa oa [(o_ 0 3 (gT gf gl gt)),(o_ 0 2 (jO al ga)),(o_ ga 2 (mK (l5 al))),(o_ 0 7 (sZ nd st)),(o_ 0 2 [(Key.row (nth ks i))])]) (.h' (c7Y g l ks i gf gl gt al ga nd st) (.b 6 (.s (.y 0 (.int .i64 (cb_ i)) (iN (i+1)) Yes.o (.g (.l (k1 h1))))))))))))) (fun h1 h1'=>(.l (k2 h1))))))
def a6B (g:Nat) (al:List Key) (ga:Nat) (gf:Int) (gl:Int) (gt:Int) (nd:Int) (st:p9) (ks:List Key) (i:Nat) (s:(List Entry)):(List Entry):=(K9 s (nth ks i))
theorem c4T (g:Nat) (al:l9K) (ga:Nat) (gf:Int) (gl:Int) (gt:Int) (nd:Int) (st:p9) (ks:l9K) (hks:ks.length < 1000)  (r_:Nat):∀ (l:l9E) (i:Nat) (sF:(l9E)),i+r_=ks.length->l.length < 1000->sF=iter (a6B g al ga gf gl gt nd st ks) r_ i (l) ->
 j6 (l9 Tryz.prog (X a4A) (x9 Tryz.f77 0)) (some [0,5,16,17,18]) (some [0,5,16,17,18]) (b6y ks i) (J7 g l gf gl gt al ga nd st) (.exit 0) (mkF 31 [(0,(oO 5 0 0 0)),(5,(sA 2 (mK ks))),(16,(sA 2 (mK ks))),(17,(iN ks.length)),(18,(iN ks.length))]) [(o_ 0 2 [[(iI (q9 32)),(AV.osl 1 g 10 0 (List.length sF))]]),(o_ g 10 (mE sF)),(o_ 0 3 [[(iI gf),(iI gl),(iI gt)]]),(o_ 0 2 [[(iN ((List.length al))),(AV.osl 4 ga 2 0 (List.length (l5 al)))]]),(o_ ga 2 (mK (l5 al))),(o_ 0 7 [[(iI nd),(iI st.t),(iI st.node),(iI st.n),(oO 0 0 0 0),(oO 2 0 0 0),(oO 3 0 0 0)]])]:=by
 induction r_ with
 | zero =>
  intro l i sF hi_ hl  hF
  obtain rfl:ks.length=i:=by omega
  have e_:sF=(l):=hF
  refine a8B g al ga gf gl gt nd st ks l ks.length hks hl (Nat.le_refl _) (fun h=>by simp at h <;> omega) (fun _=>?_)
  first | done | rfl | (rw [e_]; done) | (rw [e_]; rfl)
 | succ r_ ih =>
  intro l i sF hi_ hl  hF
  refine a8B g al ga gf gl gt nd st ks l i hks hl ow (fun h1=>?_) (fun h=>by simp at h <;> omega)
  · exact ih (K9 l (nth ks i)) (i+1) sF ow (by have u1:=a5R l (nth ks i); first | omega | assumption | (simp; done) | (simp; omega) | (simp [*]; done) | (simp [*]; omega))  (by rw [hF] <;> simp only [iter,a6B,if_true,Bool.false_eq_true,if_false])
theorem c4U (g:Nat) (al:l9K) (ga:Nat) (gf gl gt nd:Int) (st:p9) (ks:l9K) (l:l9E):ks.foldl K9 l=iter (a6B g al ga gf gl gt nd st ks) ks.length 0 l:=by
 rw [dX (a6B g al ga gf gl gt nd st ks) K9 ks (fun i s hi=>rfl)]
theorem b4C (ks:l9K):∀ (l:l9E),(ks.foldl K9 l).length<=l.length:=by
 induction ks with
 | nil=>intro l; exact Nat.le_refl _
 | cons k ks ih=>intro l; rw [List.foldl_cons]; exact Nat.le_trans (ih _) (a5R l k)
@[simp] abbrev c7X (a:Nat) (b:l9E) (c:Int) (d:Int) (e:Int) (f:Int) (g:l9K) (h:Nat) (i:Int) (j:p9):Heap:=[(o_ 0 2 [[(iI (q9 32)),(AV.osl 1 a 10 0 (List.length (List.foldl K9 b (O4 b (d9 c)))))]]),(o_ a 10 (mE (List.foldl K9 b (O4 b (d9 c))))),J3 d e f,M4 g h,(o_ h 2 (mK (l5 g))),P7 i j]
@[simp] abbrev a4H (a:l9E) (b:Int):=(iN ((O4 a (d9 b)).length))
@[simp] abbrev c7W (a:l9E) (b:Int):Fr:=(mkF 31 [(0,(oO 5 0 0 0)),(5,(sA 2 (mK (O4 a (d9 b))))),(16,(sA 2 (mK (O4 a (d9 b))))),(17,(a4H a b)),(18,(a4H a b))])
theorem a8C (l:l9E) (g:Nat) (al:l9K) (ga:Nat) (gf gl gt nd:Int) (st:p9) (now:Int) (hl:l.length < 1000):AC 77 [(oO 5 0 0 0),(iI now)] (J7 g l gf gl gt al ga nd st) ((iN ((List.length (O4 l (d9 now))))),(c7X g l now gf gl gt al ga nd st)):=by
 have hdk:=c0C l (d9 now)
 exact r9 (fn:=Tryz.f77) (ann:=a4A) (Has.o Tryz.func77) (.r (.s (.c 4 (b1q (q9 32) l g (List.length l) oa oa (a6O gf gl gt al ga nd st)) (.c 6 ((dO now).lift kr kr (J7 g l gf gl gt al ga nd st)) (.c 7 ((c0z l (d9 now) oa).lift kr kr (J7 g l gf gl gt al ga nd st)) (.s (.y 1 (.int .i64 ((List.length (mK (O4 l (d9 now))):Nat):Int)) (a4H l now) (Yes.len _ _ _) (.g (.loop (c7W l now) (show j6 c5s (some [0,5,16,17,18]) (some [0,5,16,17,18]) (mkF 31 [(0,(oO 5 0 0 0)),(5,(sA 2 (mK (O4 l (d9 now))))),(16,(sA 2 (mK (O4 l (d9 now))))),(17,(a4H l now)),(18,z_)]) (J7 g l gf gl gt al ga nd st) (.exit 0) (c7W l now) (c7X g l now gf gl gt al ga nd st) from (c4T g al ga gf gl gt nd st (O4 l (d9 now)) ow (O4 l (d9 now)).length l 0 _ ow ow (c4U _ _ _ _ _ _ _ _ _ _))) (.r (.y 1 (.int .i64 ((List.length (mK (O4 l (d9 now))):Nat):Int)) (a4H l now) (Yes.len _ _ _) (.q 6 (a4H l now)))))))))))))
end Go.Proofs.YtmghjcbabebanaaGreat.AM
