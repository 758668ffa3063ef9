/-
  Texts of this claim, part 6 of 8: an abstract machine over the model; what functions come to; plain laws.
-/
import Derived.Test.YtfjedpipdnlkfaaGreatMZ45
set_option linter.unusedSectionVars false
set_option maxRecDepth 100000
set_option linter.unusedVariables false
set_option linter.unusedSimpArgs false
namespace Go.Proofs.YtfjedpipdnlkfaaGreat.AM
open Go Go.Proofs.YtfjedpipdnlkfaaGreat
attribute [local irreducible] A9 C9 E8 F8 F9 I5 I7 J4 M7 P7 P9 Q8 Tp.key Tp.keyT Tp.next Tp.step d9 j6 l6 l7 l9 maxS opM r9 tuR
def hdM (q:Msg) (code:Int):Msg:=⟨2,q.op,0,code,q.tag,0,0,q.key,false,0,[],[]⟩
def c8H:Ann:={ refs:=[4],gha:=[(10,.frzf 6 11 9),(10,.frzf 6 12 2)],base:=6,fin:=some 6 }
@[simp] abbrev d0R (a:l9E) (b:Nat) (c:l9K) (d:Nat) (e:Int) (f:Int) (h:l8) (i:Msg) (j:Int) (k:Int) (m:Int):Heap:=[(o_ 0 2 [[(iI (o7 32)),(AV.osl 1 (tuR a b c d e f h i (j4 j)).g 10 0 (List.length (tuR a b c d e f h i (j4 j)).l))]]),(o_ ((tuR a b c d e f h i (j4 j)).g) 10 (mE (tuR a b c d e f h i (j4 j)).l)),(o_ 0 3 [[(iI k),(iI m),(iI (tuR a b c d e f h i (j4 j)).gt)]]),(o_ 0 2 [[(iN ((List.length (tuR a b c d e f h i (j4 j)).al))),(AV.osl 4 (tuR a b c d e f h i (j4 j)).ga 2 0 (List.length (o8 (tuR a b c d e f h i (j4 j)).al)))]]),(o_ ((tuR a b c d e f h i (j4 j)).ga) 2 (mK (o8 (tuR a b c d e f h i (j4 j)).al))),(o_ 0 7 [[(iI f),(iI (tuR a b c d e f h i (j4 j)).st.t),(iI (tuR a b c d e f h i (j4 j)).st.node),(iI (tuR a b c d e f h i (j4 j)).st.n),(oO 0 0 0 0),(oO 2 0 0 0),(oO 3 0 0 0)]])]
@[simp] abbrev aL :Ob:=(o_ 0 13 [[z_,z_,z_,z_,z_,z_,z_,e_,e_,bF,(AV.int .u32 0),(AV.sl .nil 0 []),(AV.sl .nil 0 [])]])
@[simp] abbrev c5w (a:Nat) (b:l9E) (c:Int) (d:Int) (e:Int) (f:l9K) (g:Nat) (h:Int) (i:l8):Heap:=[fV a b,(o_ a 10 (mE b)),D8 c d e,aF f g,(o_ g 2 (mK (o8 f))),aQ h i,aL]
@[simp] abbrev a8x (a:Msg):=[[(iI 2),(iI a.op),z_,z_,(iI a.tag),z_,z_,(AV.str a.key.app),(AV.str a.key.id),bF,(AV.int .u32 0),(AV.sl .nil 0 []),(AV.sl .nil 0 [])]]
@[simp] abbrev a1u (a:Nat) (b:l9E) (c:Int) (d:Int) (e:Int) (f:l9K) (g:Nat) (h:Int) (i:l8) (j:Msg):Heap:=[fV a b,(o_ a 10 (mE b)),D8 c d e,aF f g,(o_ g 2 (mK (o8 f))),aQ h i,aL,(o_ 0 13 (a8x j))]
theorem K5 {p:Prop} (h:p:=by rw [hk]; rfl):p:=h
@[simp] abbrev d2T (a:Msg) (b:l9E) (d:Nat) (e:l9K) (f:Nat) (g h:Int) (i:l8) (j:Int):=(AV.tup [(AV.agg [(iI 2),(iI a.op),z_,(iI (tuR b d e f g h i a (j4 j)).code),(iI a.tag),z_,z_,(AV.str a.key.app),(AV.str a.key.id),bF,(AV.int .u32 0),(sA 9 (mC [])),(sA 2 (mK []))]),(sA 9 (mC (tuR b d e f g h i a (j4 j)).c))])
theorem c3G (l:l9E) (g:Nat) (al:l9K) (ga:Nat) (gf gl gt nd:Int) (st:l8) (q:Msg) (now:Int) (hl:l.length < 1000) (ha:al.length < 100000) (hgt:0<=gt/\gt < 4611686018427387904) (ho1:1<=q.op) (ho5:q.op < 5) (hs0:0<=q.status) (hk:q.kind=1) (hr:P7 q=true):AC 18 [(oO 5 0 0 0),(AV.agg (Msg.row q)),(iI now)] (I8 g l gf gl gt al ga nd st) ((AV.tup [(AV.agg (Msg.row (hdM q (tuR l g al ga gt nd st q (j4 now)).code))),(sA 9 (mC (tuR l g al ga gt nd st q (j4 now)).c))]),(d0R l g al ga gt nd st q now gf gl)) :=
 o9 (fn:=Tryz.f18) (ann:=c8H) (Has.o Tryz.func18) (.r (.s (.c 1 ((dR now).lift kr kr (c5w g l gf gl gt al ga nd st)) (.s (.s (.h' (a1u g l gf gl gt al ga nd st q) (.y 2 (bB (q.kind != 1)) bF (Yes.b K5) (.n2 (.c 5 ((yB q oa).lift kr kr (a1u g l gf gl gt al ga nd st q)) (.n (.rn (.y 2 (bB (q.op == 5)) bF (Yes.b (by have z:¬ q.op=5:=ow; simpa using z)) (.rn (.ch 3 [(o_ 0 2 [[(iI (o7 32)),(AV.osl 1 (tuR l g al ga gt nd st q (j4 now)).g 10 0 (List.length (tuR l g al ga gt nd st q (j4 now)).l))]]),(o_ ((tuR l g al ga gt nd st q (j4 now)).g) 10 (mE (tuR l g al ga gt nd st q (j4 now)).l)),(o_ 0 3 [[(iI gf),(iI gl),(iI (tuR l g al ga gt nd st q (j4 now)).gt)]]),(o_ 0 2 [[(iN ((List.length (tuR l g al ga gt nd st q (j4 now)).al))),(AV.osl 4 (tuR l g al ga gt nd st q (j4 now)).ga 2 0 (List.length (o8 (tuR l g al ga gt nd st q (j4 now)).al)))]]),(o_ ((tuR l g al ga gt nd st q (j4 now)).ga) 2 (mK (o8 (tuR l g al ga gt nd st q (j4 now)).al))),(o_ 0 7 [[(iI nd),(iI (tuR l g al ga gt nd st q (j4 now)).st.t),(iI (tuR l g al ga gt nd st q (j4 now)).st.node),(iI (tuR l g al ga gt nd st q (j4 now)).st.n),(oO 0 0 0 0),(oO 2 0 0 0),(oO 3 0 0 0)]]),(o_ 0 13 [[z_,z_,z_,z_,z_,z_,z_,e_,e_,bF,(AV.int .u32 0),(AV.sl .nil 0 []),(AV.sl .nil 0 [])]]),(o_ 0 13 (a8x q))] (c7K l g al ga gf gl gt nd st q (j4 now) oa oa oa oa oa oa [(o_ 0 13 [[z_,z_,z_,z_,z_,z_,z_,e_,e_,bF,(AV.int .u32 0),(AV.sl .nil 0 []),(AV.sl .nil 0 [])]]),(o_ 0 13 (a8x q))]) (.s (.s (.o (rfl:0=0) (.o (rfl:0=0) (.g (.h' (d0R l g al ga gt nd st q now gf gl) (.q 6 (d2T q l g al ga gt nd st now))))))))))))))))))))))
def c3N:Ann:={ refs:=[11],fin:=some 0 }
theorem rQ (tx:ByteArray) (code:Int) (h:¬ code=0):AC 96 [(AV.str tx),(iI code)] [] ((AV.iface 222 (AV.ref [(AV.str tx),(AV.iface 42 (iI code))] 0)),[]) :=
 o9 (fn:=Tryz.f96) (ann:=c3N) (Has.o Tryz.func96) (.r (.s (.y 1 (bB (code == 0)) bF (Yes.b yk_) (.g (.n (.qr 0 (AV.iface 222 (AV.ref [(AV.str tx),(AV.iface 42 (iI code))] 0))))))))
theorem aT {q:Msg} (hk:q.kind=1) (h:F9 q=true):q.code=0/\q.full=false/\q.sum=0/\q.cards=[]/\q.keys=[]:=by
 with_unfolding_all
  unfold F9 at h
  rw [if_pos hk] at h
  simp only [fK,Bool.and_eq_true,decide_eq_true_eq,beq_iff_eq,List.length_eq_zero_iff] at h
  obtain ⟨h1,h2,_,_,_,h3,_,_,_,_,h4,h5⟩:=h
  exact ⟨h3,h4,h5,h1,h2⟩
def a1h (b:List UInt8) (code:Int):AV:=.ref [.str (ByteArray.mk b.toArray),.iface 42 (.int .i64 code)] 0
def dD (q:Msg):AV:=if F9 q=false then a1h [122,101,114,111] 12 else if opM q=false then a1h [111,112] 12 else a1h [110,117,109,98,101,114] 1
@[simp] theorem d2G (n:Nat) (q:Msg):AV.bdd n (dD q)=true:=by unfold dD a1h; split <;> (try split) <;> simp [AV.bdd,AV.bdds]
def c8u:Ann:={ refs:=[1],fin:=some 0 }
theorem gK {p:Prop} (h:p:=by rw [hz]; rfl):p:=h
@[simp] abbrev c9F :=(AV.ref [(AV.str (ByteArray.mk #[122,101,114,111])),(AV.iface 42 (iI 12))] 0)
theorem c2Z (q:Msg) (hk:q.kind=1) (hz:F9 q=false):AC 53 [(AV.agg (Msg.row q))] [] ((AV.iface 222 c9F),[]) :=
 o9 (fn:=Tryz.f53) (ann:=c8u) (Has.o Tryz.func53) (.r (.s (.y 2 (fQ q) bF (Yes.b K5) (.n3 (.y 6 (fP q) bF (Yes.b K5) (.rn (.c 1 ((kH q).lift kr kr []) (.y 2 (bB (!(F9 q))) bT (Yes.b gK) (.ru (.c 0 ((rQ (ByteArray.mk #[122,101,114,111]) 12 oa).lift kr kr []) (.q 0 (AV.iface 222 c9F))))))))))))
def c8v:Ann:={ refs:=[1],fin:=some 0 }
@[simp] abbrev c9E :=(AV.ref [(AV.str (ByteArray.mk #[111,112])),(AV.iface 42 (iI 12))] 0)
theorem c3a (q:Msg) (hk:q.kind=1) (hz:F9 q=true) (ho:opM q=false):AC 53 [(AV.agg (Msg.row q))] [] ((AV.iface 222 c9E),[]) :=
 o9 (fn:=Tryz.f53) (ann:=c8v) (Has.o Tryz.func53) (.r (.s (.y 2 (fQ q) bF (Yes.b K5) (.n3 (.y 6 (fP q) bF (Yes.b K5) (.rn (.c 1 ((kH q).lift kr kr []) (.y 2 (bB (!(F9 q))) bF (Yes.b gK) (.rn (.c 1 ((vS q).lift kr kr []) (.y 2 (bB (!(opM q))) bT (Yes.b L6) (.ru (.c 0 ((rQ (ByteArray.mk #[111,112]) 12 oa).lift kr kr []) (.q 0 (AV.iface 222 c9E)))))))))))))))
def c3c:Ann:={ refs:=[1],fin:=some 0 }
theorem nG {p:Prop} (h:p:=by rw [hn]; rfl):p:=h
@[simp] abbrev b5J :=(AV.ref [(AV.str (ByteArray.mk #[110,117,109,98,101,114])),(AV.iface 42 (iI 1))] 0)
theorem b9o (q:Msg) (hk:q.kind=1) (hz:F9 q=true) (ho:opM q=true) (hn:Q8 q.status=false):AC 53 [(AV.agg (Msg.row q))] [] ((AV.iface 222 b5J),[]) :=
 o9 (fn:=Tryz.f53) (ann:=c3c) (Has.o Tryz.func53) (.r (.s (.y 2 (fQ q) bF (Yes.b K5) (.n3 (.y 6 (fP q) bF (Yes.b K5) (.rn (.c 1 ((kH q).lift kr kr []) (.y 2 (bB (!(F9 q))) bF (Yes.b gK) (.rn (.c 1 ((vS q).lift kr kr []) (.y 2 (bB (!(opM q))) bF (Yes.b L6) (.rn (.c 2 ((eT q.code).lift kr kr []) (.y 3 (bB (!(Q8 q.code))) bF (Yes.b (by rw [(aT hk hz).1]; with_unfolding_all rfl)) (.n3 (.c 7 ((eT q.status).lift kr kr []) (.n (.y 8 (bB (!(Q8 q.status))) bT (Yes.b nG) (.u3 (.ru (.c 0 ((rQ (ByteArray.mk #[110,117,109,98,101,114]) 1 oa).lift kr kr []) (.q 0 (AV.iface 222 b5J)))))))))))))))))))))))
def c3b:Ann:={ refs:=[1],fin:=some 0 }
theorem b9n (q:Msg) (hk:q.kind=1) (hz:F9 q=true) (ho:opM q=true) (hn:Q8 q.status=true) (hs:q.seq < -1):AC 53 [(AV.agg (Msg.row q))] [] ((AV.iface 222 b5J),[]) :=
 o9 (fn:=Tryz.f53) (ann:=c3b) (Has.o Tryz.func53) (.r (.s (.y 2 (fQ q) bF (Yes.b K5) (.n3 (.y 6 (fP q) bF (Yes.b K5) (.rn (.c 1 ((kH q).lift kr kr []) (.y 2 (bB (!(F9 q))) bF (Yes.b gK) (.rn (.c 1 ((vS q).lift kr kr []) (.y 2 (bB (!(opM q))) bF (Yes.b L6) (.rn (.c 2 ((eT q.code).lift kr kr []) (.y 3 (bB (!(Q8 q.code))) bF (Yes.b (by rw [(aT hk hz).1]; with_unfolding_all rfl)) (.n3 (.c 7 ((eT q.status).lift kr kr []) (.n (.y 8 (bB (!(Q8 q.status))) bF (Yes.b nG) (.n3 (.y 13 (yU q) bT (Yes.b (decide_eq_true hs)) (.ru (.c 0 ((rQ (ByteArray.mk #[110,117,109,98,101,114]) 1 oa).lift kr kr []) (.q 0 (AV.iface 222 b5J))))))))))))))))))))))))
theorem gJ {p:Prop} (h:p:=by rw [hz]; simp):p:=h
theorem pW {p:Prop} (h:p:=by rw [ho]; simp):p:=h
theorem c3d (q : Msg) (hk : q.kind = 1) (hr : P7 q = false) : AC 53 [(AV.agg (Msg.row q))] [] ((AV.iface 222 (dD q)), []) := by
  cases hz : F9 q with
  | false => have e : dD q = a1h [122, 101, 114, 111] 12 := by unfold dD; rw [if_pos hz]
             rw [e]; exact c2Z q hk hz
  | true =>
    cases ho : opM q with
    | false => have e : dD q = a1h [111, 112] 12 := by unfold dD; rw [if_neg gJ, if_pos ho]
               rw [e]; exact c3a q hk hz ho
    | true =>
      have e : dD q = a1h [110, 117, 109, 98, 101, 114] 1 := by unfold dD; rw [if_neg gJ, if_neg pW]
      rw [e]
      cases hn : Q8 q.status with
      | false => exact b9o q hk hz ho hn
      | true =>
        refine b9n q hk hz ho hn ?_
        obtain ⟨c1, c2, c3, c4, c5⟩ := aT hk hz
        have hw : Q8 0 = true := by with_unfolding_all rfl
        by_cases h : q.seq < -1
        · exact h
        · have : P7 q = true := by
            with_unfolding_all
              unfold P7
              rw [hz, ho, c1, hw, hn, c4, c5, hk, decide_eq_true (show -1 ≤ q.seq by omega)]
              rfl
          rw [this] at hr; simp at hr
theorem c9a (q:Msg) (hk:q.kind=1) (hr:P7 q=false) (H:Heap):AC 53 [(AV.agg (Msg.row q))] H ((AV.iface 222 (dD q)),H):=(c3d q hk hr).lift kr (by simp [AV.bdd,AV.bdds]) H
attribute [local irreducible] dD
def c8E:Ann:={ refs:=[4],gha:=[(5,.frzf 6 11 9),(5,.frzf 6 12 2),(5,.any 7 9)],base:=6,fin:=some 6 }
@[simp] abbrev b5I (a:Msg):=(AV.tup [(AV.agg [(iI 2),(iI a.op),z_,(iI 1),(iI a.tag),z_,z_,(AV.str a.key.app),(AV.str a.key.id),bF,(AV.int .u32 0),(sA 9 (mC [])),(sA 2 (mK []))]),(sA 9 [])])
theorem c3D (l:l9E) (g:Nat) (al:l9K) (ga:Nat) (gf gl gt nd:Int) (st:l8) (q:Msg) (now:Int) (hk:¬ q.kind=1):AC 18 [(oO 5 0 0 0),(AV.agg (Msg.row q)),(iI now)] (I8 g l gf gl gt al ga nd st) ((AV.tup [(AV.agg (Msg.row (hdM q 1))),(sA 9 (mC ([]:l9C)))]),(I8 g l gf gl gt al ga nd st)) :=
 o9 (fn:=Tryz.f18) (ann:=c8E) (Has.o Tryz.func18) (.r (.s (.c 1 ((dR now).lift kr kr (c5w g l gf gl gt al ga nd st)) (.s (.s (.h' (a1u g l gf gl gt al ga nd st q) (.y 2 (bB (q.kind != 1)) bT (Yes.b (by simpa using hk)) (.u3 (.ru (.s (.o (rfl:0=0) (.o (rfl:0=0) (.g (.h' (I8 g l gf gl gt al ga nd st) (.q 6 (b5I q))))))))))))))))
def c8G:Ann:={ refs:=[4],gha:=[(5,.frzf 6 11 9),(5,.frzf 6 12 2),(5,.any 7 9)],base:=6,fin:=some 6 }
theorem c3F (l:l9E) (g:Nat) (al:l9K) (ga:Nat) (gf gl gt nd:Int) (st:l8) (q:Msg) (now:Int) (hk:q.kind=1) (hr:P7 q=false):AC 18 [(oO 5 0 0 0),(AV.agg (Msg.row q)),(iI now)] (I8 g l gf gl gt al ga nd st) ((AV.tup [(AV.agg (Msg.row (hdM q 1))),(sA 9 (mC ([]:l9C)))]),(I8 g l gf gl gt al ga nd st)) :=
 o9 (fn:=Tryz.f18) (ann:=c8G) (Has.o Tryz.func18) (.r (.s (.c 1 ((dR now).lift kr kr (c5w g l gf gl gt al ga nd st)) (.s (.s (.h' (a1u g l gf gl gt al ga nd st q) (.y 2 (bB (q.kind != 1)) bF (Yes.b K5) (.n2 (.c 5 (c9a q oa oa (a1u g l gf gl gt al ga nd st q)) (.n (.ru (.s (.o (rfl:0=0) (.o (rfl:0=0) (.g (.h' (I8 g l gf gl gt al ga nd st) (.q 6 (b5I q))))))))))))))))))
def Tp.ask (t:Tp):Msg × Tp :=
 let u:=(t.step 50).step 5
 if (((1+(t.step 50).next 5:Nat):Int) == 5)=true then (⟨1,((1+(t.step 50).next 5:Nat):Int),0,0,((t.next 50:Nat):Int),0,((u.next 40:Nat):Int) - 1,⟨⟨#[]⟩,⟨#[]⟩⟩,false,0,[],[]⟩,u.step 40)
 else (⟨1,((1+(t.step 50).next 5:Nat):Int),((((u.keyT).step 60).next 5:Nat):Int),0,((t.next 50:Nat):Int),(((u.keyT).next 60:Nat):Int),0,u.key,false,0,[],[]⟩,((u.keyT).step 60).step 5)
def c1B:Ann:={ gha:=[(4,.frzf 2 11 9),(4,.frzf 2 12 2),(6,.frzf 2 11 9),(6,.frzf 2 12 2)],base:=1,fin:=some 1 }
@[simp] abbrev a3I :Heap:=[aL,aL]
@[simp] abbrev a3H (a:Tp):Heap:=[aL,(o_ 0 13 [[(iI 1),(iN (1+((a.step 50).next 5))),z_,z_,(iN (a.next 50)),z_,z_,e_,e_,bF,(AV.int .u32 0),(AV.sl .nil 0 []),(AV.sl .nil 0 [])]])]
theorem a2I {p:Prop} (h:p:=by first | omega | assumption | (simp; done) | (simp; omega) | (simp only [Tp.jV,Tp.yE]; assumption)):p:=h
theorem b7I (t:Tp) (hl:t.l.length < 9223372036854775808):AC 48 [(AV.obj 0 0 0 0)] [(o_ 0 2 [(Tp.row t)])] ((AV.agg (Msg.row t.ask.1)),[(o_ 0 2 [(Tp.row t.ask.2)])]):=by
 have n5:=(t.step 50).next_lt 5 ow
 have n4:=((t.step 50).step 5).next_lt 40 ow
 exact o9 (fn:=Tryz.f48) (ann:=c1B) (Has.o Tryz.func48) (.r (.s (.ch 1 [(o_ 0 2 [(Tp.row (t.step 50))]),(o_ 0 13 [[(AV.int .i64 0),(AV.int .i64 0),(AV.int .i64 0),(AV.int .i64 0),(AV.int .i64 0),(AV.int .i64 0),(AV.int .i64 0),(AV.str ⟨#[]⟩),(AV.str ⟨#[]⟩),(AV.bool false),(AV.int .u32 0),(AV.sl .nil 0 []),(AV.sl .nil 0 [])]]),(o_ 0 13 [[(AV.int .i64 0),(AV.int .i64 0),(AV.int .i64 0),(AV.int .i64 0),(AV.int .i64 0),(AV.int .i64 0),(AV.int .i64 0),(AV.str ⟨#[]⟩),(AV.str ⟨#[]⟩),(AV.bool false),(AV.int .u32 0),(AV.sl .nil 0 []),(AV.sl .nil 0 [])]])] (l6.pre (args:=[(AV.obj 0 0 0 0),(AV.int .i64 ((50:Nat):Int))]) (args':=[(AV.obj 0 0 0 0),(AV.int .i64 50)]) (W9 t 50 a2I a3I) ⟨AV.j3 _,AV.j3 _,trivial⟩) (.ch 3 [(o_ 0 2 [(Tp.row ((t.step 50).step 5))]),(o_ 0 13 [[(AV.int .i64 0),(AV.int .i64 0),(AV.int .i64 0),(AV.int .i64 0),(AV.int .i64 0),(AV.int .i64 0),(AV.int .i64 0),(AV.str ⟨#[]⟩),(AV.str ⟨#[]⟩),(AV.bool false),(AV.int .u32 0),(AV.sl .nil 0 []),(AV.sl .nil 0 [])]]),(o_ 0 13 [[(AV.int .i64 0),(AV.int .i64 0),(AV.int .i64 0),(AV.int .i64 0),(AV.int .i64 0),(AV.int .i64 0),(AV.int .i64 0),(AV.str ⟨#[]⟩),(AV.str ⟨#[]⟩),(AV.bool false),(AV.int .u32 0),(AV.sl .nil 0 []),(AV.sl .nil 0 [])]])] (l6.pre (args:=[(AV.obj 0 0 0 0),(AV.int .i64 ((5:Nat):Int))]) (args':=[(AV.obj 0 0 0 0),(AV.int .i64 5)]) (W9 (t.step 50) 5 a2I a3I) ⟨AV.j3 _,AV.j3 _,trivial⟩) (.y 4 (iW (1+(((t.step 50).next 5:Nat):Int))) (AV.int .i64 ((1+((t.step 50).next 5):Nat):Int)) Yes.o (.s (.g (.two (((1+((t.step 50).next 5):Nat):Int) == 5) (fun h1 h1'=>(.r (.ch 1 [(o_ 0 2 [(Tp.row (((t.step 50).step 5).step 40))]),(o_ 0 13 [[(AV.int .i64 0),(AV.int .i64 0),(AV.int .i64 0),(AV.int .i64 0),(AV.int .i64 0),(AV.int .i64 0),(AV.int .i64 0),(AV.str ⟨#[]⟩),(AV.str ⟨#[]⟩),(AV.bool false),(AV.int .u32 0),(AV.sl .nil 0 []),(AV.sl .nil 0 [])]]),(o_ 0 13 [[(AV.int .i64 1),(AV.int .i64 ((1+((t.step 50).next 5):Nat):Int)),(AV.int .i64 0),(AV.int .i64 0),(AV.int .i64 ((t.next 50:Nat):Int)),(AV.int .i64 0),(AV.int .i64 0),(AV.str ⟨#[]⟩),(AV.str ⟨#[]⟩),(AV.bool false),(AV.int .u32 0),(AV.sl .nil 0 []),(AV.sl .nil 0 [])]])] (l6.pre (args:=[(AV.obj 0 0 0 0),(AV.int .i64 ((40:Nat):Int))]) (args':=[(AV.obj 0 0 0 0),(AV.int .i64 40)]) (W9 ((t.step 50).step 5) 40 a2I (a3H t)) ⟨AV.j3 _,AV.j3 _,trivial⟩) (.y 2 (iW (((((t.step 50).step 5).next 40:Nat):Int) - 1)) (AV.int .i64 (((((t.step 50).step 5).next 40:Nat):Int) - 1)) Yes.o (.s (.o (rfl:0=0) (.o (rfl:0=0) (.g (.h' [(o_ 0 2 [(Tp.row (((t.step 50).step 5).step 40))])] (.q 1 (AV.agg [(AV.int .i64 1),(AV.int .i64 ((1+((t.step 50).next 5):Nat):Int)),(AV.int .i64 0),(AV.int .i64 0),(AV.int .i64 ((t.next 50:Nat):Int)),(AV.int .i64 0),(AV.int .i64 (((((t.step 50).step 5).next 40:Nat):Int) - 1)),(AV.str ⟨#[]⟩),(AV.str ⟨#[]⟩),(AV.bool false),(AV.int .u32 0),(AV.sl .any 9 (List.map j5.row [])),(AV.sl .any 2 (List.map Key.row []))]) (by (try delta a3I a3H aL aL); unfold Tp.ask; simp only []; rw [if_pos h1]; first | done | rfl))))))))))) (fun h1 h1'=>(.r (.ch 1 [(o_ 0 2 [(Tp.row ((t.step 50).step 5).keyT)]),(o_ 0 13 [[(AV.int .i64 0),(AV.int .i64 0),(AV.int .i64 0),(AV.int .i64 0),(AV.int .i64 0),(AV.int .i64 0),(AV.int .i64 0),(AV.str ⟨#[]⟩),(AV.str ⟨#[]⟩),(AV.bool false),(AV.int .u32 0),(AV.sl .nil 0 []),(AV.sl .nil 0 [])]]),(o_ 0 13 [[(AV.int .i64 1),(AV.int .i64 ((1+((t.step 50).next 5):Nat):Int)),(AV.int .i64 0),(AV.int .i64 0),(AV.int .i64 ((t.next 50:Nat):Int)),(AV.int .i64 0),(AV.int .i64 0),(AV.str ⟨#[]⟩),(AV.str ⟨#[]⟩),(AV.bool false),(AV.int .u32 0),(AV.sl .nil 0 []),(AV.sl .nil 0 [])]])] (b9y ((t.step 50).step 5) a2I (a3H t)) (.ch 3 [(o_ 0 2 [(Tp.row (((t.step 50).step 5).keyT.step 60))]),(o_ 0 13 [[(AV.int .i64 0),(AV.int .i64 0),(AV.int .i64 0),(AV.int .i64 0),(AV.int .i64 0),(AV.int .i64 0),(AV.int .i64 0),(AV.str ⟨#[]⟩),(AV.str ⟨#[]⟩),(AV.bool false),(AV.int .u32 0),(AV.sl .nil 0 []),(AV.sl .nil 0 [])]]),(o_ 0 13 [[(AV.int .i64 1),(AV.int .i64 ((1+((t.step 50).next 5):Nat):Int)),(AV.int .i64 0),(AV.int .i64 0),(AV.int .i64 ((t.next 50:Nat):Int)),(AV.int .i64 0),(AV.int .i64 0),(AV.str ⟨#[]⟩),(AV.str ⟨#[]⟩),(AV.bool false),(AV.int .u32 0),(AV.sl .nil 0 []),(AV.sl .nil 0 [])]])] (l6.pre (args:=[(AV.obj 0 0 0 0),(AV.int .i64 ((60:Nat):Int))]) (args':=[(AV.obj 0 0 0 0),(AV.int .i64 60)]) (W9 ((t.step 50).step 5).keyT 60 a2I (a3H t)) ⟨AV.j3 _,AV.j3 _,trivial⟩) (.ch 5 [(o_ 0 2 [(Tp.row ((((t.step 50).step 5).keyT.step 60).step 5))]),(o_ 0 13 [[(AV.int .i64 0),(AV.int .i64 0),(AV.int .i64 0),(AV.int .i64 0),(AV.int .i64 0),(AV.int .i64 0),(AV.int .i64 0),(AV.str ⟨#[]⟩),(AV.str ⟨#[]⟩),(AV.bool false),(AV.int .u32 0),(AV.sl .nil 0 []),(AV.sl .nil 0 [])]]),(o_ 0 13 [[(AV.int .i64 1),(AV.int .i64 ((1+((t.step 50).next 5):Nat):Int)),(AV.int .i64 0),(AV.int .i64 0),(AV.int .i64 ((t.next 50:Nat):Int)),(AV.int .i64 0),(AV.int .i64 0),(AV.str ⟨#[]⟩),(AV.str ⟨#[]⟩),(AV.bool false),(AV.int .u32 0),(AV.sl .nil 0 []),(AV.sl .nil 0 [])]])] (l6.pre (args:=[(AV.obj 0 0 0 0),(AV.int .i64 ((5:Nat):Int))]) (args':=[(AV.obj 0 0 0 0),(AV.int .i64 5)]) (W9 (((t.step 50).step 5).keyT.step 60) 5 a2I (a3H t)) ⟨AV.j3 _,AV.j3 _,trivial⟩) (.s (.o (rfl:0=0) (.o (rfl:0=0) (.g (.h' [(o_ 0 2 [(Tp.row ((((t.step 50).step 5).keyT.step 60).step 5))])] (.q 1 (AV.agg [(AV.int .i64 1),(AV.int .i64 ((1+((t.step 50).next 5):Nat):Int)),(AV.int .i64 (((((t.step 50).step 5).keyT.step 60).next 5:Nat):Int)),(AV.int .i64 0),(AV.int .i64 ((t.next 50:Nat):Int)),(AV.int .i64 ((((t.step 50).step 5).keyT.next 60:Nat):Int)),(AV.int .i64 0),(AV.str ((t.step 50).step 5).key.app),(AV.str ((t.step 50).step 5).key.id),(AV.bool false),(AV.int .u32 0),(AV.sl .any 9 (List.map j5.row [])),(AV.sl .any 2 (List.map Key.row []))]) (by (try delta a3I a3H aL aL); unfold Tp.ask; simp only []; (rw [if_neg (by rw [h1]; simp)]); first | done | rfl))))))))))))))))))))
theorem c7T (t:Tp) (hl:t.l.length < 9223372036854775808) (H:Heap):AC 48 [(oO 0 0 0 0)] (([(o_ 0 2 [(Tp.row t)])]:Heap)++H) ((AV.agg (Msg.row t.ask.1)),([(o_ 0 2 [(Tp.row t.ask.2)])]:Heap)++H):=(b7I t hl).ext kr kr ob ob kr H
end Go.Proofs.YtfjedpipdnlkfaaGreat.AM
namespace Go.Proofs.YtfjedpipdnlkfaaGreat.AM
open Go Go.Proofs.YtfjedpipdnlkfaaGreat
attribute [local irreducible] A9 C9 E8 F4 F6 G6 H9 I5 J4 J6 K4 M5 S9 Z5 atC cO d9 j6 l6 l9 o7 o8 ofB okS r9 u7
def b6j:Ann:={ base:=4,fin:=some 4 }
@[simp] abbrev oD (a:l9K) (b:Nat):=[[(iN ((List.length a))),(AV.osl 3 b 2 0 (List.length (o8 a)))]]
@[simp] abbrev wU (a:l9K) (b:Nat):Ob:=(o_ 0 2 (oD a b))
@[simp] abbrev kL (a:Int) (b:Nat) (c:Nat) (d:l9E) (e:l9K) (f:Nat):Heap:=[bL a b c,(o_ b 10 (mE d)),wU e f,(o_ f 2 (mK (o8 e)))]
@[simp] abbrev wV (a:Int) (b:Nat) (c:Nat) (d:l9E) (e:l9K) (f:Nat):Heap:=[bL a b c,(o_ b 10 (mE d)),wU e f,(o_ f 2 (mK (o8 e))),aL]
theorem b1m (most:Int) (l:l9E) (g n:Nat) (al:l9K) (ga:Nat) (hn:n=l.length) (hl:l.length < 1000) (ha:al.length < 1000000):AC 172 [(oO 0 0 0 0),(oO 2 0 0 0)] (kL most g n l al ga) ((AV.agg [(iI 2),(iI 5),z_,z_,z_,z_,(iN al.length),e_,e_,bF,(P6 l),(AV.sl .nil 0 []),(AV.sl .nil 0 [])]),(kL most g n l al ga)):=by
 have hm:(List.map Entry.card l).length=l.length:=List.length_map _
 exact o9 (fn:=Tryz.f172) (ann:=b6j) (Has.o Tryz.func172) (.r (.s (.c 1 (l6.pre (args:=[(oO 2 0 0 0)]) (args':=[(oO 2 0 0 0)]) (l6.put2 [2,3] (wV most g n l al ga) (iN al.length) (wV most g n l al ga) (a0L al ga ) (⟨rfl,⟨Ob.ren0 (Key.p8 0 _),trivial⟩⟩) (⟨rfl,⟨Ob.ren0 (Key.p8 0 _),trivial⟩⟩)) ⟨AV.j3 _,trivial⟩) (.c 3 (a4f most l g n oa oa [(o_ 0 2 (oD al ga)),(o_ ga 2 (mK (o8 al))),(o_ 0 13 [[z_,z_,z_,z_,z_,z_,z_,e_,e_,bF,(AV.int .u32 0),(AV.sl .nil 0 []),(AV.sl .nil 0 [])]])]) (.c 4 ((a6x (l.map (·.card)) oa).lift kr kr (wV most g n l al ga)) (.q 4 (AV.agg [(iI 2),(iI 5),z_,z_,z_,z_,(iN al.length),e_,e_,bF,(AV.int .u32 (ofB (l.map (·.card)))),(AV.sl .nil 0 []),(AV.sl .nil 0 [])])))))))
theorem a4U (most:Int) (l:l9E) (g n:Nat) (al:l9K) (ga:Nat) (hn:n=l.length) (hl:l.length < 1000) (ha:al.length < 1000000) (H:Heap):AC 172 [(oO 0 0 0 0),(oO 2 0 0 0)] ((kL most g n l al ga)++H) ((AV.agg [(iI 2),(iI 5),z_,z_,z_,z_,(iN al.length),e_,e_,bF,(AV.int .u32 (ofB (List.map Entry.card l))),(AV.sl .nil 0 []),(AV.sl .nil 0 [])]),(kL most g n l al ga)++H):=(b1m most l g n al ga hn hl ha).ext kr kr ob ob kr H
def b4V:Ann:={ base:=4,fin:=some 4 }
theorem sQ (most:Int) (l:l9E) (g n:Nat) (al:l9K) (ga:Nat) (hn:n=l.length) (hl:l.length < 1000) (ha:al.length < 1000000):AC 106 [(oO 0 0 0 0),(oO 2 0 0 0)] (kL most g n l al ga) ((AV.agg [(iI 2),(iI 5),z_,z_,z_,z_,(iN al.length),e_,e_,bT,(P6 l),(tF l),(AV.sl .nil 0 [])]),(kL most g n l al ga)):=by
 have hm:(List.map Entry.card l).length=l.length:=List.length_map _
 exact o9 (fn:=Tryz.f106) (ann:=b4V) (Has.o Tryz.func106) (.r (.s (.n2 (.rn (.c 2 (a4U most l g n al ga oa oa oa a3I) (.s (.c 1 (a4f most l g n oa oa [(o_ 0 2 (oD al ga)),(o_ ga 2 (mK (o8 al))),(o_ 0 13 [[z_,z_,z_,z_,z_,z_,z_,e_,e_,bF,(AV.int .u32 0),(AV.sl .nil 0 []),(AV.sl .nil 0 [])]]),(o_ 0 13 [[(iI 2),(iI 5),z_,z_,z_,z_,(iN al.length),e_,e_,bF,(P6 l),(AV.sl .nil 0 []),(AV.sl .nil 0 [])]])]) (.c 2 ((a1K (l.map (·.card)) oa).lift kr kr [(o_ 0 2 (oH most g n)),(o_ g 10 (mE l)),(o_ 0 2 (oD al ga)),(o_ ga 2 (mK (o8 al))),(o_ 0 13 [[z_,z_,z_,z_,z_,z_,z_,e_,e_,bF,(AV.int .u32 0),(AV.sl .nil 0 []),(AV.sl .nil 0 [])]]),(o_ 0 13 [[(iI 2),(iI 5),z_,z_,z_,z_,(iN al.length),e_,e_,bF,(P6 l),(AV.sl .nil 0 []),(AV.sl .nil 0 [])]])]) (.g (.qr 4 (AV.agg [(iI 2),(iI 5),z_,z_,z_,z_,(iN al.length),e_,e_,bT,(P6 l),(sA 9 (mC (K4 (l.map (·.card))))),(AV.sl .nil 0 [])])))))))))))
theorem b9Y (most:Int) (l:l9E) (g n:Nat) (al:l9K) (ga:Nat) (hn:n=l.length) (hl:l.length < 1000) (ha:al.length < 1000000) (H:Heap):AC 106 [(oO 0 0 0 0),(oO 2 0 0 0)] ((kL most g n l al ga)++H) ((AV.agg [(iI 2),(iI 5),z_,z_,z_,z_,(iN al.length),e_,e_,bT,(AV.int .u32 (ofB (List.map Entry.card l))),(sA 9 (mC (K4 (List.map Entry.card l)))),(AV.sl .nil 0 [])]),(kL most g n l al ga)++H):=(sQ most l g n al ga hn hl ha).ext kr kr ob ob kr H
def pF:Ann:={ gh:=[(16,.frzf 9 11 9)],gha:=[(6,.virf 9 11 9),(15,.cut 7)],base:=4,fin:=some 4,live:=[(8,[0,6,9,36,37,38])],out:=[(8,[0,6,9,36,37,38])] }
@[simp] abbrev d0Q (a:l9K) (b:Nat):Fr:=(mkF 61 [(0,(oO 0 0 0 0)),(6,(oO 4 0 0 0)),(9,(oO 5 0 0 0)),(36,(sA 2 (mK a))),(37,(iN a.length)),(38,(iN (b+1)))])
@[simp] abbrev a1l (a b:Nat):=(AV.osl 6 (a+1) 9 0 (b+1))
@[simp] abbrev c6K (a:l9K) (b:l9E) (c:Nat) (d:Nat):Ob:=(o_ 0 13 [[(iI 2),(iI 5),z_,z_,z_,z_,(iN a.length),e_,e_,bF,(P6 b),(a1l c d),(AV.sl .nil 0 [])]])
@[simp] abbrev d0P (a:Int) (b:Nat) (c:Nat) (d:l9E) (e:l9K) (f:Nat) (g:Nat) (h:Nat) (i:l9C) (j:l9K) (k:Nat):Heap:=[bL a b c,(o_ b 10 (mE d)),wU e f,(o_ f 2 (mK (o8 e))),aL,c6K e d g h,(o_ (g+1) 9 (mC (i++[(d9 d (nth j k)).card])))]
@[simp] abbrev d0O (a:Int) (b:Nat) (c:Nat) (d:l9E) (e:l9K) (f:Nat) (g:Nat) (h:Nat) (i:l9C) (j:l9K) (k:Nat):Heap:=[bL a b c,(o_ b 10 (mE d)),wU e f,(o_ f 2 (mK (o8 e))),aL,c6K e d g h,(o_ (g+1) 9 (mC (i++[(j5.mk (nth j k) 2 0 1 (l8.mk 0 0 0) true)])))]
@[simp] abbrev c5v (a:l9K) (b:Nat):Fr:=(mkF 61 [(0,(oO 0 0 0 0)),(6,(oO 4 0 0 0)),(9,(oO 5 0 0 0)),(36,(sA 2 (mK a))),(37,(iN a.length)),(38,(iN b))])
@[simp] abbrev c5u (a:Int) (b:Nat) (c:Nat) (d:l9E) (e:l9K) (f:Nat) (g:Nat) (h:Nat) (i:l9C):Heap:=[bL a b c,(o_ b 10 (mE d)),wU e f,(o_ f 2 (mK (o8 e))),aL,(o_ 0 13 [[(iI 2),(iI 5),z_,z_,z_,z_,(iN e.length),e_,e_,bF,(P6 d),(AV.osl 6 g 9 0 h),(AV.sl .nil 0 [])]]),(o_ g 9 (mC i))]
@[simp] abbrev b5H :=(l9 Tryz.prog (X pF) (p9 Tryz.f107 0))
theorem a0D (most:Int) (l:l9E) (g:Nat) (n:Nat) (al:l9K) (ga:Nat) (ks:l9K) (out:l9C) (k:Nat) (gc:Nat) (i:Nat) (hn:n=l.length) (hl:l.length < 1000) (ha:al.length < 1000000) (hk:ks.length < 1000000) (hko:k=out.length) (hki:k<=i) (hle_:i<=ks.length) {eX:Ex} {FX:Fr} {HX:Heap} (k1:(decide ((i:Int) < (ks.length:Int)))=true->(r9 l (nth ks i))=true->j6 b5H (some [0,6,9,36,37,38]) (some [0,6,9,36,37,38]) (d0Q ks i) (d0P most g n l al ga gc k out ks i) eX FX HX) (k2:(decide ((i:Int) < (ks.length:Int)))=true->(r9 l (nth ks i))=false->j6 b5H (some [0,6,9,36,37,38]) (some [0,6,9,36,37,38]) (d0Q ks i) (d0O most g n l al ga gc k out ks i) eX FX HX) (k3:(decide ((i:Int) < (ks.length:Int)))=false->((.exit 0:Ex),(c5v ks i),(c5u most g n l al ga gc k out))=(eX,FX,HX)):j6 b5H (some [0,6,9,36,37,38]) (some [0,6,9,36,37,38]) (c5v ks i) (c5u most g n l al ga gc k out) eX FX HX :=
 F7 (.r (.g (.two (decide ((i:Int) < (ks.length:Int))) (fun h1 h1'=>(.r (.h' [(o_ 0 2 (oH most g n)),(o_ g 10 (mE l)),(o_ 0 2 (oD al ga)),(o_ ga 2 (mK (o8 al))),(o_ 0 13 [[z_,z_,z_,z_,z_,z_,z_,e_,e_,bF,(AV.int .u32 0),(AV.sl .nil 0 []),(AV.sl .nil 0 [])]]),(o_ 0 13 [[(iI 2),(iI 5),z_,z_,z_,z_,(iN al.length),e_,e_,bF,(P6 l),(AV.osl 6 gc 9 0 k),(AV.sl .nil 0 [])]]),(o_ gc 9 (mC out)),(o_ 0 2 [[e_,e_]])] (.is 0 2 2 (mK ks) (i:Int) (Key.row (nth ks i)) (J8.mk _ ow ow) (.s (.s (.c 2 (get_at most l (nth ks i) g n oa oa [(o_ 0 2 (oD al ga)),(o_ ga 2 (mK (o8 al))),(o_ 0 13 [[z_,z_,z_,z_,z_,z_,z_,e_,e_,bF,(AV.int .u32 0),(AV.sl .nil 0 []),(AV.sl .nil 0 [])]]),(o_ 0 13 [[(iI 2),(iI 5),z_,z_,z_,z_,(iN al.length),e_,e_,bF,(P6 l),(AV.osl 6 gc 9 0 k),(AV.sl .nil 0 [])]]),(o_ gc 9 (mC out)),(o_ 0 2 [(Key.row (nth ks i))]),(o_ 0 9 (a3D ks i)),(o_ 0 10 [[e_,e_,z_,z_,z_,z_,z_,z_,bF,z_]])]) (.s (.g (.two (r9 l (nth ks i)) (fun h2 h2'=>(.r (.s (.h' [(o_ 0 2 (oH most g n)),(o_ g 10 (mE l)),(o_ 0 2 (oD al ga)),(o_ ga 2 (mK (o8 al))),(o_ 0 13 [[z_,z_,z_,z_,z_,z_,z_,e_,e_,bF,(AV.int .u32 0),(AV.sl .nil 0 []),(AV.sl .nil 0 [])]]),(o_ 0 13 [[(iI 2),(iI 5),z_,z_,z_,z_,(iN al.length),e_,e_,bF,(P6 l),(AV.osl 6 gc 9 0 k),(AV.sl .nil 0 [])]]),(o_ gc 9 (mC out)),(o_ 0 2 [(Key.row (nth ks i))]),(o_ 0 9 [(j5.row (d9 l (nth ks i)).card)]),(o_ 0 10 [(Entry.row (d9 l (nth ks i)))])] (.ap 4 32 (AV.osl 6 gc 9 0 k) (AV.sl .clip 9 [(j5.row (d9 l (nth ks i)).card)]) (a1l gc k) [(o_ 0 2 (oH most g n)),(o_ g 10 (mE l)),(o_ 0 2 (oD al ga)),(o_ ga 2 (mK (o8 al))),(o_ 0 13 [[z_,z_,z_,z_,z_,z_,z_,e_,e_,bF,(AV.int .u32 0),(AV.sl .nil 0 []),(AV.sl .nil 0 [])]]),(o_ 0 13 [[(iI 2),(iI 5),z_,z_,z_,z_,(iN al.length),e_,e_,bF,(P6 l),(AV.osl 6 gc 9 0 k),(AV.sl .nil 0 [])]]),(o_ (gc+1) 9 (mC (out++[(d9 l (nth ks i)).card]))),(o_ 0 2 [(Key.row (nth ks i))]),(o_ 0 9 [(j5.row (d9 l (nth ks i)).card)]),(o_ 0 10 [(Entry.row (d9 l (nth ks i)))])] (H6 (row:=j5.row) (l:=out) (x:=(d9 l (nth ks i)).card) (T:=tt) (e:=39) (te:=jU) (z:=1) (b:=24) (y:=[.sl .nil 0 []]) kr kr rfl z8 z8 kr aU rfl rfl pX) (.s (.h' [(o_ 0 2 (oH most g n)),(o_ g 10 (mE l)),(o_ 0 2 (oD al ga)),(o_ ga 2 (mK (o8 al))),(o_ 0 13 [[z_,z_,z_,z_,z_,z_,z_,e_,e_,bF,(AV.int .u32 0),(AV.sl .nil 0 []),(AV.sl .nil 0 [])]]),(o_ 0 13 [[(iI 2),(iI 5),z_,z_,z_,z_,(iN al.length),e_,e_,bF,(P6 l),(a1l gc k),(AV.sl .nil 0 [])]]),(o_ (gc+1) 9 (mC (out++[(d9 l (nth ks i)).card]))),(o_ 0 2 [(Key.row (nth ks i))]),(o_ 0 9 [(j5.row (d9 l (nth ks i)).card)]),(o_ 0 10 [(Entry.row (d9 l (nth ks i)))])] (.y 0 (.int .i64 (cb_ i)) (iN (i+1)) Yes.o (.h' (d0P most g n l al ga gc k out ks i) (.b 7 (.g (.l (k1 h1 h2))))))))))))) (fun h2 h2'=>(.r (.h' [(o_ 0 2 (oH most g n)),(o_ g 10 (mE l)),(o_ 0 2 (oD al ga)),(o_ ga 2 (mK (o8 al))),(o_ 0 13 [[z_,z_,z_,z_,z_,z_,z_,e_,e_,bF,(AV.int .u32 0),(AV.sl .nil 0 []),(AV.sl .nil 0 [])]]),(o_ 0 13 [[(iI 2),(iI 5),z_,z_,z_,z_,(iN al.length),e_,e_,bF,(P6 l),(AV.osl 6 gc 9 0 k),(AV.sl .nil 0 [])]]),(o_ gc 9 (mC out)),(o_ 0 2 [(Key.row (nth ks i))]),(o_ 0 9 (a3D ks i)),(o_ 0 10 [(Entry.row (d9 l (nth ks i)))])] (.ap 4 32 (AV.osl 6 gc 9 0 k) (AV.sl .clip 9 (a3D ks i)) (a1l gc k) [(o_ 0 2 (oH most g n)),(o_ g 10 (mE l)),(o_ 0 2 (oD al ga)),(o_ ga 2 (mK (o8 al))),(o_ 0 13 [[z_,z_,z_,z_,z_,z_,z_,e_,e_,bF,(AV.int .u32 0),(AV.sl .nil 0 []),(AV.sl .nil 0 [])]]),(o_ 0 13 [[(iI 2),(iI 5),z_,z_,z_,z_,(iN al.length),e_,e_,bF,(P6 l),(AV.osl 6 gc 9 0 k),(AV.sl .nil 0 [])]]),(o_ (gc+1) 9 (mC (out++[(j5.mk (nth ks i) 2 0 1 (l8.mk 0 0 0) true)]))),(o_ 0 2 [(Key.row (nth ks i))]),(o_ 0 9 (a3D ks i)),(o_ 0 10 [(Entry.row (d9 l (nth ks i)))])] (H6 (row:=j5.row) (l:=out) (x:=(j5.mk (nth ks i) 2 0 1 (l8.mk 0 0 0) true)) (T:=tt) (e:=39) (te:=jU) (z:=1) (b:=24) (y:=[.sl .nil 0 []]) kr kr rfl z8 z8 kr aU rfl rfl pX) (.s (.h' [(o_ 0 2 (oH most g n)),(o_ g 10 (mE l)),(o_ 0 2 (oD al ga)),(o_ ga 2 (mK (o8 al))),(o_ 0 13 [[z_,z_,z_,z_,z_,z_,z_,e_,e_,bF,(AV.int .u32 0),(AV.sl .nil 0 []),(AV.sl .nil 0 [])]]),(o_ 0 13 [[(iI 2),(iI 5),z_,z_,z_,z_,(iN al.length),e_,e_,bF,(P6 l),(a1l gc k),(AV.sl .nil 0 [])]]),(o_ (gc+1) 9 (mC (out++[(j5.mk (nth ks i) 2 0 1 (l8.mk 0 0 0) true)]))),(o_ 0 2 [(Key.row (nth ks i))]),(o_ 0 9 (a3D ks i)),(o_ 0 10 [(Entry.row (d9 l (nth ks i)))])] (.y 0 (.int .i64 (cb_ i)) (iN (i+1)) Yes.o (.h' (d0O most g n l al ga gc k out ks i) (.b 7 (.g (.l (k2 h1 h2)))))))))))))))))))))) (fun h1 h1'=>(.l (k3 h1))))))
def lT (most:Int) (l:List Entry) (g:Nat) (n:Nat) (al:List Key) (ga:Nat) (ks:List Key) (i:Nat) (s:(List j5) × Nat × Nat):(List j5) × Nat × Nat:=(if (r9 l (nth ks i))=true then (s.1++[(d9 l (nth ks i)).card],(s.2.1+1),(s.2.2+1)) else (s.1++[(j5.mk (nth ks i) 2 0 1 (l8.mk 0 0 0) true)],(s.2.1+1),(s.2.2+1)))
theorem b0W (most:Int) (l:l9E) (g:Nat) (n:Nat) (al:l9K) (ga:Nat) (ks:l9K) (hn:n=l.length) (hl:l.length < 1000) (ha:al.length < 1000000) (hk:ks.length < 1000000)  (r_:Nat):∀ (out:l9C) (k:Nat) (gc:Nat) (i:Nat) (sF:(l9C) × Nat × Nat),i+r_=ks.length->k=out.length->k<=i->sF=iter (lT most l g n al ga ks) r_ i (out,k,gc) ->
 j6 (l9 Tryz.prog (X pF) (p9 Tryz.f107 0)) (some [0,6,9,36,37,38]) (some [0,6,9,36,37,38]) (c5v ks i) (c5u most g n l al ga gc k out) (.exit 0) (mkF 61 [(0,(oO 0 0 0 0)),(6,(oO 4 0 0 0)),(9,(oO 5 0 0 0)),(36,(sA 2 (mK ks))),(37,(iN ks.length)),(38,(iN ks.length))]) [(o_ 0 2 [[(iI most),(AV.osl 1 g 10 0 n)]]),(o_ g 10 (mE l)),(o_ 0 2 [[(iN ((List.length al))),(AV.osl 3 ga 2 0 (List.length (o8 al)))]]),(o_ ga 2 (mK (o8 al))),(o_ 0 13 [[z_,z_,z_,z_,z_,z_,z_,e_,e_,bF,(AV.int .u32 0),(AV.sl .nil 0 []),(AV.sl .nil 0 [])]]),(o_ 0 13 [[(iI 2),(iI 5),z_,z_,z_,z_,(iN al.length),e_,e_,bF,(AV.int .u32 (ofB (List.map Entry.card l))),(AV.osl 6 sF.2.2 9 0 sF.2.1),(AV.sl .nil 0 [])]]),(o_ sF.2.2 9 (mC sF.1))]:=by
 induction r_ with
 | zero =>
  intro out k gc i sF hi_ hko hki  hF
  obtain rfl:ks.length=i:=by omega
  have e_:sF=(out,k,gc):=hF
  refine a0D most l g n al ga ks out k gc ks.length hn hl ha hk hko hki (Nat.le_refl _) (fun h _=>by simp at h <;> omega) (fun h _=>by simp at h <;> omega) (fun _=>?_)
  first | done | rfl | (rw [e_]; done) | (rw [e_]; rfl)
 | succ r_ ih =>
  intro out k gc i sF hi_ hko hki  hF
  refine a0D most l g n al ga ks out k gc i hn hl ha hk hko hki ow (fun h1 h2=>?_) (fun h1 h2=>?_) (fun h=>by simp at h <;> omega)
  · exact ih (out++[(d9 l (nth ks i)).card]) (k+1) (gc+1) (i+1) sF ow N9 N9  (by rw [hF] <;> simp only [iter,lT,h2,if_true,Bool.false_eq_true,if_false])
  · exact ih (out++[(j5.mk (nth ks i) 2 0 1 (l8.mk 0 0 0) true)]) (k+1) (gc+1) (i+1) sF ow N9 N9  (by rw [hF] <;> simp only [iter,lT,h2,if_true,Bool.false_eq_true,if_false])
theorem b0X (most:Int) (l:l9E) (g n:Nat) (al:l9K) (ga:Nat) (ks:l9K):(ks.map (atC l),(ks.map (atC l)).length,(ks.map (atC l)).length)=iter (lT most l g n al ga ks) ks.length 0 ([],0,0):=by
 rw [V5 (lT most l g n al ga ks) (fun s k=>(s.1++[atC l k],s.2.1+1,s.2.2+1)) ks (fun i s hi=>?_)]
 · rw [yK (atC l) ks]; simp
 · with_unfolding_all simp only [lT,atC,b4K]
   by_cases h1:r9 l (nth ks i)=true <;> simp [h1]
@[simp] abbrev d0N (a:Int) (b:Nat) (c:Nat) (d:l9E) (e:l9K) (f:Nat):Heap:=[bL a b c,(o_ b 10 (mE d)),wU e f,(o_ f 2 (mK (o8 e))),aL,(o_ 0 13 [[(iI 2),(iI 5),z_,z_,z_,z_,(iN e.length),e_,e_,bF,(P6 d),(AV.osl 6 0 9 0 0),(AV.sl .nil 0 [])]]),(o_ 0 9 (mC []))]
@[simp] abbrev c6M (a:l9K) (b:Int):Fr:=(mkF 61 [(0,(oO 0 0 0 0)),(6,(oO 4 0 0 0)),(9,(oO 5 0 0 0)),(36,(sA 2 (mK (F4 a b)))),(37,(yV a b)),(38,(yV a b))])
@[simp] abbrev c6L (a:Int) (b:Nat) (c:Nat) (d:l9E) (e:l9K) (f:Nat) (g:Int):Heap:=[bL a b c,(o_ b 10 (mE d)),wU e f,(o_ f 2 (mK (o8 e))),aL,(o_ 0 13 [[(iI 2),(iI 5),z_,z_,z_,z_,(iN e.length),e_,e_,bF,(P6 d),(AV.osl 6 (List.map (atC d) (F4 e g)).length 9 0 (List.map (atC d) (F4 e g)).length),(AV.sl .nil 0 [])]]),(o_ ((List.map (atC d) (F4 e g)).length) 9 (mC (List.map (atC d) (F4 e g))))]
theorem a7Y (most:Int) (l:l9E) (g n:Nat) (al:l9K) (ga:Nat) (since:Int) (hn:n=l.length) (hl:l.length < 1000) (ha:al.length < 1000000) (hok:okS al since=true):AC 107 [(oO 0 0 0 0),(oO 2 0 0 0),(iI since)] (kL most g n l al ga) ((AV.agg [(iI 2),(iI 5),z_,z_,z_,z_,(iN al.length),e_,e_,bF,(P6 l),(sA 9 (mC (List.map (atC l) (F4 al since)))),(AV.sl .nil 0 [])]),(kL most g n l al ga)):=by
 have hm:(List.map Entry.card l).length=l.length:=List.length_map _
 have hs:=jW al since
 have hd:(List.map (atC l) (F4 al since)).length=(F4 al since).length:=List.length_map _
 exact o9 (fn:=Tryz.f107) (ann:=pF) (Has.o Tryz.func107) (.r (.s (.n2 (.rn (.c 2 (l6.pre (args:=[(oO 2 0 0 0),(iI since)]) (args':=[(oO 2 0 0 0),(iI since)]) (l6.put2 [2,3] (wV most g n l al ga) (b5P al since) (wV most g n l al ga) (a1H al ga since oa) (⟨rfl,⟨Ob.ren0 (Key.p8 0 _),trivial⟩⟩) (⟨rfl,⟨Ob.ren0 (Key.p8 0 _),trivial⟩⟩)) ⟨AV.j3 _,AV.j3 _,trivial⟩) (.s (.h' (wV most g n l al ga) (.y 1 (bB (!(okS al since))) bF (Yes.b (by rw [hok]; rfl)) (.rn (.c 2 (a4U most l g n al ga oa oa oa a3I) (.o (rfl:0=0) (.s (.h' (d0N most g n l al ga) (.y 1 (.int .i64 ((List.length (mK (F4 al since)):Nat):Int)) (yV al since) (Yes.len _ _ _) (.g (.loop (c6M al since) (show j6 b5H (some [0,6,9,36,37,38]) (some [0,6,9,36,37,38]) (mkF 61 [(0,(oO 0 0 0 0)),(6,(oO 4 0 0 0)),(9,(oO 5 0 0 0)),(36,(sA 2 (mK (F4 al since)))),(37,(yV al since)),(38,z_)]) (d0N most g n l al ga) (.exit 0) (c6M al since) (c6L most g n l al ga since) from (b0W most l g n al ga (F4 al since) ow ow ow ow (List.length (F4 al since)) [] 0 0 0 (List.map (atC l) (F4 al since),(List.map (atC l) (F4 al since)).length,(List.map (atC l) (F4 al since)).length) ow rfl ow (b0X _ _ _ _ _ _ _))) (.r (.w 9 (mC (List.map (atC l) (F4 al since))) (And.intro rfl (And.intro (G7 (room:=none) kr om) (j5.p8 _ _)):0=0/\F5 (c6L most g n l al ga since) 9 (AV.osl 6 (List.map (atC l) (F4 al since)).length 9 0 (List.map (atC l) (F4 al since)).length)=some (mC (List.map (atC l) (F4 al since)))/\AV.D5 0 (mC (List.map (atC l) (F4 al since)))=true) (.g (.h' (kL most g n l al ga) (.q 4 (AV.agg [(iI 2),(iI 5),z_,z_,z_,z_,(iN al.length),e_,e_,bF,(P6 l),(sA 9 (mC (List.map (atC l) (F4 al since)))),(AV.sl .nil 0 [])]))))))))))))))))))))))
theorem a7Z (most:Int) (l:l9E) (g n:Nat) (al:l9K) (ga:Nat) (since:Int) (hn:n=l.length) (hl:l.length < 1000) (ha:al.length < 1000000) (hok:okS al since=false):AC 107 [(oO 0 0 0 0),(oO 2 0 0 0),(iI since)] (kL most g n l al ga) ((AV.agg [(iI 2),(iI 5),z_,z_,z_,z_,(iN al.length),e_,e_,bT,(P6 l),(tF l),(AV.sl .nil 0 [])]),(kL most g n l al ga)):=by
 have hm:(List.map Entry.card l).length=l.length:=List.length_map _
 have hs:=jW al since
 have hd:(List.map (atC l) (F4 al since)).length=(F4 al since).length:=List.length_map _
 exact o9 (fn:=Tryz.f107) (ann:=pF) (Has.o Tryz.func107) (.r (.s (.n2 (.rn (.c 2 (l6.pre (args:=[(oO 2 0 0 0),(iI since)]) (args':=[(oO 2 0 0 0),(iI since)]) (l6.put2 [2,3] (wV most g n l al ga) (b5P al since) (wV most g n l al ga) (a1H al ga since oa) (⟨rfl,⟨Ob.ren0 (Key.p8 0 _),trivial⟩⟩) (⟨rfl,⟨Ob.ren0 (Key.p8 0 _),trivial⟩⟩)) ⟨AV.j3 _,AV.j3 _,trivial⟩) (.s (.h' (wV most g n l al ga) (.y 1 (bB (!(okS al since))) bT (Yes.b (by rw [hok]; rfl)) (.ru (.c 2 (b9Y most l g n al ga oa oa oa [(o_ 0 13 [[z_,z_,z_,z_,z_,z_,z_,e_,e_,bF,(AV.int .u32 0),(AV.sl .nil 0 []),(AV.sl .nil 0 [])]])]) (.g (.h' (kL most g n l al ga) (.q 4 (AV.agg [(iI 2),(iI 5),z_,z_,z_,z_,(iN al.length),e_,e_,bT,(P6 l),(tF l),(AV.sl .nil 0 [])]))))))))))))))
theorem b0V (most:Int) (l:l9E) (g n:Nat) (al:l9K) (ga:Nat) (since:Int) (hn:n=l.length) (hl:l.length < 1000) (ha:al.length < 1000000):AC 107 [(oO 0 0 0 0),(oO 2 0 0 0),(iI since)] [(o_ 0 2 [[(iI most),(AV.osl 1 g 10 0 n)]]),(o_ g 10 (mE l)),(o_ 0 2 [[(iN ((List.length al))),(AV.osl 3 ga 2 0 (List.length (o8 al)))]]),(o_ ga 2 (mK (o8 al)))] ((AV.agg [(iI 2),(iI 5),z_,z_,z_,z_,(iN al.length),e_,e_,(bB (!(okS al since))),(AV.int .u32 (ofB (List.map Entry.card l))),(sA 9 (mC (X3 l al since))),(AV.sl .nil 0 [])]),[(o_ 0 2 [[(iI most),(AV.osl 1 g 10 0 n)]]),(o_ g 10 (mE l)),(o_ 0 2 [[(iN ((List.length al))),(AV.osl 3 ga 2 0 (List.length (o8 al)))]]),(o_ ga 2 (mK (o8 al)))]):=by
 cases h:okS al since with
 | true=>have h1:=a7Y most l g n al ga since hn hl ha h; unfold X3; rw [if_pos h]; exact h1
 | false=>have h1:=a7Z most l g n al ga since hn hl ha h; unfold X3; rw [if_neg a5V]; exact h1
def a7P (l:List Entry) (al:List Key) (seq tag:Int):Msg:=⟨2,5,0,0,tag,0,(al.length:Int),⟨⟨#[]⟩,⟨#[]⟩⟩,!(okS al seq),ofB (List.map Entry.card l),X3 l al seq,[]⟩
def a7G (l:List Entry) (al:List Key) (tag:Int):Msg:=⟨2,5,0,0,tag,0,(al.length:Int),⟨⟨#[]⟩,⟨#[]⟩⟩,true,ofB (List.map Entry.card l),K4 (List.map Entry.card l),[]⟩
def aI (l:List Entry) (al:List Key) (seq tag:Int):Msg:=if seq = -1 then a7G l al tag else a7P l al seq tag
def b0T:Ann:={ refs:=[3],gha:=[(5,.frzf 4 11 9),(5,.frzf 4 12 2)],base:=6,fin:=some 6 }
@[simp] abbrev a5J (a:Nat) (b:l9E) (c:Int) (d:Int) (e:Int) (f:l9K) (g:Nat) (h:Int) (i:l8):Heap:=[fV a b,(o_ a 10 (mE b)),D8 c d e,aF f g,(o_ g 2 (mK (o8 f))),aQ h i,aL,aL]
@[simp] abbrev a5I (a:Nat) (b:l9E) (c:Int) (d:Int) (e:Int) (f:l9K) (g:Nat) (h:Int) (i:l8):Heap:=[fV a b,(o_ a 10 (mE b)),D8 c d e,aF f g,(o_ g 2 (mK (o8 f))),aQ h i,aL,(o_ 0 13 [[(iI 2),(iI 5),z_,z_,z_,z_,(iN f.length),e_,e_,bT,(P6 b),(tF b),(AV.sl .nil 0 [])]])]
theorem a7W (l:l9E) (g:Nat) (al:l9K) (ga:Nat) (gf gl gt nd:Int) (st:l8) (q:Msg) (hl:l.length < 1000) (ha:al.length < 100000) (hs:¬ q.seq = -1):AC 54 [(oO 5 0 0 0),(AV.agg (Msg.row q))] (I8 g l gf gl gt al ga nd st) ((AV.agg (Msg.row (a7P l al q.seq q.tag))),(I8 g l gf gl gt al ga nd st)) :=
 o9 (fn:=Tryz.f54) (ann:=b0T) (Has.o Tryz.func54) (.r (.s (.c 8 (l6.pre (args:=[(oO 0 0 0 0),(oO 3 0 0 0)]) (args':=[(oO 0 0 0 0),(oO 3 0 0 0)]) (l6.put2 [0,1,3,4] (a5J g l gf gl gt al ga nd st) (AV.agg [(iI 2),(iI 5),z_,z_,z_,z_,(iN al.length),e_,e_,bT,(P6 l),(tF l),(AV.sl .nil 0 [])]) (a5J g l gf gl gt al ga nd st) (sQ (o7 32) l g (List.length l) al ga oa oa oa) (⟨rfl,⟨Ob.ren0 (Entry.p8 0 _),⟨rfl,⟨Ob.ren0 (Key.p8 0 _),trivial⟩⟩⟩⟩) (⟨rfl,⟨Ob.ren0 (Entry.p8 0 _),⟨rfl,⟨Ob.ren0 (Key.p8 0 _),trivial⟩⟩⟩⟩)) ⟨AV.j3 _,AV.j3 _,trivial⟩) (.s (.h' (a5I g l gf gl gt al ga nd st) (.y 2 (bB (q.seq != (-1))) bT (Yes.b (by simpa using hs)) (.ru (.c 10 (l6.pre (args:=[(oO 0 0 0 0),(oO 3 0 0 0),(iI q.seq)]) (args':=[(oO 0 0 0 0),(oO 3 0 0 0),(iI q.seq)]) (l6.put2 [0,1,3,4] (a5I g l gf gl gt al ga nd st) (AV.agg [(iI 2),(iI 5),z_,z_,z_,z_,(iN al.length),e_,e_,(bB (!(okS al q.seq))),(P6 l),(sA 9 (mC (X3 l al q.seq))),(AV.sl .nil 0 [])]) (a5I g l gf gl gt al ga nd st) (b0V (o7 32) l g (List.length l) al ga q.seq oa oa oa) (⟨rfl,⟨Ob.ren0 (Entry.p8 0 _),⟨rfl,⟨Ob.ren0 (Key.p8 0 _),trivial⟩⟩⟩⟩) (⟨rfl,⟨Ob.ren0 (Entry.p8 0 _),⟨rfl,⟨Ob.ren0 (Key.p8 0 _),trivial⟩⟩⟩⟩)) ⟨AV.j3 _,AV.j3 _,AV.j3 _,trivial⟩) (.s (.s (.o (rfl:0=0) (.o (rfl:0=0) (.g (.h' (I8 g l gf gl gt al ga nd st) (.q 6 (AV.agg [(iI 2),(iI 5),z_,z_,(iI q.tag),z_,(iN al.length),e_,e_,(bB (!(okS al q.seq))),(P6 l),(sA 9 (mC (X3 l al q.seq))),(sA 2 (mK []))]))))))))))))))))
def b0U:Ann:={ refs:=[3],gha:=[(5,.frzf 4 11 9),(5,.frzf 4 12 2)],base:=6,fin:=some 6 }
theorem a7X (l:l9E) (g:Nat) (al:l9K) (ga:Nat) (gf gl gt nd:Int) (st:l8) (q:Msg) (hl:l.length < 1000) (ha:al.length < 100000) (hs:q.seq = -1):AC 54 [(oO 5 0 0 0),(AV.agg (Msg.row q))] (I8 g l gf gl gt al ga nd st) ((AV.agg (Msg.row (a7G l al q.tag))),(I8 g l gf gl gt al ga nd st)) :=
 o9 (fn:=Tryz.f54) (ann:=b0U) (Has.o Tryz.func54) (.r (.s (.c 8 (l6.pre (args:=[(oO 0 0 0 0),(oO 3 0 0 0)]) (args':=[(oO 0 0 0 0),(oO 3 0 0 0)]) (l6.put2 [0,1,3,4] (a5J g l gf gl gt al ga nd st) (AV.agg [(iI 2),(iI 5),z_,z_,z_,z_,(iN al.length),e_,e_,bT,(P6 l),(tF l),(AV.sl .nil 0 [])]) (a5J g l gf gl gt al ga nd st) (sQ (o7 32) l g (List.length l) al ga oa oa oa) (⟨rfl,⟨Ob.ren0 (Entry.p8 0 _),⟨rfl,⟨Ob.ren0 (Key.p8 0 _),trivial⟩⟩⟩⟩) (⟨rfl,⟨Ob.ren0 (Entry.p8 0 _),⟨rfl,⟨Ob.ren0 (Key.p8 0 _),trivial⟩⟩⟩⟩)) ⟨AV.j3 _,AV.j3 _,trivial⟩) (.s (.h' (a5I g l gf gl gt al ga nd st) (.y 2 (bB (q.seq != (-1))) bF (Yes.b (by rw [hs]; rfl)) (.rn (.s (.o (rfl:0=0) (.o (rfl:0=0) (.g (.h' (I8 g l gf gl gt al ga nd st) (.q 6 (AV.agg [(iI 2),(iI 5),z_,z_,(iI q.tag),z_,(iN al.length),e_,e_,bT,(P6 l),(tF l),(sA 2 (mK []))]))))))))))))))
theorem b0S (l:l9E) (g:Nat) (al:l9K) (ga:Nat) (gf gl gt nd:Int) (st:l8) (q:Msg) (hl:l.length < 1000) (ha:al.length < 100000):AC 54 [(oO 5 0 0 0),(AV.agg (Msg.row q))] [(o_ 0 2 [[(iI (o7 32)),(AV.osl 1 g 10 0 (List.length l))]]),(o_ g 10 (mE l)),(o_ 0 3 [[(iI gf),(iI gl),(iI gt)]]),(o_ 0 2 [[(iN ((List.length al))),(AV.osl 4 ga 2 0 (List.length (o8 al)))]]),(o_ ga 2 (mK (o8 al))),(o_ 0 7 [[(iI nd),(iI st.t),(iI st.node),(iI st.n),(oO 0 0 0 0),(oO 2 0 0 0),(oO 3 0 0 0)]])] ((AV.agg (Msg.row (aI l al q.seq q.tag))),[(o_ 0 2 [[(iI (o7 32)),(AV.osl 1 g 10 0 (List.length l))]]),(o_ g 10 (mE l)),(o_ 0 3 [[(iI gf),(iI gl),(iI gt)]]),(o_ 0 2 [[(iN ((List.length al))),(AV.osl 4 ga 2 0 (List.length (o8 al)))]]),(o_ ga 2 (mK (o8 al))),(o_ 0 7 [[(iI nd),(iI st.t),(iI st.node),(iI st.n),(oO 0 0 0 0),(oO 2 0 0 0),(oO 3 0 0 0)]])]):=by
 by_cases hs:q.seq = -1
 · have e:aI l al q.seq q.tag=a7G l al q.tag:=if_pos hs
   rw [e]; exact a7X l g al ga gf gl gt nd st q hl ha hs
 · have e:aI l al q.seq q.tag=a7P l al q.seq q.tag:=if_neg hs
   rw [e]; exact a7W l g al ga gf gl gt nd st q hl ha hs
theorem c0B (l:l9E) (g:Nat) (al:l9K) (ga:Nat) (gf gl gt nd:Int) (st:l8) (q:Msg) (hl:l.length < 1000) (ha:al.length < 100000) (H:Heap):AC 54 [(oO 5 0 0 0),(AV.agg (Msg.row q))] ((I8 g l gf gl gt al ga nd st)++H) ((AV.agg (Msg.row (aI l al q.seq q.tag))),(I8 g l gf gl gt al ga nd st)++H):=(b0S l g al ga gf gl gt nd st q hl ha).ext kr kr ob ob kr H
attribute [local irreducible] aI dD j4
def c8F:Ann:={ refs:=[4],gha:=[(7,.any 7 9)],base:=6,fin:=some 6 }
theorem c3E (l:l9E) (g:Nat) (al:l9K) (ga:Nat) (gf gl gt nd:Int) (st:l8) (q:Msg) (now:Int) (hl:l.length < 1000) (ha:al.length < 100000) (hk:q.kind=1) (hr:P7 q=true) (ho:q.op=5):AC 18 [(oO 5 0 0 0),(AV.agg (Msg.row q)),(iI now)] (I8 g l gf gl gt al ga nd st) ((AV.tup [(AV.agg (Msg.row (aI l al q.seq q.tag))),(sA 9 (mC ([]:l9C)))]),(I8 g l gf gl gt al ga nd st)) :=
 o9 (fn:=Tryz.f18) (ann:=c8F) (Has.o Tryz.func18) (.r (.s (.c 1 ((dR now).lift kr kr [(o_ 0 2 (a3C g l)),(o_ g 10 (mE l)),(o_ 0 3 (iD gf gl gt)),(o_ 0 2 (tC al ga)),(o_ ga 2 (mK (o8 al))),(o_ 0 7 (qO nd st)),(o_ 0 13 [[z_,z_,z_,z_,z_,z_,z_,e_,e_,bF,(AV.int .u32 0),(AV.sl .nil 0 []),(AV.sl .nil 0 [])]])]) (.s (.s (.h' (a1u g l gf gl gt al ga nd st q) (.y 2 (bB (q.kind != 1)) bF (Yes.b K5) (.n2 (.c 5 ((yB q oa).lift kr kr (a1u g l gf gl gt al ga nd st q)) (.n (.rn (.y 2 (bB (q.op == 5)) bT (Yes.b L6) (.ru (.c 2 (c0B l g al ga gf gl gt nd st q oa oa [(o_ 0 13 [[z_,z_,z_,z_,z_,z_,z_,e_,e_,bF,(AV.int .u32 0),(AV.sl .nil 0 []),(AV.sl .nil 0 [])]]),(o_ 0 13 (a8x q))]) (.g (.h' (I8 g l gf gl gt al ga nd st) (.q 6 (AV.tup [(AV.agg (Msg.row (aI l al q.seq q.tag))),(sA 9 [])]))))))))))))))))))
structure DS where
 l:List Entry
 g:Nat
 al:List Key
 ga:Nat
 gf:Int
 gl:Int
 gt:Int
 st:l8
def DS.turn (s:DS) (nd:Int) (q:Msg) (now:Int):DS :=
 ⟨(tuR s.l s.g s.al s.ga s.gt nd s.st q now).l,(tuR s.l s.g s.al s.ga s.gt nd s.st q now).g,(tuR s.l s.g s.al s.ga s.gt nd s.st q now).al,(tuR s.l s.g s.al s.ga s.gt nd s.st q now).ga,s.gf,s.gl,(tuR s.l s.g s.al s.ga s.gt nd s.st q now).gt,(tuR s.l s.g s.al s.ga s.gt nd s.st q now).st⟩
structure HdR where
 m:Msg
 c:List j5
 s:DS
def hdD (nd:Int) (s:DS) (q:Msg) (now:Int):HdR :=
 if q.kind=1/\P7 q=true then
  if q.op=5 then ⟨aI s.l s.al q.seq q.tag,[],s⟩
  else ⟨hdM q (tuR s.l s.g s.al s.ga s.gt nd s.st q (j4 now)).code,(tuR s.l s.g s.al s.ga s.gt nd s.st q (j4 now)).c,s.turn nd q (j4 now)⟩
 else ⟨hdM q 1,[],s⟩
theorem b1C {q:Msg} (h:P7 q=true) (hk:q.kind=1) (h5:¬ q.op=5):1<=q.op/\q.op < 5/\0<=q.status/\q.status<=255:=by
 obtain ⟨a1,a2,a3,a4,a5,a6⟩:=a7j h
 with_unfolding_all
  unfold opM at a3
  unfold Q8 at a5
  rw [if_pos (.inl hk),if_neg h5] at a3
  simp only [Bool.and_eq_true,decide_eq_true_eq] at a3 a5
  exact ⟨a3.1,a3.2.1,a5.1,a5.2⟩
theorem uI (l:l9E) (g:Nat) (al:l9K) (ga:Nat) (gf gl gt nd:Int) (st:l8) (q:Msg) (now:Int) (hl:l.length < 1000) (ha:al.length < 100000) (hgt:0<=gt/\gt < 4611686018427387904):AC 18 [(oO 5 0 0 0),(AV.agg (Msg.row q)),(iI now)] [(o_ 0 2 [[(iI (o7 32)),(AV.osl 1 g 10 0 (List.length l))]]),(o_ g 10 (mE l)),(o_ 0 3 [[(iI gf),(iI gl),(iI gt)]]),(o_ 0 2 [[(iN ((List.length al))),(AV.osl 4 ga 2 0 (List.length (o8 al)))]]),(o_ ga 2 (mK (o8 al))),(o_ 0 7 [[(iI nd),(iI st.t),(iI st.node),(iI st.n),(oO 0 0 0 0),(oO 2 0 0 0),(oO 3 0 0 0)]])] ((AV.tup [(AV.agg (Msg.row (hdD nd (DS.mk l g al ga gf gl gt st) q now).m)),(sA 9 (mC (hdD nd (DS.mk l g al ga gf gl gt st) q now).c))]),[(o_ 0 2 [[(iI (o7 32)),(AV.osl 1 (hdD nd (DS.mk l g al ga gf gl gt st) q now).s.g 10 0 (List.length (hdD nd (DS.mk l g al ga gf gl gt st) q now).s.l))]]),(o_ ((hdD nd (DS.mk l g al ga gf gl gt st) q now).s.g) 10 (mE (hdD nd (DS.mk l g al ga gf gl gt st) q now).s.l)),(o_ 0 3 [[(iI (hdD nd (DS.mk l g al ga gf gl gt st) q now).s.gf),(iI (hdD nd (DS.mk l g al ga gf gl gt st) q now).s.gl),(iI (hdD nd (DS.mk l g al ga gf gl gt st) q now).s.gt)]]),(o_ 0 2 [[(iN ((List.length (hdD nd (DS.mk l g al ga gf gl gt st) q now).s.al))),(AV.osl 4 (hdD nd (DS.mk l g al ga gf gl gt st) q now).s.ga 2 0 (List.length (o8 (hdD nd (DS.mk l g al ga gf gl gt st) q now).s.al)))]]),(o_ ((hdD nd (DS.mk l g al ga gf gl gt st) q now).s.ga) 2 (mK (o8 (hdD nd (DS.mk l g al ga gf gl gt st) q now).s.al))),(o_ 0 7 [[(iI nd),(iI (hdD nd (DS.mk l g al ga gf gl gt st) q now).s.st.t),(iI (hdD nd (DS.mk l g al ga gf gl gt st) q now).s.st.node),(iI (hdD nd (DS.mk l g al ga gf gl gt st) q now).s.st.n),(oO 0 0 0 0),(oO 2 0 0 0),(oO 3 0 0 0)]])]):=by
 by_cases hk:q.kind=1
 · cases hr:P7 q with
   | false =>
    have e:hdD nd (DS.mk l g al ga gf gl gt st) q now=⟨hdM q 1,[],(DS.mk l g al ga gf gl gt st)⟩:=if_neg (by rw [hr]; simp)
    rw [e]; exact c3F l g al ga gf gl gt nd st q now hk hr
   | true =>
    by_cases ho:q.op=5
    · have e:hdD nd (DS.mk l g al ga gf gl gt st) q now=⟨aI l al q.seq q.tag,[],(DS.mk l g al ga gf gl gt st)⟩:=by unfold hdD; rw [if_pos ⟨hk,hr⟩,if_pos ho]
      rw [e]; exact c3E l g al ga gf gl gt nd st q now hl ha hk hr ho
    · have e:hdD nd (DS.mk l g al ga gf gl gt st) q now=⟨hdM q (tuR l g al ga gt nd st q (j4 now)).code,(tuR l g al ga gt nd st q (j4 now)).c,(DS.mk l g al ga gf gl gt st).turn nd q (j4 now)⟩:=by unfold hdD; rw [if_pos ⟨hk,hr⟩,if_neg ho]
      obtain ⟨o1,o2,o3,_⟩:=b1C hr hk ho
      rw [e]; exact c3G l g al ga gf gl gt nd st q now hl ha hgt o1 o2 o3 hk hr
 · have e:hdD nd (DS.mk l g al ga gf gl gt st) q now=⟨hdM q 1,[],(DS.mk l g al ga gf gl gt st)⟩:=if_neg (fun z=>hk z.1)
   rw [e]; exact c3D l g al ga gf gl gt nd st q now hk
theorem d2h (l:l9E) (g:Nat) (al:l9K) (ga:Nat) (gf gl gt nd:Int) (st:l8) (q:Msg) (now:Int) (hl:l.length < 1000) (ha:al.length < 100000) (hgt:0<=gt/\gt < 4611686018427387904) (H:Heap):AC 18 [(oO 5 0 0 0),(AV.agg (Msg.row q)),(iI now)] ((I8 g l gf gl gt al ga nd st)++H) ((AV.tup [(AV.agg (Msg.row (hdD nd (DS.mk l g al ga gf gl gt st) q now).m)),(sA 9 (mC (hdD nd (DS.mk l g al ga gf gl gt st) q now).c))]),([(o_ 0 2 [[(iI (o7 32)),(AV.osl 1 (hdD nd (DS.mk l g al ga gf gl gt st) q now).s.g 10 0 (List.length (hdD nd (DS.mk l g al ga gf gl gt st) q now).s.l))]]),(o_ ((hdD nd (DS.mk l g al ga gf gl gt st) q now).s.g) 10 (mE (hdD nd (DS.mk l g al ga gf gl gt st) q now).s.l)),(o_ 0 3 [[(iI (hdD nd (DS.mk l g al ga gf gl gt st) q now).s.gf),(iI (hdD nd (DS.mk l g al ga gf gl gt st) q now).s.gl),(iI (hdD nd (DS.mk l g al ga gf gl gt st) q now).s.gt)]]),(o_ 0 2 [[(iN ((List.length (hdD nd (DS.mk l g al ga gf gl gt st) q now).s.al))),(AV.osl 4 (hdD nd (DS.mk l g al ga gf gl gt st) q now).s.ga 2 0 (List.length (o8 (hdD nd (DS.mk l g al ga gf gl gt st) q now).s.al)))]]),(o_ ((hdD nd (DS.mk l g al ga gf gl gt st) q now).s.ga) 2 (mK (o8 (hdD nd (DS.mk l g al ga gf gl gt st) q now).s.al))),(o_ 0 7 [[(iI nd),(iI (hdD nd (DS.mk l g al ga gf gl gt st) q now).s.st.t),(iI (hdD nd (DS.mk l g al ga gf gl gt st) q now).s.st.node),(iI (hdD nd (DS.mk l g al ga gf gl gt st) q now).s.st.n),(oO 0 0 0 0),(oO 2 0 0 0),(oO 3 0 0 0)]])]:Heap)++H):=(uI l g al ga gf gl gt nd st q now hl ha hgt).ext kr kr ob ob kr H
attribute [local irreducible] Tp.G5 Tp.ask Tp.card Tp.key Tp.keyT Tp.next Tp.step
structure y8 where
 kind:Int
 m:Msg
 more:Int
 late:Int
 c:j5
 deriving Inhabited
def y8.row (x:y8):List AV:=[(iI x.kind),(iI x.m.kind),(iI x.m.op),(iI x.m.status),(iI x.m.code),(iI x.m.tag),(iI x.m.n),(iI x.m.seq),(AV.str x.m.key.app),(AV.str x.m.key.id),(bB x.m.full),(AV.int .u32 x.m.sum),(sA 9 (mC x.m.cards)),(sA 2 (mK x.m.keys)),(iI x.more),(iI x.late),(AV.str x.c.key.app),(AV.str x.c.key.id),(iI x.c.status),(iI x.c.over),(iI x.c.lease),(iI x.c.stamp.t),(iI x.c.stamp.node),(iI x.c.stamp.n),(bB x.c.gone)]
@[simp] theorem y8.V7 (n:Nat) (x:y8):AV.bdds n x.row=true:=by simp [y8.row,AV.bdds,AV.bdd]
@[simp] theorem y8.p8 (n:Nat) (l:List y8):AV.D5 n (l.map y8.row)=true:=by induction l with | nil=>rfl | cons x l ih=>simp [AV.D5,y8.V7,ih]
theorem Tp.c6l (t:Tp):t.ask.2.l=t.l:=by
 with_unfolding_all
  unfold Tp.ask
  simp only []
  split <;> simp only [Tp.jV,Tp.yE]
def a1r:Ann:={ gh:=[(8,.frz 6),(8,.cut 0)],gha:=[(2,.vir 6 25),(7,.cut 2)],fin:=some 0,live:=[(3,[0,1,5,6])],out:=[(3,[0,1,5,6])] }
@[simp] abbrev d0M (a:List Int) (b:Nat) (c:Nat) (d:Nat):Fr:=(mkF 46 [(0,(sA 1 (List.map aH a))),(1,(iN b)),(5,(oO 0 0 0 0)),(6,(AV.osl 1 (c+1) 25 0 (d+1)))])
@[simp] abbrev d0L (a:Tp) (b:Nat) (c:List y8):Heap:=[(o_ 0 2 [(Tp.row (((((a.step 10).ask.2.step 12).step 3).G5.step 9).step 420))]),(o_ (b+1) 25 (List.map y8.row (c++[(y8.mk ((a.next 10:Nat):Int) (a.step 10).ask.1 ((((((a.step 10).ask.2.step 12).step 3).G5.step 9).next 420:Nat):Int) ((((a.step 10).ask.2.step 12).next 3:Nat):Int) (((a.step 10).ask.2.step 12).step 3).card)])))]
@[simp] abbrev d0K (a:Tp) (b:Nat) (c:List y8):Heap:=[(o_ 0 2 [(Tp.row ((((a.step 10).ask.2.step 12).step 3).G5.step 9))]),(o_ (b+1) 25 (List.map y8.row (c++[(y8.mk ((a.next 10:Nat):Int) (a.step 10).ask.1 (((a.step 10).ask.2.next 12:Nat):Int) ((((a.step 10).ask.2.step 12).next 3:Nat):Int) (((a.step 10).ask.2.step 12).step 3).card)])))]
@[simp] abbrev c5t (a:List Int) (b:Nat) (c:Nat) (d:Nat):Fr:=(mkF 46 [(0,(sA 1 (List.map aH a))),(1,(iN b)),(5,(oO 0 0 0 0)),(6,(AV.osl 1 c 25 0 d))])
@[simp] abbrev c5s (a:Tp) (b:Nat) (c:List y8):Heap:=[(o_ 0 2 [(Tp.row a)]),(o_ b 25 (List.map y8.row c))]
@[simp] abbrev a9i (a:Nat) (b:List y8):Heap:=[(o_ a 25 (List.map y8.row b)),(o_ 0 25 [[z_,z_,z_,z_,z_,z_,z_,z_,e_,e_,bF,(AV.int .u32 0),(AV.sl .nil 0 []),(AV.sl .nil 0 []),z_,z_,e_,e_,z_,z_,z_,z_,z_,z_,bF]])]
@[simp] abbrev a8w (a:Tp):=[[(iN (a.next 10)),(iI (a.step 10).ask.1.kind),(iI (a.step 10).ask.1.op),(iI (a.step 10).ask.1.status),(iI (a.step 10).ask.1.code),(iI (a.step 10).ask.1.tag),(iI (a.step 10).ask.1.n),(iI (a.step 10).ask.1.seq),(AV.str (a.step 10).ask.1.key.app),(AV.str (a.step 10).ask.1.key.id),(bB (a.step 10).ask.1.full),(AV.int .u32 (a.step 10).ask.1.sum),(sA 9 (mC (a.step 10).ask.1.cards)),(sA 2 (mK (a.step 10).ask.1.keys)),(iN ((a.step 10).ask.2.next 12)),(iN (((a.step 10).ask.2.step 12).next 3)),(AV.str (((a.step 10).ask.2.step 12).step 3).card.key.app),(AV.str (((a.step 10).ask.2.step 12).step 3).card.key.id),(iI (((a.step 10).ask.2.step 12).step 3).card.status),(iI (((a.step 10).ask.2.step 12).step 3).card.over),(iI (((a.step 10).ask.2.step 12).step 3).card.lease),(iI (((a.step 10).ask.2.step 12).step 3).card.stamp.t),(iI (((a.step 10).ask.2.step 12).step 3).card.stamp.node),(iI (((a.step 10).ask.2.step 12).step 3).card.stamp.n),(bB (((a.step 10).ask.2.step 12).step 3).card.gone)]]
@[simp] abbrev d0J (a:Nat) (b:List y8) (c:Tp):Heap:=[(o_ a 25 (List.map y8.row b)),(o_ 0 25 (a8w c))]
theorem a0G {p:Prop} (h:p:=by first | omega | assumption | (simp only [Tp.jV,Tp.c6l,Tp.zV]; assumption) | (simp; done) | (simp; omega)):p:=h
@[simp] abbrev b5G :=(l9 Tryz.prog (X a1r) (p9 Tryz.f15 0))
@[simp] abbrev c4E (a:Tp):=[[(iN (a.next 10)),(iI (a.step 10).ask.1.kind),(iI (a.step 10).ask.1.op),(iI (a.step 10).ask.1.status),(iI (a.step 10).ask.1.code),(iI (a.step 10).ask.1.tag),(iI (a.step 10).ask.1.n),(iI (a.step 10).ask.1.seq),(AV.str (a.step 10).ask.1.key.app),(AV.str (a.step 10).ask.1.key.id),(bB (a.step 10).ask.1.full),(AV.int .u32 (a.step 10).ask.1.sum),(sA 9 (mC (a.step 10).ask.1.cards)),(sA 2 (mK (a.step 10).ask.1.keys)),(iN (((((a.step 10).ask.2.step 12).step 3).G5.step 9).next 420)),(iN (((a.step 10).ask.2.step 12).next 3)),(AV.str (((a.step 10).ask.2.step 12).step 3).card.key.app),(AV.str (((a.step 10).ask.2.step 12).step 3).card.key.id),(iI (((a.step 10).ask.2.step 12).step 3).card.status),(iI (((a.step 10).ask.2.step 12).step 3).card.over),(iI (((a.step 10).ask.2.step 12).step 3).card.lease),(iI (((a.step 10).ask.2.step 12).step 3).card.stamp.t),(iI (((a.step 10).ask.2.step 12).step 3).card.stamp.node),(iI (((a.step 10).ask.2.step 12).step 3).card.stamp.n),(bB (((a.step 10).ask.2.step 12).step 3).card.gone)]]
@[reducible] def b2j:TI:={ d:=.struct [(3,0),(35,1),(2,14),(2,15),(39,16)],size:=25,bytes:=256,zero:=[.int .i64 0,.int .i64 0,.int .i64 0,.int .i64 0,.int .i64 0,.int .i64 0,.int .i64 0,.int .i64 0,.str ⟨#[]⟩,.str ⟨#[]⟩,.bool false,.int .u32 0,.sl .nil 0 [],.sl .nil 0 [],.int .i64 0,.int .i64 0,.str ⟨#[]⟩,.str ⟨#[]⟩,.int .i64 0,.int .i64 0,.int .i64 0,.int .i64 0,.int .i64 0,.int .i64 0,.bool false] }
theorem zA (tape:List Int) (nn:Nat) (t:Tp) (out:List y8) (k g:Nat) (hl:t.l.length < 9223372036854775808) (hk:k=out.length) (hkb:k < 1000) (hn:nn < 1000) {eX:Ex} {FX:Fr} {HX:Heap} (k1:(decide ((k:Int) < (nn:Int)))=true->(decide ((t.pos:Int) < (tape.length:Int)))=true->((((((t.step 10).ask.2.step 12).step 3).G5.next 9:Nat):Int) == 0)=true->j6 b5G (some [0,1,5,6]) (some [0,1,5,6]) (d0M tape nn g k) (d0L t g out) eX FX HX) (k2:(decide ((k:Int) < (nn:Int)))=true->(decide ((t.pos:Int) < (tape.length:Int)))=true->((((((t.step 10).ask.2.step 12).step 3).G5.next 9:Nat):Int) == 0)=false->j6 b5G (some [0,1,5,6]) (some [0,1,5,6]) (d0M tape nn g k) (d0K t g out) eX FX HX) (k3:(decide ((k:Int) < (nn:Int)))=true->(decide ((t.pos:Int) < (tape.length:Int)))=false->((.exit 0:Ex),(c5t tape nn g k),(c5s t g out))=(eX,FX,HX)) (k4:(decide ((k:Int) < (nn:Int)))=false->((.exit 0:Ex),(c5t tape nn g k),(c5s t g out))=(eX,FX,HX)):j6 b5G (some [0,1,5,6]) (some [0,1,5,6]) (c5t tape nn g k) (c5s t g out) eX FX HX :=
 F7 (.r (.two (decide ((k:Int) < (nn:Int))) (fun h1 h1'=>(.u5 (.y 10 (.int .i64 ((List.length (List.map aH tape):Nat):Int)) (iN tape.length) (Yes.len _ _ _) (.u (.g (.two (decide ((t.pos:Int) < (tape.length:Int))) (fun h2 h2'=>(.r (.ch 1 [(o_ 0 2 [(Tp.row (t.step 10))]),(o_ g 25 (List.map y8.row out)),(o_ 0 25 [[z_,z_,z_,z_,z_,z_,z_,z_,e_,e_,bF,(AV.int .u32 0),(AV.sl .nil 0 []),(AV.sl .nil 0 []),z_,z_,e_,e_,z_,z_,z_,z_,z_,z_,bF]])] (l6.pre (args:=[(oO 0 0 0 0),(iN 10)]) (args':=[(oO 0 0 0 0),(iI 10)]) (W9 t 10 a0G (a9i g out)) ⟨AV.j3 _,AV.j3 _,trivial⟩) (.ch 3 [(o_ 0 2 [(Tp.row (t.step 10).ask.2)]),(o_ g 25 (List.map y8.row out)),(o_ 0 25 [[z_,z_,z_,z_,z_,z_,z_,z_,e_,e_,bF,(AV.int .u32 0),(AV.sl .nil 0 []),(AV.sl .nil 0 []),z_,z_,e_,e_,z_,z_,z_,z_,z_,z_,bF]])] (c7T (t.step 10) a0G (a9i g out)) (.ch 5 [(o_ 0 2 [(Tp.row ((t.step 10).ask.2.step 12))]),(o_ g 25 (List.map y8.row out)),(o_ 0 25 [[z_,z_,z_,z_,z_,z_,z_,z_,e_,e_,bF,(AV.int .u32 0),(AV.sl .nil 0 []),(AV.sl .nil 0 []),z_,z_,e_,e_,z_,z_,z_,z_,z_,z_,bF]])] (l6.pre (args:=[(oO 0 0 0 0),(iN 12)]) (args':=[(oO 0 0 0 0),(iI 12)]) (W9 (t.step 10).ask.2 12 a0G (a9i g out)) ⟨AV.j3 _,AV.j3 _,trivial⟩) (.ch 7 [(o_ 0 2 [(Tp.row (((t.step 10).ask.2.step 12).step 3))]),(o_ g 25 (List.map y8.row out)),(o_ 0 25 [[z_,z_,z_,z_,z_,z_,z_,z_,e_,e_,bF,(AV.int .u32 0),(AV.sl .nil 0 []),(AV.sl .nil 0 []),z_,z_,e_,e_,z_,z_,z_,z_,z_,z_,bF]])] (l6.pre (args:=[(oO 0 0 0 0),(iN 3)]) (args':=[(oO 0 0 0 0),(iI 3)]) (W9 ((t.step 10).ask.2.step 12) 3 a0G (a9i g out)) ⟨AV.j3 _,AV.j3 _,trivial⟩) (.ch 9 [(o_ 0 2 [(Tp.row (((t.step 10).ask.2.step 12).step 3).G5)]),(o_ g 25 (List.map y8.row out)),(o_ 0 25 [[z_,z_,z_,z_,z_,z_,z_,z_,e_,e_,bF,(AV.int .u32 0),(AV.sl .nil 0 []),(AV.sl .nil 0 []),z_,z_,e_,e_,z_,z_,z_,z_,z_,z_,bF]])] (c1A (((t.step 10).ask.2.step 12).step 3) a0G (a9i g out)) (.s (.ch 1 [(o_ 0 2 [(Tp.row ((((t.step 10).ask.2.step 12).step 3).G5.step 9))]),(o_ g 25 (List.map y8.row out)),(o_ 0 25 (a8w t))] (l6.pre (args:=[(oO 0 0 0 0),(iN 9)]) (args':=[(oO 0 0 0 0),(iI 9)]) (W9 (((t.step 10).ask.2.step 12).step 3).G5 9 a0G (d0J g out t)) ⟨AV.j3 _,AV.j3 _,trivial⟩) (.g (.two ((((((t.step 10).ask.2.step 12).step 3).G5.next 9:Nat):Int) == 0) (fun h3 h3'=>(.r (.ch 1 [(o_ 0 2 [(Tp.row (((((t.step 10).ask.2.step 12).step 3).G5.step 9).step 420))]),(o_ g 25 (List.map y8.row out)),(o_ 0 25 (a8w t))] (l6.pre (args:=[(oO 0 0 0 0),(iN 420)]) (args':=[(oO 0 0 0 0),(iI 420)]) (W9 ((((t.step 10).ask.2.step 12).step 3).G5.step 9) 420 a0G (d0J g out t)) ⟨AV.j3 _,AV.j3 _,trivial⟩) (.s (.h' [(o_ 0 2 [(Tp.row (((((t.step 10).ask.2.step 12).step 3).G5.step 9).step 420))]),(o_ g 25 (List.map y8.row out)),(o_ 0 25 (c4E t))] (.ap 3 27 (AV.osl 1 g 25 0 k) (AV.sl .clip 25 (c4E t)) (AV.osl 1 (g+1) 25 0 (k+1)) [(o_ 0 2 [(Tp.row (((((t.step 10).ask.2.step 12).step 3).G5.step 9).step 420))]),(o_ (g+1) 25 (List.map y8.row (out++[(y8.mk ((t.next 10:Nat):Int) (t.step 10).ask.1 ((((((t.step 10).ask.2.step 12).step 3).G5.step 9).next 420:Nat):Int) ((((t.step 10).ask.2.step 12).next 3:Nat):Int) (((t.step 10).ask.2.step 12).step 3).card)]))),(o_ 0 25 (c4E t))] (H6 (row:=y8.row) (l:=out) (x:=(y8.mk ((t.next 10:Nat):Int) (t.step 10).ask.1 ((((((t.step 10).ask.2.step 12).step 3).G5.step 9).next 420:Nat):Int) ((((t.step 10).ask.2.step 12).next 3:Nat):Int) (((t.step 10).ask.2.step 12).step 3).card)) (T:=tt) (e:=41) (te:=b2j) (z:=1) (b:=24) (y:=[.sl .nil 0 []]) kr kr rfl z8 z8 kr aU rfl rfl (by first | omega | (show _ * 256<=_; omega) | (simp; omega))) (.h' (d0L t g out) (.b 2 (.g (.l (k1 h1 h2 h3))))))))))) (fun h3 h3'=>(.r (.ap 3 27 (AV.osl 1 g 25 0 k) (AV.sl .clip 25 (a8w t)) (AV.osl 1 (g+1) 25 0 (k+1)) [(o_ 0 2 [(Tp.row ((((t.step 10).ask.2.step 12).step 3).G5.step 9))]),(o_ (g+1) 25 (List.map y8.row (out++[(y8.mk ((t.next 10:Nat):Int) (t.step 10).ask.1 (((t.step 10).ask.2.next 12:Nat):Int) ((((t.step 10).ask.2.step 12).next 3:Nat):Int) (((t.step 10).ask.2.step 12).step 3).card)]))),(o_ 0 25 (a8w t))] (H6 (row:=y8.row) (l:=out) (x:=(y8.mk ((t.next 10:Nat):Int) (t.step 10).ask.1 (((t.step 10).ask.2.next 12:Nat):Int) ((((t.step 10).ask.2.step 12).next 3:Nat):Int) (((t.step 10).ask.2.step 12).step 3).card)) (T:=tt) (e:=41) (te:=b2j) (z:=1) (b:=24) (y:=[.sl .nil 0 []]) kr kr rfl z8 z8 kr aU rfl rfl (by first | omega | (show _ * 256<=_; omega) | (simp; omega))) (.h' (d0K t g out) (.b 2 (.g (.l (k2 h1 h2 h3))))))))))))))))))) (fun h2 h2'=>(.l (k3 h1 h2))))))))) (fun h1 h1'=>(.n6 (.g (.n (.l (k4 h1))))))))
def akB (t:Tp):Tp:=((((t.step 10).ask.2).step 12).step 3)
def akZ (t:Tp):Bool:=((((akB t).G5.next 9:Nat):Int) == 0)
def akM (t:Tp) (mo:Int):y8:=⟨((t.next 10:Nat):Int),(t.step 10).ask.1,mo,(((((t.step 10).ask.2).step 12).next 3:Nat):Int),(akB t).card⟩
def akQ (t:Tp):y8:=akM t (if akZ t=true then ((((akB t).G5.step 9).next 420:Nat):Int) else ((((t.step 10).ask.2).next 12:Nat):Int))
def akT (t:Tp):Tp:=if akZ t=true then ((akB t).G5.step 9).step 420 else (akB t).G5.step 9
theorem d2l (t:Tp):(akT t).l=t.l:=by unfold akT akB; split <;> simp only [Tp.jV,Tp.c6l,Tp.zV]
def akL (len:Nat):Nat->Tp->List y8
 | 0,_=>[]
 | r+1,t=>if t.pos < len then akQ t :: akL len r (akT t) else []
def akE (len:Nat):Nat->Tp->Tp
 | 0,t=>t
 | r+1,t=>if t.pos < len then akE len r (akT t) else t
theorem c8N (len r:Nat):∀ (t:Tp),(akL len r t).length<=r:=by
 induction r with
 | zero=>intro t; exact Nat.le_refl 0
 | succ r ih=>intro t; unfold akL; split; exact Nat.succ_le_succ (ih _); exact Nat.zero_le _
theorem c0N (tape:List Int) (nn:Nat) (hn:nn < 1000) (r:Nat):∀ (t:Tp) (out:List y8) (k g kF gF:Nat),t.l.length < 9223372036854775808->k=out.length->k+r=nn->kF=k+(akL tape.length r t).length->gF=g+(akL tape.length r t).length ->
 j6 (l9 Tryz.prog (X a1r) (p9 Tryz.f15 0)) (some [0,1,5,6]) (some [0,1,5,6]) (mkF 46 [(0,(sA 1 (List.map aH tape))),(1,(iN nn)),(5,(oO 0 0 0 0)),(6,(AV.osl 1 g 25 0 k))]) [(o_ 0 2 [(Tp.row t)]),(o_ g 25 (List.map y8.row out))] (.exit 0) (mkF 46 [(0,(sA 1 (List.map aH tape))),(1,(iN nn)),(5,(oO 0 0 0 0)),(6,(AV.osl 1 gF 25 0 kF))]) [(o_ 0 2 [(Tp.row (akE tape.length r t))]),(o_ gF 25 (List.map y8.row (out++akL tape.length r t)))]:=by
 induction r with
 | zero =>
  intro t out k g kF gF hl hk hr h1 h2
  have e:akL tape.length 0 t=[]:=rfl
  rw [e] at h1 h2 ⊢
  simp only [List.length_nil,Nat.add_zero,List.append_nil] at h1 h2 ⊢
  rw [h1,h2]
  refine zA tape nn t out k g hl hk ow hn (fun h _ _=>absurd (of_decide_eq_true h) ow) (fun h _ _=>absurd (of_decide_eq_true h) ow) (fun h _=>absurd (of_decide_eq_true h) ow) fun _=>rfl
 | succ r ih =>
  intro t out k g kF gF hl hk hr h1 h2
  by_cases hp:t.pos < tape.length
  · have e:akL tape.length (r+1) t=akQ t :: akL tape.length r (akT t):=if_pos hp
    have e2:akE tape.length (r+1) t=akE tape.length r (akT t):=if_pos hp
    rw [e] at h1 h2 ⊢
    rw [e2]
    simp only [List.length_cons] at h1 h2
    have q:=ih (akT t) (out++[akQ t]) (k+1) (g+1) kF gF (by rw [d2l]; exact hl) uW ow ow ow
    rw [List.append_assoc] at q
    refine zA tape nn t out k g hl hk ow hn (fun _ _ hz=>?_) (fun _ _ hz=>?_) (fun _ h=>absurd (of_decide_eq_false h) ow) (fun h=>absurd (of_decide_eq_false h) ow)
    · have a1:akQ t=akM t ((((akB t).G5.step 9).next 420:Nat):Int):=by unfold akQ; rw [if_pos (show akZ t=true from hz)]
      have a2:akT t=((akB t).G5.step 9).step 420:=if_pos hz
      rw [a1,a2] at q ⊢
      exact q
    · have a1:akQ t=akM t ((((t.step 10).ask.2).next 12:Nat):Int):=by unfold akQ; rw [if_neg (show ¬ akZ t=true by unfold akZ akB; rw [hz]; simp)]
      have a2:akT t=(akB t).G5.step 9:=if_neg (by unfold akZ akB; rw [hz]; simp)
      rw [a1,a2] at q ⊢
      exact q
  · have e:akL tape.length (r+1) t=[]:=if_neg hp
    have e2:akE tape.length (r+1) t=t:=if_neg hp
    rw [e] at h1 h2 ⊢
    rw [e2]
    simp only [List.length_nil,Nat.add_zero,List.append_nil] at h1 h2 ⊢
    rw [h1,h2]
    exact zA tape nn t out k g hl hk ow hn (fun _ h _=>absurd (of_decide_eq_true h) ow) (fun _ h _=>absurd (of_decide_eq_true h) ow) (fun _ _=>rfl) (fun _=>rfl)
def cZ (tape:List Int) (n:Nat):List y8:=akL tape.length n ⟨tape,0⟩
theorem a4W (tape:List Int) (n:Nat):(cZ tape n).length<=n:=c8N _ _ _
@[simp] abbrev d0I (a:List Int) (b:Nat):Fr:=(mkF 46 [(0,(sA 1 (List.map aH a))),(1,(iN b)),(5,(oO 0 0 0 0)),(6,(AV.osl 1 (cZ a b).length 25 0 (cZ a b).length))])
@[simp] abbrev d0H (a:List Int) (b:Nat):Heap:=[(o_ 0 2 [(Tp.row (akE a.length b ⟨a,0⟩))]),(o_ ((cZ a b).length) 25 (List.map y8.row (cZ a b)))]
theorem c0M (tape:List Int) (nn:Nat) (hl:tape.length < 9223372036854775808) (hn:nn < 1000):AC 15 [(sA 1 (List.map aH tape)),(iN nn)] [] ((sA 25 (List.map y8.row (cZ tape nn))),[]):=by
 have hal:=a4W tape nn
 exact o9 (fn:=Tryz.f15) (ann:=a1r) (Has.o Tryz.func15) (.r (.s (.s (.g (.loop (d0I tape nn) (show j6 b5G (some [0,1,5,6]) (some [0,1,5,6]) (mkF 46 [(0,(sA 1 (List.map aH tape))),(1,(iN nn)),(5,(oO 0 0 0 0)),(6,(AV.osl 1 0 25 0 0))]) [(o_ 0 2 [[(sA 1 (List.map aH tape)),z_]]),(o_ 0 25 (List.map y8.row []))] (.exit 0) (d0I tape nn) (d0H tape nn) from (c0N tape nn hn nn ⟨tape,0⟩ [] 0 0 (cZ tape nn).length (cZ tape nn).length hl rfl ow (Nat.zero_add _).symm (Nat.zero_add _).symm)) (.r (.w 6 (List.map y8.row (cZ tape nn)) (And.intro (G7 (room:=none) kr om) (y8.p8 _ _):F5 (d0H tape nn) 25 (AV.osl 1 (cZ tape nn).length 25 0 (cZ tape nn).length)=some (List.map y8.row (cZ tape nn))/\AV.D5 0 (List.map y8.row (cZ tape nn))=true) (.h' [] (.b 0 (.q 0 (sA 25 (List.map y8.row (cZ tape nn)))))))))))))
end Go.Proofs.YtfjedpipdnlkfaaGreat.AM
namespace Go.Proofs.YtfjedpipdnlkfaaGreat.AM
open Go
def kE (e:Entry):Key:=e.card.key
abbrev d1L (l:List Key):Prop:=List.Pairwise (fun a b:Key=>y9 a b=true) l
abbrev fZ (l:List Entry):Prop:=d1L (l.map kE)
theorem a0I {l:l9E} (h:fZ l) {i j:Nat} (hij:i < j) (hj:j < l.length):y9 (nth l i).card.key (nth l j).card.key=true:=by
 have h1:List.Pairwise (fun a b:Entry=>y9 a.card.key b.card.key=true) l:=List.pairwise_map.1 h
 exact xY.1 h1 i j hij hj
theorem a4I {l:l9E} (hs:fZ l) {i:Nat} (hi:i < l.length):u7 l (nth l i).card.key=i :=
 b9X (Nat.le_of_lt hi) (fun j hj=>a0I hs hj hi) fun _=>a4T _
theorem wE {l:l9E} (hs:fZ l) {e:Entry} (he:e∈l):r9 l e.card.key=true/\d9 l e.card.key=e:=by
 obtain ⟨i,hi,rfl⟩:=aS he
 have h1:=a4I hs hi
 have h2:r9 l (nth l i).card.key=true:=by
  unfold r9; rw [h1]; simp [hi,Key.eH]
 exact ⟨h2,by unfold d9; rw [if_pos h2,h1]⟩
theorem eF {l:l9E} {k:Key} (h:r9 l k=true):d9 l k∈l/\(d9 l k).card.key=k:=by
 have h1:=eG h
 unfold d9; rw [if_pos h]
 refine ⟨lH h1,?_⟩
 unfold r9 at h; rw [Bool.and_eq_true] at h
 exact (Key.a3n _ _).1 h.2
theorem a7L {l:l9E} (hs:fZ l) (k:Key):r9 l k=true↔∃ e∈l,e.card.key=k :=
 ⟨fun h=>⟨_,(eF h).1,(eF h).2⟩,fun ⟨e,he,hk⟩=>hk ▸ (wE hs he).1⟩
theorem c1L {l:l9E} {e:Entry} (h:r9 l e.card.key=true):(l.set (u7 l e.card.key) e).map kE=l.map kE:=by
 have h1:=eG h
 have h2:=(eF h).2
 unfold d9 at h2; rw [if_pos h] at h2
 rw [List.map_set]
 refine List.ext_getElem yf_ fun i hi hi2=>?_
 rw [List.getElem_set]
 split
 · rename_i e1; subst e1
   rw [List.getElem_map,<- V6 h1]; exact h2.symm
 · rfl
theorem vJ {most:Int} {l:l9E} (hs:fZ l) (e:Entry):fZ (C9 most l e):=by
 unfold C9
 split
 · rename_i h
   show d1L ((l.set (u7 l e.card.key) e).map kE)
   rw [c1L h]; exact hs
 · rename_i h
   split
   · exact hs
   · have hp:=L8 l e.card.key
     have hs':List.Pairwise (fun a b:Entry=>y9 a.card.key b.card.key=true) l:=List.pairwise_map.1 hs
     refine List.pairwise_map.2 (List.pairwise_append.2 ⟨hs'.sublist (List.take_sublist _ _),List.pairwise_cons.2 ⟨fun x hx=>?_,hs'.sublist (List.drop_sublist _ _)⟩,fun a ha b hb=>?_⟩)
     · obtain ⟨j,hj,rfl⟩:=aS hx
       rw [List.length_drop] at hj
       rw [jL]
       have h0:u7 l e.card.key < l.length:=by omega
       have h1:=wH h0
       have h2:y9 e.card.key (nth l (u7 l e.card.key)).card.key=true:=by
        cases hb:y9 e.card.key (nth l (u7 l e.card.key)).card.key with
        | true=>rfl
        | false =>
         have:=c0L h1 hb
         exfalso; apply h; unfold r9; rw [this,Key.eH]; simp [h0]
       rcases Nat.eq_zero_or_pos j with rfl | hj0
       · exact h2
       · exact a8F h2 (a0I hs ya_ ya_)
     · obtain ⟨i,hi,rfl⟩:=aS ha
       rw [List.length_take] at hi
       rw [dZ ya_]
       rcases List.mem_cons.1 hb with rfl | hb
       · exact wG (k:=b.card.key) ya_
       · obtain ⟨j,hj,rfl⟩:=aS hb
         rw [List.length_drop] at hj
         rw [jL]
         exact a0I hs ya_ ya_
theorem a0Y {most:Int} {l:l9E} (hs:fZ l) {e:Entry} (h:r9 l e.card.key=true\/(l.length:Int) < most) (x:Entry):x∈C9 most l e↔x=e\/(x∈l/\x.card.key≠e.card.key):=by
 have hp:=L8 l e.card.key
 unfold C9
 split
 · rename_i hb
   have h1:=eG hb
   have h2:=(eF hb).2
   unfold d9 at h2; rw [if_pos hb] at h2
   constructor
   · intro hx
     obtain ⟨i,hi,e1⟩:=List.getElem_of_mem hx
     rw [List.getElem_set] at e1
     split at e1
     · exact .inl e1.symm
     · rename_i hne
       rw [List.length_set] at hi
       refine .inr ⟨e1 ▸ List.getElem_mem _,fun hk=>hne ?_⟩
       rw [<- e1,<- V6 hi] at hk
       rw [<- hk]; exact a4I hs hi
   · rintro (rfl | ⟨hx,hk⟩)
     · exact List.mem_set h1 _
     · obtain ⟨i,hi,e1⟩:=List.getElem_of_mem hx
       have hne:u7 l e.card.key≠i:=fun q=>hk (by rw [<- e1,<- V6 hi,<- q]; exact h2)
       have:(l.set (u7 l e.card.key) e)[i]'yc_=x:=by rw [List.getElem_set,if_neg hne]; exact e1
       exact this ▸ List.getElem_mem _
 · rename_i hb
   have hlt:(l.length:Int) < most:=h.resolve_left hb
   rw [if_neg ya_]
   have hno:∀ y∈l,y.card.key≠e.card.key:=fun y hy hk=>hb ((a7L hs _).2 ⟨y,hy,hk⟩)
   rw [List.mem_append,List.mem_cons]
   constructor
   · rintro (hx | rfl | hx)
     · exact .inr ⟨List.mem_of_mem_take hx,hno _ (List.mem_of_mem_take hx)⟩
     · exact .inl rfl
     · exact .inr ⟨List.mem_of_mem_drop hx,hno _ (List.mem_of_mem_drop hx)⟩
   · rintro (rfl | ⟨hx,_⟩)
     · exact .inr (.inl rfl)
     · rw [<- List.take_append_drop (u7 l e.card.key) l,List.mem_append] at hx
       exact hx.imp id .inr
theorem b9V {most:Int} {l:l9E} (hs:fZ l) {e:Entry} (h:r9 l e.card.key=true\/(l.length:Int) < most):r9 (C9 most l e) e.card.key=true/\d9 (C9 most l e) e.card.key=e :=
 wE (vJ hs e) ((a0Y hs h e).2 (.inl rfl))
theorem a7K {most:Int} {l:l9E} (hs:fZ l) {e:Entry} (h:r9 l e.card.key=true\/(l.length:Int) < most) {k:Key} (hk:k≠e.card.key):r9 (C9 most l e) k=r9 l k/\d9 (C9 most l e) k=d9 l k:=by
 have hs2:=vJ (most:=most) hs e
 cases hb:r9 l k with
 | true =>
  obtain ⟨h1,h2⟩:=eF hb
  have h3:d9 l k∈C9 most l e:=(a0Y hs h _).2 (.inr ⟨h1,by rw [h2]; exact hk⟩)
  have h4:=wE hs2 h3
  rw [h2] at h4; exact h4
 | false =>
  have h1:r9 (C9 most l e) k=false:=by
   cases hc:r9 (C9 most l e) k with
   | false=>rfl
   | true =>
    obtain ⟨h1,h2⟩:=eF hc
    rcases (a0Y hs h _).1 h1 with h3 | ⟨h3,_⟩
    · exact absurd (by rw [<- h2,h3]) hk
    · exact absurd ((a7L hs k).2 ⟨_,h3,h2⟩) (by rw [hb]; simp)
  refine ⟨h1,?_⟩
  unfold d9; rw [h1,hb]; simp
theorem a4m {most:Int} {l:l9E} {e:Entry} (h:r9 l e.card.key=true\/(l.length:Int) < most):A9 most l e=0:=by
 unfold A9; split
 · rfl
 · rename_i hb; rw [if_neg (by have:=h.resolve_left hb; omega)]
theorem c1I:fZ []:=List.Pairwise.nil
theorem c6k:o7 32=32:=by unfold o7; omega
theorem a6o (a b:l8):P9 a b < 0↔(a.t < b.t\/(a.t=b.t/\(a.n < b.n\/(a.n=b.n/\a.node < b.node)))):=by
 unfold P9 Q0
 rcases Int.lt_trichotomy a.t b.t with h | h | h
 · rw [if_pos h,if_neg ya_]; omega
 · rw [if_neg (show ¬ a.t < b.t by omega),if_neg (show ¬ a.t > b.t by omega),if_pos rfl]
   rcases Int.lt_trichotomy a.n b.n with h2 | h2 | h2
   · rw [if_pos h2,if_neg ya_]; omega
   · rw [if_neg (show ¬ a.n < b.n by omega),if_neg (show ¬ a.n > b.n by omega),if_pos rfl]
     split
     · omega
     · split <;> omega
   · rw [if_neg (show ¬ a.n < b.n by omega),if_pos h2,if_neg ya_]; omega
 · rw [if_neg (show ¬ a.t < b.t by omega),if_pos h,if_neg ya_]; omega
theorem a9y {a b:l8} (h:P9 a b < 0):¬ P9 b a < 0:=by
 rw [a6o] at *; omega
attribute [local irreducible] A9 C9 I5 P7 P9 aI d9 j4 l7 maxS r9 u7
theorem a6e (l:l9E) (g:Nat) (al:l9K) (ga:Nat) (gt nd:Int) (st:l8) (q:Msg) (now:Int) :
 ((tuR l g al ga gt nd st q now).c=[]/\(tuR l g al ga gt nd st q now).l=l/\(tuR l g al ga gt nd st q now).al=al/\(tuR l g al ga gt nd st q now).st=st/\(tuR l g al ga gt nd st q now).gt=gt) \/
 (r9 l q.key=true/\(tuR l g al ga gt nd st q now).c=[]/\(tuR l g al ga gt nd st q now).l=C9 (o7 32) l (Q6 (d9 l q.key) now)/\(tuR l g al ga gt nd st q now).al=al/\(tuR l g al ga gt nd st q now).st=st/\(tuR l g al ga gt nd st q now).gt=min (gt+1) 1048576) \/
 ∃ x:Entry,x.card.key=q.key/\x.card.stamp=l7 (maxS st (d9 l q.key).card.stamp) now nd/\tuR l g al ga gt nd st q now=a1x l g al ga gt st x:=by
 unfold tuR
 by_cases o1:q.op=1
 · rw [if_pos o1]
   by_cases r:dB q
   · refine .inr (.inr ⟨I4 q (d9 l q.key) (r9 l q.key) st now nd,rfl,rfl,?_⟩)
     unfold sI sH kY qE iR kD iQ a1x
     simp only [if_pos r]
   · refine .inl ?_
     unfold sI sH kY qE iR kD iQ
     simp only [if_neg r]
     exact ⟨trivial,trivial,trivial,trivial,trivial⟩
 rw [if_neg o1]
 by_cases o4:q.op=4/\3 < q.status
 · rw [if_pos o4]; exact .inl ⟨rfl,rfl,rfl,rfl,rfl⟩
 rw [if_neg o4]
 by_cases lv:r9 l q.key=true/\(d9 l q.key).card.gone=false
 · rw [if_pos lv]
   by_cases o2:q.op=2
   · rw [if_pos o2]; exact .inr (.inl ⟨lv.1,rfl,rfl,rfl,rfl,rfl⟩)
   rw [if_neg o2]
   have hk:=(eF lv.1).2
   by_cases o3:q.op=4
   · rw [if_pos o3]; exact .inr (.inr ⟨U3 (d9 l q.key) q.status (l7 (maxS st (d9 l q.key).card.stamp) now nd),hk,rfl,rfl⟩)
   · rw [if_neg o3]; exact .inr (.inr ⟨E5 (d9 l q.key) (l7 (maxS st (d9 l q.key).card.stamp) now nd) now,hk,rfl,rfl⟩)
 · rw [if_neg lv]; exact .inl ⟨rfl,rfl,rfl,rfl,rfl⟩
structure Z7 (n:Nat) (s:DS):Prop where
 srt:fZ s.l
 len:s.l.length<=32
 al:s.al.length<=n
 g0:0<=s.gt
 g1:s.gt<=1048576
theorem a2W {l:l9E} (x:Entry) (h:l.length<=32):(C9 (o7 32) l x).length<=32:=by
 have:=b8Y (most:=o7 32) (l:=l) (e:=x) (by rw [c6k]; omega)
 rw [c6k] at this ⊢
 omega
theorem Z7.mono {n m:Nat} {s:DS} (h:Z7 n s) (hm:n<=m):Z7 m s:=⟨h.srt,h.len,Nat.le_trans h.al hm,h.g0,h.g1⟩
theorem Z7.put {n:Nat} {s:DS} (h:Z7 n s) (x:Entry):Z7 (n+1) ⟨C9 (o7 32) s.l x,I5 (o7 32) s.l x s.g,F8 s.l x s.al,M7 s.l x s.ga,s.gf,s.gl,s.gt,K6 s.l x s.st⟩ :=
 ⟨vJ h.srt x,a2W x h.len,Nat.le_trans (a6w s.l x s.al) (Nat.succ_le_succ h.al),h.g0,h.g1⟩
theorem Z7.turn {n:Nat} {s:DS} (h:Z7 n s) (nd:Int) (q:Msg) (now:Int):Z7 (n+1) (s.turn nd q now):=by
 rcases a6e s.l s.g s.al s.ga s.gt nd s.st q now with ⟨_,e2,e3,_,e5⟩ | ⟨_,_,e2,e3,_,e5⟩ | ⟨x,_,_,e⟩
 · refine ⟨?_,?_,?_,?_,?_⟩ <;> simp only [DS.turn,e2,e3,e5]
   · exact h.srt
   · exact h.len
   · exact Nat.le_succ_of_le h.al
   · exact h.g0
   · exact h.g1
 · have g0:=h.g0
   refine ⟨?_,?_,?_,?_,?_⟩ <;> simp only [DS.turn,e2,e3,e5]
   · exact vJ h.srt _
   · exact a2W _ h.len
   · exact Nat.le_succ_of_le h.al
   · omega
   · omega
 · have e':s.turn nd q now=⟨C9 (o7 32) s.l x,I5 (o7 32) s.l x s.g,F8 s.l x s.al,M7 s.l x s.ga,s.gf,s.gl,s.gt,K6 s.l x s.st⟩:=by unfold DS.turn; rw [e]; rfl
   rw [e']; exact h.put x
theorem Z7.hd {n:Nat} {s:DS} (h:Z7 n s) (nd:Int) (q:Msg) (now:Int):Z7 (n+1) (hdD nd s q now).s:=by
 unfold hdD
 split
 · split
   · exact h.mono (Nat.le_succ _)
   · exact h.turn nd q _
 · exact h.mono (Nat.le_succ _)
theorem c8n {l:l9E} (hs:fZ l) (x:Entry) (al:l9K) :
 (jM l x=[]/\F8 l x al=al)\/(jM l x=[x.card]/\F8 l x al=al++[x.card.key]/\r9 (C9 (o7 32) l x) x.card.key=true/\d9 (C9 (o7 32) l x) x.card.key=x):=by
 unfold jM F8
 by_cases h:(A9 (o7 32) l x == 0)=true
 · rw [if_pos h,if_pos h]
   refine .inr ⟨rfl,rfl,?_⟩
   apply b9V hs
   have h0:A9 (o7 32) l x=0:=by simpa using h
   with_unfolding_all unfold A9 at h0
   by_cases hf:r9 l x.card.key=true
   · exact .inl hf
   · rw [if_neg hf] at h0
     refine .inr ?_
     split at h0
     · simp at h0
     · omega
 · rw [if_neg h,if_neg h]; exact .inl ⟨rfl,rfl⟩
theorem c9d {n:Nat} {s:DS} (hs:Z7 n s) (nd:Int) (q:Msg) (now:Int) :
 ((hdD nd s q now).c=[]/\(hdD nd s q now).s.al=s.al)\/∃ c:j5,(hdD nd s q now).c=[c]/\(hdD nd s q now).s.al=s.al++[c.key]/\r9 (hdD nd s q now).s.l c.key=true/\(d9 (hdD nd s q now).s.l c.key).card=c:=by
 unfold hdD
 split
 · split
   · exact .inl ⟨rfl,rfl⟩
   · simp only [DS.turn]
     rcases a6e s.l s.g s.al s.ga s.gt nd s.st q (j4 now) with ⟨e1,e2,e3,_,e5⟩ | ⟨_,e1,e2,e3,_,e5⟩ | ⟨x,_,_,e⟩
     · exact .inl ⟨e1,e3⟩
     · exact .inl ⟨e1,e3⟩
     · rw [e]
       rcases c8n hs.srt x s.al with ⟨h1,h2⟩ | ⟨h1,h2,h3,h4⟩
       · exact .inl ⟨h1,h2⟩
       · exact .inr ⟨x.card,h1,h2,h3,congrArg Entry.card h4⟩
 · exact .inl ⟨rfl,rfl⟩
end Go.Proofs.YtfjedpipdnlkfaaGreat.AM
namespace Go.Proofs.YtfjedpipdnlkfaaGreat.AM
open Go
def stB (n:Nat) (x:l8):Prop:=0<=x.t/\0<=x.n/\x.n<=(n:Int)
attribute [local irreducible] P7 aI j4 r9 u7 d9 C9 A9 I5 l7 maxS P9
structure d3k (n:Nat) (s:DS):Prop where
 ok:Z7 n s
 l:∀ e∈s.l,stB (n+9) e.card.stamp
 st:stB (n+9) s.st
open Go.Proofs.YtfjedpipdnlkfaaGreat
attribute [local irreducible] E8 F8 F9 I7 J4 M7 Q8 dD hdD j6 l6 l9 opM tuR
def c0z:Ann:={ fin:=some 0 }
theorem b5n  :AC 13 [(iI 6),z_] [] (AV.nilp,[]) :=
 o9 (fn:=Tryz.f13) (ann:=c0z) (Has.o Tryz.func13) (.r (.s (.n2 (.u4 (.g (.u (.qr 0 AV.nilp)))))))
def k16:Key:=⟨⟨#[97]⟩,⟨#[98]⟩⟩
def wB:j5:=⟨k16,1,0,9,⟨5,1,1⟩,false⟩
def vZ:j5:=⟨k16,1,0,9,⟨7,1,2⟩,true⟩
abbrev T16:=DS × Int × Msg × Int
def d2R:DS:=⟨[],0,[],0,0,0,0,⟨0,1,0⟩⟩
def c9h:DS:=⟨[⟨wB,5⟩],1,[k16],2,0,0,0,⟨5,1,1⟩⟩
def d2Q:DS:=⟨[⟨vZ,7⟩],1,[k16,k16],4,0,0,0,⟨7,1,2⟩⟩
def aY:T16:=(d2R,1,⟨1,1,1,0,4,9,0,k16,false,0,[],[]⟩,5)
def aX:T16:=(c9h,1,⟨1,2,0,0,0,0,0,⟨⟨#[120]⟩,⟨#[121]⟩⟩,false,0,[],[]⟩,6)
def aW:T16:=(c9h,1,⟨1,3,0,0,0,0,0,k16,false,0,[],[]⟩,7)
def aV:T16:=(d2Q,1,⟨1,3,0,0,0,0,0,k16,false,0,[],[]⟩,8)
@[simp] abbrev mO :Ob:=(o_ 0 3 [[z_,z_,z_]])
@[simp] abbrev c9D :=[[(iN ((List.length [k16]))),(AV.osl 4 2 2 0 (List.length (o8 [k16])))]]
@[simp] abbrev b6C (a:Int):Heap:=[(o_ 0 2 [[(iI (o7 32)),(AV.osl 1 1 10 0 (List.length [(Entry.mk wB 5)]))]]),(o_ 1 10 (mE [(Entry.mk wB 5)])),mO,(o_ 0 2 c9D),(o_ 2 2 (mK (o8 [k16]))),(o_ 0 7 [[(iI a),(iI (l8.mk 5 1 1).t),(iI (l8.mk 5 1 1).node),(iI (l8.mk 5 1 1).n),(oO 0 0 0 0),(oO 2 0 0 0),(oO 3 0 0 0)]])]
theorem b4u (l:l9E) (g:Nat) (al:l9K) (ga:Nat) (gf gl gt nd:Int) (st:l8) (q:Msg) (now:Int) (he:((⟨l,g,al,ga,gf,gl,gt,st⟩:DS),nd,q,now)=aY):AC 18 [(oO 5 0 0 0),(AV.agg (Msg.row q)),(iI now)] (I8 g l gf gl gt al ga nd st) ((AV.tup [(AV.agg [(iI 2),(iI 1),z_,z_,(iI 4),z_,z_,(AV.str (ByteArray.mk #[97])),(AV.str (ByteArray.mk #[98])),bF,(AV.int .u32 0),(sA 9 []),(sA 2 [])]),(sA 9 [[(AV.str (ByteArray.mk #[97])),(AV.str (ByteArray.mk #[98])),(iI 1),z_,(iI 9),(iI 5),(iI 1),(iI 1),bF]])]),(b6C nd)):=by
 have e1:(⟨l,g,al,ga,gf,gl,gt,st⟩:DS)=aY.1:=congrArg (fun z=>z.1) he
 have e2:nd=aY.2.1:=congrArg (fun z=>z.2.1) he
 have e3:q=aY.2.2.1:=congrArg (fun z=>z.2.2.1) he
 have e4:now=aY.2.2.2:=congrArg (fun z=>z.2.2.2) he
 clear he
 have e5:l=aY.1.l:=congrArg DS.l e1
 have e6:g=aY.1.g:=congrArg DS.g e1
 have e7:al=aY.1.al:=congrArg DS.al e1
 have e8:ga=aY.1.ga:=congrArg DS.ga e1
 have e9:gf=aY.1.gf:=congrArg DS.gf e1
 have e10:gl=aY.1.gl:=congrArg DS.gl e1
 have e11:gt=aY.1.gt:=congrArg DS.gt e1
 have e12:st=aY.1.st:=congrArg DS.st e1
 clear e1
 subst e2 e3 e4 e5 e6 e7 e8 e9 e10 e11 e12
 have h:=uI aY.1.l aY.1.g aY.1.al aY.1.ga aY.1.gf aY.1.gl aY.1.gt aY.2.1 aY.1.st aY.2.2.1 aY.2.2.2 (of_decide_eq_true kr) (of_decide_eq_true kr) (of_decide_eq_true kr)
 exact Eq.mp (congrArg (fun z=>l6 _ _ _ _ z) kr) h
theorem c3z (l:l9E) (g:Nat) (al:l9K) (ga:Nat) (gf gl gt nd:Int) (st:l8) (q:Msg) (now:Int) (he:((⟨l,g,al,ga,gf,gl,gt,st⟩:DS),nd,q,now)=aY) (H:Heap):AC 18 [(oO 5 0 0 0),(AV.agg (Msg.row q)),(iI now)] ((I8 g l gf gl gt al ga nd st)++H) ((AV.tup [(AV.agg [(iI 2),(iI 1),z_,z_,(iI 4),z_,z_,(AV.str (ByteArray.mk #[97])),(AV.str (ByteArray.mk #[98])),bF,(AV.int .u32 0),(sA 9 []),(sA 2 [])]),(sA 9 [[(AV.str (ByteArray.mk #[97])),(AV.str (ByteArray.mk #[98])),(iI 1),z_,(iI 9),(iI 5),(iI 1),(iI 1),bF]])]),(b6C nd)++H):=(b4u l g al ga gf gl gt nd st q now he).ext kr kr ob ob kr H
theorem b4t (l:l9E) (g:Nat) (al:l9K) (ga:Nat) (gf gl gt nd:Int) (st:l8) (q:Msg) (now:Int) (he:((⟨l,g,al,ga,gf,gl,gt,st⟩:DS),nd,q,now)=aX):AC 18 [(oO 5 0 0 0),(AV.agg (Msg.row q)),(iI now)] (I8 g l gf gl gt al ga nd st) ((AV.tup [(AV.agg [(iI 2),(iI 2),z_,(iI 22),z_,z_,z_,(AV.str (ByteArray.mk #[120])),(AV.str (ByteArray.mk #[121])),bF,(AV.int .u32 0),(sA 9 []),(sA 2 [])]),(sA 9 [])]),(b6C nd)):=by
 have e1:(⟨l,g,al,ga,gf,gl,gt,st⟩:DS)=aX.1:=congrArg (fun z=>z.1) he
 have e2:nd=aX.2.1:=congrArg (fun z=>z.2.1) he
 have e3:q=aX.2.2.1:=congrArg (fun z=>z.2.2.1) he
 have e4:now=aX.2.2.2:=congrArg (fun z=>z.2.2.2) he
 clear he
 have e5:l=aX.1.l:=congrArg DS.l e1
 have e6:g=aX.1.g:=congrArg DS.g e1
 have e7:al=aX.1.al:=congrArg DS.al e1
 have e8:ga=aX.1.ga:=congrArg DS.ga e1
 have e9:gf=aX.1.gf:=congrArg DS.gf e1
 have e10:gl=aX.1.gl:=congrArg DS.gl e1
 have e11:gt=aX.1.gt:=congrArg DS.gt e1
 have e12:st=aX.1.st:=congrArg DS.st e1
 clear e1
 subst e2 e3 e4 e5 e6 e7 e8 e9 e10 e11 e12
 have h:=uI aX.1.l aX.1.g aX.1.al aX.1.ga aX.1.gf aX.1.gl aX.1.gt aX.2.1 aX.1.st aX.2.2.1 aX.2.2.2 (of_decide_eq_true kr) (of_decide_eq_true kr) (of_decide_eq_true kr)
 exact Eq.mp (congrArg (fun z=>l6 _ _ _ _ z) kr) h
theorem c3y (l:l9E) (g:Nat) (al:l9K) (ga:Nat) (gf gl gt nd:Int) (st:l8) (q:Msg) (now:Int) (he:((⟨l,g,al,ga,gf,gl,gt,st⟩:DS),nd,q,now)=aX) (H:Heap):AC 18 [(oO 5 0 0 0),(AV.agg (Msg.row q)),(iI now)] ((I8 g l gf gl gt al ga nd st)++H) ((AV.tup [(AV.agg [(iI 2),(iI 2),z_,(iI 22),z_,z_,z_,(AV.str (ByteArray.mk #[120])),(AV.str (ByteArray.mk #[121])),bF,(AV.int .u32 0),(sA 9 []),(sA 2 [])]),(sA 9 [])]),(b6C nd)++H):=(b4t l g al ga gf gl gt nd st q now he).ext kr kr ob ob kr H
@[simp] abbrev c6J :Ob:=(o_ 0 2 [[(iI (o7 32)),(AV.osl 1 1 10 0 (List.length [(Entry.mk vZ 7)]))]])
@[simp] abbrev c6I :Ob:=(o_ 1 10 (mE [(Entry.mk vZ 7)]))
@[simp] abbrev c9C :=[[(iN ((List.length [k16,k16]))),(AV.osl 4 4 2 0 (List.length (o8 [k16,k16])))]]
@[simp] abbrev c6H :Ob:=(o_ 0 2 c9C)
@[simp] abbrev c6G :Ob:=(o_ 4 2 (mK (o8 [k16,k16])))
@[simp] abbrev b6B (a:Int):Heap:=[c6J,c6I,mO,c6H,c6G,(o_ 0 7 [[(iI a),(iI (l8.mk 7 1 2).t),(iI (l8.mk 7 1 2).node),(iI (l8.mk 7 1 2).n),(oO 0 0 0 0),(oO 2 0 0 0),(oO 3 0 0 0)]])]
theorem b4s (l:l9E) (g:Nat) (al:l9K) (ga:Nat) (gf gl gt nd:Int) (st:l8) (q:Msg) (now:Int) (he:((⟨l,g,al,ga,gf,gl,gt,st⟩:DS),nd,q,now)=aW):AC 18 [(oO 5 0 0 0),(AV.agg (Msg.row q)),(iI now)] (I8 g l gf gl gt al ga nd st) ((AV.tup [(AV.agg [(iI 2),(iI 3),z_,z_,z_,z_,z_,(AV.str (ByteArray.mk #[97])),(AV.str (ByteArray.mk #[98])),bF,(AV.int .u32 0),(sA 9 []),(sA 2 [])]),(sA 9 [[(AV.str (ByteArray.mk #[97])),(AV.str (ByteArray.mk #[98])),(iI 1),z_,(iI 9),(iI 7),(iI 1),(iI 2),bT]])]),(b6B nd)):=by
 have e1:(⟨l,g,al,ga,gf,gl,gt,st⟩:DS)=aW.1:=congrArg (fun z=>z.1) he
 have e2:nd=aW.2.1:=congrArg (fun z=>z.2.1) he
 have e3:q=aW.2.2.1:=congrArg (fun z=>z.2.2.1) he
 have e4:now=aW.2.2.2:=congrArg (fun z=>z.2.2.2) he
 clear he
 have e5:l=aW.1.l:=congrArg DS.l e1
 have e6:g=aW.1.g:=congrArg DS.g e1
 have e7:al=aW.1.al:=congrArg DS.al e1
 have e8:ga=aW.1.ga:=congrArg DS.ga e1
 have e9:gf=aW.1.gf:=congrArg DS.gf e1
 have e10:gl=aW.1.gl:=congrArg DS.gl e1
 have e11:gt=aW.1.gt:=congrArg DS.gt e1
 have e12:st=aW.1.st:=congrArg DS.st e1
 clear e1
 subst e2 e3 e4 e5 e6 e7 e8 e9 e10 e11 e12
 have h:=uI aW.1.l aW.1.g aW.1.al aW.1.ga aW.1.gf aW.1.gl aW.1.gt aW.2.1 aW.1.st aW.2.2.1 aW.2.2.2 (of_decide_eq_true kr) (of_decide_eq_true kr) (of_decide_eq_true kr)
 exact Eq.mp (congrArg (fun z=>l6 _ _ _ _ z) kr) h
theorem c3x (l:l9E) (g:Nat) (al:l9K) (ga:Nat) (gf gl gt nd:Int) (st:l8) (q:Msg) (now:Int) (he:((⟨l,g,al,ga,gf,gl,gt,st⟩:DS),nd,q,now)=aW) (H:Heap):AC 18 [(oO 5 0 0 0),(AV.agg (Msg.row q)),(iI now)] ((I8 g l gf gl gt al ga nd st)++H) ((AV.tup [(AV.agg [(iI 2),(iI 3),z_,z_,z_,z_,z_,(AV.str (ByteArray.mk #[97])),(AV.str (ByteArray.mk #[98])),bF,(AV.int .u32 0),(sA 9 []),(sA 2 [])]),(sA 9 [[(AV.str (ByteArray.mk #[97])),(AV.str (ByteArray.mk #[98])),(iI 1),z_,(iI 9),(iI 7),(iI 1),(iI 2),bT]])]),(b6B nd)++H):=(b4s l g al ga gf gl gt nd st q now he).ext kr kr ob ob kr H
theorem b4r (l:l9E) (g:Nat) (al:l9K) (ga:Nat) (gf gl gt nd:Int) (st:l8) (q:Msg) (now:Int) (he:((⟨l,g,al,ga,gf,gl,gt,st⟩:DS),nd,q,now)=aV):AC 18 [(oO 5 0 0 0),(AV.agg (Msg.row q)),(iI now)] (I8 g l gf gl gt al ga nd st) ((AV.tup [(AV.agg [(iI 2),(iI 3),z_,(iI 22),z_,z_,z_,(AV.str (ByteArray.mk #[97])),(AV.str (ByteArray.mk #[98])),bF,(AV.int .u32 0),(sA 9 []),(sA 2 [])]),(sA 9 [])]),(b6B nd)):=by
 have e1:(⟨l,g,al,ga,gf,gl,gt,st⟩:DS)=aV.1:=congrArg (fun z=>z.1) he
 have e2:nd=aV.2.1:=congrArg (fun z=>z.2.1) he
 have e3:q=aV.2.2.1:=congrArg (fun z=>z.2.2.1) he
 have e4:now=aV.2.2.2:=congrArg (fun z=>z.2.2.2) he
 clear he
 have e5:l=aV.1.l:=congrArg DS.l e1
 have e6:g=aV.1.g:=congrArg DS.g e1
 have e7:al=aV.1.al:=congrArg DS.al e1
 have e8:ga=aV.1.ga:=congrArg DS.ga e1
 have e9:gf=aV.1.gf:=congrArg DS.gf e1
 have e10:gl=aV.1.gl:=congrArg DS.gl e1
 have e11:gt=aV.1.gt:=congrArg DS.gt e1
 have e12:st=aV.1.st:=congrArg DS.st e1
 clear e1
 subst e2 e3 e4 e5 e6 e7 e8 e9 e10 e11 e12
 have h:=uI aV.1.l aV.1.g aV.1.al aV.1.ga aV.1.gf aV.1.gl aV.1.gt aV.2.1 aV.1.st aV.2.2.1 aV.2.2.2 (of_decide_eq_true kr) (of_decide_eq_true kr) (of_decide_eq_true kr)
 exact Eq.mp (congrArg (fun z=>l6 _ _ _ _ z) kr) h
theorem c3w (l:l9E) (g:Nat) (al:l9K) (ga:Nat) (gf gl gt nd:Int) (st:l8) (q:Msg) (now:Int) (he:((⟨l,g,al,ga,gf,gl,gt,st⟩:DS),nd,q,now)=aV) (H:Heap):AC 18 [(oO 5 0 0 0),(AV.agg (Msg.row q)),(iI now)] ((I8 g l gf gl gt al ga nd st)++H) ((AV.tup [(AV.agg [(iI 2),(iI 3),z_,(iI 22),z_,z_,z_,(AV.str (ByteArray.mk #[97])),(AV.str (ByteArray.mk #[98])),bF,(AV.int .u32 0),(sA 9 []),(sA 2 [])]),(sA 9 [])]),(b6B nd)++H):=(b4r l g al ga gf gl gt nd st q now he).ext kr kr ob ob kr H
def b0t:Ann:={ fin:=some 0 }
@[simp] abbrev a9g :Ob:=(o_ 0 2 [[(iI (o7 32)),(AV.osl 1 0 10 0 (List.length ([]:l9E)))]])
@[simp] abbrev a9f :Ob:=(o_ 0 10 (mE ([]:l9E)))
@[simp] abbrev a9e :Ob:=(o_ 0 2 [[(iN ((List.length ([]:l9K)))),(AV.osl 4 0 2 0 (List.length (o8 ([]:l9K))))]])
@[simp] abbrev a9d :Ob:=(o_ 0 2 (mK (o8 ([]:l9K))))
@[simp] abbrev c5r :Heap:=[a9g,a9f,mO,a9e,a9d,(o_ 0 7 [[(iI 1),z_,(iI 1),z_,(oO 0 0 0 0),(oO 2 0 0 0),(oO 3 0 0 0)]])]
@[simp] abbrev c9B :=[[(iI 1),(iI (l8.mk 7 1 2).t),(iI (l8.mk 7 1 2).node),(iI (l8.mk 7 1 2).n),(oO 0 0 0 0),(oO 2 0 0 0),(oO 3 0 0 0)]]
@[simp] abbrev a1j :=(AV.str (ByteArray.mk #[97]))
@[simp] abbrev a3p :=(AV.str (ByteArray.mk #[98]))
@[simp] abbrev a1k :=[[a1j,a3p]]
@[simp] abbrev a8v :=[[(iI 2),(iI 1),z_,z_,(iI 4),z_,z_,a1j,a3p,bF,(AV.int .u32 0),(sA 9 []),(sA 2 [])]]
@[simp] abbrev b5F :=[[(iI 2),(iI 2),z_,(iI 22),z_,z_,z_,(AV.str (ByteArray.mk #[120])),(AV.str (ByteArray.mk #[121])),bF,(AV.int .u32 0),(sA 9 []),(sA 2 [])]]
@[simp] abbrev c9A :=[[(iI 2),(iI 3),z_,z_,z_,z_,z_,a1j,a3p,bF,(AV.int .u32 0),(sA 9 []),(sA 2 [])]]
@[simp] abbrev a9h :Heap:=[c6J,c6I,mO,c6H,c6G,(o_ 0 7 c9B),(o_ 0 2 a1k),(o_ 0 13 a8v),(o_ 0 13 b5F),(o_ 0 13 c9A),(o_ 0 13 [[(iI 2),(iI 3),z_,(iI 22),z_,z_,z_,a1j,a3p,bF,(AV.int .u32 0),(sA 9 []),(sA 2 [])]])]
@[simp] abbrev c9z :=(AV.agg (Msg.row (Msg.mk 1 3 0 0 0 0 0 (Key.mk (ByteArray.mk #[97]) (ByteArray.mk #[98])) false 0 [] [])))
@[simp] abbrev c9y :=(AV.agg [(iI 1),(iI 3),z_,z_,z_,z_,z_,a1j,a3p,bF,(AV.int .u32 0),(AV.sl .nil 0 []),(AV.sl .nil 0 [])])
theorem a7x  :AC 20 [] [] (bT,[]) :=
 o9 (fn:=Tryz.f20) (ann:=b0t) (Has.o Tryz.func20) (.r (.s (.ch 0 c5r (l6.put2 [] [] (oO 5 0 0 0) c5r (a4L 1 0 (by first | omega | assumption | (simp; done) | (simp; omega) | exact kr | kernel_rfl) (by first | omega | assumption | (simp; done) | (simp; omega) | exact kr | kernel_rfl) (by first | omega | assumption | (simp; done) | (simp; omega) | exact kr | kernel_rfl)) (trivial) (⟨rfl,⟨Ob.ren0 (Entry.p8 0 _),⟨rfl,⟨rfl,⟨Ob.ren0 (Key.p8 0 _),⟨rfl,trivial⟩⟩⟩⟩⟩⟩)) (.s (.n (.c 3 ((b5n).lift kr kr c5r) (.n (.rn (.s (.ch 3 [(o_ 0 2 [[(iI (o7 32)),(AV.osl 1 1 10 0 (List.length [(Entry.mk wB 5)]))]]),(o_ 1 10 (mE [(Entry.mk wB 5)])),(o_ 0 3 [[z_,z_,z_]]),(o_ 0 2 c9D),(o_ 2 2 (mK (o8 [k16]))),(o_ 0 7 [[(iI 1),(iI (l8.mk 5 1 1).t),(iI (l8.mk 5 1 1).node),(iI (l8.mk 5 1 1).n),(oO 0 0 0 0),(oO 2 0 0 0),(oO 3 0 0 0)]]),(o_ 0 2 a1k),(o_ 0 13 [[z_,z_,z_,z_,z_,z_,z_,e_,e_,bF,(AV.int .u32 0),(AV.sl .nil 0 []),(AV.sl .nil 0 [])]])] (l6.pre (args:=[(oO 5 0 0 0),(AV.agg (Msg.row (Msg.mk 1 1 1 0 4 9 0 (Key.mk (ByteArray.mk #[97]) (ByteArray.mk #[98])) false 0 [] []))),(iI 5)]) (args':=[(oO 5 0 0 0),(AV.agg [(iI 1),(iI 1),(iI 1),z_,(iI 4),(iI 9),z_,a1j,a3p,bF,(AV.int .u32 0),(AV.sl .nil 0 []),(AV.sl .nil 0 [])]),(iI 5)]) (c3z ([]:l9E) 0 ([]:l9K) 0 0 0 0 1 (l8.mk 0 1 0) (Msg.mk 1 1 1 0 4 9 0 (Key.mk (ByteArray.mk #[97]) (ByteArray.mk #[98])) false 0 [] []) 5 (by first | omega | assumption | (simp; done) | (simp; omega) | exact kr | kernel_rfl) [(o_ 0 2 a1k),(o_ 0 13 [[z_,z_,z_,z_,z_,z_,z_,e_,e_,bF,(AV.int .u32 0),(AV.sl .nil 0 []),(AV.sl .nil 0 [])]])]) ⟨AV.j3 _,⟨AV.j3 _,AV.j3 _,AV.j3 _,AV.j3 _,AV.j3 _,AV.j3 _,AV.j3 _,AV.j3 _,AV.j3 _,AV.j3 _,AV.j3 _,⟨rfl,rfl,.inr rfl⟩,⟨rfl,rfl,.inr rfl⟩,trivial⟩,AV.j3 _,trivial⟩) (.s (.c 3 (l6.pre (args:=[(oO 5 0 0 0),(AV.agg (Msg.row (Msg.mk 1 2 0 0 0 0 0 (Key.mk (ByteArray.mk #[120]) (ByteArray.mk #[121])) false 0 [] []))),(iI 6)]) (args':=[(oO 5 0 0 0),(AV.agg [(iI 1),(iI 2),z_,z_,z_,z_,z_,(AV.str (ByteArray.mk #[120])),(AV.str (ByteArray.mk #[121])),bF,(AV.int .u32 0),(AV.sl .nil 0 []),(AV.sl .nil 0 [])]),(iI 6)]) (c3y [(Entry.mk wB 5)] 1 [k16] 2 0 0 0 1 (l8.mk 5 1 1) (Msg.mk 1 2 0 0 0 0 0 (Key.mk (ByteArray.mk #[120]) (ByteArray.mk #[121])) false 0 [] []) 6 (by first | omega | assumption | (simp; done) | (simp; omega) | exact kr | kernel_rfl) [(o_ 0 2 a1k),(o_ 0 13 a8v),(o_ 0 13 [[z_,z_,z_,z_,z_,z_,z_,e_,e_,bF,(AV.int .u32 0),(AV.sl .nil 0 []),(AV.sl .nil 0 [])]])]) ⟨AV.j3 _,⟨AV.j3 _,AV.j3 _,AV.j3 _,AV.j3 _,AV.j3 _,AV.j3 _,AV.j3 _,AV.j3 _,AV.j3 _,AV.j3 _,AV.j3 _,⟨rfl,rfl,.inr rfl⟩,⟨rfl,rfl,.inr rfl⟩,trivial⟩,AV.j3 _,trivial⟩) (.s (.ch 3 [(o_ 0 2 [[(iI (o7 32)),(AV.osl 1 1 10 0 (List.length [(Entry.mk vZ 7)]))]]),(o_ 1 10 (mE [(Entry.mk vZ 7)])),(o_ 0 3 [[z_,z_,z_]]),(o_ 0 2 c9C),(o_ 4 2 (mK (o8 [k16,k16]))),(o_ 0 7 c9B),(o_ 0 2 a1k),(o_ 0 13 a8v),(o_ 0 13 b5F),(o_ 0 13 [[z_,z_,z_,z_,z_,z_,z_,e_,e_,bF,(AV.int .u32 0),(AV.sl .nil 0 []),(AV.sl .nil 0 [])]])] (l6.pre (args:=[(oO 5 0 0 0),c9z,(iI 7)]) (args':=[(oO 5 0 0 0),c9y,(iI 7)]) (c3x [(Entry.mk wB 5)] 1 [k16] 2 0 0 0 1 (l8.mk 5 1 1) (Msg.mk 1 3 0 0 0 0 0 (Key.mk (ByteArray.mk #[97]) (ByteArray.mk #[98])) false 0 [] []) 7 (by first | omega | assumption | (simp; done) | (simp; omega) | exact kr | kernel_rfl) [(o_ 0 2 a1k),(o_ 0 13 a8v),(o_ 0 13 b5F),(o_ 0 13 [[z_,z_,z_,z_,z_,z_,z_,e_,e_,bF,(AV.int .u32 0),(AV.sl .nil 0 []),(AV.sl .nil 0 [])]])]) ⟨AV.j3 _,⟨AV.j3 _,AV.j3 _,AV.j3 _,AV.j3 _,AV.j3 _,AV.j3 _,AV.j3 _,AV.j3 _,AV.j3 _,AV.j3 _,AV.j3 _,⟨rfl,rfl,.inr rfl⟩,⟨rfl,rfl,.inr rfl⟩,trivial⟩,AV.j3 _,trivial⟩) (.s (.c 3 (l6.pre (args:=[(oO 5 0 0 0),c9z,(iI 8)]) (args':=[(oO 5 0 0 0),c9y,(iI 8)]) (c3w [(Entry.mk vZ 7)] 1 [k16,k16] 4 0 0 0 1 (l8.mk 7 1 2) (Msg.mk 1 3 0 0 0 0 0 (Key.mk (ByteArray.mk #[97]) (ByteArray.mk #[98])) false 0 [] []) 8 (by first | omega | assumption | (simp; done) | (simp; omega) | exact kr | kernel_rfl) [(o_ 0 2 a1k),(o_ 0 13 a8v),(o_ 0 13 b5F),(o_ 0 13 c9A),(o_ 0 13 [[z_,z_,z_,z_,z_,z_,z_,e_,e_,bF,(AV.int .u32 0),(AV.sl .nil 0 []),(AV.sl .nil 0 [])]])]) ⟨AV.j3 _,⟨AV.j3 _,AV.j3 _,AV.j3 _,AV.j3 _,AV.j3 _,AV.j3 _,AV.j3 _,AV.j3 _,AV.j3 _,AV.j3 _,AV.j3 _,⟨rfl,rfl,.inr rfl⟩,⟨rfl,rfl,.inr rfl⟩,trivial⟩,AV.j3 _,trivial⟩) (.s (.u6 (.u6 (.h' a9h (.y 19 (bB ((5 == 5)&&((1 == 1)&&((1 == 1)&&true)))) bT (Yes.b kr) (.u6 (.u6 (.u6 (.u6 (.c 59 (l6.put2 [0,1,2,3,4,5] a9h (oO 3 0 0 0) a9h (yN [(Entry.mk vZ 7)] 1 [k16,k16] 4 0 0 0 1 (l8.mk 7 1 2).t (l8.mk 7 1 2).node (l8.mk 7 1 2).n ) (⟨rfl,⟨Ob.ren0 (Entry.p8 0 _),⟨rfl,⟨rfl,⟨Ob.ren0 (Key.p8 0 _),⟨rfl,trivial⟩⟩⟩⟩⟩⟩) (⟨rfl,⟨Ob.ren0 (Entry.p8 0 _),⟨rfl,⟨rfl,⟨Ob.ren0 (Key.p8 0 _),⟨rfl,trivial⟩⟩⟩⟩⟩⟩)) (.u (.c 60 (l6.pre (args:=[(oO 3 0 0 0)]) (args':=[(oO 3 0 0 0)]) (l6.put2 [3,4] a9h (iN ([k16,k16].length)) a9h (a0L [k16,k16] 4 ) (⟨rfl,⟨Ob.ren0 (Key.p8 0 _),trivial⟩⟩) (⟨rfl,⟨Ob.ren0 (Key.p8 0 _),trivial⟩⟩)) ⟨AV.j3 _,trivial⟩) (.u (.g (.h' [] (.q 0 (bB ((([k16,k16].length:Nat):Int) == 2))))))))))))))))))))))))))))))))))
attribute [local irreducible] cZ akL akE akQ akT akM akB akZ Tp.ask Tp.card
theorem c8D {n:Nat} {s:DS} (hs:Z7 n s) (nd:Int) (q:Msg) (now:Int):(hdD nd s q now).c.length<=1:=by
 rcases c9d hs nd q now with ⟨h,_⟩ | ⟨c,h,_⟩ <;> rw [h] <;> simp
attribute [local irreducible] A8 G6 I6 I9 L9 Q9 Tp.G5 Tp.key Tp.keyT Tp.next Tp.step V8 Y7 cmpL sink w9 x9 y5 y9
def mI (now:Int) (e:Entry):Bool:=if e.card.gone=true then decide (a1s e now > 400) else false
def bX (now:Int) (s:List Entry × Nat) (e:Entry):List Entry × Nat:=if mI now e=true then (s.1++[e],s.2+1) else s
def bI (l:List Entry) (now:Int):List Entry × Nat:=l.foldl (bX now) ([],0)
theorem c0F (now:Int) (l:l9E):∀ (s:l9E × Nat),(l.foldl (bX now) s).1.length<=s.1.length+l.length:=by
 induction l with
 | nil=>intro s; simp
 | cons c l ih =>
  intro s
  have h1:=ih (bX now s c)
  have h2:(bX now s c).1.length<=s.1.length+1:=by unfold bX; split <;> simp
  simp only [List.foldl_cons,List.length_cons]; omega
theorem c0E (l:l9E) (now:Int):(bI l now).1.length<=l.length:=by
 have:=c0F now l ([],0)
 simpa [bI] using this
def H7 (l:List Entry) (now:Int):List Key:=(bI l now).1.map (·.card.key)
def a1i:Ann:={ gh:=[(8,.frz 5)],gha:=[(1,.vir 5 10),(7,.cut 1)],fin:=some 0,live:=[(3,[1,5,8,9,10])],out:=[(3,[1,5,8,9,10])] }
@[simp] abbrev d1R (a:Nat) (b:l9E) (c:l9E) (d:Nat):Heap:=[(o_ (a+1) 10 (mE (b++[(nth c d)])))]
@[simp] abbrev d1Q (a:Int) (b:Nat) (c:Nat) (d:l9E) (e:Nat):Fr:=(mkF 30 [(1,(iI a)),(5,(AV.osl 0 b 10 0 c)),(8,(sA 10 (mE d))),(9,(iN d.length)),(10,(iN (e+1)))])
@[simp] abbrev d1P (a:Int) (b:Nat) (c:Nat) (d:l9E) (e:Nat):Fr:=(mkF 30 [(1,(iI a)),(5,(AV.osl 0 b 10 0 c)),(8,(sA 10 (mE d))),(9,(iN d.length)),(10,(iN e))])
@[simp] abbrev a8u :=(l9 Tryz.prog (X a1i) (p9 Tryz.f58 0))
theorem a4M (l few:l9E) (now:Int) (i k g:Nat) (hk:k=few.length) (hki:k<=l.length) (hl:l.length < 1099511627776) {eX:Ex} {FX:Fr} {HX:Heap} (k1:(decide ((i:Int) < (l.length:Int)))=true->(nth l i).card.gone=true->(decide ((a1s (nth l i) now) > 400))=true->j6 a8u (some [1,5,8,9,10]) (some [1,5,8,9,10]) (mkF 30 [(1,(iI now)),(5,(cv_ g k)),(8,(sA 10 (mE l))),(9,(iN l.length)),(10,(iN (i+1)))]) (d1R g few l i) eX FX HX) (k2:(decide ((i:Int) < (l.length:Int)))=true->(nth l i).card.gone=true->(decide ((a1s (nth l i) now) > 400))=false->j6 a8u (some [1,5,8,9,10]) (some [1,5,8,9,10]) (d1Q now g k l i) [(o_ g 10 (mE few))] eX FX HX) (k3:(decide ((i:Int) < (l.length:Int)))=true->(nth l i).card.gone=false->j6 a8u (some [1,5,8,9,10]) (some [1,5,8,9,10]) (d1Q now g k l i) [(o_ g 10 (mE few))] eX FX HX) (k4:(decide ((i:Int) < (l.length:Int)))=false->((.exit 0:Ex),(d1P now g k l i),[(o_ g 10 (mE few))])=(eX,FX,HX)):j6 a8u (some [1,5,8,9,10]) (some [1,5,8,9,10]) (d1P now g k l i) [(o_ g 10 (mE few))] eX FX HX :=
 F7 (.r (.g (.two (decide ((i:Int) < (l.length:Int))) (fun h1 h1'=>(.r (.h' [(o_ g 10 (mE few)),(o_ 0 10 [[e_,e_,z_,z_,z_,z_,z_,z_,bF,z_]])] (.is 0 10 10 (mE l) (i:Int) (Entry.row (nth l i)) (J8.mk _ ow ow) (.s (.two (nth l i).card.gone (fun h2 h2'=>(.u2 (.c 6 ((c5l (nth l i) now).lift kr kr (xA g few l i)) (.u (.g (.two (decide ((a1s (nth l i) now) > 400)) (fun h3 h3'=>(.r (.h' (xA g few l i) (.ap 3 104 (AV.osl 0 g 10 0 k) (AV.sl .clip 10 [(Entry.row (nth l i))]) (cv_ g k) [(o_ (g+1) 10 (mE (few++[(nth l i)]))),(o_ 0 10 [(Entry.row (nth l i))])] (H6 (row:=Entry.row) (l:=few) (x:=(nth l i)) (T:=tt) (e:=45) (te:=bE) (z:=1) (b:=24) (y:=[.sl .nil 0 []]) kr kr rfl z8 z8 kr aU rfl rfl a2M) (.s (.y 0 (.int .i64 (cb_ i)) (iN (i+1)) Yes.o (.h' (d1R g few l i) (.b 1 (.g (.l (k1 h1 h2 h3))))))))))) (fun h3 h3'=>(.r (.h' (xA g few l i) (.y 0 (.int .i64 (cb_ i)) (iN (i+1)) Yes.o (.h' [(o_ g 10 (mE few))] (.b 1 (.g (.l (k2 h1 h2 h3))))))))))))))) (fun h2 h2'=>(.n3 (.rn (.h' (xA g few l i) (.y 0 (.int .i64 (cb_ i)) (iN (i+1)) Yes.o (.h' [(o_ g 10 (mE few))] (.b 1 (.g (.l (k3 h1 h2)))))))))))))))) (fun h1 h1'=>(.l (k4 h1))))))
theorem c0D (l:l9E) (now:Int) (r:Nat):∀ (few:l9E) (i k g:Nat) (sF:l9E × Nat),i+r=l.length->k=few.length->k<=i->l.length < 1099511627776->sF=(l.drop i).foldl (bX now) (few,g) ->
 j6 (l9 Tryz.prog (X a1i) (p9 Tryz.f58 0)) (some [1,5,8,9,10]) (some [1,5,8,9,10]) (mkF 30 [(1,(iI now)),(5,(AV.osl 0 g 10 0 k)),(8,(sA 10 (mE l))),(9,(iN l.length)),(10,(iN i))]) [(o_ g 10 (mE few))] (.exit 0) (mkF 30 [(1,(iI now)),(5,(AV.osl 0 sF.2 10 0 sF.1.length)),(8,(sA 10 (mE l))),(9,(iN l.length)),(10,(iN l.length))]) [(o_ sF.2 10 (mE sF.1))]:=by
 induction r with
 | zero =>
  intro few i k g sF hi hk hki hl h
  have:l.drop i=[]:=List.drop_of_length_le ow
  rw [this] at h
  refine a4M l few now i k g hk ow hl (fun h=>by simp at h; omega) (fun h=>by simp at h; omega) (fun h=>by simp at h; omega) fun _=>?_
  have e3:i=l.length:=by omega
  rw [h,e3,hk]
  rfl
 | succ r ih =>
  intro few i k g sF hi hk hki hl h
  rw [Y8 ow,List.foldl_cons] at h
  refine a4M l few now i k g hk ow hl (fun _ h2 h3=>?_) (fun _ h2 h3=>?_) (fun _ h2=>?_) fun h=>by simp at h; omega
  · exact ih (few++[nth l i]) (i+1) (k+1) (g+1) sF ow uW ow hl (by rw [h]; simp only [bX,mI,h2,h3,if_true])
  · exact ih few (i+1) k g sF ow hk ow hl (by rw [h]; simp only [bX,mI,h2,h3,if_true,Bool.false_eq_true,if_false])
  · exact ih few (i+1) k g sF ow hk ow hl (by rw [h]; simp only [bX,mI,h2,Bool.false_eq_true,if_false])
@[simp] abbrev d1O (a:Int) (b:l9E):Fr:=(mkF 30 [(1,(iI a)),(5,(AV.osl 0 (bI b a).2 10 0 (bI b a).1.length)),(8,(sA 10 (mE b))),(9,(iN b.length)),(10,(iN b.length))])
@[simp] abbrev d1N (a:l9E) (b:Int):Heap:=[(o_ ((bI a b).2) 10 (mE (bI a b).1))]
theorem c0C (l:l9E) (now:Int) (hl:l.length < 1099511627776):AC 58 [(sA 10 (mE l)),(iI now)] [] ((sA 2 (mK (H7 l now))),[]):=by
 have hd:=c0E l now
 exact o9 (fn:=Tryz.f58) (ann:=a1i) (Has.o Tryz.func58) (.r (.s (.s (.h' [(o_ 0 10 (mE []))] (.y 1 (.int .i64 ((List.length (mE l):Nat):Int)) (iN l.length) (Yes.len _ _ _) (.g (.loop (d1O now l) (show j6 a8u (some [1,5,8,9,10]) (some [1,5,8,9,10]) (mkF 30 [(1,(iI now)),(5,(AV.osl 0 0 10 0 0)),(8,(sA 10 (mE l))),(9,(iN l.length)),(10,z_)]) [(o_ 0 10 (mE []))] (.exit 0) (d1O now l) (d1N l now) from (c0D l now (List.length l) [] 0 0 0 _ ow rfl ow hl rfl)) (.r (.w 5 (mE (bI l now).1) (And.intro (G7 (room:=none) kr om) (Entry.p8 _ _):F5 (d1N l now) 10 (AV.osl 0 (bI l now).2 10 0 (bI l now).1.length)=some (mE (bI l now).1)/\AV.D5 0 (mE (bI l now).1)=true) (.c 1 ((a2m (bI l now).1 oa).lift kr kr [(o_ ((bI l now).2+1) 10 [])]) (.g (.h' [] (.q 0 (sA 2 (mK ((bI l now).1.map (·.card.key)))))))))))))))))
attribute [local irreducible] H7 S9 U8 bI
def b8Q:Ann:={ fin:=some 0 }
theorem jZ (n:Int) :AC 186 [(iI n)] [] ((iI (held n)),[]) :=
 o9 (fn:=Tryz.f186) (ann:=b8Q) (Has.o Tryz.func186) (.r (.s (.y 1 (.int .i64 (if 4611686018427387904 < n then 4611686018427387904 else n)) (iI (min n 4611686018427387904)) (Yes.int yw_) (.y 2 (.int .i64 (if 0 > (min n 4611686018427387904) then 0 else (min n 4611686018427387904))) (iI (max (min n 4611686018427387904) 0)) (Yes.int yw_) (.q 0 (iI (max (min n 4611686018427387904) 0)) (by simp [held]; omega))))))
def b8N:Ann:={ refs:=[2],fin:=some 0 }
@[simp] abbrev c9x (a:Int) (b:Entry):=(iI (max (((held a) - (held b.seen)) - (held b.card.lease)) 0))
theorem jY (e:Entry) (now:Int) :AC 181 [(AV.agg (Entry.row e)),(iI now)] [] ((iI (y5 e now)),[]):=by
 have h1:=gI now
 have h2:=gI e.seen
 have h3:=gI e.card.lease
 exact o9 (fn:=Tryz.f181) (ann:=b8N) (Has.o Tryz.func181) (.r (.s (.g (.two e.card.gone (fun h1 h1'=>(.qr 0 z_ (by unfold y5; simp_all <;> omega))) (fun h1 h1'=>(.r (.c 1 ((jZ now).lift kr kr []) (.c 4 ((jZ e.seen).lift kr kr []) (.y 5 (iW ((held now) - (held e.seen))) (iI ((held now) - (held e.seen))) Yes.o (.c 9 ((jZ e.card.lease).lift kr kr []) (.y 10 (iW (((held now) - (held e.seen)) - (held e.card.lease))) (iI (((held now) - (held e.seen)) - (held e.card.lease))) Yes.o (.y 11 (.int .i64 (if 0 > (((held now) - (held e.seen)) - (held e.card.lease)) then 0 else (((held now) - (held e.seen)) - (held e.card.lease)))) (c9x now e) (Yes.int yw_) (.q 0 (c9x now e) (by unfold y5; simp_all <;> omega))))))))))))))
def iO (now:Int) (a b:Entry):Bool:=if (y5 a now != y5 b now)=true then decide (y5 a now > y5 b now) else y9 a.card.key b.card.key
def b0J:Ann:={ refs:=[3,4],fin:=some 0 }
theorem a7Q (a b:Entry) (now:Int) :AC 182 [(AV.agg (Entry.row a)),(AV.agg (Entry.row b)),(iI now)] [] ((bB (iO now a b)),[]) :=
 o9 (fn:=Tryz.f182) (ann:=b0J) (Has.o Tryz.func182) (.r (.s (.c 2 ((jY a now).lift kr kr []) (.c 5 ((jY b now).lift kr kr []) (.g (.two ((y5 a now) != (y5 b now)) (fun h1 h1'=>(.r (.c 2 ((jY a now).lift kr kr []) (.c 5 ((jY b now).lift kr kr []) (.q 0 (bB (decide ((y5 a now) > (y5 b now)))) (by simp_all [iO])))))) (fun h1 h1'=>(.r (.c 6 ((tJ a.card.key b.card.key).lift kr kr []) (.q 0 (bB (y9 a.card.key b.card.key)) (by simp_all [iO])))))))))))
def O4:List Entry->Nat
 | []=>0
 | e :: l=>(if (!e.card.gone)=true then 1 else 0)+O4 l
theorem a0Z (l:l9E):O4 l<=l.length:=by
 induction l with
 | nil=>simp [O4]
 | cons e l ih=>simp only [O4,List.length_cons]; split <;> omega
theorem b4m (l:l9E):∀ (n:Nat),l.foldl (fun n (e:Entry)=>if (!e.card.gone)=true then n+1 else n) n=n+O4 l:=by
 induction l with
 | nil=>intro n; simp [O4]
 | cons e l ih=>intro n; rw [List.foldl_cons,ih]; simp only [O4]; split <;> omega
def xU:Ann:={ gha:=[(7,.cut 0)],fin:=some 0,live:=[(3,[3,6,7,8])],out:=[(3,[3,6,7,8])] }
@[simp] abbrev d1H :Heap:=[(o_ 0 10 [[e_,e_,z_,z_,z_,z_,z_,z_,bF,z_]])]
@[simp] abbrev b5E :=(l9 Tryz.prog (X xU) (p9 Tryz.f180 0))
theorem a2d (l:l9E) (n:Nat) (i:Nat) (hl:l.length < 1099511627776) (hn:n<=i) (hle_:i<=l.length) {eX:Ex} {FX:Fr} {HX:Heap} (k1:(decide ((i:Int) < (l.length:Int)))=true->(!(nth l i).card.gone)=true->j6 b5E (some [3,6,7,8]) (some [3,6,7,8]) (mkF 20 [(3,(iN (n+1))),(6,(sA 10 (mE l))),(7,(iN l.length)),(8,(iN (i+1)))]) [] eX FX HX) (k2:(decide ((i:Int) < (l.length:Int)))=true->(!(nth l i).card.gone)=false->j6 b5E (some [3,6,7,8]) (some [3,6,7,8]) (mkF 20 [(3,(iN n)),(6,(sA 10 (mE l))),(7,(iN l.length)),(8,(iN (i+1)))]) [] eX FX HX) (k3:(decide ((i:Int) < (l.length:Int)))=false->((.exit 0:Ex),(a0h n l i),[])=(eX,FX,HX)):j6 b5E (some [3,6,7,8]) (some [3,6,7,8]) (a0h n l i) [] eX FX HX :=
 F7 (.r (.g (.two (decide ((i:Int) < (l.length:Int))) (fun h1 h1'=>(.r (.h' d1H (.is 0 10 10 (mE l) (i:Int) (Entry.row (nth l i)) (J8.mk _ ow ow) (.s (.g (.two (!(nth l i).card.gone) (fun h2 h2'=>(.r (.h' [(o_ 0 10 [(Entry.row (nth l i))])] (.y 1 (.int .i64 (cb_ n)) (iN (n+1)) Yes.o (.s (.y 0 (.int .i64 (cb_ i)) (iN (i+1)) Yes.o (.h' [] (.b 0 (.g (.l (k1 h1 h2))))))))))) (fun h2 h2'=>(.r (.h' [(o_ 0 10 [(Entry.row (nth l i))])] (.y 0 (.int .i64 (cb_ i)) (iN (i+1)) Yes.o (.h' [] (.b 0 (.g (.l (k2 h1 h2)))))))))))))))) (fun h1 h1'=>(.l (k3 h1))))))
def tY (l:List Entry) (i:Nat) (s:Nat):Nat:=(if (!(nth l i).card.gone)=true then (s+1) else (s))
theorem b3v (l:l9E) (hl:l.length < 1099511627776)  (r_:Nat):∀ (n:Nat) (i:Nat) (sF:Nat),i+r_=l.length->n<=i->sF=iter (tY l) r_ i (n) ->
 j6 (l9 Tryz.prog (X xU) (p9 Tryz.f180 0)) (some [3,6,7,8]) (some [3,6,7,8]) (a0h n l i) [] (.exit 0) (mkF 20 [(3,(iN sF)),(6,(sA 10 (mE l))),(7,(iN l.length)),(8,(iN l.length))]) []:=by
 induction r_ with
 | zero =>
  intro n i sF hi_ hn  hF
  obtain rfl:l.length=i:=by omega
  have e_:sF=(n):=hF
  refine a2d l n l.length hl hn (Nat.le_refl _) (fun h _=>by simp at h <;> omega) (fun h _=>by simp at h <;> omega) (fun _=>?_)
  first | done | rfl | (rw [e_]; done) | (rw [e_]; rfl)
 | succ r_ ih =>
  intro n i sF hi_ hn  hF
  refine a2d l n i hl hn ow (fun h1 h2=>?_) (fun h1 h2=>?_) (fun h=>by simp at h <;> omega)
  · exact ih (n+1) (i+1) sF ow N9  (by rw [hF] <;> simp only [iter,tY,h2,if_true,Bool.false_eq_true,if_false])
  · exact ih n (i+1) sF ow N9  (by rw [hF] <;> simp only [iter,tY,h2,if_true,Bool.false_eq_true,if_false])
theorem b3w (l:l9E):O4 l=iter (tY l) l.length 0 0:=by rw [V5 (tY l) (fun n (e:Entry)=>if (!e.card.gone)=true then n+1 else n) l (fun i s hi=>rfl),b4m]; simp
@[simp] abbrev d1G (a:l9E):Fr:=(mkF 20 [(3,(iN ((O4 a)))),(6,(sA 10 (mE a))),(7,(iN a.length)),(8,(iN a.length))])
theorem b3u (l:l9E) (hl:l.length < 1099511627776):AC 180 [(sA 10 (mE l))] [] ((iN (O4 l)),[]):=by
 have hk:=a0Z l
 exact o9 (fn:=Tryz.f180) (ann:=xU) (Has.o Tryz.func180) (.r (.s (.s (.y 1 (.int .i64 ((List.length (mE l):Nat):Int)) (iN l.length) (Yes.len _ _ _) (.g (.loop (d1G l) (show j6 b5E (some [3,6,7,8]) (some [3,6,7,8]) (mkF 20 [(3,z_),(6,(sA 10 (mE l))),(7,(iN l.length)),(8,z_)]) [] (.exit 0) (d1G l) [] from (b3v l hl (List.length l) 0 0 (O4 l) ow ow (b3w _))) (.qr 0 (iN ((O4 l))))))))))
def xX:Ann:={ gh:=[(8,.frz 5)],gha:=[(1,.vir 5 2),(7,.cut 1)],fin:=some 0,live:=[(3,[1,5,8,9,10])],out:=[(3,[1,5,8,9,10])] }
@[simp] abbrev d1F (a:Int) (b:Nat) (c:Nat) (d:l9E) (e:Nat):Fr:=(mkF 34 [(1,(iI a)),(5,(AV.osl 0 b 2 0 c)),(8,(sA 10 (mE d))),(9,(iN d.length)),(10,(iN (e+1)))])
@[simp] abbrev c5Y (a:Int) (b:Nat) (c:Nat) (d:l9E) (e:Nat):Fr:=(mkF 34 [(1,(iI a)),(5,(AV.osl 0 b 2 0 c)),(8,(sA 10 (mE d))),(9,(iN d.length)),(10,(iN e))])
@[simp] abbrev a9o (a:Nat) (b:l9K) (c:l9E) (d:Nat):Heap:=[(o_ a 2 (mK b)),(o_ 0 10 [(Entry.row (nth c d))])]
@[simp] abbrev a8t :=(l9 Tryz.prog (X xX) (p9 Tryz.f132 0))
theorem a2f (l:l9E) (now:Int) (out:l9K) (k:Nat) (g:Nat) (i:Nat) (hl:l.length < 1048576) (hk:k=out.length) (hki:k<=i) (hle_:i<=l.length) {eX:Ex} {FX:Fr} {HX:Heap} (k1:(decide ((i:Int) < (l.length:Int)))=true->(nth l i).card.gone=true->(decide (((held now) - (held (nth l i).seen)) > 400))=true->j6 a8t (some [1,5,8,9,10]) (some [1,5,8,9,10]) (mkF 34 [(1,(iI now)),(5,(ct_ g k)),(8,(sA 10 (mE l))),(9,(iN l.length)),(10,(iN (i+1)))]) (a3N g out l i) eX FX HX) (k2:(decide ((i:Int) < (l.length:Int)))=true->(nth l i).card.gone=true->(decide (((held now) - (held (nth l i).seen)) > 400))=false->j6 a8t (some [1,5,8,9,10]) (some [1,5,8,9,10]) (d1F now g k l i) [(o_ g 2 (mK out))] eX FX HX) (k3:(decide ((i:Int) < (l.length:Int)))=true->(nth l i).card.gone=false->j6 a8t (some [1,5,8,9,10]) (some [1,5,8,9,10]) (d1F now g k l i) [(o_ g 2 (mK out))] eX FX HX) (k4:(decide ((i:Int) < (l.length:Int)))=false->((.exit 0:Ex),(c5Y now g k l i),[(o_ g 2 (mK out))])=(eX,FX,HX)):j6 a8t (some [1,5,8,9,10]) (some [1,5,8,9,10]) (c5Y now g k l i) [(o_ g 2 (mK out))] eX FX HX:=by
 have h1:=gI now
 have h2:=gI (nth l i).seen
 exact F7 (.r (.g (.two (decide ((i:Int) < (l.length:Int))) (fun h1 h1'=>(.r (.h' [(o_ g 2 (mK out)),(o_ 0 10 [[e_,e_,z_,z_,z_,z_,z_,z_,bF,z_]])] (.is 0 10 10 (mE l) (i:Int) (Entry.row (nth l i)) (J8.mk _ ow ow) (.s (.two (nth l i).card.gone (fun h2 h2'=>(.u (.c 5 ((jZ now).lift kr kr (a9o g out l i)) (.u3 (.c 8 ((jZ (nth l i).seen).lift kr kr (a9o g out l i)) (.u (.h' (a9o g out l i) (.y 9 (iW ((held now) - (held (nth l i).seen))) (iI ((held now) - (held (nth l i).seen))) Yes.o (.u (.rd (iI (nth l i).seen) (a9o g out l i) (.g (.two (decide (((held now) - (held (nth l i).seen)) > 400)) (fun h3 h3'=>(.r (.ap 5 33 (AV.osl 0 g 2 0 k) (AV.sl .clip 2 [(Key.row (nth l i).card.key)]) (ct_ g k) [(o_ (g+1) 2 (mK (out++[(nth l i).card.key]))),(o_ 0 10 [(Entry.row (nth l i))])] (H6 (row:=Key.row) (l:=out) (x:=(nth l i).card.key) (T:=tt) (e:=30) (te:=vB) (z:=1) (b:=24) (y:=[.sl .nil 0 []]) kr kr rfl z8 z8 kr aU rfl rfl a5W) (.s (.y 0 (.int .i64 (cb_ i)) (iN (i+1)) Yes.o (.h' (a3N g out l i) (.b 1 (.g (.l (k1 h1 h2 h3)))))))))) (fun h3 h3'=>(.r (.y 0 (.int .i64 (cb_ i)) (iN (i+1)) Yes.o (.h' [(o_ g 2 (mK out))] (.b 1 (.g (.l (k2 h1 h2 h3)))))))))))))))))))) (fun h2 h2'=>(.n6 (.rn (.h' (a9o g out l i) (.y 0 (.int .i64 (cb_ i)) (iN (i+1)) Yes.o (.h' [(o_ g 2 (mK out))] (.b 1 (.g (.l (k3 h1 h2)))))))))))))))) (fun h1 h1'=>(.l (k4 h1))))))
def kZ (l:List Entry) (now:Int) (i:Nat) (s:(List Key) × Nat × Nat):(List Key) × Nat × Nat:=(if (nth l i).card.gone=true then (if (decide (((held now) - (held (nth l i).seen)) > 400))=true then (s.1++[(nth l i).card.key],(s.2.1+1),(s.2.2+1)) else (s.1,s.2.1,s.2.2)) else (s.1,s.2.1,s.2.2))
theorem b3L (l:l9E) (now:Int) (hl:l.length < 1048576)  (r_:Nat):∀ (out:l9K) (k:Nat) (g:Nat) (i:Nat) (sF:(l9K) × Nat × Nat),i+r_=l.length->k=out.length->k<=i->sF=iter (kZ l now) r_ i (out,k,g) ->
 j6 (l9 Tryz.prog (X xX) (p9 Tryz.f132 0)) (some [1,5,8,9,10]) (some [1,5,8,9,10]) (c5Y now g k l i) [(o_ g 2 (mK out))] (.exit 0) (mkF 34 [(1,(iI now)),(5,(AV.osl 0 sF.2.2 2 0 sF.2.1)),(8,(sA 10 (mE l))),(9,(iN l.length)),(10,(iN l.length))]) [(o_ sF.2.2 2 (mK sF.1))]:=by
 induction r_ with
 | zero =>
  intro out k g i sF hi_ hk hki  hF
  obtain rfl:l.length=i:=by omega
  have e_:sF=(out,k,g):=hF
  refine a2f l now out k g l.length hl hk hki (Nat.le_refl _) (fun h _ _=>by simp at h <;> omega) (fun h _ _=>by simp at h <;> omega) (fun h _=>by simp at h <;> omega) (fun _=>?_)
  first | done | rfl | (rw [e_]; done) | (rw [e_]; rfl)
 | succ r_ ih =>
  intro out k g i sF hi_ hk hki  hF
  refine a2f l now out k g i hl hk hki ow (fun h1 h2 h3=>?_) (fun h1 h2 h3=>?_) (fun h1 h2=>?_) (fun h=>by simp at h <;> omega)
  · exact ih (out++[(nth l i).card.key]) (k+1) (g+1) (i+1) sF ow N9 N9  (by rw [hF] <;> simp only [iter,kZ,h2,h3,if_true,Bool.false_eq_true,if_false])
  · exact ih out k g (i+1) sF ow N9 N9  (by rw [hF] <;> simp only [iter,kZ,h2,h3,if_true,Bool.false_eq_true,if_false])
  · exact ih out k g (i+1) sF ow N9 N9  (by rw [hF] <;> simp only [iter,kZ,h2,if_true,Bool.false_eq_true,if_false])
theorem d2j (now:Int) (l:l9E):∀ (out:l9E) (g:Nat),(l.foldl (bX now) (out,g)).1=out++l.filter (mI now):=by
 induction l with
 | nil=>intro out g; simp
 | cons e l ih =>
  intro out g
  rw [List.foldl_cons]
  unfold bX at ih ⊢
  by_cases h:mI now e=true
  · rw [if_pos h,ih]; simp [List.filter_cons,h]
  · rw [if_neg h,ih]; simp [List.filter_cons,h]
theorem a8a (l:l9E) (now:Int):H7 l now=(l.filter (mI now)).map (·.card.key):=by
 unfold H7 bI; rw [d2j]; simp
theorem b3M (l:l9E) (now:Int):(H7 l now,(H7 l now).length,(H7 l now).length)=iter (kZ l now) l.length 0 ([],0,0):=by
 rw [V5 (kZ l now) (fun s e=>if mI now e=true then (s.1++[e.card.key],s.2.1+1,s.2.2+1) else s) l (fun i s hi=>?_)]
 · rw [wD (mI now) (fun e:Entry=>e.card.key) l,a8a]; simp
 · unfold kZ mI a1s
   by_cases h1:(nth l i).card.gone=true <;> by_cases h2:held now - held (nth l i).seen > 400 <;> simp [h1,h2]
theorem yO (l:l9E) (now:Int):(H7 l now).length<=l.length:=by rw [a8a,List.length_map]; exact List.length_filter_le _ _
@[simp] abbrev d1E (a:Int) (b:l9E):Fr:=(mkF 34 [(1,(iI a)),(5,(AV.osl 0 (H7 b a).length 2 0 (H7 b a).length)),(8,(sA 10 (mE b))),(9,(iN b.length)),(10,(iN b.length))])
@[simp] abbrev d1D (a:l9E) (b:Int):Heap:=[(o_ ((H7 a b).length) 2 (mK (H7 a b)))]
theorem b3K (l:l9E) (now:Int) (hl:l.length < 1048576):AC 132 [(sA 10 (mE l)),(iI now)] [] ((sA 2 (mK (H7 l now))),[]):=by
 have hk:=yO l now
 exact o9 (fn:=Tryz.f132) (ann:=xX) (Has.o Tryz.func132) (.r (.s (.s (.h' [(o_ 0 2 (mK []))] (.y 1 (.int .i64 ((List.length (mE l):Nat):Int)) (iN l.length) (Yes.len _ _ _) (.g (.loop (d1E now l) (show j6 a8t (some [1,5,8,9,10]) (some [1,5,8,9,10]) (mkF 34 [(1,(iI now)),(5,(AV.osl 0 0 2 0 0)),(8,(sA 10 (mE l))),(9,(iN l.length)),(10,z_)]) [(o_ 0 2 (mK []))] (.exit 0) (d1E now l) (d1D l now) from (b3L l now hl (List.length l) [] 0 0 0 (H7 l now,(H7 l now).length,(H7 l now).length) ow rfl ow (b3M _ _))) (.r (.w 5 (mK (H7 l now)) (And.intro (G7 (room:=none) kr om) (Key.p8 _ _):F5 (d1D l now) 2 (AV.osl 0 (H7 l now).length 2 0 (H7 l now).length)=some (mK (H7 l now))/\AV.D5 0 (mK (H7 l now))=true) (.g (.h' [] (.q 0 (sA 2 (mK (H7 l now)))))))))))))))
def M9 (now:Int) (e:Entry) (out:List Entry):Nat->Nat
 | 0=>0
 | k+1=>if iO now e (nth out k)=true then M9 now e out k else k+1
theorem b1x (now:Int) (e:Entry) (out:l9E) (k:Nat):M9 now e out k<=k:=by
 induction k with
 | zero=>simp only [M9]; omega
 | succ k ih=>simp only [M9]; split <;> omega
def lK (now:Int) (out:List Entry) (e:Entry):List Entry:=(out.take (M9 now e out out.length)++[e])++out.drop (M9 now e out out.length)
theorem a1c (now:Int) (out:l9E) (e:Entry):(lK now out e).length=out.length+1:=by
 have:=b1x now e out out.length
 simp [lK]; omega
def bO:Ann:={ own:=[46,53],gh:=[(17,.frz 11)],gha:=[(2,.any 7 10),(10,.frz 7),(11,.cut 0),(12,.vir 11 2),(15,.cut 1)],fin:=some 0,live:=[(4,[0,1,2,7,15,16,17]),(8,[0,1,2,7,9,10,15,16,17]),(14,[0,7,11,12])],out:=[(4,[0,1,2,7,15,16,17]),(8,[0,1,2,7,9,10,15,16,17]),(14,[0,7,11,12])] }
@[simp] abbrev b7l (a:l9E) (b:Int) (c:Int) (d:l9E) (e:Nat) (f:Nat):Fr:=(mkF 78 [(0,(sA 10 (mE a))),(1,(iI b)),(2,(iI c)),(7,(sA 10 (mE d))),(9,(oO 0 0 0 0)),(10,(iN e)),(15,(sA 10 (mE a))),(16,(iN a.length)),(17,(iN f))])
@[simp] abbrev c4D :=(l9 Tryz.prog (X bO) (p9 Tryz.f129 1))
theorem a6R (l out:l9E) (now late:Int) (i:Nat) (k:Nat) (e:Entry) (hk:out.length<=1048576) (hi:i<=l.length) (hl:l.length < 1048576) (hk2:k<=out.length) {eX:Ex} {FX:Fr} {HX:Heap} (k1:(decide ((k:Int) > 0))=true->(iO now e (nth out (k - 1)))=true->j6 c4D (some [0,1,2,7,9,10,15,16,17]) (some [0,1,2,7,9,10,15,16,17]) (mkF 78 [(0,(sA 10 (mE l))),(1,(iI now)),(2,(iI late)),(7,(sA 10 (mE out))),(9,(oO 0 0 0 0)),(10,(iN (k - 1))),(15,(sA 10 (mE l))),(16,(iN l.length)),(17,(iN i))]) [(o_ 0 10 [(Entry.row e)])] eX FX HX) (k2:(decide ((k:Int) > 0))=true->(iO now e (nth out (k - 1)))=false->((.exit 2:Ex),(b7l l now late out k i),[(o_ 0 10 [(Entry.row e)])])=(eX,FX,HX)) (k3:(decide ((k:Int) > 0))=false->((.exit 2:Ex),(b7l l now late out k i),[(o_ 0 10 [(Entry.row e)])])=(eX,FX,HX)):j6 c4D (some [0,1,2,7,9,10,15,16,17]) (some [0,1,2,7,9,10,15,16,17]) (b7l l now late out k i) [(o_ 0 10 [(Entry.row e)])] eX FX HX :=
 F7 (.r (.two (decide ((k:Int) > 0)) (fun h1 h1'=>(.u3 (.y 6 (.int .i64 (ck_ k)) (iN (k - 1)) Yes.o (.u (.is 7 10 10 (mE out) ((k - 1:Nat):Int) (Entry.row (nth out (k - 1))) (J8.mk _ ow ow) (.u3 (.c 10 ((a7Q e (nth out (k - 1)) now).lift kr kr [(o_ 0 10 [(Entry.row e)])]) (.g (.two (iO now e (nth out (k - 1))) (fun h2 h2'=>(.r (.y 1 (.int .i64 (ck_ k)) (iN (k - 1)) Yes.o (.g (.l (k1 h1 h2)))))) (fun h2 h2'=>(.l (k2 h1 h2)))))))))))) (fun h1 h1'=>(.n6 (.n (.g (.n (.l (k3 h1)))))))))
theorem b8C (l out:l9E) (now late:Int) (i:Nat) (e:Entry) (hk:out.length<=1048576) (hi:i<=l.length) (hl:l.length < 1048576) (k:Nat):∀ (kF:Nat),k<=out.length->kF=M9 now e out k ->
 j6 (l9 Tryz.prog (X bO) (p9 Tryz.f129 1)) (some [0,1,2,7,9,10,15,16,17]) (some [0,1,2,7,9,10,15,16,17]) (mkF 78 [(0,(sA 10 (mE l))),(1,(iI now)),(2,(iI late)),(7,(sA 10 (mE out))),(9,(oO 0 0 0 0)),(10,(iN k)),(15,(sA 10 (mE l))),(16,(iN l.length)),(17,(iN i))]) [(o_ 0 10 [(Entry.row e)])] (.exit 2) (mkF 78 [(0,(sA 10 (mE l))),(1,(iI now)),(2,(iI late)),(7,(sA 10 (mE out))),(9,(oO 0 0 0 0)),(10,(iN kF)),(15,(sA 10 (mE l))),(16,(iN l.length)),(17,(iN i))]) [(o_ 0 10 [(Entry.row e)])]:=by
 induction k with
 | zero =>
  intro kF hk2 h
  refine a6R l out now late i 0 e hk hi hl hk2 (fun h1=>by simp at h1) (fun h1=>by simp at h1) fun _=>?_
  rw [h]; rfl
 | succ k ih =>
  intro kF hk2 h
  refine a6R l out now late i (k+1) e hk hi hl hk2 (fun _ h2=>?_) (fun _ h2=>?_) fun h1=>by simp at h1 <;> omega
  · simp only [Nat.add_sub_cancel] at h2
    exact ih kF ow (by rw [h]; simp only [M9,h2,if_true])
  · simp only [Nat.add_sub_cancel] at h2
    rw [h]; simp only [M9,h2,Bool.false_eq_true,if_false]
@[simp] abbrev b7k (a:l9E) (b:Int) (c:Int) (d:l9E) (e:Nat):Fr:=(mkF 78 [(0,(sA 10 (mE a))),(1,(iI b)),(2,(iI c)),(7,(sA 10 (mE d))),(15,(sA 10 (mE a))),(16,(iN a.length)),(17,(iN e))])
@[simp] abbrev c7E (a:l9E) (b:Int) (c:Int) (d:l9E) (e:Nat):Fr:=(mkF 78 [(0,(sA 10 (mE a))),(1,(iI b)),(2,(iI c)),(7,(sA 10 (mE d))),(9,(oO 0 0 0 0)),(10,(iN ((M9 b (nth a e) d d.length)))),(15,(sA 10 (mE a))),(16,(iN a.length)),(17,(iN e))])
@[simp] abbrev a5Q (a:l9E) (b:Nat) (c:l9E) (d:Int):Heap:=[(o_ 0 10 [(Entry.row (nth a b))]),(o_ 1 10 (mE ((c.take (M9 d (nth a b) c c.length))++[(nth a b)])))]
@[simp] abbrev c7D (a:l9E) (b:Nat) (c:l9E) (d:Int):Heap:=[(o_ 0 10 [(Entry.row (nth a b))]),(o_ 2 10 (mE (((c.take (M9 d (nth a b) c c.length))++[(nth a b)])++(c.drop (M9 d (nth a b) c c.length)))))]
@[simp] abbrev c4C :=(l9 Tryz.prog (X bO) (p9 Tryz.f129 0))
theorem a1Z (l:l9E) (now:Int) (late:Int) (out:l9E) (i:Nat) (hl:l.length < 1048576) (hk:out.length<=i) (hle_:i<=l.length) {eX:Ex} {FX:Fr} {HX:Heap} (k1:(decide ((i:Int) < (l.length:Int)))=true->(decide ((y5 (nth l i) now)<=late))=true->j6 c4C (some [0,1,2,7,15,16,17]) (some [0,1,2,7,15,16,17]) (mkF 78 [(0,(sA 10 (mE l))),(1,(iI now)),(2,(iI late)),(7,(sA 10 (mE out))),(15,(sA 10 (mE l))),(16,(iN l.length)),(17,(iN (i+1)))]) [] eX FX HX) (k2:(decide ((i:Int) < (l.length:Int)))=true->(decide ((y5 (nth l i) now)<=late))=false->j6 c4C (some [0,1,2,7,15,16,17]) (some [0,1,2,7,15,16,17]) (mkF 78 [(0,(sA 10 (mE l))),(1,(iI now)),(2,(iI late)),(7,(sA 10 (mE (((out.take (M9 now (nth l i) out out.length))++[(nth l i)])++(out.drop (M9 now (nth l i) out out.length)))))),(15,(sA 10 (mE l))),(16,(iN l.length)),(17,(iN (i+1)))]) [] eX FX HX) (k3:(decide ((i:Int) < (l.length:Int)))=false->((.exit 0:Ex),(b7k l now late out i),[])=(eX,FX,HX)):j6 c4C (some [0,1,2,7,15,16,17]) (some [0,1,2,7,15,16,17]) (b7k l now late out i) [] eX FX HX:=by
 have hp:=b1x now (nth l i) out out.length
 exact F7 (.r (.g (.two (decide ((i:Int) < (l.length:Int))) (fun h1 h1'=>(.r (.h' d1H (.is 0 10 10 (mE l) (i:Int) (Entry.row (nth l i)) (J8.mk _ ow ow) (.s (.c 2 ((jY (nth l i) now).lift kr kr [(o_ 0 10 [(Entry.row (nth l i))])]) (.g (.two (decide ((y5 (nth l i) now)<=late)) (fun h2 h2'=>(.r (.h' [(o_ 0 10 [(Entry.row (nth l i))])] (.y 0 (.int .i64 (cb_ i)) (iN (i+1)) Yes.o (.h' [] (.b 0 (.g (.l (k1 h1 h2))))))))) (fun h2 h2'=>(.r (.h' [(o_ 0 10 [(Entry.row (nth l i))])] (.y 1 (.int .i64 ((List.length (mE out):Nat):Int)) (iN out.length) (Yes.len _ _ _) (.g (.loop (c7E l now late out i) (show j6 c4D (some [0,1,2,7,9,10,15,16,17]) (some [0,1,2,7,9,10,15,16,17]) (mkF 78 [(0,(sA 10 (mE l))),(1,(iI now)),(2,(iI late)),(7,(sA 10 (mE out))),(9,(oO 0 0 0 0)),(10,(iN out.length)),(15,(sA 10 (mE l))),(16,(iN l.length)),(17,(iN i))]) [(o_ 0 10 [(Entry.row (nth l i))])] (.exit 2) (c7E l now late out i) [(o_ 0 10 [(Entry.row (nth l i))])] from (b8C l out now late i (nth l i) ow ow hl (List.length out) _ ow rfl)) (.r (.t 3 (sA 10 (mE (out.take (M9 now (nth l i) out out.length)))) [(o_ 0 10 [(Entry.row (nth l i))])] (dX (l:=0) (h:=(M9 now (nth l i) out out.length)) om om om om nO:Option.map (fun a=>(a,([(o_ 0 10 [(Entry.row (nth l i))])]:Heap))) (if 10=10\/((mE out)).isEmpty=true then (bounds 0 (((M9 now (nth l i) out out.length):Nat):Int) (List.length (mE out))).map fun p=>sA 10 ((List.take p.2 (mE out)).drop p.1) else none)=some ((sA 10 (mE (out.take (M9 now (nth l i) out out.length)))),([(o_ 0 10 [(Entry.row (nth l i))])]:Heap))) (.ao 4 185 (AV.sl .clip 10 []) (sA 10 (mE (out.take (M9 now (nth l i) out out.length)))) (AV.osl 1 0 10 0 (out.take (M9 now (nth l i) out out.length)).length) [(o_ 0 10 [(Entry.row (nth l i))]),(o_ 0 10 (mE (out.take (M9 now (nth l i) out out.length))))] (O5 (T:=tt) (e:=128) (te:=bE) (z:=1) (b:=24) (y:=[.sl .nil 0 []]) (row:=Entry.row) kr kr rfl z8 z8 yf_ U7 rfl rfl rfl om) (.ap 7 185 (AV.osl 1 0 10 0 (out.take (M9 now (nth l i) out out.length)).length) (AV.sl .clip 10 [(Entry.row (nth l i))]) (AV.osl 1 1 10 0 ((out.take (M9 now (nth l i) out out.length)).length+1)) (a5Q l i out now) (H6 (row:=Entry.row) (l:=out.take (M9 now (nth l i) out out.length)) (x:=(nth l i)) (T:=tt) (e:=128) (te:=bE) (z:=1) (b:=24) (y:=[.sl .nil 0 []]) kr kr rfl z8 z8 kr aU rfl rfl a2M) (.t 10 (sA 10 (mE (out.drop (M9 now (nth l i) out out.length)))) (a5Q l i out now) (dX (l:=(M9 now (nth l i) out out.length)) (h:=(List.length out)) om om om om nO:Option.map (fun a=>(a,(a5Q l i out now))) (if 10=10\/((mE out)).isEmpty=true then (bounds (((M9 now (nth l i) out out.length):Nat):Int) ((List.length (mE out):Nat):Int) (List.length (mE out))).map fun p=>sA 10 ((List.take p.2 (mE out)).drop p.1) else none)=some ((sA 10 (mE (out.drop (M9 now (nth l i) out out.length)))),(a5Q l i out now))) (.ao 11 185 (AV.osl 1 1 10 0 ((out.take (M9 now (nth l i) out out.length)).length+1)) (sA 10 (mE (out.drop (M9 now (nth l i) out out.length)))) (AV.osl 1 2 10 0 (((out.take (M9 now (nth l i) out out.length)).length+1)+(out.drop (M9 now (nth l i) out out.length)).length)) (c7D l i out now) (F3 (T:=tt) (e:=128) (te:=bE) (z:=1) (b:=24) (y:=[.sl .nil 0 []]) (row:=Entry.row) (l:=(out.take (M9 now (nth l i) out out.length))++[(nth l i)]) kr kr rfl z8 z8 kr U7 om rfl rfl c1l) (.rd (cj_ l i) [(o_ 0 10 [(Entry.row (nth l i))])] (.w' 7 (mE (((out.take (M9 now (nth l i) out out.length))++[(nth l i)])++(out.drop (M9 now (nth l i) out out.length)))) (And.intro (G7 (room:=none) kr om) (Entry.p8 _ _):F5 (c7D l i out now) 10 (AV.osl 1 2 10 0 (((out.take (M9 now (nth l i) out out.length)).length+1)+(out.drop (M9 now (nth l i) out out.length)).length))=some (mE (((out.take (M9 now (nth l i) out out.length))++[(nth l i)])++(out.drop (M9 now (nth l i) out out.length))))/\AV.D5 0 (mE (((out.take (M9 now (nth l i) out out.length))++[(nth l i)])++(out.drop (M9 now (nth l i) out out.length))))=true) (.s (.h' [(o_ 0 10 [(Entry.row (nth l i))]),(o_ 3 10 [])] (.y 0 (.int .i64 (cb_ i)) (iN (i+1)) Yes.o (.h' [] (.b 0 (.g (.l (k2 h1 h2)))))))))))))))))))))))))))))) (fun h1 h1'=>(.l (k3 h1))))))
def tV (l:List Entry) (now:Int) (late:Int) (i:Nat) (s:(List Entry)):(List Entry):=(if (decide ((y5 (nth l i) now)<=late))=true then (s) else (((s.take (M9 now (nth l i) s s.length))++[(nth l i)])++(s.drop (M9 now (nth l i) s s.length))))
theorem b3m (l:l9E) (now:Int) (late:Int) (hl:l.length < 1048576)  (r_:Nat):∀ (out:l9E) (i:Nat) (sF:(l9E)),i+r_=l.length->out.length<=i->sF=iter (tV l now late) r_ i (out) ->
 j6 (l9 Tryz.prog (X bO) (p9 Tryz.f129 0)) (some [0,1,2,7,15,16,17]) (some [0,1,2,7,15,16,17]) (b7k l now late out i) [] (.exit 0) (mkF 78 [(0,(sA 10 (mE l))),(1,(iI now)),(2,(iI late)),(7,(sA 10 (mE sF))),(15,(sA 10 (mE l))),(16,(iN l.length)),(17,(iN l.length))]) []:=by
 induction r_ with
 | zero =>
  intro out i sF hi_ hk  hF
  obtain rfl:l.length=i:=by omega
  have e_:sF=(out):=hF
  refine a1Z l now late out l.length hl hk (Nat.le_refl _) (fun h _=>by simp at h <;> omega) (fun h _=>by simp at h <;> omega) (fun _=>?_)
  first | done | rfl | (rw [e_]; done) | (rw [e_]; rfl)
 | succ r_ ih =>
  intro out i sF hi_ hk  hF
  refine a1Z l now late out i hl hk ow (fun h1 h2=>?_) (fun h1 h2=>?_) (fun h=>by simp at h <;> omega)
  · exact ih out (i+1) sF ow (by have hq:=a1c now out (nth l i); unfold lK at hq; first | omega | assumption | (simp; done) | (simp; omega) | (simp [*]; done) | (simp [*]; omega))  (by rw [hF] <;> simp only [iter,tV,h2,if_true,Bool.false_eq_true,if_false])
  · exact ih (((out.take (M9 now (nth l i) out out.length))++[(nth l i)])++(out.drop (M9 now (nth l i) out out.length))) (i+1) sF ow (by have hq:=a1c now out (nth l i); unfold lK at hq; first | omega | assumption | (simp; done) | (simp; omega) | (simp [*]; done) | (simp [*]; omega))  (by rw [hF] <;> simp only [iter,tV,h2,if_true,Bool.false_eq_true,if_false])
def R6 (l:List Entry) (now late:Int):List Entry:=(l.filter fun e=>!decide (y5 e now<=late)).foldl (lK now) []
theorem b9T (now:Int) (l:l9E):∀ (out:l9E),(l.foldl (lK now) out).length=out.length+l.length:=by
 induction l with
 | nil=>intro out; simp
 | cons e l ih=>intro out; rw [List.foldl_cons,ih,a1c]; simp; omega
theorem a3Z (l:l9E) (now late:Int):(R6 l now late).length<=l.length:=by
 unfold R6; rw [b9T]; simpa using List.length_filter_le _ _
theorem a7I (now late:Int) (l:l9E):∀ (out:l9E),l.foldl (fun s e=>if decide (y5 e now<=late)=true then s else lK now s e) out=(l.filter fun e=>!decide (y5 e now<=late)).foldl (lK now) out:=by
 induction l with
 | nil=>intro out; rfl
 | cons e l ih =>
  intro out
  rw [List.foldl_cons,ih,List.filter_cons]
  by_cases h:y5 e now<=late <;> simp [h]
theorem b3n (l:l9E) (now late:Int):R6 l now late=iter (tV l now late) l.length 0 []:=by
 rw [V5 (tV l now late) (fun s e=>if decide (y5 e now<=late)=true then s else lK now s e) l (fun i s hi=>rfl),a7I]; rfl
@[simp] abbrev b7j (a:l9E) (b:l9E) (c:Nat) (d:Nat) (e:Nat):Fr:=(mkF 78 [(0,(sA 10 (mE a))),(7,(sA 10 (mE b))),(11,(AV.osl 0 c 2 0 d)),(12,(iN e))])
theorem b8D (l few:l9E) (out:l9K) (i k g:Nat) (hl:l.length < 1048576) (hf:few.length < 1048576) (hk:k=out.length) (hki:k<=i) (hi:i<=few.length) {eX:Ex} {FX:Fr} {HX:Heap} (k1:(decide ((i:Int) < (few.length:Int)))=true->(decide ((i:Int) < ((I6 (O4 l:Int):Nat):Int)))=true->j6 (l9 Tryz.prog (X bO) (p9 Tryz.f129 2)) (some [0,7,11,12]) (some [0,7,11,12]) (mkF 78 [(0,(sA 10 (mE l))),(7,(sA 10 (mE few))),(11,(ct_ g k)),(12,(iN (i+1)))]) (a3N g out few i) eX FX HX) (k2:(decide ((i:Int) < (few.length:Int)))=true->(decide ((i:Int) < ((I6 (O4 l:Int):Nat):Int)))=false->((.exit 4:Ex),(b7j l few g k i),[(o_ g 2 (mK out))])=(eX,FX,HX)) (k3:(decide ((i:Int) < (few.length:Int)))=false->((.exit 4:Ex),(b7j l few g k i),[(o_ g 2 (mK out))])=(eX,FX,HX)):j6 (l9 Tryz.prog (X bO) (p9 Tryz.f129 2)) (some [0,7,11,12]) (some [0,7,11,12]) (b7j l few g k i) [(o_ g 2 (mK out))] eX FX HX:=by
 have hm:=a0Z l
 exact F7 (.r (.y 2 (.int .i64 ((List.length (mE few):Nat):Int)) (iN few.length) (Yes.len _ _ _) (.two (decide ((i:Int) < (few.length:Int))) (fun h1 h1'=>(.u2 (.c 7 ((b3u l oa).lift kr kr [(o_ g 2 (mK out))]) (.u (.c 8 ((b9h (O4 l:Int)).lift kr kr [(o_ g 2 (mK out))]) (.u (.g (.two (decide ((i:Int) < ((I6 (O4 l:Int):Nat):Int))) (fun h2 h2'=>(.r (.is 3 10 10 (mE few) (i:Int) (Entry.row (nth few i)) (J8.mk _ ow ow) (.ap 8 33 (AV.osl 0 g 2 0 k) (AV.sl .clip 2 [(Key.row (nth few i).card.key)]) (ct_ g k) (a3N g out few i) (H6 (row:=Key.row) (l:=out) (x:=(nth few i).card.key) (T:=tt) (e:=30) (te:=vB) (z:=1) (b:=24) (y:=[.sl .nil 0 []]) kr kr rfl z8 z8 kr aU rfl rfl a5W) (.s (.y 1 (.int .i64 (cb_ i)) (iN (i+1)) Yes.o (.b 1 (.g (.l (k1 h1 h2)))))))))) (fun h2 h2'=>(.l (k2 h1 h2))))))))))) (fun h1 h1'=>(.n4 (.g (.n (.l (k3 h1)))))))))
theorem b0b (l few:l9E) (hl:l.length < 1048576) (hf:few.length < 1048576) (r:Nat):∀ (out:l9K) (i k g kF gF:Nat) (outF:l9K),i+r=min few.length (I6 (O4 l:Nat))->k=out.length->k=i->kF=k+r->gF=g+r->outF=out++((few.drop i).take r).map (·.card.key) ->
 j6 (l9 Tryz.prog (X bO) (p9 Tryz.f129 2)) (some [0,7,11,12]) (some [0,7,11,12]) (mkF 78 [(0,(sA 10 (mE l))),(7,(sA 10 (mE few))),(11,(AV.osl 0 g 2 0 k)),(12,(iN i))]) [(o_ g 2 (mK out))] (.exit 4) (mkF 78 [(0,(sA 10 (mE l))),(7,(sA 10 (mE few))),(11,(AV.osl 0 gF 2 0 kF)),(12,(iN ((min few.length (I6 (O4 l:Nat))))))]) [(o_ gF 2 (mK outF))]:=by
 induction r with
 | zero =>
  intro out i k g kF gF outF hi hk hki h1 h2 h3
  have e1:kF=k:=by omega
  have e2:gF=g:=by omega
  have e3:i=min few.length (I6 (O4 l:Nat)):=by omega
  have e4:outF=out:=by rw [h3]; simp
  refine b8D l few out i k g hl hf hk ow ow (fun a b=>?_) (fun _ _=>?_) (fun _=>?_)
  · simp at a b; omega
  · rw [e1,e2,e4,<- e3]
  · rw [e1,e2,e4,<- e3]
 | succ r ih =>
  intro out i k g kF gF outF hi hk hki h1 h2 h3
  refine b8D l few out i k g hl hf hk ow ow (fun a b=>?_) (fun a b=>?_) (fun a=>?_)
  · exact ih (out++[(nth few i).card.key]) (i+1) (k+1) (g+1) kF gF outF ow uW ow ow ow (by rw [h3,Y8 ow]; simp)
  · simp at b; omega
  · simp at a; omega
def gZ (l:List Entry) (now late:Int):List Key:=((R6 l now (max late 0)).take (min (R6 l now (max late 0)).length (I6 (O4 l:Nat)))).map (·.card.key)
@[simp] abbrev c7C (a:l9E) (b:Int) (c:Int):Fr:=(mkF 78 [(0,(sA 10 (mE a))),(1,(iI b)),(2,(iI (max c 0))),(7,(sA 10 (mE (R6 a b (max c 0))))),(15,(sA 10 (mE a))),(16,(iN a.length)),(17,(iN a.length))])
@[simp] abbrev c7B (a:l9E) (b:Int) (c:Int):Fr:=(mkF 78 [(0,(sA 10 (mE a))),(7,(sA 10 (mE (R6 a b (max c 0))))),(11,(AV.osl 0 (min (R6 a b (max c 0)).length (I6 (O4 a:Nat))) 2 0 (min (R6 a b (max c 0)).length (I6 (O4 a:Nat))))),(12,(iN ((min (R6 a b (max c 0)).length (I6 (O4 a:Nat))))))])
@[simp] abbrev c7A (a:l9E) (b:Int) (c:Int):Heap:=[(o_ (min (R6 a b (max c 0)).length (I6 (O4 a:Nat))) 2 (mK (((R6 a b (max c 0)).take (min (R6 a b (max c 0)).length (I6 (O4 a:Nat)))).map (·.card.key))))]
theorem b3l (l:l9E) (now late:Int) (hl:l.length < 1048576):AC 129 [(sA 10 (mE l)),(iI now),(iI late)] [] ((sA 2 (mK (gZ l now late))),[]):=by
 have hs:=a3Z l now (max late 0)
 have hm:=a0Z l
 exact o9 (fn:=Tryz.f129) (ann:=bO) (Has.o Tryz.func129) (.r (.s (.y 1 (.int .i64 (if 0 > late then 0 else late)) (iI (max late 0)) (Yes.int yw_) (.s (.s (.y 1 (.int .i64 ((List.length (mE l):Nat):Int)) (iN l.length) (Yes.len _ _ _) (.g (.loop (c7C l now late) (show j6 (l9 Tryz.prog (X bO) (p9 Tryz.f129 0)) (some [0,1,2,7,15,16,17]) (some [0,1,2,7,15,16,17]) (mkF 78 [(0,(sA 10 (mE l))),(1,(iI now)),(2,(iI (max late 0))),(7,(sA 10 [])),(15,(sA 10 (mE l))),(16,(iN l.length)),(17,z_)]) [] (.exit 0) (c7C l now late) [] from (b3m l now (max late 0) hl (List.length l) [] 0 (R6 l now (max late 0)) ow yf_ (b3n _ _ _))) (.r (.s (.g (.loop (c7B l now late) (show j6 (l9 Tryz.prog (X bO) (p9 Tryz.f129 2)) (some [0,7,11,12]) (some [0,7,11,12]) (mkF 78 [(0,(sA 10 (mE l))),(7,(sA 10 (mE (R6 l now (max late 0))))),(11,(AV.osl 0 0 2 0 0)),(12,z_)]) [(o_ 0 2 (mK []))] (.exit 4) (c7B l now late) (c7A l now late) from (b0b l (R6 l now (max late 0)) hl ow (min (List.length (R6 l now (max late 0))) (I6 (O4 l:Nat))) [] 0 0 0 _ _ _ ow rfl rfl ow ow yf_)) (.r (.w 11 (mK (((R6 l now (max late 0)).take (min (R6 l now (max late 0)).length (I6 (O4 l:Nat)))).map (·.card.key))) (And.intro (G7 (room:=none) kr om) (Key.p8 _ _):F5 (c7A l now late) 2 (AV.osl 0 (min (R6 l now (max late 0)).length (I6 (O4 l:Nat))) 2 0 (min (R6 l now (max late 0)).length (I6 (O4 l:Nat))))=some (mK (((R6 l now (max late 0)).take (min (R6 l now (max late 0)).length (I6 (O4 l:Nat)))).map (·.card.key)))/\AV.D5 0 (mK (((R6 l now (max late 0)).take (min (R6 l now (max late 0)).length (I6 (O4 l:Nat)))).map (·.card.key)))=true) (.g (.h' [] (.q 0 (sA 2 (mK (((R6 l now (max late 0)).take (min (R6 l now (max late 0)).length (I6 (O4 l:Nat)))).map (·.card.key)))))))))))))))))))))
end Go.Proofs.YtfjedpipdnlkfaaGreat.AM
namespace Go.Proofs.YtfjedpipdnlkfaaGreat.AM
open Go
attribute [local irreducible] Tp.G5 Tp.card Tp.key Tp.keyT Tp.next Tp.step
theorem c8V (now late:Int) (l:l9E):∀ (s:Nat × l9E × Nat),(l.foldl (X4 now late) s).2.1=s.2.1++l.filter (fun e=>decide (y5 e now > late))/\(l.foldl (X4 now late) s).1=s.1+O4 l:=by
 induction l with
 | nil=>intro s; simp [O4]
 | cons e l ih =>
  intro s
  obtain ⟨h1,h2⟩:=ih (X4 now late s e)
  rw [List.foldl_cons,h1,h2]
  simp only [X4,O4,List.filter_cons]
  constructor
  · split <;> simp
  · split <;> omega
theorem b9f (l:l9E) (now late:Int):(A8 l now late).2.1=l.filter (fun e=>decide (y5 e now > late))/\(A8 l now late).1=O4 l:=by
 have:=c8V now late l (0,[],0)
 exact ⟨by simpa [A8] using this.1,by simpa [A8] using this.2⟩
theorem b9b (now:Int) (e:Entry) (out:l9E) (k:Nat):M9 now e out k=R7 (iO now) e out k:=by
 induction k with
 | zero=>rfl
 | succ k ih=>simp only [M9,R7,ih]
theorem b9G (now:Int):lK now=U2 (iO now):=by funext out e; unfold lK U2; rw [b9b]
theorem b5e (now:Int):(fun a b:Entry=>decide (cmpL now a b < 0))=iO now:=by
 funext a b
 unfold cmpL iO
 by_cases h:y5 a now=y5 b now
 · have h1:Q0 (y5 b now) (y5 a now)=0:=by simp [Q0,h]
   have h2:(y5 a now != y5 b now)=false:=by simp [h]
   rw [if_pos h1,h2]
   simp only [Bool.false_eq_true,if_false]
   rw [<- gH]
   unfold L9
   cases h3:kI a.card.key b.card.key
   · simp only [Bool.false_eq_true,if_false]; split <;> simp
   · simp
 · have h2:(y5 a now != y5 b now)=true:=by simp [h]
   rw [h2]
   simp only [if_true]
   by_cases h3:y5 b now < y5 a now
   · have h1:Q0 (y5 b now) (y5 a now) = -1:=by simp [Q0,h3]
     rw [h1]; simp [h3]
   · have h1:Q0 (y5 b now) (y5 a now)=1:=by
      have:y5 b now > y5 a now:=by omega
      simp [Q0,h3,this]
     rw [h1]; simp [h3]
theorem a4p (l:l9E) (now late:Int):x9 l now late=gZ l now late:=by
 obtain ⟨h1,h2⟩:=b9f l now (max 0 late)
 have hm:max late 0=max 0 late:=by omega
 have hf:(l.filter fun e=>!decide (y5 e now<=max 0 late))=l.filter (fun e=>decide (y5 e now > max 0 late)):=by
  congr 1; funext e
  by_cases h:y5 e now<=max 0 late
  · have:¬ y5 e now > max 0 late:=by omega
    simp only [h,this,decide_true,decide_false,Bool.not_true]
  · have:y5 e now > max 0 late:=by omega
    simp only [h,this,decide_true,decide_false,Bool.not_false]
 have key:Q9 l now late=R6 l now (max late 0):=by
  unfold Q9 R6
  rw [h1,hm,hf,jG,b5e,b9G]; rfl
 unfold x9 gZ V8
 rw [key,h2]
theorem c2S (l:l9E) (now late:Int):(x9 l now late).length<=l.length:=by
 rw [a4p]
 have:=a3Z l now (max late 0)
 unfold gZ; simp; omega
theorem a2h (l:l9E) (now late:Int):List.Perm (Q9 l now late) (l.filter (fun e=>decide (y5 e now > max 0 late))):=by
 unfold Q9
 refine (a5o (cmpL now) _).trans ?_
 rw [(b9f l now (max 0 late)).1]
theorem c2T {l:l9E} {now late:Int} {k:Key} (h:k∈x9 l now late):∃ e∈l,e.card.key=k/\y5 e now > max 0 late:=by
 unfold x9 at h
 obtain ⟨e,he,rfl⟩:=List.mem_map.1 h
 have h1:=(a2h l now late).mem_iff.1 (List.mem_of_mem_take he)
 rw [List.mem_filter] at h1
 exact ⟨e,h1.1,rfl,by simpa using h1.2⟩
theorem a9D {l:l9E} (h:fZ l):List.Pairwise (fun a b:Entry=>a.card.key≠b.card.key) l:=by
 have h2:List.Pairwise (fun a b:Entry=>y9 a.card.key b.card.key=true) l:=List.pairwise_map.1 h
 exact h2.imp fun h=>d2k h
theorem b3W {l:l9E} (h:fZ l) (now late:Int):List.Pairwise (·≠·) (x9 l now late):=by
 unfold x9
 rw [List.pairwise_map]
 have h2:List.Pairwise (fun a b:Entry=>a.card.key≠b.card.key) (Q9 l now late):=List.Perm.pairwise (a2h l now late).symm (List.Pairwise.filter _ (a9D h)) fun h e=>h e.symm
 exact h2.sublist (List.take_sublist _ _)
def a2P (l:List Entry) (ks:List Key):Prop:=List.Pairwise (·≠·) ks/\∀ k∈ks,r9 l k=true/\(d9 l k).card.gone=false
theorem b9d {l:l9E} (h:fZ l) (now late:Int):a2P l (x9 l now late):=by
 refine ⟨b3W h now late,fun k hk=>?_⟩
 obtain ⟨e,he,rfl,hl⟩:=c2T hk
 obtain ⟨f1,f2⟩:=wE h he
 refine ⟨f1,?_⟩
 rw [f2]
 cases hg:e.card.gone with
 | false=>rfl
 | true =>
  have:y5 e now=0:=by unfold y5; rw [if_pos hg]
  omega
theorem a2P.next {l:l9E} (hs:fZ l) {k:Key} {ks:l9K} (h:a2P l (k :: ks)) {x:Entry} (hx:x.card.key=k):a2P (C9 (o7 32) l x) ks:=by
 obtain ⟨h1,h2⟩:=h
 have h3:=List.pairwise_cons.1 h1
 refine ⟨h3.2,fun k' hk'=>?_⟩
 have hf:=h2 k (List.mem_cons_self)
 have hf':=h2 k' (List.mem_cons_of_mem _ hk')
 have hne:k'≠x.card.key:=by rw [hx]; exact fun e=>h3.1 k' hk' e.symm
 obtain ⟨g1,g2⟩:=a7K (most:=o7 32) hs (e:=x) (.inl (by rw [hx]; exact hf.1)) hne
 rw [g1,g2]; exact hf'
open Go.Proofs.YtfjedpipdnlkfaaGreat
attribute [local irreducible] A8 E8 G6 I6 I9 J3 J4 L9 O8 Q9 R5 S9 U8 V8 Y7 bsr cmpL j6 l6 l9 mAt mg mgL shD shU sink w9 x9 y5 y9
@[simp] abbrev b6V (a:Nat) (b:l9E) (c:l9E) (d:Entry) (e:l9E) (f:l9E):Heap:=[(o_ a 10 (mE (b++(c++(d :: (e++f))))))]
@[simp] abbrev d1o (a:Nat) (b:Nat) (c:Nat) (d:Nat):Fr:=(mkF 220 [(0,(AV.osl 0 a 10 0 b)),(1,(iN c)),(10,(iN d))])
@[simp] abbrev d1n (a:Nat) (b:Nat) (c:Nat):Fr:=(mkF 220 [(0,(AV.osl 0 a 10 0 b)),(10,(iN c)),(13,(iN ((c - 1))))])
theorem c1X (cmp:Entry->Entry->Int) (f:Nat) (xs:List AV) (A R1 R2 B:l9E) (x:Entry) (a p b n g i:Nat) (l:l9E) (hc:h9E cmp f xs) (hxs:AV.bdds 1 xs=true) (hn:n=l.length) (hnb:n < 1048576) (hl:l=A++(x :: (R1++(R2++B)))) (hA:a=A.length) (hp:p=a+1) (hpb:p<=b) (hbn:b<=n) (hi:i=p+R1.length) (hib:i<=b) (hs:i=bsr (fun c=>decide (cmp (nth l c) (nth l a) < 0)) (b - p) p b):AC 213 [(AV.osl 0 g 10 0 n),(AV.int .i64 (a:Int)),(AV.int .i64 (p:Int)),(AV.int .i64 (b:Int)),(AV.func f xs)] [(o_ g 10 (List.map Entry.row l))] ((AV.tup []),(b6V g A R1 x R2 B)):=by
 have hfin:shU (i - 1 - a) a l=A++(R1++(x :: (R2++B))):=by rw [hl,show i - 1 - a=R1.length by omega]; exact a4b x R1 A (R2++B) a hA
 exact o9 (fn:=Tryz.f213) (ann:=Y0) (Has.o Tryz.func213) (.r (.y 2 (iW ((p:Int) - (a:Int))) (AV.int .i64 ((p - a:Nat):Int)) Yes.o (.y 3 (AV.bool (((p - a:Nat):Int) == 1)) (AV.bool true) (Yes.b b1Z) (.ru (.s (.g (.loop (d1o g n a i) (show j6 (l9 Tryz.prog (X Y0) (p9 Tryz.f213 0)) (some [0,1,4,10,11]) (some [0,1,10]) (mkF 220 [(0,(AV.osl 0 g 10 0 n)),(1,(AV.int .i64 (a:Int))),(4,(AV.func f xs)),(10,(AV.int .i64 (p:Int))),(11,(AV.int .i64 (b:Int)))]) [(o_ g 10 (List.map Entry.row l))] (.exit 0) (d1o g n a i) [(o_ g 10 (List.map Entry.row l))] from (by rw [hs]; exact c1T cmp f xs hc a n g l hn hnb ow (b - p) p b ow ow ow)) (.r (.g (.loop (d1n g n i) (show j6 (l9 Tryz.prog (X Y0) (p9 Tryz.f213 1)) (some [0,10,13]) (some [0,10,13]) (mkF 220 [(0,(AV.osl 0 g 10 0 n)),(10,(AV.int .i64 (i:Int))),(13,(AV.int .i64 (a:Int)))]) [(o_ g 10 (List.map Entry.row l))] (.exit 2) (d1n g n i) [(o_ g 10 (List.map Entry.row (shU (i - 1 - a) a l)))] from (c1O i n g ow ow hnb (i - 1 - a) l a _ ow hn (c1P _ _ _ _ _ _))) (.q 1 (AV.tup []) (by (try delta b6V); rw [hfin]))))))))))))
@[simp] abbrev d1m (a:Nat) (b:Nat) (c:Nat) (d:Nat):Fr:=(mkF 220 [(0,(AV.osl 0 a 10 0 b)),(2,(iN c)),(14,(iN d))])
@[simp] abbrev d3g (a:Nat) (b:Nat) (c:Nat):Fr:=(mkF 220 [(0,(AV.osl 0 a 10 0 b)),(14,(iN c)),(17,(iN c))])
theorem c1W (cmp:Entry->Entry->Int) (f:Nat) (xs:List AV) (A L1 L2 B:l9E) (y:Entry) (a p b n g i:Nat) (l:l9E) (hc:h9E cmp f xs) (hxs:AV.bdds 1 xs=true) (hn:n=l.length) (hnb:n < 1048576) (hl:l=A++(L1++(L2++(y :: B)))) (hA:a=A.length) (hi:i=a+L1.length) (hp:p=i+L2.length) (h1:p≠a+1) (hb:b=p+1) (hbn:b<=n) (hs:i=bsr (fun c=>!decide (cmp (nth l p) (nth l c) < 0)) (p - a) a p):AC 213 [(AV.osl 0 g 10 0 n),(AV.int .i64 (a:Int)),(AV.int .i64 (p:Int)),(AV.int .i64 (b:Int)),(AV.func f xs)] [(o_ g 10 (List.map Entry.row l))] ((AV.tup []),(b6V g A L1 y L2 B)):=by
 have hfin:shD (p - i) p l=A++(L1++(y :: (L2++B))):=by rw [hl,show p - i=L2.length by omega,show A++(L1++(L2++(y :: B)))=(A++L1)++(L2++(y :: B)) by simp,a4c y L2.length (A++L1) L2 B p rfl yh_]; simp
 exact o9 (fn:=Tryz.f213) (ann:=Y0) (Has.o Tryz.func213) (.r (.y 2 (iW ((p:Int) - (a:Int))) (AV.int .i64 ((p - a:Nat):Int)) Yes.o (.y 3 (AV.bool (((p - a:Nat):Int) == 1)) (AV.bool false) (Yes.b rX) (.rn (.y 2 (iW ((b:Int) - (p:Int))) (AV.int .i64 ((b - p:Nat):Int)) Yes.o (.y 3 (AV.bool (((b - p:Nat):Int) == 1)) (AV.bool true) (Yes.b b1Z) (.ru (.s (.g (.loop (d1m g n p i) (show j6 (l9 Tryz.prog (X Y0) (p9 Tryz.f213 2)) (some [0,2,4,14,15]) (some [0,2,14]) (mkF 220 [(0,(AV.osl 0 g 10 0 n)),(2,(AV.int .i64 (p:Int))),(4,(AV.func f xs)),(14,(AV.int .i64 (a:Int))),(15,(AV.int .i64 (p:Int)))]) [(o_ g 10 (List.map Entry.row l))] (.exit 4) (d1m g n p i) [(o_ g 10 (List.map Entry.row l))] from (by rw [hs]; exact c1S cmp f xs hc p n g l hn hnb ow (p - a) a p ow ow ow)) (.r (.g (.loop (d3g g n i) (c1R i n g hnb (p - i) p l ow hn ow) (.q 1 (AV.tup []) (by (try delta b6V); rw [hfin])))))))))))))))
@[simp] abbrev b6U (a:Nat) (b:Nat) (c:Nat) (d:Nat) (e:Nat) (f:Nat) (g:List AV) (h:Nat) (i:Nat):Fr:=(mkF 220 [(0,(AV.osl 0 a 10 0 b)),(1,(iN c)),(2,(iN d)),(3,(iN e)),(4,(AV.func f g)),(18,(iN h)),(19,(iN ((h+d)))),(20,(iN i))])
@[simp] abbrev c5U (a:Nat) (b:Nat) (c:Nat) (d:Nat) (e:l9E):Heap:=[(o_ a 10 (mE (O8 b c ((d+c) - b) e)))]
theorem M0 {p:Prop} (h:p:=by (try delta c5U); first | (exfalso; omega) | ((first | rw [if_pos ow] at e1 | rw [if_neg ow] at e1); (first | rw [if_pos ow] at e2 | rw [if_neg ow] at e2); (first | rw [if_pos ow] at e3 | rw [if_neg ow] at e3); rw [e1,e2,e3])):p:=h
set_option maxHeartbeats 4000000 in
theorem c1V (cmp:Entry->Entry->Int) (f:Nat) (xs:List AV) (A L1 L2 R1 R2 B:l9E) (a p b n g i mid Nz:Nat) (l:l9E) (hc:h9E cmp f xs) (hxs:AV.bdds 1 xs=true) (hn:n=l.length) (hnb:n < 1048576) (ih_at:∀ (a p b n g:Nat) (l:l9E),n=l.length->n < 1048576->a < p->p < b->b<=n->b - a < Nz->Srt (ltF cmp) ((l.drop a).take (p - a))->Srt (ltF cmp) ((l.drop p).take (b - p))->∀ H:Heap,AC 213 [(AV.osl 0 g 10 0 n),(AV.int .i64 (a:Int)),(AV.int .i64 (p:Int)),(AV.int .i64 (b:Int)),(AV.func f xs)] (([(o_ g 10 (List.map Entry.row l))]:Heap)++H) (.tup [],([(o_ g 10 (List.map Entry.row (mAt (ltF cmp) a p b l)))]:Heap)++H)) (hl:l=A++(L1++(L2++(R1++(R2++B))))) (hA:a=A.length) (hi:i=a+L1.length) (hp:p=i+L2.length) (hR1:mid=i+R1.length) (hb:b=p+R1.length+R2.length) (hbn:b<=n) (hap:a < p) (hpb:p < b) (h1:p≠a+1) (h2:b≠p+1) (hmid:mid=(a+b) / 2) (hNz:b - a<=Nz) (hgt:mid < p) (hs:i=bsr (fun c=>!decide (cmp (nth l (mid+p - 1 - c)) (nth l c) < 0)) (mid - (mid+p - b)) (mid+p - b) mid) (hlo:mid+p - b<=i) (hhi:i<=mid) (q1:Srt (ltF cmp) L1) (q2:Srt (ltF cmp) L2) (q3:Srt (ltF cmp) R1) (q4:Srt (ltF cmp) R2):AC 213 [(AV.osl 0 g 10 0 n),(AV.int .i64 (a:Int)),(AV.int .i64 (p:Int)),(AV.int .i64 (b:Int)),(AV.func f xs)] [(o_ g 10 (List.map Entry.row l))] ((AV.tup []),[(o_ g 10 (List.map Entry.row (A++(mg (ltF cmp) L1 R1++(mg (ltF cmp) L2 R2++B)))))]):=by
 have hll:n=A.length+L1.length+L2.length+R1.length+R2.length+B.length:=by rw [hn,hl]; simp; omega
 have e1:=sm1 A L1 L2 R1 R2 B hl (s:=i) (m:=p) (e:=mid+p - i) ow hp ow
 have e2:=sm2 (ltF cmp) A L1 R1 (L2++(R2++B)) (a:=a) (s:=i) (mid:=mid) hA hi hR1
 have e3:=sm3 (ltF cmp) A (mg (ltF cmp) L1 R1) L2 R2 B (mid:=mid) (e:=mid+p - i) (b:=b) b1Y ow ow
 have hrot:0 < L2.length->0 < R1.length->_:=rA (A++L1) L2 R1 (R2++B) (l:=l) (by rw [hl]; simp) (a:=i) (m:=p) (b:=mid+p - i) yh_ hp ow
 have hlen2:(A++(mg (ltF cmp) L1 R1++(L2++(R2++B)))).length=n:=by rw [hll]; simp [qG]; omega
 have hlen1:(A++(L1++(R1++(L2++(R2++B))))).length=n:=by rw [hll]; simp; omega
 exact o9 (fn:=Tryz.f213) (ann:=Y0) (Has.o Tryz.func213) (.r (.y 2 (iW ((p:Int) - (a:Int))) (AV.int .i64 ((p - a:Nat):Int)) Yes.o (.y 3 (AV.bool (((p - a:Nat):Int) == 1)) (AV.bool false) (Yes.b rX) (.rn (.y 2 (iW ((b:Int) - (p:Int))) (AV.int .i64 ((b - p:Nat):Int)) Yes.o (.y 3 (AV.bool (((b - p:Nat):Int) == 1)) (AV.bool false) (Yes.b rX) (.rn (.y 2 (iW ((a:Int)+(b:Int))) (AV.int .i64 ((a+b:Nat):Int)) Yes.o (.y 5 (iW (Int.fdiv (IntKind.u64.wrap ((a+b:Nat):Int)) (2 ^ (min (Int.toNat 1) 64)))) (AV.int .i64 (mid:Int)) (Yes.int (eD ow ow)) (.s (.y 2 (iW ((mid:Int)+(p:Int))) (AV.int .i64 ((mid+p:Nat):Int)) Yes.o (.s (.s (.y 2 (AV.bool (decide ((p:Int) > (mid:Int)))) (AV.bool true) (Yes.b (by exact decide_eq_true ow)) (.ru (.y 2 (iW (((mid+p:Nat):Int) - (b:Int))) (AV.int .i64 ((mid+p - b:Nat):Int)) Yes.o (.s (.s (.y 1 (iW (((mid+p:Nat):Int) - 1)) (AV.int .i64 ((mid+p - 1:Nat):Int)) Yes.o (.g (.loop (b6U g n a p b f xs mid i) (show j6 (l9 Tryz.prog (X Y0) (p9 Tryz.f213 4)) (some [0,1,2,3,4,18,19,20,21,22]) (some [0,1,2,3,4,18,19,20]) (mkF 220 [(0,(AV.osl 0 g 10 0 n)),(1,(AV.int .i64 (a:Int))),(2,(AV.int .i64 (p:Int))),(3,(AV.int .i64 (b:Int))),(4,(AV.func f xs)),(18,(AV.int .i64 (mid:Int))),(19,(AV.int .i64 ((mid+p:Nat):Int))),(20,(AV.int .i64 ((mid+p - b:Nat):Int))),(21,(AV.int .i64 (mid:Int))),(22,(AV.int .i64 ((mid+p - 1:Nat):Int)))]) [(o_ g 10 (List.map Entry.row l))] (.exit 8) (b6U g n a p b f xs mid i) [(o_ g 10 (List.map Entry.row l))] from (by rw [hs]; exact a6C cmp f xs hc a p b mid (mid+p) (mid+p - 1) n g l hn hnb (mid - ((mid+p - b))) (mid+p - b) mid ow ow ow)) (.r (.y 2 (iW ((((mid+p):Nat):Int) - (i:Int))) (AV.int .i64 (((mid+p) - i:Nat):Int)) Yes.o (.s (.two (decide ((i:Int) < (p:Int))) (fun h1 h1'=>(.u2 (.g (.two (decide ((p:Int) < (((mid+p) - i:Nat):Int))) (fun h2 h2'=>(.r (.ch 5 (c5U g i p mid l) (b9v f xs i p ((mid+p) - i) n g l q9 q9 q9 q9 q9 q9 ((hrot ow ow).1) ((hrot ow ow).2.1) ((hrot ow ow).2.2) []) (.s (.two (decide ((a:Int) < (i:Int))) (fun h3 h3'=>(.u2 (.g (.two (decide ((i:Int) < (mid:Int))) (fun h4 h4'=>(.r (.ch 5 [(o_ g 10 (List.map Entry.row (mAt (ltF cmp) a i mid (O8 i p ((mid+p) - i) l))))] (ih_at a i mid n g (O8 i p ((mid+p) - i) l) nN q9 q9 q9 q9 q9 nM nL []) (.s (.two (decide ((mid:Int) < (((mid+p) - i:Nat):Int))) (fun h5 h5'=>(.u2 (.g (.two (decide ((((mid+p) - i:Nat):Int) < (b:Int))) (fun h6 h6'=>(.r (.ch 5 [(o_ g 10 (List.map Entry.row (mAt (ltF cmp) mid ((mid+p) - i) b (mAt (ltF cmp) a i mid (O8 i p ((mid+p) - i) l)))))] (ih_at mid ((mid+p) - i) b n g (mAt (ltF cmp) a i mid (O8 i p ((mid+p) - i) l)) U6 q9 q9 q9 q9 q9 U5 U4 []) (.q 1 (AV.tup []) M0)))) (fun h6 h6'=>(.q 1 (AV.tup []) M0)))))) (fun h5 h5'=>(.n2 (.g (.n (.q 1 (AV.tup []) M0)))))))))) (fun h4 h4'=>(.r (.two (decide ((mid:Int) < (((mid+p) - i:Nat):Int))) (fun h5 h5'=>(.u2 (.g (.two (decide ((((mid+p) - i:Nat):Int) < (b:Int))) (fun h6 h6'=>(.r (.ch 5 [(o_ g 10 (List.map Entry.row (mAt (ltF cmp) mid ((mid+p) - i) b (O8 i p ((mid+p) - i) l))))] (ih_at mid ((mid+p) - i) b n g (O8 i p ((mid+p) - i) l) U6 q9 q9 q9 q9 q9 U5 U4 []) (.q 1 (AV.tup []) M0)))) (fun h6 h6'=>(.q 1 (AV.tup []) M0)))))) (fun h5 h5'=>(.n2 (.g (.n (.q 1 (AV.tup []) M0)))))))))))) (fun h3 h3'=>(.n2 (.rn (.two (decide ((mid:Int) < (((mid+p) - i:Nat):Int))) (fun h4 h4'=>(.u2 (.g (.two (decide ((((mid+p) - i:Nat):Int) < (b:Int))) (fun h5 h5'=>(.r (.ch 5 [(o_ g 10 (List.map Entry.row (mAt (ltF cmp) mid ((mid+p) - i) b (O8 i p ((mid+p) - i) l))))] (ih_at mid ((mid+p) - i) b n g (O8 i p ((mid+p) - i) l) U6 q9 q9 q9 q9 q9 U5 U4 []) (.q 1 (AV.tup []) M0)))) (fun h5 h5'=>(.q 1 (AV.tup []) M0)))))) (fun h4 h4'=>(.n2 (.g (.n (.q 1 (AV.tup []) M0)))))))))))))) (fun h2 h2'=>(.r (.two (decide ((a:Int) < (i:Int))) (fun h3 h3'=>(.u2 (.g (.two (decide ((i:Int) < (mid:Int))) (fun h4 h4'=>(.r (.ch 5 [(o_ g 10 (List.map Entry.row (mAt (ltF cmp) a i mid l)))] (ih_at a i mid n g l nN q9 q9 q9 q9 q9 nM nL []) (.s (.two (decide ((mid:Int) < (((mid+p) - i:Nat):Int))) (fun h5 h5'=>(.u2 (.g (.two (decide ((((mid+p) - i:Nat):Int) < (b:Int))) (fun h6 h6'=>(.r (.ch 5 [(o_ g 10 (List.map Entry.row (mAt (ltF cmp) mid ((mid+p) - i) b (mAt (ltF cmp) a i mid l))))] (ih_at mid ((mid+p) - i) b n g (mAt (ltF cmp) a i mid l) U6 q9 q9 q9 q9 q9 U5 U4 []) (.q 1 (AV.tup []) M0)))) (fun h6 h6'=>(.q 1 (AV.tup []) M0)))))) (fun h5 h5'=>(.n2 (.g (.n (.q 1 (AV.tup []) M0)))))))))) (fun h4 h4'=>(.r (.two (decide ((mid:Int) < (((mid+p) - i:Nat):Int))) (fun h5 h5'=>(.u2 (.g (.two (decide ((((mid+p) - i:Nat):Int) < (b:Int))) (fun h6 h6'=>(.r (.ch 5 [(o_ g 10 (List.map Entry.row (mAt (ltF cmp) mid ((mid+p) - i) b l)))] (ih_at mid ((mid+p) - i) b n g l U6 q9 q9 q9 q9 q9 U5 U4 []) (.q 1 (AV.tup []) M0)))) (fun h6 h6'=>(.q 1 (AV.tup []) M0)))))) (fun h5 h5'=>(.n2 (.g (.n (.q 1 (AV.tup []) M0)))))))))))) (fun h3 h3'=>(.n2 (.rn (.two (decide ((mid:Int) < (((mid+p) - i:Nat):Int))) (fun h4 h4'=>(.u2 (.g (.two (decide ((((mid+p) - i:Nat):Int) < (b:Int))) (fun h5 h5'=>(.r (.ch 5 [(o_ g 10 (List.map Entry.row (mAt (ltF cmp) mid ((mid+p) - i) b l)))] (ih_at mid ((mid+p) - i) b n g l U6 q9 q9 q9 q9 q9 U5 U4 []) (.q 1 (AV.tup []) M0)))) (fun h5 h5'=>(.q 1 (AV.tup []) M0)))))) (fun h4 h4'=>(.n2 (.g (.n (.q 1 (AV.tup []) M0)))))))))))))))) (fun h1 h1'=>(.n2 (.rn (.two (decide ((a:Int) < (i:Int))) (fun h2 h2'=>(.u2 (.g (.two (decide ((i:Int) < (mid:Int))) (fun h3 h3'=>(.r (.ch 5 [(o_ g 10 (List.map Entry.row (mAt (ltF cmp) a i mid l)))] (ih_at a i mid n g l nN q9 q9 q9 q9 q9 nM nL []) (.s (.two (decide ((mid:Int) < (((mid+p) - i:Nat):Int))) (fun h4 h4'=>(.u2 (.g (.two (decide ((((mid+p) - i:Nat):Int) < (b:Int))) (fun h5 h5'=>(.r (.ch 5 [(o_ g 10 (List.map Entry.row (mAt (ltF cmp) mid ((mid+p) - i) b (mAt (ltF cmp) a i mid l))))] (ih_at mid ((mid+p) - i) b n g (mAt (ltF cmp) a i mid l) U6 q9 q9 q9 q9 q9 U5 U4 []) (.q 1 (AV.tup []) M0)))) (fun h5 h5'=>(.q 1 (AV.tup []) M0)))))) (fun h4 h4'=>(.n2 (.g (.n (.q 1 (AV.tup []) M0)))))))))) (fun h3 h3'=>(.r (.two (decide ((mid:Int) < (((mid+p) - i:Nat):Int))) (fun h4 h4'=>(.u2 (.g (.two (decide ((((mid+p) - i:Nat):Int) < (b:Int))) (fun h5 h5'=>(.r (.ch 5 [(o_ g 10 (List.map Entry.row (mAt (ltF cmp) mid ((mid+p) - i) b l)))] (ih_at mid ((mid+p) - i) b n g l U6 q9 q9 q9 q9 q9 U5 U4 []) (.q 1 (AV.tup []) M0)))) (fun h5 h5'=>(.q 1 (AV.tup []) M0)))))) (fun h4 h4'=>(.n2 (.g (.n (.q 1 (AV.tup []) M0)))))))))))) (fun h2 h2'=>(.n2 (.rn (.two (decide ((mid:Int) < (((mid+p) - i:Nat):Int))) (fun h3 h3'=>(.u2 (.g (.two (decide ((((mid+p) - i:Nat):Int) < (b:Int))) (fun h4 h4'=>(.r (.ch 5 [(o_ g 10 (List.map Entry.row (mAt (ltF cmp) mid ((mid+p) - i) b l)))] (ih_at mid ((mid+p) - i) b n g l U6 q9 q9 q9 q9 q9 U5 U4 []) (.q 1 (AV.tup []) M0)))) (fun h4 h4'=>(.q 1 (AV.tup []) M0)))))) (fun h3 h3'=>(.n2 (.g (.n (.q 1 (AV.tup []) M0))))))))))))))))))))))))))))))))))))))
set_option maxHeartbeats 4000000 in
theorem c1U (cmp:Entry->Entry->Int) (f:Nat) (xs:List AV) (A L1 L2 R1 R2 B:l9E) (a p b n g i mid Nz:Nat) (l:l9E) (hc:h9E cmp f xs) (hxs:AV.bdds 1 xs=true) (hn:n=l.length) (hnb:n < 1048576) (ih_at:∀ (a p b n g:Nat) (l:l9E),n=l.length->n < 1048576->a < p->p < b->b<=n->b - a < Nz->Srt (ltF cmp) ((l.drop a).take (p - a))->Srt (ltF cmp) ((l.drop p).take (b - p))->∀ H:Heap,AC 213 [(AV.osl 0 g 10 0 n),(AV.int .i64 (a:Int)),(AV.int .i64 (p:Int)),(AV.int .i64 (b:Int)),(AV.func f xs)] (([(o_ g 10 (List.map Entry.row l))]:Heap)++H) (.tup [],([(o_ g 10 (List.map Entry.row (mAt (ltF cmp) a p b l)))]:Heap)++H)) (hl:l=A++(L1++(L2++(R1++(R2++B))))) (hA:a=A.length) (hi:i=a+L1.length) (hp:p=i+L2.length) (hR1:mid=i+R1.length) (hb:b=p+R1.length+R2.length) (hbn:b<=n) (hap:a < p) (hpb:p < b) (h1:p≠a+1) (h2:b≠p+1) (hmid:mid=(a+b) / 2) (hNz:b - a<=Nz) (hgt:p<=mid) (hs:i=bsr (fun c=>!decide (cmp (nth l (mid+p - 1 - c)) (nth l c) < 0)) (p - (a)) (a) p) (hlo:a<=i) (hhi:i<=p) (q1:Srt (ltF cmp) L1) (q2:Srt (ltF cmp) L2) (q3:Srt (ltF cmp) R1) (q4:Srt (ltF cmp) R2):AC 213 [(AV.osl 0 g 10 0 n),(AV.int .i64 (a:Int)),(AV.int .i64 (p:Int)),(AV.int .i64 (b:Int)),(AV.func f xs)] [(o_ g 10 (List.map Entry.row l))] ((AV.tup []),[(o_ g 10 (List.map Entry.row (A++(mg (ltF cmp) L1 R1++(mg (ltF cmp) L2 R2++B)))))]):=by
 have hll:n=A.length+L1.length+L2.length+R1.length+R2.length+B.length:=by rw [hn,hl]; simp; omega
 have e1:=sm1 A L1 L2 R1 R2 B hl (s:=i) (m:=p) (e:=mid+p - i) ow hp ow
 have e2:=sm2 (ltF cmp) A L1 R1 (L2++(R2++B)) (a:=a) (s:=i) (mid:=mid) hA hi hR1
 have e3:=sm3 (ltF cmp) A (mg (ltF cmp) L1 R1) L2 R2 B (mid:=mid) (e:=mid+p - i) (b:=b) b1Y ow ow
 have hrot:0 < L2.length->0 < R1.length->_:=rA (A++L1) L2 R1 (R2++B) (l:=l) (by rw [hl]; simp) (a:=i) (m:=p) (b:=mid+p - i) yh_ hp ow
 have hlen2:(A++(mg (ltF cmp) L1 R1++(L2++(R2++B)))).length=n:=by rw [hll]; simp [qG]; omega
 have hlen1:(A++(L1++(R1++(L2++(R2++B))))).length=n:=by rw [hll]; simp; omega
 exact o9 (fn:=Tryz.f213) (ann:=Y0) (Has.o Tryz.func213) (.r (.y 2 (iW ((p:Int) - (a:Int))) (AV.int .i64 ((p - a:Nat):Int)) Yes.o (.y 3 (AV.bool (((p - a:Nat):Int) == 1)) (AV.bool false) (Yes.b rX) (.rn (.y 2 (iW ((b:Int) - (p:Int))) (AV.int .i64 ((b - p:Nat):Int)) Yes.o (.y 3 (AV.bool (((b - p:Nat):Int) == 1)) (AV.bool false) (Yes.b rX) (.rn (.y 2 (iW ((a:Int)+(b:Int))) (AV.int .i64 ((a+b:Nat):Int)) Yes.o (.y 5 (iW (Int.fdiv (IntKind.u64.wrap ((a+b:Nat):Int)) (2 ^ (min (Int.toNat 1) 64)))) (AV.int .i64 (mid:Int)) (Yes.int (eD ow ow)) (.s (.y 2 (iW ((mid:Int)+(p:Int))) (AV.int .i64 ((mid+p:Nat):Int)) Yes.o (.s (.s (.y 2 (AV.bool (decide ((p:Int) > (mid:Int)))) (AV.bool false) (Yes.b (by exact decide_eq_false ow)) (.rn (.s (.s (.y 1 (iW (((mid+p:Nat):Int) - 1)) (AV.int .i64 ((mid+p - 1:Nat):Int)) Yes.o (.g (.loop (b6U g n a p b f xs mid i) (show j6 (l9 Tryz.prog (X Y0) (p9 Tryz.f213 4)) (some [0,1,2,3,4,18,19,20,21,22]) (some [0,1,2,3,4,18,19,20]) (mkF 220 [(0,(AV.osl 0 g 10 0 n)),(1,(AV.int .i64 (a:Int))),(2,(AV.int .i64 (p:Int))),(3,(AV.int .i64 (b:Int))),(4,(AV.func f xs)),(18,(AV.int .i64 (mid:Int))),(19,(AV.int .i64 ((mid+p:Nat):Int))),(20,(AV.int .i64 (a:Int))),(21,(AV.int .i64 (p:Int))),(22,(AV.int .i64 ((mid+p - 1:Nat):Int)))]) [(o_ g 10 (List.map Entry.row l))] (.exit 8) (b6U g n a p b f xs mid i) [(o_ g 10 (List.map Entry.row l))] from (by rw [hs]; exact a6C cmp f xs hc a p b mid (mid+p) (mid+p - 1) n g l hn hnb (p - (a)) a p ow ow ow)) (.r (.y 2 (iW ((((mid+p):Nat):Int) - (i:Int))) (AV.int .i64 (((mid+p) - i:Nat):Int)) Yes.o (.s (.two (decide ((i:Int) < (p:Int))) (fun h1 h1'=>(.u2 (.g (.two (decide ((p:Int) < (((mid+p) - i:Nat):Int))) (fun h2 h2'=>(.r (.ch 5 (c5U g i p mid l) (b9v f xs i p ((mid+p) - i) n g l q9 q9 q9 q9 q9 q9 ((hrot ow ow).1) ((hrot ow ow).2.1) ((hrot ow ow).2.2) []) (.s (.two (decide ((a:Int) < (i:Int))) (fun h3 h3'=>(.u2 (.g (.two (decide ((i:Int) < (mid:Int))) (fun h4 h4'=>(.r (.ch 5 [(o_ g 10 (List.map Entry.row (mAt (ltF cmp) a i mid (O8 i p ((mid+p) - i) l))))] (ih_at a i mid n g (O8 i p ((mid+p) - i) l) nN q9 q9 q9 q9 q9 nM nL []) (.s (.two (decide ((mid:Int) < (((mid+p) - i:Nat):Int))) (fun h5 h5'=>(.u2 (.g (.two (decide ((((mid+p) - i:Nat):Int) < (b:Int))) (fun h6 h6'=>(.r (.ch 5 [(o_ g 10 (List.map Entry.row (mAt (ltF cmp) mid ((mid+p) - i) b (mAt (ltF cmp) a i mid (O8 i p ((mid+p) - i) l)))))] (ih_at mid ((mid+p) - i) b n g (mAt (ltF cmp) a i mid (O8 i p ((mid+p) - i) l)) U6 q9 q9 q9 q9 q9 U5 U4 []) (.q 1 (AV.tup []) M0)))) (fun h6 h6'=>(.q 1 (AV.tup []) M0)))))) (fun h5 h5'=>(.n2 (.g (.n (.q 1 (AV.tup []) M0)))))))))) (fun h4 h4'=>(.r (.two (decide ((mid:Int) < (((mid+p) - i:Nat):Int))) (fun h5 h5'=>(.u2 (.g (.two (decide ((((mid+p) - i:Nat):Int) < (b:Int))) (fun h6 h6'=>(.r (.ch 5 [(o_ g 10 (List.map Entry.row (mAt (ltF cmp) mid ((mid+p) - i) b (O8 i p ((mid+p) - i) l))))] (ih_at mid ((mid+p) - i) b n g (O8 i p ((mid+p) - i) l) U6 q9 q9 q9 q9 q9 U5 U4 []) (.q 1 (AV.tup []) M0)))) (fun h6 h6'=>(.q 1 (AV.tup []) M0)))))) (fun h5 h5'=>(.n2 (.g (.n (.q 1 (AV.tup []) M0)))))))))))) (fun h3 h3'=>(.n2 (.rn (.two (decide ((mid:Int) < (((mid+p) - i:Nat):Int))) (fun h4 h4'=>(.u2 (.g (.two (decide ((((mid+p) - i:Nat):Int) < (b:Int))) (fun h5 h5'=>(.r (.ch 5 [(o_ g 10 (List.map Entry.row (mAt (ltF cmp) mid ((mid+p) - i) b (O8 i p ((mid+p) - i) l))))] (ih_at mid ((mid+p) - i) b n g (O8 i p ((mid+p) - i) l) U6 q9 q9 q9 q9 q9 U5 U4 []) (.q 1 (AV.tup []) M0)))) (fun h5 h5'=>(.q 1 (AV.tup []) M0)))))) (fun h4 h4'=>(.n2 (.g (.n (.q 1 (AV.tup []) M0)))))))))))))) (fun h2 h2'=>(.r (.two (decide ((a:Int) < (i:Int))) (fun h3 h3'=>(.u2 (.g (.two (decide ((i:Int) < (mid:Int))) (fun h4 h4'=>(.r (.ch 5 [(o_ g 10 (List.map Entry.row (mAt (ltF cmp) a i mid l)))] (ih_at a i mid n g l nN q9 q9 q9 q9 q9 nM nL []) (.s (.two (decide ((mid:Int) < (((mid+p) - i:Nat):Int))) (fun h5 h5'=>(.u2 (.g (.two (decide ((((mid+p) - i:Nat):Int) < (b:Int))) (fun h6 h6'=>(.r (.ch 5 [(o_ g 10 (List.map Entry.row (mAt (ltF cmp) mid ((mid+p) - i) b (mAt (ltF cmp) a i mid l))))] (ih_at mid ((mid+p) - i) b n g (mAt (ltF cmp) a i mid l) U6 q9 q9 q9 q9 q9 U5 U4 []) (.q 1 (AV.tup []) M0)))) (fun h6 h6'=>(.q 1 (AV.tup []) M0)))))) (fun h5 h5'=>(.n2 (.g (.n (.q 1 (AV.tup []) M0)))))))))) (fun h4 h4'=>(.r (.two (decide ((mid:Int) < (((mid+p) - i:Nat):Int))) (fun h5 h5'=>(.u2 (.g (.two (decide ((((mid+p) - i:Nat):Int) < (b:Int))) (fun h6 h6'=>(.r (.ch 5 [(o_ g 10 (List.map Entry.row (mAt (ltF cmp) mid ((mid+p) - i) b l)))] (ih_at mid ((mid+p) - i) b n g l U6 q9 q9 q9 q9 q9 U5 U4 []) (.q 1 (AV.tup []) M0)))) (fun h6 h6'=>(.q 1 (AV.tup []) M0)))))) (fun h5 h5'=>(.n2 (.g (.n (.q 1 (AV.tup []) M0)))))))))))) (fun h3 h3'=>(.n2 (.rn (.two (decide ((mid:Int) < (((mid+p) - i:Nat):Int))) (fun h4 h4'=>(.u2 (.g (.two (decide ((((mid+p) - i:Nat):Int) < (b:Int))) (fun h5 h5'=>(.r (.ch 5 [(o_ g 10 (List.map Entry.row (mAt (ltF cmp) mid ((mid+p) - i) b l)))] (ih_at mid ((mid+p) - i) b n g l U6 q9 q9 q9 q9 q9 U5 U4 []) (.q 1 (AV.tup []) M0)))) (fun h5 h5'=>(.q 1 (AV.tup []) M0)))))) (fun h4 h4'=>(.n2 (.g (.n (.q 1 (AV.tup []) M0)))))))))))))))) (fun h1 h1'=>(.n2 (.rn (.two (decide ((a:Int) < (i:Int))) (fun h2 h2'=>(.u2 (.g (.two (decide ((i:Int) < (mid:Int))) (fun h3 h3'=>(.r (.ch 5 [(o_ g 10 (List.map Entry.row (mAt (ltF cmp) a i mid l)))] (ih_at a i mid n g l nN q9 q9 q9 q9 q9 nM nL []) (.s (.two (decide ((mid:Int) < (((mid+p) - i:Nat):Int))) (fun h4 h4'=>(.u2 (.g (.two (decide ((((mid+p) - i:Nat):Int) < (b:Int))) (fun h5 h5'=>(.r (.ch 5 [(o_ g 10 (List.map Entry.row (mAt (ltF cmp) mid ((mid+p) - i) b (mAt (ltF cmp) a i mid l))))] (ih_at mid ((mid+p) - i) b n g (mAt (ltF cmp) a i mid l) U6 q9 q9 q9 q9 q9 U5 U4 []) (.q 1 (AV.tup []) M0)))) (fun h5 h5'=>(.q 1 (AV.tup []) M0)))))) (fun h4 h4'=>(.n2 (.g (.n (.q 1 (AV.tup []) M0)))))))))) (fun h3 h3'=>(.r (.two (decide ((mid:Int) < (((mid+p) - i:Nat):Int))) (fun h4 h4'=>(.u2 (.g (.two (decide ((((mid+p) - i:Nat):Int) < (b:Int))) (fun h5 h5'=>(.r (.ch 5 [(o_ g 10 (List.map Entry.row (mAt (ltF cmp) mid ((mid+p) - i) b l)))] (ih_at mid ((mid+p) - i) b n g l U6 q9 q9 q9 q9 q9 U5 U4 []) (.q 1 (AV.tup []) M0)))) (fun h5 h5'=>(.q 1 (AV.tup []) M0)))))) (fun h4 h4'=>(.n2 (.g (.n (.q 1 (AV.tup []) M0)))))))))))) (fun h2 h2'=>(.n2 (.rn (.two (decide ((mid:Int) < (((mid+p) - i:Nat):Int))) (fun h3 h3'=>(.u2 (.g (.two (decide ((((mid+p) - i:Nat):Int) < (b:Int))) (fun h4 h4'=>(.r (.ch 5 [(o_ g 10 (List.map Entry.row (mAt (ltF cmp) mid ((mid+p) - i) b l)))] (ih_at mid ((mid+p) - i) b n g l U6 q9 q9 q9 q9 q9 U5 U4 []) (.q 1 (AV.tup []) M0)))) (fun h4 h4'=>(.q 1 (AV.tup []) M0)))))) (fun h3 h3'=>(.n2 (.g (.n (.q 1 (AV.tup []) M0)))))))))))))))))))))))))))))))))))))
end Go.Proofs.YtfjedpipdnlkfaaGreat.AM
namespace Go.Proofs.YtfjedpipdnlkfaaGreat.AM
open Go Go.Proofs.YtfjedpipdnlkfaaGreat
attribute [local irreducible] A8 E8 G6 I6 I9 J3 J4 L9 O8 Q9 R5 S9 Tp.G5 Tp.card Tp.key Tp.keyT Tp.next Tp.step U8 V8 Y7 bsr cmpL j6 l6 l9 mg mgL shD shU sink w9 x9 y5 y9
theorem c8S (cmp:Entry->Entry->Int) (f:Nat) (xs:List AV) (hc:h9E cmp f xs) (hxs:AV.bdds 1 xs=true) (W:O9 (ltF cmp)) (Nz:Nat):∀ (a p b n g:Nat) (l:l9E),n=l.length->n < 1048576->a < p->p < b->b<=n->b - a < Nz ->
 Srt (ltF cmp) ((l.drop a).take (p - a))->Srt (ltF cmp) ((l.drop p).take (b - p))->AC 213 [(AV.osl 0 g 10 0 n),(iN a),(iN p),(iN b),(AV.func f xs)] [(o_ g 10 (mE l))] (.tup [],[(o_ g 10 (mE (mAt (ltF cmp) a p b l)))]):=by
 induction Nz with
 | zero=>intro a p b n g l _ _ _ _ _ h; omega
 | succ Nz ih =>
  intro a p b n g l hn hnb hap hpb hbn hN h7 h8
  by_cases c1:p=a+1
  · obtain ⟨s1,s2,s3,s4⟩:=lV (fun c=>decide (cmp (nth l c) (nth l a) < 0)) (b - p) p b (Nat.le_refl _) ow
    generalize hs:bsr (fun c=>decide (cmp (nth l c) (nth l a) < 0)) (b - p) p b=s at s1 s2 s3 s4
    have hlaw:=lC W (l:=l) (a:=a) (p:=p) (b:=b) (s:=a) (e:=s) ow ow ow h7 h8 ow ow s1 s2 (fun _ h=>s3 h) (fun h=>by omega)
    have hx:(l.drop a).take (p - a)=[nth l a]:=by rw [show p - a=1 by omega]; exact vR ow
    rw [Nat.sub_self,List.take_zero,aA,hx,a7o (fun y hy=>by
     obtain ⟨q1,q2⟩:=rO hy ow
     rw [q2]; exact s4 ow)] at hlaw
    rw [hlaw]
    have hl:=four (l:=l) (a:=a) (m:=p) (b:=b) ow ow
    rw [hx,bV (l:=l) (a:=p) (k:=b - p) (s:=s - p) ow,show p+(s - p)=s by omega,show b - p - (s - p)=b - s by omega,List.append_assoc] at hl
    exact c1X cmp f xs (l.take a) ((l.drop p).take (s - p)) ((l.drop s).take (b - s)) (l.drop b) (nth l a) a p b n g s l hc hxs hn hnb hl yh_ c1 ow hbn nK s2 hs.symm
  by_cases c2:b=p+1
  · obtain ⟨s1,s2,s3,s4⟩:=lV (fun c=>!decide (cmp (nth l p) (nth l c) < 0)) (p - a) a p (Nat.le_refl _) ow
    generalize hs:bsr (fun c=>!decide (cmp (nth l p) (nth l c) < 0)) (p - a) a p=s at s1 s2 s3 s4
    have hlaw:=lC W (l:=l) (a:=a) (p:=p) (b:=b) (s:=s) (e:=p) ow ow ow h7 h8 s1 s2 ow ow (fun _ h=>by omega) (fun h _=>by have:=s3 h; simp only [Bool.not_eq_true'] at this; exact this)
    have hx:(l.drop p).take (b - p)=[nth l p]:=by rw [show b - p=1 by omega]; exact vR ow
    rw [Nat.sub_self,List.take_zero,eB,hx,a7n (fun y hy=>by
     obtain ⟨q1,q2⟩:=rO hy ow
     rw [q2]; simpa [ltF] using s4 ow)] at hlaw
    rw [hlaw]
    have hl:=four (l:=l) (a:=a) (m:=p) (b:=b) ow ow
    rw [hx,bV (l:=l) (a:=a) (k:=p - a) (s:=s - a) ow,show a+(s - a)=s by omega,show p - a - (s - a)=p - s by omega,List.append_assoc] at hl
    exact c1W cmp f xs (l.take a) ((l.drop a).take (s - a)) ((l.drop s).take (p - s)) (l.drop b) (nth l p) a p b n g s l hc hxs hn hnb hl yh_ nK nK c1 c2 hbn hs.symm
  have ih_at:∀ (a p b n g:Nat) (l:l9E),n=l.length->n < 1048576->a < p->p < b->b<=n->b - a < Nz->Srt (ltF cmp) ((l.drop a).take (p - a))->Srt (ltF cmp) ((l.drop p).take (b - p))->∀ H:Heap,AC 213 [(AV.osl 0 g 10 0 n),(iN a),(iN p),(iN b),(AV.func f xs)] (([(o_ g 10 (mE l))]:Heap)++H) (.tup [],([(o_ g 10 (mE (mAt (ltF cmp) a p b l)))]:Heap)++H) :=
   fun a p b n g l q1 q2 q3 q4 q5 q6 q7 q8 H=>(ih a p b n g l q1 q2 q3 q4 q5 q6 q7 q8).ext (by simp [AV.bdds,AV.bdd,hxs]) kr ob ob kr H
  obtain ⟨mid,hmid⟩:∃ mid,mid=(a+b) / 2:=⟨_,rfl⟩
  have go:∀ lo hi,lo<=hi->(∀ s,lo<=s->s<=hi->a<=s/\s<=p/\p<=mid+p - s/\mid+p - s<=b/\(s < p->p < mid+p - s->s < hi)/\(a < s->mid+p - s < b->lo < s)) ->
   (∀ s,s=bsr (fun c=>!decide (cmp (nth l (mid+p - 1 - c)) (nth l c) < 0)) (hi - lo) lo hi->lo<=s->s<=hi->∀ (L1 L2 R1 R2:l9E),l=l.take a++(L1++(L2++(R1++(R2++l.drop b))))->s=a+L1.length->p=s+L2.length->mid=s+R1.length->b=p+R1.length+R2.length->Srt (ltF cmp) L1->Srt (ltF cmp) L2->Srt (ltF cmp) R1->Srt (ltF cmp) R2 ->
    AC 213 [(AV.osl 0 g 10 0 n),(iN a),(iN p),(iN b),(AV.func f xs)] [(o_ g 10 (mE l))] (.tup [],([(o_ g 10 (mE (l.take a++(mg (ltF cmp) L1 R1++(mg (ltF cmp) L2 R2++l.drop b)))))]:Heap))) ->
   AC 213 [(AV.osl 0 g 10 0 n),(iN a),(iN p),(iN b),(AV.func f xs)] [(o_ g 10 (mE l))] (.tup [],([(o_ g 10 (mE (mAt (ltF cmp) a p b l)))]:Heap)):=by
   intro lo hi hlh hb walk
   obtain ⟨s1,s2,s3,s4⟩:=lV (fun c=>!decide (cmp (nth l (mid+p - 1 - c)) (nth l c) < 0)) (hi - lo) lo hi (Nat.le_refl _) hlh
   generalize hs:bsr (fun c=>!decide (cmp (nth l (mid+p - 1 - c)) (nth l c) < 0)) (hi - lo) lo hi=s at s1 s2 s3 s4
   obtain ⟨b1,b2,b3,b4,b5,b6⟩:=hb s s1 s2
   have hlaw:=lC W (l:=l) (a:=a) (p:=p) (b:=b) (s:=s) (e:=mid+p - s) ow ow ow h7 h8 b1 b2 b3 b4 (fun h1 h2=>by
    have:=s4 (b5 h1 h2)
    simp only [Bool.not_eq_false'] at this
    rwa [show mid+p - 1 - s=mid+p - s - 1 by omega] at this) (fun h1 h2=>by
    have:=s3 (b6 h1 h2)
    simp only [Bool.not_eq_true'] at this
    rwa [show mid+p - 1 - (s - 1)=mid+p - s by omega] at this)
   rw [hlaw]
   have hl:=four (l:=l) (a:=a) (m:=p) (b:=b) ow ow
   rw [bV (l:=l) (a:=a) (k:=p - a) (s:=s - a) ow,show a+(s - a)=s by omega,show p - a - (s - a)=p - s by omega,
    bV (l:=l) (a:=p) (k:=b - p) (s:=mid+p - s - p) ow,show p+(mid+p - s - p)=mid+p - s by omega,show b - p - (mid+p - s - p)=b - (mid+p - s) by omega,List.append_assoc,List.append_assoc] at hl
   have q1:=zH (l:=l) (a:=a) (k:=p - a) (s:=s - a) ow h7
   have q2:=zH (l:=l) (a:=p) (k:=b - p) (s:=mid+p - s - p) ow h8
   rw [show a+(s - a)=s by omega,show p - a - (s - a)=p - s by omega] at q1
   rw [show p+(mid+p - s - p)=mid+p - s by omega,show b - p - (mid+p - s - p)=b - (mid+p - s) by omega] at q2
   exact walk s hs.symm s1 s2 _ _ _ _ hl nK nK nK (by rw [jJ ow,jJ ow]; omega) q1.1 q1.2 q2.1 q2.2
  have hA:a=(l.take a).length:=by simp; omega
  by_cases hgt:mid < p
  · refine go (mid+p - b) mid ow (fun s h1 h2=>⟨by omega,by omega,by omega,by omega,fun _ _=>by omega,fun _ _=>by omega⟩) fun s hs h1 h2 L1 L2 R1 R2 hl e1 e2 e3 e4 q1 q2 q3 q4=>?_
    exact c1V cmp f xs (l.take a) L1 L2 R1 R2 (l.drop b) a p b n g s mid Nz l hc hxs hn hnb ih_at hl hA e1 e2 e3 e4 hbn hap hpb c1 c2 hmid ow hgt hs h1 h2 q1 q2 q3 q4
  · refine go a p ow (fun s h1 h2=>⟨by omega,by omega,by omega,by omega,fun _ _=>by omega,fun _ _=>by omega⟩) fun s hs h1 h2 L1 L2 R1 R2 hl e1 e2 e3 e4 q1 q2 q3 q4=>?_
    exact c1U cmp f xs (l.take a) L1 L2 R1 R2 (l.drop b) a p b n g s mid Nz l hc hxs hn hnb ih_at hl hA e1 e2 e3 e4 hbn hap hpb c1 c2 hmid ow ow hs h1 h2 q1 q2 q3 q4
attribute [local irreducible] K9 blk fU mAt mix
theorem c1Q (cmp:Entry->Entry->Int) (f:Nat) (xs:List AV) (a p b n g:Nat) (l:l9E) (hc:h9E cmp f xs) (hxs:AV.bdds 1 xs=true) (W:O9 (ltF cmp)) (h1:n=l.length) (h2:n < 1048576) (h3:a < p) (h4:p < b) (h5:b<=n) (h7:Srt (ltF cmp) ((l.drop a).take (p - a))) (h8:Srt (ltF cmp) ((l.drop p).take (b - p))):AC 213 [(AV.osl 0 g 10 0 n),(iN a),(iN p),(iN b),(AV.func f xs)] [(o_ g 10 (mE l))] ((AV.tup []),[(o_ g 10 (mE (mAt (ltF cmp) a p b l)))]):=c8S cmp f xs hc hxs W (b - a+1) a p b n g l h1 h2 h3 h4 h5 ow h7 h8
theorem b8c (cmp:Entry->Entry->Int) (f:Nat) (xs:List AV) (a p b n g:Nat) (l:l9E) (hc:h9E cmp f xs) (hxs:AV.bdds 1 xs=true) (W:O9 (ltF cmp)) (h1:n=l.length) (h2:n < 1048576) (h3:a < p) (h4:p < b) (h5:b<=n) (h7:Srt (ltF cmp) ((l.drop a).take (p - a))) (h8:Srt (ltF cmp) ((l.drop p).take (b - p))) (H:Heap):AC 213 [(AV.osl 0 g 10 0 n),(iN a),(iN p),(iN b),(AV.func f xs)] (([(o_ g 10 (mE l))]:Heap)++H) ((AV.tup []),([(o_ g 10 (mE (mAt (ltF cmp) a p b l)))]:Heap)++H):=(c1Q cmp f xs a p b n g l hc hxs W h1 h2 h3 h4 h5 h7 h8).ext nP kr ob ob kr H
def fM:Ann:={ base:=1,fin:=some 1,live:=[(2,[0,1,2,6,7,8]),(7,[0,1,2,6]),(9,[0,1,2,6,7,8])],out:=[(2,[0,1,2,6,7]),(7,[]),(9,[0,1,2,6,7])] }
theorem a1R (cmp:Entry->Entry->Int) (f:Nat) (xs:List AV) (a b n g:Nat) (l:l9E) (hc:h9E cmp f xs) (hxs:AV.bdds 1 xs=true) (W:O9 (ltF cmp)) (hn:n=l.length) (hnb:n < 524288) (hb:b=a+20) (han:a<=n) {eX:Ex} {FX:Fr} {HX:Heap} (k1:(decide ((b:Int)<=(n:Int)))=true->j6 (l9 Tryz.prog (X fM) (p9 Tryz.f177 0)) (some [0,1,2,6,7,8]) (some [0,1,2,6,7]) (mkF 63 [(0,(AV.osl 0 g 10 0 n)),(1,(iN n)),(2,(AV.func f xs)),(6,(iI 20)),(7,(iN b)),(8,(iN (b+20)))]) [(o_ g 10 (mE (w9 cmp a (b - (a+1)) (a+1) l)))] eX FX HX) (k2:(decide ((b:Int)<=(n:Int)))=false->((.exit 0:Ex),(mkF 63 [(0,(AV.osl 0 g 10 0 n)),(1,(iN n)),(2,(AV.func f xs)),(6,(iI 20)),(7,(iN a))]),[(o_ g 10 (mE l))])=(eX,FX,HX)):j6 (l9 Tryz.prog (X fM) (p9 Tryz.f177 0)) (some [0,1,2,6,7,8]) (some [0,1,2,6,7]) (mkF 63 [(0,(AV.osl 0 g 10 0 n)),(1,(iN n)),(2,(AV.func f xs)),(6,(iI 20)),(7,(iN a)),(8,(iN b))]) [(o_ g 10 (mE l))] eX FX HX :=
 F7 (.r (.g (.two (decide ((b:Int)<=(n:Int))) (fun h1 h1'=>(.r (.t 4 (AV.tup []) [(o_ g 10 (mE (w9 cmp a (b - (a+1)) (a+1) l)))] (b1G _ f xs a b n g l aG aG aG aG aG aG []:AC 212 [(AV.osl 0 g 10 0 n),(iN a),(iN b),(AV.func f xs)] [(o_ g 10 (mE l))] ((AV.tup []),([(o_ g 10 (mE (w9 cmp a (b - (a+1)) (a+1) l)))]:Heap))) (.s (.s (.h' [(o_ g 10 (mE (w9 cmp a (b - (a+1)) (a+1) l)))] (.y 2 (iW ((b:Int)+20)) (iN (b+20)) Yes.o (.g (.l (k1 h1)))))))))) (fun h1 h1'=>(.l (k2 h1))))))
theorem b2O (cmp:Entry->Entry->Int) (f:Nat) (xs:List AV) (hc:h9E cmp f xs) (hxs:AV.bdds 1 xs=true) (W:O9 (ltF cmp)) (n g:Nat) (l0:l9E) (hn:n=l0.length) (hnb:n < 524288) (r:Nat):∀ (j a b:Nat) (l:l9E),j+r=n / 20->a=j * 20->b=a+20->l=blk (ltF cmp) 20 j l0 ->
 j6 (l9 Tryz.prog (X fM) (p9 Tryz.f177 0)) (some [0,1,2,6,7,8]) (some [0,1,2,6,7]) (mkF 63 [(0,(AV.osl 0 g 10 0 n)),(1,(iN n)),(2,(AV.func f xs)),(6,(iI 20)),(7,(iN a)),(8,(iN b))]) [(o_ g 10 (mE l))] (.exit 0) (mkF 63 [(0,(AV.osl 0 g 10 0 n)),(1,(iN n)),(2,(AV.func f xs)),(6,(iI 20)),(7,(iN ((n / 20 * 20))))]) [(o_ g 10 (mE (blk (ltF cmp) 20 (n / 20) l0)))]:=by
 induction r with
 | zero =>
  intro j a b l hj ha hb hl
  subst hl
  refine a1R cmp f xs a b n g _ hc hxs W b1X hnb hb ow (fun h=>by simp at h; omega) (fun _=>?_)
  rw [show n / 20=j by omega,<- ha]
 | succ r ih =>
  intro j a b l hj ha hb hl
  subst hl
  refine a1R cmp f xs a b n g _ hc hxs W b1X hnb hb ow (fun h=>?_) (fun h=>by simp at h; omega)
  rw [a6p cmp ha hb ow]
  exact ih (j+1) b (b+20) _ ow ow rfl rfl
theorem a1Q (cmp:Entry->Entry->Int) (f:Nat) (xs:List AV) (bs a b n g:Nat) (l:l9E) (hc:h9E cmp f xs) (hxs:AV.bdds 1 xs=true) (W:O9 (ltF cmp)) (hn:n=l.length) (hnb:n < 524288) (hb:b=a+2 * bs) (hbs:0 < bs) (hbn:bs < 524288) (han:a<=n) (hs7:b<=n->Srt (ltF cmp) ((l.drop a).take (a+bs - a))) (hs8:b<=n->Srt (ltF cmp) ((l.drop (a+bs)).take (b - (a+bs)))) {eX:Ex} {FX:Fr} {HX:Heap} (k1:(decide ((b:Int)<=(n:Int)))=true->j6 (l9 Tryz.prog (X fM) (p9 Tryz.f177 2)) (some [0,1,2,6,7,8]) (some [0,1,2,6,7]) (mkF 63 [(0,(AV.osl 0 g 10 0 n)),(1,(iN n)),(2,(AV.func f xs)),(6,(iN bs)),(7,(iN b)),(8,(iN (b+(2 * bs))))]) [(o_ g 10 (mE (mAt (ltF cmp) a (a+bs) b l)))] eX FX HX) (k2:(decide ((b:Int)<=(n:Int)))=false->((.exit 4:Ex),(mkF 63 [(0,(AV.osl 0 g 10 0 n)),(1,(iN n)),(2,(AV.func f xs)),(6,(iN bs)),(7,(iN a))]),[(o_ g 10 (mE l))])=(eX,FX,HX)):j6 (l9 Tryz.prog (X fM) (p9 Tryz.f177 2)) (some [0,1,2,6,7,8]) (some [0,1,2,6,7]) (mkF 63 [(0,(AV.osl 0 g 10 0 n)),(1,(iN n)),(2,(AV.func f xs)),(6,(iN bs)),(7,(iN a)),(8,(iN b))]) [(o_ g 10 (mE l))] eX FX HX :=
 F7 (.r (.g (.two (decide ((b:Int)<=(n:Int))) (fun h1 h1'=>(.r (.y 4 (.int .i64 (gP a bs)) (iN (a+bs)) Yes.o (.t 7 (AV.tup []) [(o_ g 10 (mE (mAt (ltF cmp) a (a+bs) b l)))] (b8c _ f xs a (a+bs) b n g l aG aG aG aG aG aG aG aG (hs7 a2K) (hs8 a2K) []:AC 213 [(AV.osl 0 g 10 0 n),(iN a),(iN (a+bs)),(iN b),(AV.func f xs)] [(o_ g 10 (mE l))] ((AV.tup []),([(o_ g 10 (mE (mAt (ltF cmp) a (a+bs) b l)))]:Heap))) (.s (.s (.h' [(o_ g 10 (mE (mAt (ltF cmp) a (a+bs) b l)))] (.y 2 (.int .i64 (b5O bs)) (iN (2 * bs)) Yes.o (.y 3 (iW ((b:Int)+((2 * bs:Nat):Int))) (iN (b+(2 * bs))) Yes.o (.g (.l (k1 h1)))))))))))) (fun h1 h1'=>(.l (k2 h1))))))
theorem b2N (cmp:Entry->Entry->Int) (f:Nat) (xs:List AV) (hc:h9E cmp f xs) (hxs:AV.bdds 1 xs=true) (W:O9 (ltF cmp)) (bs n g:Nat) (l0:l9E) (hn:n=l0.length) (hnb:n < 524288) (hbs:0 < bs) (hbn:bs < 524288) (J:Nat) (hJ:J=n / (2 * bs)) (r:Nat):∀ (j a b:Nat) (l:l9E),j+r=J->a=j * (2 * bs)->b=a+2 * bs->l=mix (ltF cmp) bs j l0 ->
 j6 (l9 Tryz.prog (X fM) (p9 Tryz.f177 2)) (some [0,1,2,6,7,8]) (some [0,1,2,6,7]) (mkF 63 [(0,(AV.osl 0 g 10 0 n)),(1,(iN n)),(2,(AV.func f xs)),(6,(iN bs)),(7,(iN a)),(8,(iN b))]) [(o_ g 10 (mE l))] (.exit 4) (mkF 63 [(0,(AV.osl 0 g 10 0 n)),(1,(iN n)),(2,(AV.func f xs)),(6,(iN bs)),(7,(iN ((J * (2 * bs)))))]) [(o_ g 10 (mE (mix (ltF cmp) bs J l0)))]:=by
 have hdm:=Nat.div_mul_le_self n (2 * bs)
 have hlt:=Nat.lt_div_mul_add (a:=n) (b:=2 * bs) ow
 rw [<- hJ] at hdm hlt
 induction r with
 | zero =>
  intro j a b l hj ha hb hl
  subst hl
  obtain rfl:j=J:=by omega
  refine a1Q cmp f xs bs a b n g _ hc hxs W b1W hnb hb hbs hbn ow (fun h=>by omega) (fun h=>by omega) (fun h=>by simp at h; omega) (fun _=>?_)
  rw [<- ha]
 | succ r ih =>
  intro j a b l hj ha hb hl
  subst hl
  have hmul:(j+1) * (2 * bs)=j * (2 * bs)+2 * bs:=Nat.succ_mul _ _
  have hle:(j+1) * (2 * bs)<=J * (2 * bs):=Nat.mul_le_mul_right _ ow
  obtain ⟨q1,q2,q3⟩:=a4s W hbs (l:=l0) ha hb ow
  refine a1Q cmp f xs bs a b n g _ hc hxs W b1W hnb hb hbs hbn ow (fun _=>q2) (fun _=>q3) (fun h=>?_) (fun h=>by simp at h; omega)
  rw [q1]
  exact ih (j+1) b (b+2 * bs) _ ow ow rfl rfl
@[simp] abbrev d1l (a:Nat) (b:Nat) (c:Nat) (d:List AV) (e:Nat):Fr:=(mkF 63 [(0,(AV.osl 0 a 10 0 b)),(1,(iN b)),(2,(AV.func c d)),(6,(iN (e * 2)))])
@[simp] abbrev d3f (a:Nat) (b:Nat) (c:Nat) (d:List AV) (e:Nat) (f:Nat):Fr:=(mkF 63 [(0,(AV.osl 0 a 10 0 b)),(1,(iN b)),(2,(AV.func c d)),(6,(iN e)),(7,(iN ((f * (2 * e)))))])
@[simp] abbrev c4B :=(l9 Tryz.prog (X fM) (p9 Tryz.f177 1))
theorem a1P (cmp:Entry->Entry->Int) (f:Nat) (xs:List AV) (bs J n g:Nat) (l l0:l9E) (hc:h9E cmp f xs) (hxs:AV.bdds 1 xs=true) (W:O9 (ltF cmp)) (hn:n=l0.length) (hnb:n < 524288) (hbs:0 < bs) (hbn:bs < 1048576) (hl:l=fU (ltF cmp) bs l0) (hJ:J=n / (2 * bs)) (hJn:J * (2 * bs)<=n) (hs7:J * (2 * bs)+bs < n->Srt (ltF cmp) (((mix (ltF cmp) bs J l0).drop (J * (2 * bs))).take (J * (2 * bs)+bs - J * (2 * bs)))) (hs8:J * (2 * bs)+bs < n->Srt (ltF cmp) (((mix (ltF cmp) bs J l0).drop (J * (2 * bs)+bs)).take (n - (J * (2 * bs)+bs)))) {eX:Ex} {FX:Fr} {HX:Heap} (k1:(decide ((bs:Int) < (n:Int)))=true->(decide ((((J * (2 * bs))+bs:Nat):Int) < (n:Int)))=true->j6 c4B (some [0,1,2,6]) (some []) (d1l g n f xs bs) [(o_ g 10 (mE (mAt (ltF cmp) (J * (2 * bs)) ((J * (2 * bs))+bs) n (mix (ltF cmp) bs J l0))))] eX FX HX) (k2:(decide ((bs:Int) < (n:Int)))=true->(decide ((((J * (2 * bs))+bs:Nat):Int) < (n:Int)))=false->j6 c4B (some [0,1,2,6]) (some []) (d1l g n f xs bs) [(o_ g 10 (mE (mix (ltF cmp) bs J l0)))] eX FX HX) (k3:(decide ((bs:Int) < (n:Int)))=false->((.exit 2:Ex),(mkF 63 []),[(o_ g 10 (mE l))])=(eX,FX,HX)):j6 c4B (some [0,1,2,6]) (some []) (mkF 63 [(0,(AV.osl 0 g 10 0 n)),(1,(iN n)),(2,(AV.func f xs)),(6,(iN bs))]) [(o_ g 10 (mE l))] eX FX HX :=
 F7 (.r (.g (.two (decide ((bs:Int) < (n:Int))) (fun h1 h1'=>(.r (.y 1 (.int .i64 (b5O bs)) (iN (2 * bs)) Yes.o (.g (.loop (d3f g n f xs bs J) (b2N cmp f xs hc hxs W bs n g l0 hn hnb hbs ow J hJ J 0 0 (2 * bs) l ow ow ow (by rw [hl]; simp only [mix])) (.r (.y 2 (iW ((((J * (2 * bs)):Nat):Int)+(bs:Int))) (iN ((J * (2 * bs))+bs)) Yes.o (.s (.g (.two (decide ((((J * (2 * bs))+bs:Nat):Int) < (n:Int))) (fun h2 h2'=>(.r (.t 5 (AV.tup []) [(o_ g 10 (mE (mAt (ltF cmp) (J * (2 * bs)) ((J * (2 * bs))+bs) n (mix (ltF cmp) bs J l0))))] (b8c _ f xs (J * (2 * bs)) ((J * (2 * bs))+bs) n n g (mix (ltF cmp) bs J l0) nJ nJ nJ nJ nJ nJ xG ow (hs7 xG) (hs8 xG) []:AC 213 [(AV.osl 0 g 10 0 n),(iN ((J * (2 * bs)))),(iN ((J * (2 * bs))+bs)),(iN n),(AV.func f xs)] [(o_ g 10 (mE (mix (ltF cmp) bs J l0)))] ((AV.tup []),([(o_ g 10 (mE (mAt (ltF cmp) (J * (2 * bs)) ((J * (2 * bs))+bs) n (mix (ltF cmp) bs J l0))))]:Heap))) (.s (.h' [(o_ g 10 (mE (mAt (ltF cmp) (J * (2 * bs)) ((J * (2 * bs))+bs) n (mix (ltF cmp) bs J l0))))] (.y 1 (.int .i64 (b5N bs)) (iN (bs * 2)) Yes.o (.g (.l (k1 h1 h2))))))))) (fun h2 h2'=>(.r (.y 1 (.int .i64 (b5N bs)) (iN (bs * 2)) Yes.o (.g (.l (k2 h1 h2)))))))))))))))) (fun h1 h1'=>(.l (k3 h1))))))
theorem b2M (cmp:Entry->Entry->Int) (f:Nat) (xs:List AV) (hc:h9E cmp f xs) (hxs:AV.bdds 1 xs=true) (W:O9 (ltF cmp)) (n g:Nat) (l0:l9E) (hn:n=l0.length) (hnb:n < 524288) (r:Nat):∀ (bs:Nat) (l:l9E),n - bs<=r->0 < bs->bs < 1048576->l=fU (ltF cmp) bs l0 ->
 j6 (l9 Tryz.prog (X fM) (p9 Tryz.f177 1)) (some [0,1,2,6]) (some []) (mkF 63 [(0,(AV.osl 0 g 10 0 n)),(1,(iN n)),(2,(AV.func f xs)),(6,(iN bs))]) [(o_ g 10 (mE l))] (.exit 2) (mkF 63 []) [(o_ g 10 (mE (K9 (ltF cmp) l0)))]:=by
 have key:∀ bs,0 < bs->(n / (2 * bs) * (2 * bs)<=n/\n < n / (2 * bs) * (2 * bs)+2 * bs):=fun bs hbs=>⟨Nat.div_mul_le_self n (2 * bs),Nat.lt_div_mul_add (a:=n) (b:=2 * bs) ow⟩
 induction r with
 | zero =>
  intro bs l h1 hbs hbn hl
  obtain ⟨k1,k2⟩:=key bs hbs
  obtain ⟨q1,q2⟩:=vT W hbs (l:=l0) (J:=n / (2 * bs)) rfl hn k1 k2
  refine a1P cmp f xs bs (n / (2 * bs)) n g l l0 hc hxs W hn hnb hbs hbn hl rfl k1 (fun h=>(q1 h).2.1) (fun h=>(q1 h).2.2) (fun h=>by simp at h; omega) (fun h=>by simp at h; omega) (fun _=>?_)
  rw [hl,lX (ltF cmp) ow hbs]
 | succ r ih =>
  intro bs l h1 hbs hbn hl
  obtain ⟨k1,k2⟩:=key bs hbs
  obtain ⟨q1,q2⟩:=vT W hbs (l:=l0) (J:=n / (2 * bs)) rfl hn k1 k2
  refine a1P cmp f xs bs (n / (2 * bs)) n g l l0 hc hxs W hn hnb hbs hbn hl rfl k1 (fun h=>(q1 h).2.1) (fun h=>(q1 h).2.2) (fun h h2=>?_) (fun h h2=>?_) (fun h=>?_)
  · rw [(q1 xG).1]
    exact ih (bs * 2) _ nQ ow nQ b1V
  · rw [q2 (by have:=of_decide_eq_false h2; omega)]
    exact ih (bs * 2) _ nQ ow nQ b1V
  · rw [hl,lX (ltF cmp) nQ hbs]
@[simp] abbrev d3e (a:Nat) (b:Nat) (c:Nat) (d:List AV):Fr:=(mkF 63 [(0,(AV.osl 0 a 10 0 b)),(1,(iN b)),(2,(AV.func c d)),(6,(iI 20)),(7,(iN ((b / 20 * 20))))])
theorem b8b (cmp:Entry->Entry->Int) (f:Nat) (xs:List AV) (n g:Nat) (l:l9E) (hc:h9E cmp f xs) (hxs:AV.bdds 1 xs=true) (W:O9 (ltF cmp)) (hn:n=l.length) (hb:n < 524288):AC 177 [(AV.osl 0 g 10 0 n),(AV.int .i64 (n:Int)),(AV.func f xs)] [(o_ g 10 (List.map Entry.row l))] ((AV.tup []),[(o_ g 10 (List.map Entry.row (w9 cmp 0 (n - 1) 1 l)))]):=by
 have hq:(blk (ltF cmp) 20 (n / 20) l).length=n:=by rw [uP]; exact hn.symm
 have ht:=b1s cmp (l:=l) (j:=n / 20) (a:=n / 20 * 20) rfl hn ow ow
 have hfin:K9 (ltF cmp) l=w9 cmp 0 (n - 1) 1 l:=by subst hn; exact (jG cmp l).symm
 exact o9 (fn:=Tryz.f177) (ann:=fM) (Has.o Tryz.func177) (.r (.s (.g (.loop (d3e g n f xs) (b2O cmp f xs hc hxs W n g l hn hb (n / 20) 0 0 20 l ow rfl ow (by simp only [blk])) (.r (.t 4 (AV.tup []) [(o_ g 10 (List.map Entry.row (w9 cmp (n / 20 * 20) (n - ((n / 20 * 20)+1)) ((n / 20 * 20)+1) (blk (ltF cmp) 20 (n / 20) l))))] (b1G _ f xs (n / 20 * 20) n n g (blk (ltF cmp) 20 (n / 20) l) nI nI nI nI nI nI []:AC 212 [(AV.osl 0 g 10 0 n),(AV.int .i64 (((n / 20 * 20):Nat):Int)),(AV.int .i64 (n:Int)),(AV.func f xs)] [(o_ g 10 (List.map Entry.row (blk (ltF cmp) 20 (n / 20) l)))] ((AV.tup []),([(o_ g 10 (List.map Entry.row (w9 cmp (n / 20 * 20) (n - ((n / 20 * 20)+1)) ((n / 20 * 20)+1) (blk (ltF cmp) 20 (n / 20) l))))]:Heap))) (.g (.loop (mkF 63 []) (b2M cmp f xs hc hxs W n g l hn hb n 20 (w9 cmp (n / 20 * 20) (n - ((n / 20 * 20)+1)) ((n / 20 * 20)+1) (blk (ltF cmp) 20 (n / 20) l)) ow ow ow ht) (.q 1 (AV.tup []) (by rw [hfin]))))))))))
theorem c7Z (cmp:Entry->Entry->Int) (f:Nat) (xs:List AV) (n g:Nat) (l:l9E) (hc:h9E cmp f xs) (hxs:AV.bdds 1 xs=true) (W:O9 (ltF cmp)) (hn:n=l.length) (hb:n < 524288) (H:Heap):AC 177 [(AV.osl 0 g 10 0 n),(iN n),(AV.func f xs)] (([(o_ g 10 (mE l))]:Heap)++H) ((AV.tup []),([(o_ g 10 (mE (w9 cmp 0 (n - 1) 1 l)))]:Heap)++H):=(b8b cmp f xs n g l hc hxs W hn hb).ext nP kr ob ob kr H
def b2s:Ann:={ base:=1,fin:=some 1 }
theorem a9G (cmp:Entry->Entry->Int) (f:Nat) (xs:List AV) (n g:Nat) (l:l9E) (hc:h9E cmp f xs) (hxs:AV.bdds 1 xs=true) (W:O9 (ltF cmp)) (hn:n=l.length) (hb:n < 524288):AC 118 [(AV.osl 0 g 10 0 n),(AV.func f xs)] [(o_ g 10 (mE l))] ((AV.tup []),[(o_ g 10 (mE (w9 cmp 0 (n - 1) 1 l)))]) :=
 o9 (fn:=Tryz.f118) (ann:=b2s) (Has.o Tryz.func118) (.r (.t 4 (AV.tup []) [(o_ g 10 (mE (w9 cmp 0 (n - 1) 1 l)))] (c7Z _ f xs n g l rW rW rW rW rW []:AC 177 [(AV.osl 0 g 10 0 n),(iN n),(AV.func f xs)] [(o_ g 10 (mE l))] ((AV.tup []),([(o_ g 10 (mE (w9 cmp 0 (n - 1) 1 l)))]:Heap))) (.g (.h' [(o_ g 10 (mE (w9 cmp 0 (n - 1) 1 l)))] (.q 1 (AV.tup []))))))
theorem b7O (cmp:Entry->Entry->Int) (f:Nat) (xs:List AV) (n g:Nat) (l:l9E) (hc:h9E cmp f xs) (hxs:AV.bdds 1 xs=true) (W:O9 (ltF cmp)) (hn:n=l.length) (hb:n < 524288) (H:Heap):AC 118 [(AV.osl 0 g 10 0 n),(AV.func f xs)] (([(o_ g 10 (mE l))]:Heap)++H) ((AV.tup []),([(o_ g 10 (mE (w9 cmp 0 (n - 1) 1 l)))]:Heap)++H):=(a9G cmp f xs n g l hc hxs W hn hb).ext nP kr ob ob kr H
attribute [local irreducible] H7 M9 O4 R6 bI gZ iO lK
def ltM (now:Int) (a b:Entry):Bool:=decide (cmpL now a b < 0)
theorem c3Z (a b:Int):Q0 a b < 0↔a < b:=by unfold Q0; split <;> (try split) <;> omega
theorem a4Q (a b:Int):Q0 a b=0↔a=b:=by unfold Q0; split <;> (try split) <;> omega
theorem b3Y (a b:Key):L9 a b < 0↔y9 a b=true:=by
 unfold L9
 rw [gH,gH]
 cases y9 a b <;> cases y9 b a <;> simp
theorem b1F (now:Int) (a b:Entry):ltM now a b=true↔y5 b now < y5 a now\/(y5 b now=y5 a now/\y9 a.card.key b.card.key=true):=by
 unfold ltM cmpL
 rw [decide_eq_true_eq]
 split
 · rename_i h
   rw [a4Q] at h
   rw [b3Y]
   constructor
   · intro h2; exact .inr ⟨h,h2⟩
   · rintro (h2 | h2)
     · omega
     · exact h2.2
 · rename_i h
   rw [a4Q] at h
   rw [c3Z]
   constructor
   · intro h2; exact .inl h2
   · rintro (h2 | h2)
     · exact h2
     · exact absurd h2.1 h
theorem a4u (now:Int) (a b:Entry):ltM now a b=false↔y5 a now < y5 b now\/(y5 a now=y5 b now/\y9 a.card.key b.card.key=false):=by
 rw [<- Bool.not_eq_true,b1F]
 constructor
 · intro h
   rcases Nat.lt_or_ge 0 1 with _ | _
   · by_cases h1:y5 a now < y5 b now
     · exact .inl h1
     · refine .inr ⟨?_,?_⟩
       · have:¬ y5 b now < y5 a now:=fun x=>h (.inl x)
         omega
       · cases hb:y9 a.card.key b.card.key with
         | false=>rfl
         | true =>
          have:¬ y5 b now < y5 a now:=fun x=>h (.inl x)
          exact absurd (.inr ⟨by omega,hb⟩) h
   · omega
 · rintro (h | h) (k | k)
   · omega
   · omega
   · omega
   · rw [h.2] at k; exact absurd k.2 yf_
theorem c3r (now:Int):O9 (ltM now):=by
 refine ⟨fun a b h=>?_,fun a b c h k=>?_⟩
 · rw [b1F] at h
   rw [a4u]
   rcases h with h | h
   · exact .inl h
   · exact .inr ⟨h.1,a8G h.2⟩
 · rw [a4u] at h k ⊢
   rcases h with h | h <;> rcases k with k | k
   · exact .inl ow
   · exact .inl ow
   · exact .inl ow
   · exact .inr ⟨by omega,a0E h.2 k.2⟩
@[simp] abbrev d1k (a:Int) (b:Int) (c:l9E):Fr:=(mkF 46 [(2,(iI (max 0 a))),(4,(AV.ref [(iI b)] 0)),(7,(iN ((A8 c b (max 0 a)).1))),(8,(AV.osl 0 (A8 c b (max 0 a)).2.2 10 0 (A8 c b (max 0 a)).2.1.length)),(13,(sA 10 (mE c))),(14,(iN c.length)),(15,(iN c.length))])
@[simp] abbrev c5T (a:l9E) (b:Int) (c:Int):Heap:=[(o_ ((A8 a b (max 0 c)).2.2) 10 (mE (w9 (cmpL b) 0 ((A8 a b (max 0 c)).2.1.length - 1) 1 (A8 a b (max 0 c)).2.1)))]
theorem b3V (l:l9E) (now late:Int) (hl:l.length < 1000):AC 63 [(sA 10 (mE l)),(iI now),(iI late)] [] ((sA 2 (mK (x9 l now late))),[]):=by
 have hp:=b9g l now (max 0 late)
 have hpl:=bQ (cmpL now) 0 ((A8 l now (max 0 late)).2.1.length - 1) 1 (A8 l now (max 0 late)).2.1
 exact o9 (fn:=Tryz.f63) (ann:=vL) (Has.o Tryz.func63) (.r (.s (.y 1 (.int .i64 (if late > 0 then late else 0)) (iI (max 0 late)) (Yes.int yw_) (.s (.s (.s (.h' [(o_ 0 10 (mE []))] (.y 1 (.int .i64 ((List.length (mE l):Nat):Int)) (iN l.length) (Yes.len _ _ _) (.g (.loop (d1k late now l) (show j6 (l9 Tryz.prog (X vL) (p9 Tryz.f63 0)) (some [2,4,7,8,13,14,15]) (some [2,4,7,8,13,14,15]) (mkF 46 [(2,(iI (max 0 late))),(4,(AV.ref [(iI now)] 0)),(7,z_),(8,(AV.osl 0 0 10 0 0)),(13,(sA 10 (mE l))),(14,(iN l.length)),(15,z_)]) [(o_ 0 10 (mE []))] (.exit 0) (d1k late now l) [(o_ ((A8 l now (max 0 late)).2.2) 10 (mE (A8 l now (max 0 late)).2.1))] from (b9e l now (max 0 late) (List.length l) 0 0 0 0 [] _ ow rfl ow ow ow (by unfold A8; rfl))) (.r (.ch 2 (c5T l now late) (b7O (cmpL now) 119 ([(AV.ref [(iI now)] 0)]) (A8 l now (max 0 late)).2.1.length (A8 l now (max 0 late)).2.2 (A8 l now (max 0 late)).2.1 (fun x y H=>b3U now x y H) (rfl) (c3r now) oa oa []) (.w' 8 (mE (w9 (cmpL now) 0 ((A8 l now (max 0 late)).2.1.length - 1) 1 (A8 l now (max 0 late)).2.1)) (And.intro (G7 (room:=none) kr (by first | omega | (simp [bQ]; done) | (simp [bQ]; omega))) (Entry.p8 _ _):F5 (c5T l now late) 10 (AV.osl 0 (A8 l now (max 0 late)).2.2 10 0 (A8 l now (max 0 late)).2.1.length)=some (mE (w9 (cmpL now) 0 ((A8 l now (max 0 late)).2.1.length - 1) 1 (A8 l now (max 0 late)).2.1))/\AV.D5 0 (mE (w9 (cmpL now) 0 ((A8 l now (max 0 late)).2.1.length - 1) 1 (A8 l now (max 0 late)).2.1))=true) (.s (.h' [(o_ ((A8 l now (max 0 late)).2.2+1) 10 [])] (.y 2 (.int .i64 ((List.length (mE (w9 (cmpL now) 0 ((A8 l now (max 0 late)).2.1.length - 1) 1 (A8 l now (max 0 late)).2.1)):Nat):Int)) (iN ((w9 (cmpL now) 0 ((A8 l now (max 0 late)).2.1.length - 1) 1 (A8 l now (max 0 late)).2.1).length)) (Yes.len _ _ _) (.c 4 ((b9p (((A8 l now (max 0 late)).1:Nat):Int)).lift kr kr [(o_ ((A8 l now (max 0 late)).2.2+1) 10 [])]) (.y 5 (.int .i64 (if ((I6 (((A8 l now (max 0 late)).1:Nat):Int):Nat):Int) < (((w9 (cmpL now) 0 ((A8 l now (max 0 late)).2.1.length - 1) 1 (A8 l now (max 0 late)).2.1).length:Nat):Int) then ((I6 (((A8 l now (max 0 late)).1:Nat):Int):Nat):Int) else (((w9 (cmpL now) 0 ((A8 l now (max 0 late)).2.1.length - 1) 1 (A8 l now (max 0 late)).2.1).length:Nat):Int))) (iN (min (w9 (cmpL now) 0 ((A8 l now (max 0 late)).2.1.length - 1) 1 (A8 l now (max 0 late)).2.1).length (I6 (((A8 l now (max 0 late)).1:Nat):Int)))) (Yes.int yw_) (.t 6 (sA 10 (mE ((w9 (cmpL now) 0 ((A8 l now (max 0 late)).2.1.length - 1) 1 (A8 l now (max 0 late)).2.1).take (min (w9 (cmpL now) 0 ((A8 l now (max 0 late)).2.1.length - 1) 1 (A8 l now (max 0 late)).2.1).length (I6 (((A8 l now (max 0 late)).1:Nat):Int)))))) [(o_ ((A8 l now (max 0 late)).2.2+1) 10 [])] (dX (l:=0) (h:=min (w9 (cmpL now) 0 ((A8 l now (max 0 late)).2.1.length - 1) 1 (A8 l now (max 0 late)).2.1).length (I6 (((A8 l now (max 0 late)).1:Nat):Int))) om om om om nO:Option.map (fun a=>(a,([(o_ ((A8 l now (max 0 late)).2.2+1) 10 [])]:Heap))) (if 10=10\/((mE (w9 (cmpL now) 0 ((A8 l now (max 0 late)).2.1.length - 1) 1 (A8 l now (max 0 late)).2.1))).isEmpty=true then (bounds 0 ((min (w9 (cmpL now) 0 ((A8 l now (max 0 late)).2.1.length - 1) 1 (A8 l now (max 0 late)).2.1).length (I6 (((A8 l now (max 0 late)).1:Nat):Int)):Nat):Int) (List.length (mE (w9 (cmpL now) 0 ((A8 l now (max 0 late)).2.1.length - 1) 1 (A8 l now (max 0 late)).2.1)))).map fun p=>sA 10 ((List.take p.2 (mE (w9 (cmpL now) 0 ((A8 l now (max 0 late)).2.1.length - 1) 1 (A8 l now (max 0 late)).2.1))).drop p.1) else none)=some ((sA 10 (mE ((w9 (cmpL now) 0 ((A8 l now (max 0 late)).2.1.length - 1) 1 (A8 l now (max 0 late)).2.1).take (min (w9 (cmpL now) 0 ((A8 l now (max 0 late)).2.1.length - 1) 1 (A8 l now (max 0 late)).2.1).length (I6 (((A8 l now (max 0 late)).1:Nat):Int)))))),([(o_ ((A8 l now (max 0 late)).2.2+1) 10 [])]:Heap))) (.c 7 ((a2m ((w9 (cmpL now) 0 ((A8 l now (max 0 late)).2.1.length - 1) 1 (A8 l now (max 0 late)).2.1).take (min (w9 (cmpL now) 0 ((A8 l now (max 0 late)).2.1.length - 1) 1 (A8 l now (max 0 late)).2.1).length (I6 (((A8 l now (max 0 late)).1:Nat):Int)))) oa).lift kr kr [(o_ ((A8 l now (max 0 late)).2.2+1) 10 [])]) (.g (.h' [] (.q 0 (sA 2 (mK (((w9 (cmpL now) 0 ((A8 l now (max 0 late)).2.1.length - 1) 1 (A8 l now (max 0 late)).2.1).take (min (w9 (cmpL now) 0 ((A8 l now (max 0 late)).2.1.length - 1) 1 (A8 l now (max 0 late)).2.1).length (I6 (((A8 l now (max 0 late)).1:Nat):Int)))).map (·.card.key)))) (by (try delta c5T); simp only [x9,V8,Q9,bQ]))))))))))))))))))))))))
end Go.Proofs.YtfjedpipdnlkfaaGreat.AM
