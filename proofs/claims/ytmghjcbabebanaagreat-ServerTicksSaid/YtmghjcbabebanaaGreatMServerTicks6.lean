/-
  Part 6 of 8: an abstract machine over the model; walks; plain laws.
-/
import Derived.Test.YtmghjcbabebanaaGreatMServerTicks5
set_option maxRecDepth 100000
set_option linter.unusedVariables false
set_option linter.unusedSimpArgs false
namespace Go.Proofs.YtmghjcbabebanaaGreat.AM
open Go Go.Proofs.YtmghjcbabebanaaGreat
attribute [local irreducible] D7 E5 E9 H6 J2 J9 K3 K5 K6 K9 O1 Q9 R4 R9 Tp.key Tp.keyT Tp.next Tp.step U2 j5 l6 maxS opM q9 tuR
def hdM (q:Msg) (code:Int):Msg:=⟨2,q.op,0,code,q.tag,0,0,q.key,false,0,[],[]⟩
def d6m:Ann:={ refs:=[4],gha:=[(10,.frzf 6 11 9),(10,.frzf 6 12 2)],base:=6,fin:=some 6 }
abbrev d3N (a:l9E) (b:Nat) (c:l9K) (d:Nat) (e:Int) (f:Int) (h:y9) (i:Msg) (j:Int):Ob:=(o_ 0 2 [[(iI (r9 32)),(d9 1 (tuR a b c d e f h i (l8 j)).g 10 (List.length (tuR a b c d e f h i (l8 j)).l))]])
abbrev d3M (a:l9E) (b:Nat) (c:l9K) (d:Nat) (e:Int) (f:Int) (h:y9) (i:Msg) (j:Int):Ob:=(o_ ((tuR a b c d e f h i (l8 j)).g) 10 (mE (tuR a b c d e f h i (l8 j)).l))
abbrev d3L (a:Int) (b:Int) (c:l9E) (d:Nat) (e:l9K) (f:Nat) (g:Int) (h:Int) (i:y9) (j:Msg) (k:Int):Ob:=(o_ 0 3 [[(iI a),(iI b),(iI (tuR c d e f g h i j (l8 k)).gt)]])
abbrev d3K (a:l9E) (b:Nat) (c:l9K) (d:Nat) (e:Int) (f:Int) (g:y9) (h:Msg) (i:Int):Ob:=(o_ 0 2 [[(iN ((List.length (tuR a b c d e f g h (l8 i)).al))),(d9 4 (tuR a b c d e f g h (l8 i)).ga 2 (l7 (tuR a b c d e f g h (l8 i)).al).length)]])
abbrev d3J (a:l9E) (b:Nat) (c:l9K) (d:Nat) (e:Int) (f:Int) (g:y9) (h:Msg) (i:Int):Ob:=(o_ ((tuR a b c d e f g h (l8 i)).ga) 2 (mK (l7 (tuR a b c d e f g h (l8 i)).al)))
abbrev c6o (a:Int) (b:l9E) (c:Nat) (d:l9K) (e:Nat) (f:Int) (g:y9) (h:Msg) (i:Int):Ob:=(o_ 0 7 [[(iI a),(iI (tuR b c d e f a g h (l8 i)).st.t),(iI (tuR b c d e f a g h (l8 i)).st.node),(iI (tuR b c d e f a g h (l8 i)).st.n),(j3 0),(j3 2),(j3 3)]])
abbrev d8n (a:l9E) (b:Nat) (c:l9K) (d:Nat) (e:Int) (f:Int) (g:y9) (h:Msg) (i:Int) (j:Int) (k:Int):Heap:=[d3N a b c d e f g h i,d3M a b c d e f g h i,d3L j k a b c d e f g h i,d3K a b c d e f g h i,d3J a b c d e f g h i,c6o f a b c d e g h i]
@[simp] abbrev G8 :Ob:=(o_ 0 13 [[z_,z_,z_,z_,z_,z_,z_,e_,e_,bF,H9,w9,w9]])
abbrev d1G (a:Nat) (b:l9E) (c:Int) (d:Int) (e:Int) (f:l9K) (g:Nat) (h:Int) (i:y9):Heap:=[W9 a b,(o_ a 10 (mE b)),M0 c d e,Q8 f g,(o_ g 2 (mK (l7 f))),V4 h i,G8]
abbrev d7m (a:Msg):=[[(iI 2),(iI a.op),z_,z_,(iI a.tag),z_,z_,(AV.str a.key.app),(AV.str a.key.id),bF,H9,w9,w9]]
abbrev c6n (a:Msg):Ob:=(o_ 0 13 (d7m a))
abbrev a6V (a:Nat) (b:l9E) (c:Int) (d:Int) (e:Int) (f:l9K) (g:Nat) (h:Int) (i:y9) (j:Msg):Heap:=[W9 a b,(o_ a 10 (mE b)),M0 c d e,Q8 f g,(o_ g 2 (mK (l7 f))),V4 h i,G8,c6n j]
abbrev d8m (a:l9E) (b:Nat) (c:l9K) (d:Nat) (e:Int) (f:Int) (g:y9) (h:Msg) (i:Int) (j:Int) (k:Int):Heap:=[d3N a b c d e f g h i,d3M a b c d e f g h i,d3L j k a b c d e f g h i,d3K a b c d e f g h i,d3J a b c d e f g h i,c6o f a b c d e g h i,G8,c6n h]
theorem bY {p:Prop} (h:p:=by rw [hk]; rfl):p:=h
abbrev e0P (a:Msg) (b:l9E) (d:Nat) (e:l9K) (f:Nat) (g h:Int) (i:y9) (j:Int):=(AV.tup [(p9 [(iI 2),(iI a.op),z_,(iI (tuR b d e f g h i a (l8 j)).code),(iI a.tag),z_,z_,(AV.str a.key.app),(AV.str a.key.id),bF,H9,(sA 9 (mC [])),(sA 2 (mK []))]),(sA 9 (mC (tuR b d e f g h i a (l8 j)).c))])
theorem c9V (l:l9E) (g:Nat) (al:l9K) (ga:Nat) (gf gl gt nd:Int) (st:y9) (q:Msg) (now:Int) (hl:l.length < 1000) (ha:al.length < 100000) (hgt:0<=gt/\gt < 4611686018427387904) (ho1:1<=q.op) (ho5:q.op < 5) (hs0:0<=q.status) (hk:q.kind=1) (hr:R4 q=true):AC 31 [(j3 5),(p9 (Msg.row q)),(iI now)] (M9 g l gf gl gt al ga nd st) ((AV.tup [(p9 (Msg.row (hdM q (tuR l g al ga gt nd st q (l8 now)).code))),(sA 9 (mC (tuR l g al ga gt nd st q (l8 now)).c))]),(d8n l g al ga gt nd st q now gf gl)) :=
 x9 (fn:=Tryz.f31) (ann:=d6m) (Has.o Tryz.func31) (.r (.s (.c 1 ((iB now).lift kr kr (d1G g l gf gl gt al ga nd st)) (.s (.s (.h' (a6V g l gf gl gt al ga nd st q) (.y 2 (bB (q.kind != 1)) bF (Yes.b bY) (.n2 (.c 5 ((cK q oa).lift kr kr (a6V g l gf gl gt al ga nd st q)) (.n (.rn (.y 2 (bB (q.op == 5)) bF (Yes.b (by have z:¬ q.op=5:=ow; simpa using z)) (.rn (.ch 3 (d8m l g al ga gt nd st q now gf gl) (j5.put2 [0,1,2,3,4,5] (a6V g l gf gl gt al ga nd st q) (AV.tup [(sA 9 (mC (tuR l g al ga gt nd st q (l8 now)).c)),(iI (tuR l g al ga gt nd st q (l8 now)).code)]) (d8m l g al ga gt nd st q now gf gl) (c1I l g al ga gf gl gt nd st q (l8 now) oa oa oa oa oa oa) rlA rlA) (.s (.s (.o (rfl:0=0) (.o (rfl:0=0) (.g (.h' (d8n l g al ga gt nd st q now gf gl) (.q 6 (e0P q l g al ga gt nd st now))))))))))))))))))))))
def d0c:Ann:={ refs:=[11],fin:=some 0 }
theorem Z5 (tx:ByteArray) (code:Int) (h:¬ code=0):AC 53 [(AV.str tx),(iI code)] [] ((AV.iface 166 (AV.ref [(AV.str tx),(AV.iface 109 (iI code))] 0)),[]) :=
 x9 (fn:=Tryz.f53) (ann:=d0c) (Has.o Tryz.func53) (.r (.s (.y 1 (bB (code == 0)) bF (Yes.b yj_) (.g (.n (.qr 0 (AV.iface 166 (AV.ref [(AV.str tx),(AV.iface 109 (iI code))] 0))))))))
theorem a3d {q:Msg} (hk:q.kind=1) (h:O1 q=true):q.code=0/\q.full=false/\q.sum=0/\q.cards=[]/\q.keys=[]:=by
 with_unfolding_all
  unfold O1 at h
  rw [if_pos hk] at h
  simp only [iY,Bool.and_eq_true,decide_eq_true_eq,beq_iff_eq,List.length_eq_zero_iff] at h
  obtain ⟨h1,h2,_,_,_,h3,_,_,_,_,h4,h5⟩:=h
  exact ⟨h3,h4,h5,h1,h2⟩
def mR (b:List UInt8) (code:Int):AV:=.ref [.str (ByteArray.mk b.toArray),.iface 109 (.int .i64 code)] 0
def lJ (q:Msg):AV:=if O1 q=false then mR [122,101,114,111] 12 else if opM q=false then mR [111,112] 12 else mR [110,117,109,98,101,114] 1
@[simp] theorem e0C (n:Nat) (q:Msg):AV.bdd n (lJ q)=true:=by unfold lJ mR; split <;> (try split) <;> simp [AV.bdd,AV.bdds]
def d5Y:Ann:={ refs:=[1],fin:=some 0 }
theorem nO {p:Prop} (h:p:=by rw [hz]; rfl):p:=h
abbrev b9l :=(AV.ref [(AV.str (ByteArray.mk #[122,101,114,111])),(AV.iface 109 (iI 12))] 0)
theorem c8X (q:Msg) (hk:q.kind=1) (hz:O1 q=false):AC 30 [(p9 (Msg.row q))] [] ((AV.iface 166 b9l),[]) :=
 x9 (fn:=Tryz.f30) (ann:=d5Y) (Has.o Tryz.func30) (.r (.s (.y 2 (jY q) bF (Yes.b bY) (.n3 (.y 6 (lK q) bF (Yes.b bY) (.rn (.c 1 (bD q  ([]:Heap)) (.y 2 (bB (!(O1 q))) bT (Yes.b nO) (.ru (.c 0 ((Z5 (ByteArray.mk #[122,101,114,111]) 12 oa).lift kr kr []) (.q 0 (AV.iface 166 b9l))))))))))))
def d5Z:Ann:={ refs:=[1],fin:=some 0 }
abbrev b9k :=(AV.ref [(AV.str (ByteArray.mk #[111,112])),(AV.iface 109 (iI 12))] 0)
theorem c8Y (q:Msg) (hk:q.kind=1) (hz:O1 q=true) (ho:opM q=false):AC 30 [(p9 (Msg.row q))] [] ((AV.iface 166 b9k),[]) :=
 x9 (fn:=Tryz.f30) (ann:=d5Z) (Has.o Tryz.func30) (.r (.s (.y 2 (jY q) bF (Yes.b bY) (.n3 (.y 6 (lK q) bF (Yes.b bY) (.rn (.c 1 (bD q  ([]:Heap)) (.y 2 (bB (!(O1 q))) bF (Yes.b nO) (.rn (.c 1 (iG q  ([]:Heap)) (.y 2 (bB (!(opM q))) bT (Yes.b aZ) (.ru (.c 0 ((Z5 (ByteArray.mk #[111,112]) 12 oa).lift kr kr []) (.q 0 (AV.iface 166 b9k)))))))))))))))
def c9a:Ann:={ refs:=[1],fin:=some 0 }
abbrev xL :=(AV.ref [(AV.str (ByteArray.mk #[110,117,109,98,101,114])),(AV.iface 109 (iI 1))] 0)
theorem c3s (q:Msg) (hk:q.kind=1) (hz:O1 q=true) (ho:opM q=true) (hn:K6 q.status=false):AC 30 [(p9 (Msg.row q))] [] ((AV.iface 166 xL),[]) :=
 x9 (fn:=Tryz.f30) (ann:=c9a) (Has.o Tryz.func30) (.r (.s (.y 2 (jY q) bF (Yes.b bY) (.n3 (.y 6 (lK q) bF (Yes.b bY) (.rn (.c 1 (bD q  ([]:Heap)) (.y 2 (bB (!(O1 q))) bF (Yes.b nO) (.rn (.c 1 (iG q  ([]:Heap)) (.y 2 (bB (!(opM q))) bF (Yes.b aZ) (.rn (.c 2 (R3 q.code  ([]:Heap)) (.y 3 (bB (!(K6 q.code))) bF (Yes.b (by rw [(a3d hk hz).1]; with_unfolding_all rfl)) (.n3 (.c 7 (R3 q.status  ([]:Heap)) (.n (.y 8 (bB (!(K6 q.status))) bT (Yes.b (by rw [hn]; rfl)) (.u3 (.ru (.c 0 ((Z5 (ByteArray.mk #[110,117,109,98,101,114]) 1 oa).lift kr kr []) (.q 0 (AV.iface 166 xL)))))))))))))))))))))))
def c8Z:Ann:={ refs:=[1],fin:=some 0 }
theorem c3r (q:Msg) (hk:q.kind=1) (hz:O1 q=true) (ho:opM q=true) (hn:K6 q.status=true) (hs:q.seq < -1):AC 30 [(p9 (Msg.row q))] [] ((AV.iface 166 xL),[]) :=
 x9 (fn:=Tryz.f30) (ann:=c8Z) (Has.o Tryz.func30) (.r (.s (.y 2 (jY q) bF (Yes.b bY) (.n3 (.y 6 (lK q) bF (Yes.b bY) (.rn (.c 1 (bD q  ([]:Heap)) (.y 2 (bB (!(O1 q))) bF (Yes.b nO) (.rn (.c 1 (iG q  ([]:Heap)) (.y 2 (bB (!(opM q))) bF (Yes.b aZ) (.rn (.c 2 (R3 q.code  ([]:Heap)) (.y 3 (bB (!(K6 q.code))) bF (Yes.b (by rw [(a3d hk hz).1]; with_unfolding_all rfl)) (.n3 (.c 7 (R3 q.status  ([]:Heap)) (.n (.y 8 (bB (!(K6 q.status))) bF (Yes.b (by rw [hn]; rfl)) (.n3 (.y 13 (a3O q) bT (Yes.b (decide_eq_true hs)) (.ru (.c 0 ((Z5 (ByteArray.mk #[110,117,109,98,101,114]) 1 oa).lift kr kr []) (.q 0 (AV.iface 166 xL))))))))))))))))))))))))
theorem c9d (q : Msg) (hk : q.kind = 1) (hr : R4 q = false) : AC 30 [(p9 (Msg.row q))] [] ((AV.iface 166 (lJ q)), []) := by
  cases hz : O1 q with
  | false => have e : lJ q = mR [122, 101, 114, 111] 12 := by unfold lJ; rw [if_pos hz]
             rw [e]; exact c8X q hk hz
  | true =>
    cases ho : opM q with
    | false => have e : lJ q = mR [111, 112] 12 := by unfold lJ; rw [if_neg (by rw [hz]; simp), if_pos ho]
               rw [e]; exact c8Y q hk hz ho
    | true =>
      have e : lJ q = mR [110, 117, 109, 98, 101, 114] 1 := by unfold lJ; rw [if_neg (by rw [hz]; simp), if_neg (by rw [ho]; simp)]
      rw [e]
      cases hn : K6 q.status with
      | false => exact c3s q hk hz ho hn
      | true =>
        refine c3r q hk hz ho hn ?_
        obtain ⟨c1, c2, c3, c4, c5⟩ := a3d hk hz
        have hw : K6 0 = true := by with_unfolding_all rfl
        by_cases h : q.seq < -1
        · exact h
        · have : R4 q = true := by
            with_unfolding_all
              unfold R4
              rw [hz, ho, c1, hw, hn, c4, c5, hk, decide_eq_true (show -1 ≤ q.seq by omega)]
              rfl
          rw [this] at hr; simp at hr
theorem d6I (q:Msg) (hk:q.kind=1) (hr:R4 q=false) (H:Heap):AC 30 [(p9 (Msg.row q))] H ((AV.iface 166 (lJ q)),H):=(c9d q hk hr).lift kr (by simp [AV.bdd,AV.bdds]) H
attribute [local irreducible] lJ
def d6j:Ann:={ refs:=[4],gha:=[(5,.frzf 6 11 9),(5,.frzf 6 12 2),(5,.any 7 9)],base:=6,fin:=some 6 }
abbrev d7l (a:Msg):=(AV.tup [(p9 [(iI 2),(iI a.op),z_,(iI 1),(iI a.tag),z_,z_,(AV.str a.key.app),(AV.str a.key.id),bF,H9,(sA 9 (mC [])),(sA 2 (mK []))]),(sA 9 [])])
theorem c9S (l:l9E) (g:Nat) (al:l9K) (ga:Nat) (gf gl gt nd:Int) (st:y9) (q:Msg) (now:Int) (hk:¬ q.kind=1):AC 31 [(j3 5),(p9 (Msg.row q)),(iI now)] (M9 g l gf gl gt al ga nd st) ((AV.tup [(p9 (Msg.row (hdM q 1))),(sA 9 (mC ([]:l9C)))]),(M9 g l gf gl gt al ga nd st)) :=
 x9 (fn:=Tryz.f31) (ann:=d6j) (Has.o Tryz.func31) (.r (.s (.c 1 ((iB now).lift kr kr (d1G g l gf gl gt al ga nd st)) (.s (.s (.h' (a6V g l gf gl gt al ga nd st q) (.y 2 (bB (q.kind != 1)) bT (Yes.b (by simpa using hk)) (.u3 (.ru (.s (.o (rfl:0=0) (.o (rfl:0=0) (.g (.h' (M9 g l gf gl gt al ga nd st) (.q 6 (d7l q))))))))))))))))
def d6l:Ann:={ refs:=[4],gha:=[(5,.frzf 6 11 9),(5,.frzf 6 12 2),(5,.any 7 9)],base:=6,fin:=some 6 }
theorem c9U (l:l9E) (g:Nat) (al:l9K) (ga:Nat) (gf gl gt nd:Int) (st:y9) (q:Msg) (now:Int) (hk:q.kind=1) (hr:R4 q=false):AC 31 [(j3 5),(p9 (Msg.row q)),(iI now)] (M9 g l gf gl gt al ga nd st) ((AV.tup [(p9 (Msg.row (hdM q 1))),(sA 9 (mC ([]:l9C)))]),(M9 g l gf gl gt al ga nd st)) :=
 x9 (fn:=Tryz.f31) (ann:=d6l) (Has.o Tryz.func31) (.r (.s (.c 1 ((iB now).lift kr kr (d1G g l gf gl gt al ga nd st)) (.s (.s (.h' (a6V g l gf gl gt al ga nd st q) (.y 2 (bB (q.kind != 1)) bF (Yes.b bY) (.n2 (.c 5 (d6I q oa oa (a6V g l gf gl gt al ga nd st q)) (.n (.ru (.s (.o (rfl:0=0) (.o (rfl:0=0) (.g (.h' (M9 g l gf gl gt al ga nd st) (.q 6 (d7l q))))))))))))))))))
def Tp.ask (t:Tp):Msg × Tp :=
 let u:=(t.step 50).step 5
 if (((1+(t.step 50).next 5:Nat):Int) == 5)=true then (⟨1,((1+(t.step 50).next 5:Nat):Int),0,0,((t.next 50:Nat):Int),0,((u.next 40:Nat):Int) - 1,⟨⟨#[]⟩,⟨#[]⟩⟩,false,0,[],[]⟩,u.step 40)
 else (⟨1,((1+(t.step 50).next 5:Nat):Int),((((u.keyT).step 60).next 5:Nat):Int),0,((t.next 50:Nat):Int),(((u.keyT).next 60:Nat):Int),0,u.key,false,0,[],[]⟩,((u.keyT).step 60).step 5)
def c7Y:Ann:={ gha:=[(4,.frzf 2 11 9),(4,.frzf 2 12 2),(6,.frzf 2 11 9),(6,.frzf 2 12 2)],base:=1,fin:=some 1 }
abbrev b1Z (a:Tp):Heap:=[(o_ 0 2 [(Tp.row (a.step 50))]),G8,G8]
abbrev c0u (a:Tp):Heap:=[(o_ 0 2 [(Tp.row ((a.step 50).step 5))]),G8,G8]
abbrev vI (a:Tp):Ob:=(o_ 0 13 [[(iI 1),(iN (1+((a.step 50).next 5))),z_,z_,(iN (a.next 50)),z_,z_,e_,e_,bF,H9,w9,w9]])
abbrev c0t (a:Tp):Heap:=[(o_ 0 2 [(Tp.row (((a.step 50).step 5).step 40))]),G8,vI a]
abbrev c0s (a:Tp):Heap:=[(o_ 0 2 [(Tp.row ((a.step 50).step 5))]),G8,vI a]
abbrev a5v (a:Tp):Heap:=[(o_ 0 2 [(Tp.row ((a.step 50).step 5).keyT)]),G8,vI a]
abbrev a5u (a:Tp):Heap:=[(o_ 0 2 [(Tp.row (((a.step 50).step 5).keyT.step 60))]),G8,vI a]
abbrev a8U (a:Tp):Heap:=[(o_ 0 2 [(Tp.row ((((a.step 50).step 5).keyT.step 60).step 5))]),G8,vI a]
theorem a6e {p:Prop} (h:p:=by first | omega | assumption | (simp; done) | (simp; omega) | (simp only [Tp.bA,Tp.mP]; assumption)):p:=h
theorem c1Q (t:Tp) (hl:t.l.length < 9223372036854775808):AC 28 [(AV.obj 0 0 0 0)] [(o_ 0 2 [(Tp.row t)])] ((p9 (Msg.row t.ask.1)),[(o_ 0 2 [(Tp.row t.ask.2)])]):=by
 have n5:=(t.step 50).next_lt 5 ow
 have n4:=((t.step 50).step 5).next_lt 40 ow
 exact x9 (fn:=Tryz.f28) (ann:=c7Y) (Has.o Tryz.func28) (.r (.s (.ch 1 (b1Z t) (j5.put2 [0] [(o_ 0 2 [(Tp.row t)]),(o_ 0 13 [[(AV.int .i64 0),(AV.int .i64 0),(AV.int .i64 0),(AV.int .i64 0),(AV.int .i64 0),(AV.int .i64 0),(AV.int .i64 0),(AV.str ⟨#[]⟩),(AV.str ⟨#[]⟩),(AV.bool false),H9,w9,w9]]),(o_ 0 13 [[(AV.int .i64 0),(AV.int .i64 0),(AV.int .i64 0),(AV.int .i64 0),(AV.int .i64 0),(AV.int .i64 0),(AV.int .i64 0),(AV.str ⟨#[]⟩),(AV.str ⟨#[]⟩),(AV.bool false),H9,w9,w9]])] (AV.int .i64 ((t.next 50:Nat):Int)) (b1Z t) (H7 t 50 a6e) D5 D5) (.ch 3 (c0u t) (j5.put2 [0] (b1Z t) (AV.int .i64 (((t.step 50).next 5:Nat):Int)) (c0u t) (H7 (t.step 50) 5 a6e) D5 D5) (.y 4 (iW (1+(((t.step 50).next 5:Nat):Int))) (AV.int .i64 ((1+((t.step 50).next 5):Nat):Int)) Yes.o (.s (.g (.two (((1+((t.step 50).next 5):Nat):Int) == 5) (fun h1 h1'=>(.r (.ch 1 (c0t t) (j5.put2 [0] (c0s t) (AV.int .i64 ((((t.step 50).step 5).next 40:Nat):Int)) (c0t t) (H7 ((t.step 50).step 5) 40 a6e) D5 D5) (.y 2 (iW (((((t.step 50).step 5).next 40:Nat):Int) - 1)) (AV.int .i64 (((((t.step 50).step 5).next 40:Nat):Int) - 1)) Yes.o (.s (.o (rfl:0=0) (.o (rfl:0=0) (.g (.h' [(o_ 0 2 [(Tp.row (((t.step 50).step 5).step 40))])] (.q 1 (p9 [(AV.int .i64 1),(AV.int .i64 ((1+((t.step 50).next 5):Nat):Int)),(AV.int .i64 0),(AV.int .i64 0),(AV.int .i64 ((t.next 50:Nat):Int)),(AV.int .i64 0),(AV.int .i64 (((((t.step 50).step 5).next 40:Nat):Int) - 1)),(AV.str ⟨#[]⟩),(AV.str ⟨#[]⟩),(AV.bool false),H9,(AV.sl .any 9 (List.map j4.row [])),(AV.sl .any 2 (List.map Key.row []))]) (by (try delta b1Z c0u c0t c0s a5v a5u a8U G8 G8 vI); unfold Tp.ask; simp only []; rw [if_pos h1]; first | done | rfl))))))))))) (fun h1 h1'=>(.r (.ch 1 (a5v t) (j5.put2 [0] (c0s t) (p9 (Key.row ((t.step 50).step 5).key)) (a5v t) (uY ((t.step 50).step 5) a6e) D5 D5) (.ch 3 (a5u t) (j5.put2 [0] (a5v t) (AV.int .i64 ((((t.step 50).step 5).keyT.next 60:Nat):Int)) (a5u t) (H7 ((t.step 50).step 5).keyT 60 a6e) D5 D5) (.ch 5 (a8U t) (j5.put2 [0] (a5u t) (AV.int .i64 (((((t.step 50).step 5).keyT.step 60).next 5:Nat):Int)) (a8U t) (H7 (((t.step 50).step 5).keyT.step 60) 5 a6e) D5 D5) (.s (.o (rfl:0=0) (.o (rfl:0=0) (.g (.h' [(o_ 0 2 [(Tp.row ((((t.step 50).step 5).keyT.step 60).step 5))])] (.q 1 (p9 [(AV.int .i64 1),(AV.int .i64 ((1+((t.step 50).next 5):Nat):Int)),(AV.int .i64 (((((t.step 50).step 5).keyT.step 60).next 5:Nat):Int)),(AV.int .i64 0),(AV.int .i64 ((t.next 50:Nat):Int)),(AV.int .i64 ((((t.step 50).step 5).keyT.next 60:Nat):Int)),(AV.int .i64 0),(AV.str ((t.step 50).step 5).key.app),(AV.str ((t.step 50).step 5).key.id),(AV.bool false),H9,(AV.sl .any 9 (List.map j4.row [])),(AV.sl .any 2 (List.map Key.row []))]) (by (try delta b1Z c0u c0t c0s a5v a5u a8U G8 G8 vI); unfold Tp.ask; simp only []; (rw [if_neg a3e]); first | done | rfl))))))))))))))))))))
end Go.Proofs.YtmghjcbabebanaaGreat.AM
namespace Go.Proofs.YtmghjcbabebanaaGreat.AM
open Go Go.Proofs.YtmghjcbabebanaaGreat
attribute [local irreducible] D7 E9 G6 H6 J2 J4 J9 K3 K5 M4 O7 V9 X6 Y8 atC bQ fP iX j5 l6 l7 ofB okS q9 r9
def b9F:Ann:={ base:=4,fin:=some 4 }
@[simp] abbrev a1t (a:l9K) (b:Nat):=[[(iN (a.length)),(d9 3 b 2 (l7 a).length)]]
@[simp] abbrev qF (a:l9K) (b:Nat):Ob:=(o_ 0 2 (a1t a b))
abbrev xV (a:Int) (b:Nat) (c:Nat) (d:l9E) (e:l9K) (f:Nat):Heap:=[bR a b c,(o_ b 10 (mE d)),qF e f,(o_ f 2 (mK (l7 e)))]
abbrev oV (a:Int) (b:Nat) (c:Nat) (d:l9E) (e:l9K) (f:Nat):Heap:=[bR a b c,(o_ b 10 (mE d)),qF e f,(o_ f 2 (mK (l7 e))),G8]
@[simp] abbrev bN (a:l9E):=(AV.int .u32 (ofB (a.map Entry.card)))
theorem a3b (most:Int) (l:l9E) (g n:Nat) (al:l9K) (ga:Nat) (hn:n=l.length) (hl:l.length < 1000) (ha:al.length < 1000000):AC 160 [(j3 0),(j3 2)] (xV most g n l al ga) ((p9 [(iI 2),(iI 5),z_,z_,z_,z_,(iN al.length),e_,e_,bF,(bN l),w9,w9]),(xV most g n l al ga)):=by
 have hm:(l.map Entry.card).length=l.length:=List.length_map _
 exact x9 (fn:=Tryz.f160) (ann:=b9F) (Has.o Tryz.func160) (.r (.s (.c 1 (j5.put2 [2,3] (oV most g n l al ga) (iN al.length) (oV most g n l al ga) (c8k al ga ) rlD rlD) (.c 3 (j5.put2 [0,1] (oV most g n l al ga) (sA 9 (mC (l.map (·.card)))) (oV most g n l al ga) (bS most l g n oa oa) rlF rlF) (.c 4 ((a9G (l.map (·.card)) oa).lift kr kr (oV most g n l al ga)) (.q 4 (p9 [(iI 2),(iI 5),z_,z_,z_,z_,(iN al.length),e_,e_,bF,(AV.int .u32 (ofB (l.map (·.card)))),w9,w9])))))))
def b7L:Ann:={ base:=4,fin:=some 4 }
abbrev c0r (a:Int) (b:Nat) (c:Nat) (d:l9E) (e:l9K) (f:Nat):Heap:=[bR a b c,(o_ b 10 (mE d)),qF e f,(o_ f 2 (mK (l7 e))),G8,G8]
abbrev d1F (a:Int) (b:Nat) (c:Nat) (d:l9E) (e:l9K) (f:Nat):Heap:=[bR a b c,(o_ b 10 (mE d)),qF e f,(o_ f 2 (mK (l7 e))),G8,(o_ 0 13 [[(iI 2),(iI 5),z_,z_,z_,z_,(iN e.length),e_,e_,bF,(bN d),w9,w9]])]
abbrev a1s (a:l9E):=(sA 9 (mC (Y8 (a.map Entry.card))))
theorem xG (most:Int) (l:l9E) (g n:Nat) (al:l9K) (ga:Nat) (hn:n=l.length) (hl:l.length < 1000) (ha:al.length < 1000000):AC 109 [(j3 0),(j3 2)] (xV most g n l al ga) ((p9 [(iI 2),(iI 5),z_,z_,z_,z_,(iN al.length),e_,e_,bT,(bN l),(a1s l),w9]),(xV most g n l al ga)):=by
 have hm:(l.map Entry.card).length=l.length:=List.length_map _
 exact x9 (fn:=Tryz.f109) (ann:=b7L) (Has.o Tryz.func109) (.r (.s (.n2 (.rn (.c 2 (j5.put2 [0,1,2,3] (c0r most g n l al ga) (p9 [(iI 2),(iI 5),z_,z_,z_,z_,(iN al.length),e_,e_,bF,(bN l),w9,w9]) (c0r most g n l al ga) (a3b most l g n al ga oa oa oa) rlE rlE) (.s (.c 1 (j5.put2 [0,1] (d1F most g n l al ga) (sA 9 (mC (l.map (·.card)))) (d1F most g n l al ga) (bS most l g n oa oa) rlF rlF) (.c 2 ((a4n (l.map (·.card)) oa).lift kr kr (d1F most g n l al ga)) (.g (.qr 4 (p9 [(iI 2),(iI 5),z_,z_,z_,z_,(iN al.length),e_,e_,bT,(bN l),(sA 9 (mC (Y8 (l.map (·.card))))),w9])))))))))))
def tH:Ann:={ gh:=[(16,.frzf 9 11 9)],gha:=[(6,.virf 9 11 9),(15,.cut 7)],base:=4,fin:=some 4,live:=[(8,[0,6,9,36,37,38])],out:=[(8,[0,6,9,36,37,38])] }
@[simp] abbrev d8l (a:l9K) (b:Nat):Fr:=(mkF 61 [(0,(j3 0)),(6,(j3 4)),(9,(j3 5)),(36,(sA 2 (mK a))),(37,(iN a.length)),(38,(iN (b+1)))])
@[simp] abbrev d3E (a:l9K) (b:l9E) (c:Nat) (d:Nat):Ob:=(o_ 0 13 [[(iI 2),(iI 5),z_,z_,z_,z_,(iN a.length),e_,e_,bF,(bN b),(xP c d),w9]])
@[simp] abbrev d8k (a:Int) (b:Nat) (c:Nat) (d:l9E) (e:l9K) (f:Nat) (g:Nat) (h:Nat) (i:l9C) (j:l9K) (k:Nat):Heap:=[bR a b c,(o_ b 10 (mE d)),qF e f,(o_ f 2 (mK (l7 e))),G8,d3E e d g h,(o_ (g+1) 9 (mC (i++[(q9 d (nth j k)).card])))]
@[simp] abbrev d8j (a:Int) (b:Nat) (c:Nat) (d:l9E) (e:l9K) (f:Nat) (g:Nat) (h:Nat) (i:l9C) (j:l9K) (k:Nat):Heap:=[bR a b c,(o_ b 10 (mE d)),qF e f,(o_ f 2 (mK (l7 e))),G8,d3E e d g h,(o_ (g+1) 9 (mC (i++[(j4.mk (nth j k) 2 0 1 (y9.mk 0 0 0) true)])))]
@[simp] abbrev d1E (a:l9K) (b:Nat):Fr:=(mkF 61 [(0,(j3 0)),(6,(j3 4)),(9,(j3 5)),(36,(sA 2 (mK a))),(37,(iN a.length)),(38,(iN b))])
@[simp] abbrev d3D (a:l9K) (b:l9E) (c:Nat) (d:Nat):Ob:=(o_ 0 13 [[(iI 2),(iI 5),z_,z_,z_,z_,(iN a.length),e_,e_,bF,(bN b),(d9 6 c 9 d),w9]])
@[simp] abbrev d1D (a:Int) (b:Nat) (c:Nat) (d:l9E) (e:l9K) (f:Nat) (g:Nat) (h:Nat) (i:l9C):Heap:=[bR a b c,(o_ b 10 (mE d)),qF e f,(o_ f 2 (mK (l7 e))),G8,d3D e d g h,(o_ g 9 (mC i))]
abbrev b1p (a:l9K) (b:Nat):=[[(AV.str (nth a b).app),(AV.str (nth a b).id),(iI 2),z_,(iI 1),z_,z_,z_,bT]]
abbrev d3I (a:Int) (b:Nat) (c:Nat) (d:l9E) (e:l9K) (f:Nat) (g:Nat) (h:Nat) (i:l9C) (j:l9K) (k:Nat):Heap:=[bR a b c,(o_ b 10 (mE d)),qF e f,(o_ f 2 (mK (l7 e))),G8,d3D e d g h,(o_ g 9 (mC i)),(o_ 0 2 [(Key.row (nth j k))]),(o_ 0 9 (b1p j k)),(o_ 0 10 [[e_,e_,z_,z_,z_,z_,z_,z_,bF,z_]])]
@[simp] abbrev b9j :=(C8 tH Tryz.f110 0)
theorem a2X (most:Int) (l:l9E) (g:Nat) (n:Nat) (al:l9K) (ga:Nat) (ks:l9K) (out:l9C) (k:Nat) (gc:Nat) (i:Nat) (hn:n=l.length) (hl:l.length < 1000) (ha:al.length < 1000000) (hk:ks.length < 1000000) (hko:k=out.length) (hki:k<=i) (hle_:i<=ks.length) {eX:Ex} {FX:Fr} {HX:Heap} (k1:(l9 i ks.length)=true->(D7 l (nth ks i))=true->l6 b9j (some [0,6,9,36,37,38]) (some [0,6,9,36,37,38]) (d8l ks i) (d8k most g n l al ga gc k out ks i) eX FX HX) (k2:(l9 i ks.length)=true->(D7 l (nth ks i))=false->l6 b9j (some [0,6,9,36,37,38]) (some [0,6,9,36,37,38]) (d8l ks i) (d8j most g n l al ga gc k out ks i) eX FX HX) (k3:(l9 i ks.length)=false->((.exit 0:Ex),(d1E ks i),(d1D most g n l al ga gc k out))=(eX,FX,HX)):l6 b9j (some [0,6,9,36,37,38]) (some [0,6,9,36,37,38]) (d1E ks i) (d1D most g n l al ga gc k out) eX FX HX :=
 J7 (.r (.g (.two (l9 i ks.length) (fun h1 h1'=>(.r (.h' [(o_ 0 2 (xR most g n)),(o_ g 10 (mE l)),(o_ 0 2 (a1t al ga)),(o_ ga 2 (mK (l7 al))),(o_ 0 13 [[z_,z_,z_,z_,z_,z_,z_,e_,e_,bF,H9,w9,w9]]),(o_ 0 13 [[(iI 2),(iI 5),z_,z_,z_,z_,(iN al.length),e_,e_,bF,(bN l),(d9 6 gc 9 k),w9]]),(o_ gc 9 (mC out)),(o_ 0 2 [[e_,e_]])] (.is 0 2 2 (mK ks) (i:Int) (Key.row (nth ks i)) (N7.mk _ ow ow) (.s (.s (.c 2 (j5.put2 [0,1] (d3I most g n l al ga gc k out ks i) (AV.tup [(p9 (Entry.row (q9 l (nth ks i)))),(bB (D7 l (nth ks i)))]) (d3I most g n l al ga gc k out ks i) (a0b most l (nth ks i) g n oa oa) rlF rlF) (.s (.g (.two (D7 l (nth ks i)) (fun h2 h2'=>(.r (.s (.h' [(o_ 0 2 (xR most g n)),(o_ g 10 (mE l)),(o_ 0 2 (a1t al ga)),(o_ ga 2 (mK (l7 al))),(o_ 0 13 [[z_,z_,z_,z_,z_,z_,z_,e_,e_,bF,H9,w9,w9]]),(o_ 0 13 [[(iI 2),(iI 5),z_,z_,z_,z_,(iN al.length),e_,e_,bF,(bN l),(d9 6 gc 9 k),w9]]),(o_ gc 9 (mC out)),(o_ 0 2 [(Key.row (nth ks i))]),(o_ 0 9 [(j4.row (q9 l (nth ks i)).card)]),(o_ 0 10 [(Entry.row (q9 l (nth ks i)))])] (.ap 4 30 (d9 6 gc 9 k) (AV.sl .clip 9 [(j4.row (q9 l (nth ks i)).card)]) (xP gc k) [(o_ 0 2 (xR most g n)),(o_ g 10 (mE l)),(o_ 0 2 (a1t al ga)),(o_ ga 2 (mK (l7 al))),(o_ 0 13 [[z_,z_,z_,z_,z_,z_,z_,e_,e_,bF,H9,w9,w9]]),(o_ 0 13 [[(iI 2),(iI 5),z_,z_,z_,z_,(iN al.length),e_,e_,bF,(bN l),(d9 6 gc 9 k),w9]]),(o_ (gc+1) 9 (mC (out++[(q9 l (nth ks i)).card]))),(o_ 0 2 [(Key.row (nth ks i))]),(o_ 0 9 [(j4.row (q9 l (nth ks i)).card)]),(o_ 0 10 [(Entry.row (q9 l (nth ks i)))])] (I4 (row:=j4.row) (l:=out) (x:=(q9 l (nth ks i)).card) (T:=tt) (e:=50) (te:=bZ) (z:=1) (b:=24) (y:=[.sl .nil 0 []]) kr kr rfl D8 D8 kr Z0 rfl rfl gV) (.s (.h' [(o_ 0 2 (xR most g n)),(o_ g 10 (mE l)),(o_ 0 2 (a1t al ga)),(o_ ga 2 (mK (l7 al))),(o_ 0 13 [[z_,z_,z_,z_,z_,z_,z_,e_,e_,bF,H9,w9,w9]]),(o_ 0 13 [[(iI 2),(iI 5),z_,z_,z_,z_,(iN al.length),e_,e_,bF,(bN l),(xP gc k),w9]]),(o_ (gc+1) 9 (mC (out++[(q9 l (nth ks i)).card]))),(o_ 0 2 [(Key.row (nth ks i))]),(o_ 0 9 [(j4.row (q9 l (nth ks i)).card)]),(o_ 0 10 [(Entry.row (q9 l (nth ks i)))])] (.y 0 (.int .i64 (cb_ i)) (iN (i+1)) Yes.o (.h' (d8k most g n l al ga gc k out ks i) (.b 7 (.g (.l (k1 h1 h2))))))))))))) (fun h2 h2'=>(.r (.h' [(o_ 0 2 (xR most g n)),(o_ g 10 (mE l)),(o_ 0 2 (a1t al ga)),(o_ ga 2 (mK (l7 al))),(o_ 0 13 [[z_,z_,z_,z_,z_,z_,z_,e_,e_,bF,H9,w9,w9]]),(o_ 0 13 [[(iI 2),(iI 5),z_,z_,z_,z_,(iN al.length),e_,e_,bF,(bN l),(d9 6 gc 9 k),w9]]),(o_ gc 9 (mC out)),(o_ 0 2 [(Key.row (nth ks i))]),(o_ 0 9 (b1p ks i)),(o_ 0 10 [(Entry.row (q9 l (nth ks i)))])] (.ap 4 30 (d9 6 gc 9 k) (AV.sl .clip 9 (b1p ks i)) (xP gc k) [(o_ 0 2 (xR most g n)),(o_ g 10 (mE l)),(o_ 0 2 (a1t al ga)),(o_ ga 2 (mK (l7 al))),(o_ 0 13 [[z_,z_,z_,z_,z_,z_,z_,e_,e_,bF,H9,w9,w9]]),(o_ 0 13 [[(iI 2),(iI 5),z_,z_,z_,z_,(iN al.length),e_,e_,bF,(bN l),(d9 6 gc 9 k),w9]]),(o_ (gc+1) 9 (mC (out++[(j4.mk (nth ks i) 2 0 1 (y9.mk 0 0 0) true)]))),(o_ 0 2 [(Key.row (nth ks i))]),(o_ 0 9 (b1p ks i)),(o_ 0 10 [(Entry.row (q9 l (nth ks i)))])] (I4 (row:=j4.row) (l:=out) (x:=(j4.mk (nth ks i) 2 0 1 (y9.mk 0 0 0) true)) (T:=tt) (e:=50) (te:=bZ) (z:=1) (b:=24) (y:=[.sl .nil 0 []]) kr kr rfl D8 D8 kr Z0 rfl rfl gV) (.s (.h' [(o_ 0 2 (xR most g n)),(o_ g 10 (mE l)),(o_ 0 2 (a1t al ga)),(o_ ga 2 (mK (l7 al))),(o_ 0 13 [[z_,z_,z_,z_,z_,z_,z_,e_,e_,bF,H9,w9,w9]]),(o_ 0 13 [[(iI 2),(iI 5),z_,z_,z_,z_,(iN al.length),e_,e_,bF,(bN l),(xP gc k),w9]]),(o_ (gc+1) 9 (mC (out++[(j4.mk (nth ks i) 2 0 1 (y9.mk 0 0 0) true)]))),(o_ 0 2 [(Key.row (nth ks i))]),(o_ 0 9 (b1p ks i)),(o_ 0 10 [(Entry.row (q9 l (nth ks i)))])] (.y 0 (.int .i64 (cb_ i)) (iN (i+1)) Yes.o (.h' (d8j most g n l al ga gc k out ks i) (.b 7 (.g (.l (k2 h1 h2)))))))))))))))))))))) (fun h1 h1'=>(.l (k3 h1))))))
def oL (most:Int) (l:List Entry) (g:Nat) (n:Nat) (al:List Key) (ga:Nat) (ks:List Key) (i:Nat) (s:(List j4) × Nat × Nat):(List j4) × Nat × Nat:=(if (D7 l (nth ks i))=true then (s.1++[(q9 l (nth ks i)).card],(s.2.1+1),(s.2.2+1)) else (s.1++[(j4.mk (nth ks i) 2 0 1 (y9.mk 0 0 0) true)],(s.2.1+1),(s.2.2+1)))
theorem b3Y (most:Int) (l:l9E) (g:Nat) (n:Nat) (al:l9K) (ga:Nat) (ks:l9K) (hn:n=l.length) (hl:l.length < 1000) (ha:al.length < 1000000) (hk:ks.length < 1000000)  (r_:Nat):∀ (out:l9C) (k:Nat) (gc:Nat) (i:Nat) (sF:l9C × Nat × Nat),i+r_=ks.length->k=out.length->k<=i->sF=iter (oL most l g n al ga ks) r_ i (out,k,gc) ->
 l6 (C8 tH Tryz.f110 0) (some [0,6,9,36,37,38]) (some [0,6,9,36,37,38]) (d1E ks i) (d1D most g n l al ga gc k out) (.exit 0) (mkF 61 [(0,(j3 0)),(6,(j3 4)),(9,(j3 5)),(36,(sA 2 (mK ks))),(37,(iN ks.length)),(38,(iN ks.length))]) [(o_ 0 2 [[(iI most),(d9 1 g 10 n)]]),(o_ g 10 (mE l)),(o_ 0 2 [[(iN (al.length)),(d9 3 ga 2 (l7 al).length)]]),(o_ ga 2 (mK (l7 al))),(o_ 0 13 [[z_,z_,z_,z_,z_,z_,z_,e_,e_,bF,H9,w9,w9]]),(o_ 0 13 [[(iI 2),(iI 5),z_,z_,z_,z_,(iN al.length),e_,e_,bF,(AV.int .u32 (ofB (List.map Entry.card l))),(d9 6 sF.2.2 9 sF.2.1),w9]]),(o_ sF.2.2 9 (mC sF.1))]:=by
 induction r_ with
 | zero =>
  intro out k gc i sF hi_ hko hki  hF
  obtain rfl:ks.length=i:=by omega
  have e_:sF=(out,k,gc):=hF
  refine a2X most l g n al ga ks out k gc ks.length hn hl ha hk hko hki J8 (fun h _=>by simp at h <;> omega) (fun h _=>by simp at h <;> omega) (fun _=>?_)
  first | done | rfl | (rw [e_]; done) | (rw [e_]; rfl)
 | succ r_ ih =>
  intro out k gc i sF hi_ hko hki  hF
  refine a2X most l g n al ga ks out k gc i hn hl ha hk hko hki ow (fun h1 h2=>?_) (fun h1 h2=>?_) (fun h=>by simp at h <;> omega)
  · exact ih (out++[(q9 l (nth ks i)).card]) (k+1) (gc+1) (i+1) sF ow X0 X0  (by rw [hF] <;> simp only [iter,oL,h2,if_true,Bool.false_eq_true,if_false])
  · exact ih (out++[(j4.mk (nth ks i) 2 0 1 (y9.mk 0 0 0) true)]) (k+1) (gc+1) (i+1) sF ow X0 X0  (by rw [hF] <;> simp only [iter,oL,h2,if_true,Bool.false_eq_true,if_false])
theorem b3Z (most:Int) (l:l9E) (g n:Nat) (al:l9K) (ga:Nat) (ks:l9K):(ks.map (atC l),(ks.map (atC l)).length,(ks.map (atC l)).length)=iter (oL most l g n al ga ks) ks.length 0 ([],0,0):=by
 rw [fO (oL most l g n al ga ks) (fun s k=>(s.1++[atC l k],s.2.1+1,s.2.2+1)) ks (fun i s hi=>?_)]
 · rw [c4w (atC l) ks]; simp
 · with_unfolding_all simp only [oL,atC,d2L]
   by_cases h1:D7 l (nth ks i)=true <;> simp [h1]
abbrev d3H (a:Int) (b:Nat) (c:Nat) (d:l9E) (e:l9K) (f:Nat):Heap:=[bR a b c,(o_ b 10 (mE d)),qF e f,(o_ f 2 (mK (l7 e))),G8,(o_ 0 13 [[(iI 2),(iI 5),z_,z_,z_,z_,(iN e.length),e_,e_,bF,(bN d),(d9 6 0 9 0),w9]]),(o_ 0 9 (mC []))]
abbrev d3G (a:l9K) (b:Int):Fr:=(mkF 61 [(0,(j3 0)),(6,(j3 4)),(9,(j3 5)),(36,(sA 2 (mK (M4 a b)))),(37,(iN ((M4 a b).length))),(38,(iN ((M4 a b).length)))])
abbrev d3F (a:Int) (b:Nat) (c:Nat) (d:l9E) (e:l9K) (f:Nat) (g:Int):Heap:=[bR a b c,(o_ b 10 (mE d)),qF e f,(o_ f 2 (mK (l7 e))),G8,(o_ 0 13 [[(iI 2),(iI 5),z_,z_,z_,z_,(iN e.length),e_,e_,bF,(bN d),(d9 6 ((M4 e g).map (atC d)).length 9 ((M4 e g).map (atC d)).length),w9]]),(o_ (((M4 e g).map (atC d)).length) 9 (mC ((M4 e g).map (atC d))))]
theorem b0Q (most:Int) (l:l9E) (g n:Nat) (al:l9K) (ga:Nat) (since:Int) (hn:n=l.length) (hl:l.length < 1000) (ha:al.length < 1000000) (hok:okS al since=true):AC 110 [(j3 0),(j3 2),(iI since)] (xV most g n l al ga) ((p9 [(iI 2),(iI 5),z_,z_,z_,z_,(iN al.length),e_,e_,bF,(bN l),(sA 9 (mC ((M4 al since).map (atC l)))),w9]),(xV most g n l al ga)):=by
 have hm:(l.map Entry.card).length=l.length:=List.length_map _
 have hs:=a4k al since
 have hd:((M4 al since).map (atC l)).length=(M4 al since).length:=List.length_map _
 exact x9 (fn:=Tryz.f110) (ann:=tH) (Has.o Tryz.func110) (.r (.s (.n2 (.rn (.c 2 (j5.put2 [2,3] (oV most g n l al ga) (AV.tup [(sA 2 (mK (M4 al since))),(bB (okS al since))]) (oV most g n l al ga) (a4j al ga since oa) rlD rlD) (.s (.h' (oV most g n l al ga) (.y 1 (bB (!(okS al since))) bF (Yes.b (by rw [hok]; rfl)) (.rn (.c 2 (j5.put2 [0,1,2,3] (c0r most g n l al ga) (p9 [(iI 2),(iI 5),z_,z_,z_,z_,(iN al.length),e_,e_,bF,(bN l),w9,w9]) (c0r most g n l al ga) (a3b most l g n al ga oa oa oa) rlE rlE) (.o (rfl:0=0) (.s (.h' (d3H most g n l al ga) (.y 1 (.int .i64 ((List.length (mK (M4 al since)):Nat):Int)) (iN ((M4 al since).length)) (Yes.len _ _ _) (.g (.loop (d3G al since) (show l6 b9j (some [0,6,9,36,37,38]) (some [0,6,9,36,37,38]) (mkF 61 [(0,(j3 0)),(6,(j3 4)),(9,(j3 5)),(36,(sA 2 (mK (M4 al since)))),(37,(iN ((M4 al since).length))),(38,z_)]) (d3H most g n l al ga) (.exit 0) (d3G al since) (d3F most g n l al ga since) from (b3Y most l g n al ga (M4 al since) ow ow ow ow (M4 al since).length [] 0 0 0 (List.map (atC l) (M4 al since),((M4 al since).map (atC l)).length,((M4 al since).map (atC l)).length) ow rfl ow (b3Z _ _ _ _ _ _ _))) (.r (.w 9 (mC ((M4 al since).map (atC l))) (And.intro rfl (And.intro (G5 (room:=none) kr om) (j4.z8 _ _)):0=0/\I5 (d3F most g n l al ga since) 9 (d9 6 ((M4 al since).map (atC l)).length 9 ((M4 al since).map (atC l)).length)=some (mC ((M4 al since).map (atC l)))/\AV.F3 0 (mC ((M4 al since).map (atC l)))=true) (.g (.h' (xV most g n l al ga) (.q 4 (p9 [(iI 2),(iI 5),z_,z_,z_,z_,(iN al.length),e_,e_,bF,(bN l),(sA 9 (mC ((M4 al since).map (atC l)))),w9]))))))))))))))))))))))
theorem b0R (most:Int) (l:l9E) (g n:Nat) (al:l9K) (ga:Nat) (since:Int) (hn:n=l.length) (hl:l.length < 1000) (ha:al.length < 1000000) (hok:okS al since=false):AC 110 [(j3 0),(j3 2),(iI since)] (xV most g n l al ga) ((p9 [(iI 2),(iI 5),z_,z_,z_,z_,(iN al.length),e_,e_,bT,(bN l),(a1s l),w9]),(xV most g n l al ga)):=by
 have hm:(l.map Entry.card).length=l.length:=List.length_map _
 have hs:=a4k al since
 have hd:((M4 al since).map (atC l)).length=(M4 al since).length:=List.length_map _
 exact x9 (fn:=Tryz.f110) (ann:=tH) (Has.o Tryz.func110) (.r (.s (.n2 (.rn (.c 2 (j5.put2 [2,3] (oV most g n l al ga) (AV.tup [(sA 2 (mK (M4 al since))),(bB (okS al since))]) (oV most g n l al ga) (a4j al ga since oa) rlD rlD) (.s (.h' (oV most g n l al ga) (.y 1 (bB (!(okS al since))) bT (Yes.b (by rw [hok]; rfl)) (.ru (.c 2 (j5.put2 [0,1,2,3] (oV most g n l al ga) (p9 [(iI 2),(iI 5),z_,z_,z_,z_,(iN al.length),e_,e_,bT,(bN l),(a1s l),w9]) (oV most g n l al ga) (xG most l g n al ga oa oa oa) rlE rlE) (.g (.h' (xV most g n l al ga) (.q 4 (p9 [(iI 2),(iI 5),z_,z_,z_,z_,(iN al.length),e_,e_,bT,(bN l),(a1s l),w9]))))))))))))))
theorem b3X (most:Int) (l:l9E) (g n:Nat) (al:l9K) (ga:Nat) (since:Int) (hn:n=l.length) (hl:l.length < 1000) (ha:al.length < 1000000):AC 110 [(j3 0),(j3 2),(iI since)] [(o_ 0 2 [[(iI most),(d9 1 g 10 n)]]),(o_ g 10 (mE l)),(o_ 0 2 [[(iN (al.length)),(d9 3 ga 2 (l7 al).length)]]),(o_ ga 2 (mK (l7 al)))] ((p9 [(iI 2),(iI 5),z_,z_,z_,z_,(iN al.length),e_,e_,(bB (!(okS al since))),(AV.int .u32 (ofB (List.map Entry.card l))),(sA 9 (mC (mU l al since))),w9]),[(o_ 0 2 [[(iI most),(d9 1 g 10 n)]]),(o_ g 10 (mE l)),(o_ 0 2 [[(iN (al.length)),(d9 3 ga 2 (l7 al).length)]]),(o_ ga 2 (mK (l7 al)))]):=by
 cases h:okS al since with
 | true=>have h1:=b0Q most l g n al ga since hn hl ha h; unfold mU; rw [if_pos h]; exact h1
 | false=>have h1:=b0R most l g n al ga since hn hl ha h; unfold mU; rw [if_neg (by rw [h]; simp)]; exact h1
def d0d (l:List Entry) (al:List Key) (seq tag:Int):Msg:=⟨2,5,0,0,tag,0,(al.length:Int),⟨⟨#[]⟩,⟨#[]⟩⟩,!(okS al seq),ofB (List.map Entry.card l),mU l al seq,[]⟩
def c9Y (l:List Entry) (al:List Key) (tag:Int):Msg:=⟨2,5,0,0,tag,0,(al.length:Int),⟨⟨#[]⟩,⟨#[]⟩⟩,true,ofB (List.map Entry.card l),Y8 (List.map Entry.card l),[]⟩
def jX (l:List Entry) (al:List Key) (seq tag:Int):Msg:=if seq = -1 then c9Y l al tag else d0d l al seq tag
def b3V:Ann:={ refs:=[3],gha:=[(5,.frzf 4 11 9),(5,.frzf 4 12 2)],base:=6,fin:=some 6 }
abbrev a8T (a:Nat) (b:l9E) (c:Int) (d:Int) (e:Int) (f:l9K) (g:Nat) (h:Int) (i:y9):Heap:=[W9 a b,(o_ a 10 (mE b)),M0 c d e,Q8 f g,(o_ g 2 (mK (l7 f))),V4 h i,G8,G8]
abbrev a8S (a:Nat) (b:l9E) (c:Int) (d:Int) (e:Int) (f:l9K) (g:Nat) (h:Int) (i:y9):Heap:=[W9 a b,(o_ a 10 (mE b)),M0 c d e,Q8 f g,(o_ g 2 (mK (l7 f))),V4 h i,G8,(o_ 0 13 [[(iI 2),(iI 5),z_,z_,z_,z_,(iN f.length),e_,e_,bT,(bN b),(a1s b),w9]])]
theorem b0O (l:l9E) (g:Nat) (al:l9K) (ga:Nat) (gf gl gt nd:Int) (st:y9) (q:Msg) (hl:l.length < 1000) (ha:al.length < 100000) (hs:¬ q.seq = -1):AC 63 [(j3 5),(p9 (Msg.row q))] (M9 g l gf gl gt al ga nd st) ((p9 (Msg.row (d0d l al q.seq q.tag))),(M9 g l gf gl gt al ga nd st)) :=
 x9 (fn:=Tryz.f63) (ann:=b3V) (Has.o Tryz.func63) (.r (.s (.c 8 (j5.put2 [0,1,3,4] (a8T g l gf gl gt al ga nd st) (p9 [(iI 2),(iI 5),z_,z_,z_,z_,(iN al.length),e_,e_,bT,(bN l),(a1s l),w9]) (a8T g l gf gl gt al ga nd st) (xG (r9 32) l g l.length al ga oa oa oa) rlE rlE) (.s (.h' (a8S g l gf gl gt al ga nd st) (.y 2 (bB (q.seq != (-1))) bT (Yes.b (by simpa using hs)) (.ru (.c 10 (j5.put2 [0,1,3,4] (a8S g l gf gl gt al ga nd st) (p9 [(iI 2),(iI 5),z_,z_,z_,z_,(iN al.length),e_,e_,(bB (!(okS al q.seq))),(bN l),(sA 9 (mC (mU l al q.seq))),w9]) (a8S g l gf gl gt al ga nd st) (b3X (r9 32) l g l.length al ga q.seq oa oa oa) rlE rlE) (.s (.s (.o (rfl:0=0) (.o (rfl:0=0) (.g (.h' (M9 g l gf gl gt al ga nd st) (.q 6 (p9 [(iI 2),(iI 5),z_,z_,(iI q.tag),z_,(iN al.length),e_,e_,(bB (!(okS al q.seq))),(bN l),(sA 9 (mC (mU l al q.seq))),(sA 2 (mK []))]))))))))))))))))
def b3W:Ann:={ refs:=[3],gha:=[(5,.frzf 4 11 9),(5,.frzf 4 12 2)],base:=6,fin:=some 6 }
theorem a6d {p:Prop} (h:p:=by rw [hs]; rfl):p:=h
theorem b0P (l:l9E) (g:Nat) (al:l9K) (ga:Nat) (gf gl gt nd:Int) (st:y9) (q:Msg) (hl:l.length < 1000) (ha:al.length < 100000) (hs:q.seq = -1):AC 63 [(j3 5),(p9 (Msg.row q))] (M9 g l gf gl gt al ga nd st) ((p9 (Msg.row (c9Y l al q.tag))),(M9 g l gf gl gt al ga nd st)) :=
 x9 (fn:=Tryz.f63) (ann:=b3W) (Has.o Tryz.func63) (.r (.s (.c 8 (j5.put2 [0,1,3,4] (a8T g l gf gl gt al ga nd st) (p9 [(iI 2),(iI 5),z_,z_,z_,z_,(iN al.length),e_,e_,bT,(bN l),(a1s l),w9]) (a8T g l gf gl gt al ga nd st) (xG (r9 32) l g l.length al ga oa oa oa) rlE rlE) (.s (.h' (a8S g l gf gl gt al ga nd st) (.y 2 (bB (q.seq != (-1))) bF (Yes.b a6d) (.rn (.s (.o (rfl:0=0) (.o (rfl:0=0) (.g (.h' (M9 g l gf gl gt al ga nd st) (.q 6 (p9 [(iI 2),(iI 5),z_,z_,(iI q.tag),z_,(iN al.length),e_,e_,bT,(bN l),(a1s l),(sA 2 (mK []))]))))))))))))))
theorem b3U (l:l9E) (g:Nat) (al:l9K) (ga:Nat) (gf gl gt nd:Int) (st:y9) (q:Msg) (hl:l.length < 1000) (ha:al.length < 100000):AC 63 [(j3 5),(p9 (Msg.row q))] [(o_ 0 2 [[(iI (r9 32)),(d9 1 g 10 l.length)]]),(o_ g 10 (mE l)),(o_ 0 3 [[(iI gf),(iI gl),(iI gt)]]),(o_ 0 2 [[(iN (al.length)),(d9 4 ga 2 (l7 al).length)]]),(o_ ga 2 (mK (l7 al))),(o_ 0 7 [[(iI nd),(iI st.t),(iI st.node),(iI st.n),(j3 0),(j3 2),(j3 3)]])] ((p9 (Msg.row (jX l al q.seq q.tag))),[(o_ 0 2 [[(iI (r9 32)),(d9 1 g 10 l.length)]]),(o_ g 10 (mE l)),(o_ 0 3 [[(iI gf),(iI gl),(iI gt)]]),(o_ 0 2 [[(iN (al.length)),(d9 4 ga 2 (l7 al).length)]]),(o_ ga 2 (mK (l7 al))),(o_ 0 7 [[(iI nd),(iI st.t),(iI st.node),(iI st.n),(j3 0),(j3 2),(j3 3)]])]):=by
 by_cases hs:q.seq = -1
 · have e:jX l al q.seq q.tag=c9Y l al q.tag:=if_pos hs
   rw [e]; exact b0P l g al ga gf gl gt nd st q hl ha hs
 · have e:jX l al q.seq q.tag=d0d l al q.seq q.tag:=if_neg hs
   rw [e]; exact b0O l g al ga gf gl gt nd st q hl ha hs
attribute [local irreducible] jX lJ l8
def d6k:Ann:={ refs:=[4],gha:=[(7,.any 7 9)],base:=6,fin:=some 6 }
abbrev a8R (a:Nat) (b:l9E) (c:Int) (d:Int) (e:Int) (f:l9K) (g:Nat) (h:Int) (i:y9) (j:Msg):Heap:=[W9 a b,(o_ a 10 (mE b)),M0 c d e,Q8 f g,(o_ g 2 (mK (l7 f))),V4 h i,G8,(o_ 0 13 (d7m j))]
theorem c9T (l:l9E) (g:Nat) (al:l9K) (ga:Nat) (gf gl gt nd:Int) (st:y9) (q:Msg) (now:Int) (hl:l.length < 1000) (ha:al.length < 100000) (hk:q.kind=1) (hr:R4 q=true) (ho:q.op=5):AC 31 [(j3 5),(p9 (Msg.row q)),(iI now)] (M9 g l gf gl gt al ga nd st) ((AV.tup [(p9 (Msg.row (jX l al q.seq q.tag))),(sA 9 (mC ([]:l9C)))]),(M9 g l gf gl gt al ga nd st)) :=
 x9 (fn:=Tryz.f31) (ann:=d6k) (Has.o Tryz.func31) (.r (.s (.c 1 ((iB now).lift kr kr [(o_ 0 2 (a1A g l)),(o_ g 10 (mE l)),(o_ 0 3 (sD gf gl gt)),(o_ 0 2 (a0m al ga)),(o_ ga 2 (mK (l7 al))),(o_ 0 7 (a1u nd st)),(o_ 0 13 [[z_,z_,z_,z_,z_,z_,z_,e_,e_,bF,H9,w9,w9]])]) (.s (.s (.h' (a8R g l gf gl gt al ga nd st q) (.y 2 (bB (q.kind != 1)) bF (Yes.b bY) (.n2 (.c 5 ((cK q oa).lift kr kr (a8R g l gf gl gt al ga nd st q)) (.n (.rn (.y 2 (bB (q.op == 5)) bT (Yes.b aZ) (.ru (.c 2 (j5.put2 [0,1,2,3,4,5] (a8R g l gf gl gt al ga nd st q) (p9 (Msg.row (jX l al q.seq q.tag))) (a8R g l gf gl gt al ga nd st q) (b3U l g al ga gf gl gt nd st q oa oa) rlA rlA) (.g (.h' (M9 g l gf gl gt al ga nd st) (.q 6 (AV.tup [(p9 (Msg.row (jX l al q.seq q.tag))),(sA 9 [])]))))))))))))))))))
structure DS where
 l:List Entry
 g:Nat
 al:List Key
 ga:Nat
 gf:Int
 gl:Int
 gt:Int
 st:y9
def DS.turn (s:DS) (nd:Int) (q:Msg) (now:Int):DS :=
 ⟨(tuR s.l s.g s.al s.ga s.gt nd s.st q now).l,(tuR s.l s.g s.al s.ga s.gt nd s.st q now).g,(tuR s.l s.g s.al s.ga s.gt nd s.st q now).al,(tuR s.l s.g s.al s.ga s.gt nd s.st q now).ga,s.gf,s.gl,(tuR s.l s.g s.al s.ga s.gt nd s.st q now).gt,(tuR s.l s.g s.al s.ga s.gt nd s.st q now).st⟩
structure HdR where
 m:Msg
 c:List j4
 s:DS
def hdD (nd:Int) (s:DS) (q:Msg) (now:Int):HdR :=
 if q.kind=1/\R4 q=true then
  if q.op=5 then ⟨jX s.l s.al q.seq q.tag,[],s⟩
  else ⟨hdM q (tuR s.l s.g s.al s.ga s.gt nd s.st q (l8 now)).code,(tuR s.l s.g s.al s.ga s.gt nd s.st q (l8 now)).c,s.turn nd q (l8 now)⟩
 else ⟨hdM q 1,[],s⟩
theorem d5X {q:Msg} (h:R4 q=true) (hk:q.kind=1) (h5:¬ q.op=5):1<=q.op/\q.op < 5/\0<=q.status/\q.status<=255:=by
 obtain ⟨a1,a2,a3,a4,a5,a6⟩:=a3t h
 with_unfolding_all
  unfold opM at a3
  unfold K6 at a5
  rw [if_pos (.inl hk),if_neg h5] at a3
  simp only [Bool.and_eq_true,decide_eq_true_eq] at a3 a5
  exact ⟨a3.1,a3.2.1,a5.1,a5.2⟩
theorem b4F (l:l9E) (g:Nat) (al:l9K) (ga:Nat) (gf gl gt nd:Int) (st:y9) (q:Msg) (now:Int) (hl:l.length < 1000) (ha:al.length < 100000) (hgt:0<=gt/\gt < 4611686018427387904):AC 31 [(j3 5),(p9 (Msg.row q)),(iI now)] [(o_ 0 2 [[(iI (r9 32)),(d9 1 g 10 l.length)]]),(o_ g 10 (mE l)),(o_ 0 3 [[(iI gf),(iI gl),(iI gt)]]),(o_ 0 2 [[(iN (al.length)),(d9 4 ga 2 (l7 al).length)]]),(o_ ga 2 (mK (l7 al))),(o_ 0 7 [[(iI nd),(iI st.t),(iI st.node),(iI st.n),(j3 0),(j3 2),(j3 3)]])] ((AV.tup [(p9 (Msg.row (hdD nd (DS.mk l g al ga gf gl gt st) q now).m)),(sA 9 (mC (hdD nd (DS.mk l g al ga gf gl gt st) q now).c))]),[(o_ 0 2 [[(iI (r9 32)),(d9 1 (hdD nd (DS.mk l g al ga gf gl gt st) q now).s.g 10 (List.length (hdD nd (DS.mk l g al ga gf gl gt st) q now).s.l))]]),(o_ ((hdD nd (DS.mk l g al ga gf gl gt st) q now).s.g) 10 (mE (hdD nd (DS.mk l g al ga gf gl gt st) q now).s.l)),(o_ 0 3 [[(iI (hdD nd (DS.mk l g al ga gf gl gt st) q now).s.gf),(iI (hdD nd (DS.mk l g al ga gf gl gt st) q now).s.gl),(iI (hdD nd (DS.mk l g al ga gf gl gt st) q now).s.gt)]]),(o_ 0 2 [[(iN ((List.length (hdD nd (DS.mk l g al ga gf gl gt st) q now).s.al))),(d9 4 (hdD nd (DS.mk l g al ga gf gl gt st) q now).s.ga 2 (l7 (hdD nd (DS.mk l g al ga gf gl gt st) q now).s.al).length)]]),(o_ ((hdD nd (DS.mk l g al ga gf gl gt st) q now).s.ga) 2 (mK (l7 (hdD nd (DS.mk l g al ga gf gl gt st) q now).s.al))),(o_ 0 7 [[(iI nd),(iI (hdD nd (DS.mk l g al ga gf gl gt st) q now).s.st.t),(iI (hdD nd (DS.mk l g al ga gf gl gt st) q now).s.st.node),(iI (hdD nd (DS.mk l g al ga gf gl gt st) q now).s.st.n),(j3 0),(j3 2),(j3 3)]])]):=by
 by_cases hk:q.kind=1
 · cases hr:R4 q with
   | false =>
    have e:hdD nd (DS.mk l g al ga gf gl gt st) q now=⟨hdM q 1,[],(DS.mk l g al ga gf gl gt st)⟩:=if_neg (by rw [hr]; simp)
    rw [e]; exact c9U l g al ga gf gl gt nd st q now hk hr
   | true =>
    by_cases ho:q.op=5
    · have e:hdD nd (DS.mk l g al ga gf gl gt st) q now=⟨jX l al q.seq q.tag,[],(DS.mk l g al ga gf gl gt st)⟩:=by unfold hdD; rw [if_pos ⟨hk,hr⟩,if_pos ho]
      rw [e]; exact c9T l g al ga gf gl gt nd st q now hl ha hk hr ho
    · have e:hdD nd (DS.mk l g al ga gf gl gt st) q now=⟨hdM q (tuR l g al ga gt nd st q (l8 now)).code,(tuR l g al ga gt nd st q (l8 now)).c,(DS.mk l g al ga gf gl gt st).turn nd q (l8 now)⟩:=by unfold hdD; rw [if_pos ⟨hk,hr⟩,if_neg ho]
      obtain ⟨o1,o2,o3,_⟩:=d5X hr hk ho
      rw [e]; exact c9V l g al ga gf gl gt nd st q now hl ha hgt o1 o2 o3 hk hr
 · have e:hdD nd (DS.mk l g al ga gf gl gt st) q now=⟨hdM q 1,[],(DS.mk l g al ga gf gl gt st)⟩:=if_neg (fun z=>hk z.1)
   rw [e]; exact c9S l g al ga gf gl gt nd st q now hk
attribute [local irreducible] Tp.J5 Tp.K8 Tp.ask Tp.card Tp.cards Tp.key Tp.keyT Tp.next Tp.step
structure a0C where
 kind:Int
 m:Msg
 more:Int
 late:Int
 c:j4
 deriving Inhabited
def a0C.row (x:a0C):List AV:=[(iI x.kind),(iI x.m.kind),(iI x.m.op),(iI x.m.status),(iI x.m.code),(iI x.m.tag),(iI x.m.n),(iI x.m.seq),(AV.str x.m.key.app),(AV.str x.m.key.id),(bB x.m.full),(AV.int .u32 x.m.sum),(sA 9 (mC x.m.cards)),(sA 2 (mK x.m.keys)),(iI x.more),(iI x.late),(AV.str x.c.key.app),(AV.str x.c.key.id),(iI x.c.status),(iI x.c.over),(iI x.c.lease),(iI x.c.stamp.t),(iI x.c.stamp.node),(iI x.c.stamp.n),(bB x.c.gone)]
@[simp] theorem a0C.U9 (n:Nat) (x:a0C):AV.bdds n x.row=true:=by simp [a0C.row,AV.bdds,AV.bdd]
@[simp] theorem a0C.z8 (n:Nat) (l:List a0C):AV.F3 n (l.map a0C.row)=true:=by induction l with | nil=>rfl | cons x l ih=>simp [AV.F3,a0C.U9,ih]
theorem Tp.d2O (t:Tp):t.ask.2.l=t.l:=by
 with_unfolding_all
  unfold Tp.ask
  simp only []
  split <;> simp only [Tp.bA,Tp.mP]
end Go.Proofs.YtmghjcbabebanaaGreat.AM
namespace Go.Proofs.YtmghjcbabebanaaGreat.AM
open Go
def kE (e:Entry):Key:=e.card.key
abbrev d9d (l:List Key):Prop:=List.Pairwise (fun a b:Key=>F8 a b=true) l
abbrev bP (l:List Entry):Prop:=d9d (l.map kE)
theorem a3h {l:l9E} (h:bP l) {i j:Nat} (hij:i < j) (hj:j < l.length):F8 (nth l i).card.key (nth l j).card.key=true:=by
 have h1:List.Pairwise (fun a b:Entry=>F8 a.card.key b.card.key=true) l:=List.pairwise_map.1 h
 exact a4F.1 h1 i j hij hj
theorem a7U {l:l9E} (hs:bP l) {i:Nat} (hi:i < l.length):G6 l (nth l i).card.key=i :=
 c4A (Nat.le_of_lt hi) (fun j hj=>a3h hs hj hi) fun _=>a8k _
theorem a0c {l:l9E} (hs:bP l) {e:Entry} (he:e∈l):D7 l e.card.key=true/\q9 l e.card.key=e:=by
 obtain ⟨i,hi,rfl⟩:=dF he
 have h1:=a7U hs hi
 have h2:D7 l (nth l i).card.key=true:=by
  unfold D7; rw [h1]; simp [hi,Key.oJ]
 exact ⟨h2,by unfold q9; rw [if_pos h2,h1]⟩
theorem iA {l:l9E} {k:Key} (h:D7 l k=true):q9 l k∈l/\(q9 l k).card.key=k:=by
 have h1:=lI h
 unfold q9; rw [if_pos h]
 refine ⟨tX h1,?_⟩
 unfold D7 at h; rw [Bool.and_eq_true] at h
 exact (Key.d6p _ _).1 h.2
theorem b0J {l:l9E} (hs:bP l) (k:Key):D7 l k=true↔∃ e∈l,e.card.key=k :=
 ⟨fun h=>⟨_,(iA h).1,(iA h).2⟩,fun ⟨e,he,hk⟩=>hk ▸ (a0c hs he).1⟩
theorem c8j {l:l9E} {e:Entry} (h:D7 l e.card.key=true):(l.set (G6 l e.card.key) e).map kE=l.map kE:=by
 have h1:=lI h
 have h2:=(iA h).2
 unfold q9 at h2; rw [if_pos h] at h2
 rw [List.map_set]
 refine List.ext_getElem ye_ fun i hi hi2=>?_
 rw [List.getElem_set]
 split
 · rename_i e1; subst e1
   rw [List.getElem_map,<- Z7 h1]; exact h2.symm
 · rfl
theorem nU {most:Int} {l:l9E} (hs:bP l) (e:Entry):bP (J2 most l e):=by
 unfold J2
 split
 · rename_i h
   show d9d ((l.set (G6 l e.card.key) e).map kE)
   rw [c8j h]; exact hs
 · rename_i h
   split
   · exact hs
   · have hp:=aD l e.card.key
     have hs':List.Pairwise (fun a b:Entry=>F8 a.card.key b.card.key=true) l:=List.pairwise_map.1 hs
     refine List.pairwise_map.2 (List.pairwise_append.2 ⟨hs'.sublist (List.take_sublist _ _),List.pairwise_cons.2 ⟨fun x hx=>?_,hs'.sublist (List.drop_sublist _ _)⟩,fun a ha b hb=>?_⟩)
     · obtain ⟨j,hj,rfl⟩:=dF hx
       rw [List.length_drop] at hj
       rw [nY]
       have h0:G6 l e.card.key < l.length:=by omega
       have h1:=a3F h0
       have h2:F8 e.card.key (nth l (G6 l e.card.key)).card.key=true:=by
        cases hb:F8 e.card.key (nth l (G6 l e.card.key)).card.key with
        | true=>rfl
        | false =>
         have:=c5q h1 hb
         exfalso; apply h; unfold D7; rw [this,Key.oJ]; simp [h0]
       rcases Nat.eq_zero_or_pos j with rfl | hj0
       · exact h2
       · exact b1A h2 (a3h hs ya_ ya_)
     · obtain ⟨i,hi,rfl⟩:=dF ha
       rw [List.length_take] at hi
       rw [fK ya_]
       rcases List.mem_cons.1 hb with rfl | hb
       · exact a3E (k:=b.card.key) ya_
       · obtain ⟨j,hj,rfl⟩:=dF hb
         rw [List.length_drop] at hj
         rw [nY]
         exact a3h hs ya_ ya_
theorem a3w {most:Int} {l:l9E} (hs:bP l) {e:Entry} (h:D7 l e.card.key=true\/(l.length:Int) < most) (x:Entry):x∈J2 most l e↔x=e\/(x∈l/\x.card.key≠e.card.key):=by
 have hp:=aD l e.card.key
 unfold J2
 split
 · rename_i hb
   have h1:=lI hb
   have h2:=(iA hb).2
   unfold q9 at h2; rw [if_pos hb] at h2
   constructor
   · intro hx
     obtain ⟨i,hi,e1⟩:=List.getElem_of_mem hx
     rw [List.getElem_set] at e1
     split at e1
     · exact .inl e1.symm
     · rename_i hne
       rw [List.length_set] at hi
       refine .inr ⟨e1 ▸ List.getElem_mem _,fun hk=>hne ?_⟩
       rw [<- e1,<- Z7 hi] at hk
       rw [<- hk]; exact a7U hs hi
   · rintro (rfl | ⟨hx,hk⟩)
     · exact List.mem_set h1 _
     · obtain ⟨i,hi,e1⟩:=List.getElem_of_mem hx
       have hne:G6 l e.card.key≠i:=fun q=>hk (by rw [<- e1,<- Z7 hi,<- q]; exact h2)
       have:(l.set (G6 l e.card.key) e)[i]'yb_=x:=by rw [List.getElem_set,if_neg hne]; exact e1
       exact this ▸ List.getElem_mem _
 · rename_i hb
   have hlt:(l.length:Int) < most:=h.resolve_left hb
   rw [if_neg ya_]
   have hno:∀ y∈l,y.card.key≠e.card.key:=fun y hy hk=>hb ((b0J hs _).2 ⟨y,hy,hk⟩)
   rw [List.mem_append,List.mem_cons]
   constructor
   · rintro (hx | rfl | hx)
     · exact .inr ⟨List.mem_of_mem_take hx,hno _ (List.mem_of_mem_take hx)⟩
     · exact .inl rfl
     · exact .inr ⟨List.mem_of_mem_drop hx,hno _ (List.mem_of_mem_drop hx)⟩
   · rintro (rfl | ⟨hx,_⟩)
     · exact .inr (.inl rfl)
     · rw [<- List.take_append_drop (G6 l e.card.key) l,List.mem_append] at hx
       exact hx.imp id .inr
theorem c4y {most:Int} {l:l9E} (hs:bP l) {e:Entry} (h:D7 l e.card.key=true\/(l.length:Int) < most):D7 (J2 most l e) e.card.key=true/\q9 (J2 most l e) e.card.key=e :=
 a0c (nU hs e) ((a3w hs h e).2 (.inl rfl))
theorem b0I {most:Int} {l:l9E} (hs:bP l) {e:Entry} (h:D7 l e.card.key=true\/(l.length:Int) < most) {k:Key} (hk:k≠e.card.key):D7 (J2 most l e) k=D7 l k/\q9 (J2 most l e) k=q9 l k:=by
 have hs2:=nU (most:=most) hs e
 cases hb:D7 l k with
 | true =>
  obtain ⟨h1,h2⟩:=iA hb
  have h3:q9 l k∈J2 most l e:=(a3w hs h _).2 (.inr ⟨h1,by rw [h2]; exact hk⟩)
  have h4:=a0c hs2 h3
  rw [h2] at h4; exact h4
 | false =>
  have h1:D7 (J2 most l e) k=false:=by
   cases hc:D7 (J2 most l e) k with
   | false=>rfl
   | true =>
    obtain ⟨h1,h2⟩:=iA hc
    rcases (a3w hs h _).1 h1 with h3 | ⟨h3,_⟩
    · exact absurd (by rw [<- h2,h3]) hk
    · exact absurd ((b0J hs k).2 ⟨_,h3,h2⟩) (by rw [hb]; simp)
  refine ⟨h1,?_⟩
  unfold q9; rw [h1,hb]; simp
theorem c3c {most:Int} {l:l9E} {e:Entry} (h:D7 l e.card.key=true\/(l.length:Int) < most):K3 most l e=0:=by
 unfold K3; split
 · rfl
 · rename_i hb; rw [if_neg (by have:=h.resolve_left hb; omega)]
theorem a9x:bP []:=List.Pairwise.nil
theorem d2N:r9 32=32:=by unfold r9; omega
attribute [local irreducible] D7 E5 G6 J2 J9 K3 R4 R9 jX l8 maxS q9
theorem c1J (l:l9E) (g:Nat) (al:l9K) (ga:Nat) (gt nd:Int) (st:y9) (q:Msg) (now:Int) :
 ((tuR l g al ga gt nd st q now).c=[]/\(tuR l g al ga gt nd st q now).l=l/\(tuR l g al ga gt nd st q now).al=al/\(tuR l g al ga gt nd st q now).st=st/\(tuR l g al ga gt nd st q now).gt=gt) \/
 (D7 l q.key=true/\(tuR l g al ga gt nd st q now).c=[]/\(tuR l g al ga gt nd st q now).l=J2 (r9 32) l (aA (q9 l q.key) now)/\(tuR l g al ga gt nd st q now).al=al/\(tuR l g al ga gt nd st q now).st=st/\(tuR l g al ga gt nd st q now).gt=min (gt+1) 1048576) \/
 ∃ x:Entry,x.card.key=q.key/\x.card.stamp=E5 (maxS st (q9 l q.key).card.stamp) now nd/\tuR l g al ga gt nd st q now=a3X l g al ga gt st x:=by
 unfold tuR
 by_cases o1:q.op=1
 · rw [if_pos o1]
   by_cases r:mG q
   · refine .inr (.inr ⟨L9 q (q9 l q.key) (D7 l q.key) st now nd,rfl,rfl,?_⟩)
     unfold a0V a0T uP uQ mJ mI mD a3X
     simp only [if_pos r]
   · refine .inl ?_
     unfold a0V a0T uP uQ mJ mI mD
     simp only [if_neg r]
     exact ⟨trivial,trivial,trivial,trivial,trivial⟩
 rw [if_neg o1]
 by_cases o4:q.op=4/\3 < q.status
 · rw [if_pos o4]; exact .inl ⟨rfl,rfl,rfl,rfl,rfl⟩
 rw [if_neg o4]
 by_cases lv:D7 l q.key=true/\(q9 l q.key).card.gone=false
 · rw [if_pos lv]
   by_cases o2:q.op=2
   · rw [if_pos o2]; exact .inr (.inl ⟨lv.1,rfl,rfl,rfl,rfl,rfl⟩)
   rw [if_neg o2]
   have hk:=(iA lv.1).2
   by_cases o3:q.op=4
   · rw [if_pos o3]; exact .inr (.inr ⟨aQ (q9 l q.key) q.status (E5 (maxS st (q9 l q.key).card.stamp) now nd),hk,rfl,rfl⟩)
   · rw [if_neg o3]; exact .inr (.inr ⟨J3 (q9 l q.key) (E5 (maxS st (q9 l q.key).card.stamp) now nd) now,hk,rfl,rfl⟩)
 · rw [if_neg lv]; exact .inl ⟨rfl,rfl,rfl,rfl,rfl⟩
structure aP (n:Nat) (s:DS):Prop where
 srt:bP s.l
 len:s.l.length<=32
 al:s.al.length<=n
 g0:0<=s.gt
 g1:s.gt<=1048576
theorem a2o {l:l9E} (x:Entry) (h:l.length<=32):(J2 (r9 32) l x).length<=32:=by
 have:=c3a (most:=r9 32) (l:=l) (e:=x) (by rw [d2N]; omega)
 rw [d2N] at this ⊢
 omega
theorem aP.mono {n m:Nat} {s:DS} (h:aP n s) (hm:n<=m):aP m s:=⟨h.srt,h.len,Nat.le_trans h.al hm,h.g0,h.g1⟩
theorem aP.put {n:Nat} {s:DS} (h:aP n s) (x:Entry):aP (n+1) ⟨J2 (r9 32) s.l x,J9 (r9 32) s.l x s.g,K9 s.l x s.al,Q9 s.l x s.ga,s.gf,s.gl,s.gt,dN s.l x s.st⟩ :=
 ⟨nU h.srt x,a2o x h.len,Nat.le_trans (zF s.l x s.al) (Nat.succ_le_succ h.al),h.g0,h.g1⟩
theorem aP.turn {n:Nat} {s:DS} (h:aP n s) (nd:Int) (q:Msg) (now:Int):aP (n+1) (s.turn nd q now):=by
 rcases c1J s.l s.g s.al s.ga s.gt nd s.st q now with ⟨_,e2,e3,_,e5⟩ | ⟨_,_,e2,e3,_,e5⟩ | ⟨x,_,_,e⟩
 · refine ⟨?_,?_,?_,?_,?_⟩ <;> simp only [DS.turn,e2,e3,e5]
   · exact h.srt
   · exact h.len
   · exact Nat.le_succ_of_le h.al
   · exact h.g0
   · exact h.g1
 · have g0:=h.g0
   refine ⟨?_,?_,?_,?_,?_⟩ <;> simp only [DS.turn,e2,e3,e5]
   · exact nU h.srt _
   · exact a2o _ h.len
   · exact Nat.le_succ_of_le h.al
   · omega
   · omega
 · have e':s.turn nd q now=⟨J2 (r9 32) s.l x,J9 (r9 32) s.l x s.g,K9 s.l x s.al,Q9 s.l x s.ga,s.gf,s.gl,s.gt,dN s.l x s.st⟩:=by unfold DS.turn; rw [e]; rfl
   rw [e']; exact h.put x
theorem aP.hd {n:Nat} {s:DS} (h:aP n s) (nd:Int) (q:Msg) (now:Int):aP (n+1) (hdD nd s q now).s:=by
 unfold hdD
 split
 · split
   · exact h.mono (Nat.le_succ _)
   · exact h.turn nd q _
 · exact h.mono (Nat.le_succ _)
theorem d5Q {l:l9E} (hs:bP l) (x:Entry) (al:l9K) :
 (oG l x=[]/\K9 l x al=al)\/(oG l x=[x.card]/\K9 l x al=al++[x.card.key]/\D7 (J2 (r9 32) l x) x.card.key=true/\q9 (J2 (r9 32) l x) x.card.key=x):=by
 unfold oG K9
 by_cases h:(K3 (r9 32) l x == 0)=true
 · rw [if_pos h,if_pos h]
   refine .inr ⟨rfl,rfl,?_⟩
   apply c4y hs
   have h0:K3 (r9 32) l x=0:=by simpa using h
   with_unfolding_all unfold K3 at h0
   by_cases hf:D7 l x.card.key=true
   · exact .inl hf
   · rw [if_neg hf] at h0
     refine .inr ?_
     split at h0
     · simp at h0
     · omega
 · rw [if_neg h,if_neg h]; exact .inl ⟨rfl,rfl⟩
theorem d6N {n:Nat} {s:DS} (hs:aP n s) (nd:Int) (q:Msg) (now:Int) :
 ((hdD nd s q now).c=[]/\(hdD nd s q now).s.al=s.al)\/∃ c:j4,(hdD nd s q now).c=[c]/\(hdD nd s q now).s.al=s.al++[c.key]/\D7 (hdD nd s q now).s.l c.key=true/\(q9 (hdD nd s q now).s.l c.key).card=c:=by
 unfold hdD
 split
 · split
   · exact .inl ⟨rfl,rfl⟩
   · simp only [DS.turn]
     rcases c1J s.l s.g s.al s.ga s.gt nd s.st q (l8 now) with ⟨e1,e2,e3,_,e5⟩ | ⟨_,e1,e2,e3,_,e5⟩ | ⟨x,_,_,e⟩
     · exact .inl ⟨e1,e3⟩
     · exact .inl ⟨e1,e3⟩
     · rw [e]
       rcases d5Q hs.srt x s.al with ⟨h1,h2⟩ | ⟨h1,h2,h3,h4⟩
       · exact .inl ⟨h1,h2⟩
       · exact .inr ⟨x.card,h1,h2,h3,congrArg Entry.card h4⟩
 · exact .inl ⟨rfl,rfl⟩
end Go.Proofs.YtmghjcbabebanaaGreat.AM
namespace Go.Proofs.YtmghjcbabebanaaGreat.AM
open Go
def stB (n:Nat) (x:y9):Prop:=0<=x.t/\0<=x.n/\x.n<=(n:Int)
attribute [local irreducible] R4 jX l8 D7 G6 q9 J2 K3 J9 E5 maxS R9
structure e1p (n:Nat) (s:DS):Prop where
 ok:aP n s
 l:∀ e∈s.l,stB (n+9) e.card.stamp
 st:stB (n+9) s.st
open Go.Proofs.YtmghjcbabebanaaGreat
attribute [local irreducible] E9 H6 K5 K6 K9 O1 Q9 U2 hdD j5 l6 lJ opM tuR
abbrev T16:=DS × Int × Msg × Int
attribute [local irreducible] Tp.ask Tp.card
attribute [local irreducible] A9 F5 F8 F9 G9 K4 M8 Q5 R7 Tp.J5 Tp.K8 Tp.cards Tp.key Tp.keyT Tp.next Tp.step V3 cmpL sink
def a0g (now:Int) (e:Entry):Bool:=if e.card.gone=true then decide (a6U e now > 400) else false
def eB (now:Int) (s:List Entry × Nat) (e:Entry):List Entry × Nat:=if a0g now e=true then (s.1++[e],s.2+1) else s
def dO (l:List Entry) (now:Int):List Entry × Nat:=l.foldl (eB now) ([],0)
theorem c4Z (now:Int) (l:l9E):∀ (s:l9E × Nat),(l.foldl (eB now) s).1.length<=s.1.length+l.length:=by
 induction l with
 | nil=>intro s; simp
 | cons c l ih =>
  intro s
  have h1:=ih (eB now s c)
  have h2:(eB now s c).1.length<=s.1.length+1:=by unfold eB; split <;> simp
  simp only [List.foldl_cons,List.length_cons]; omega
theorem c4X (l:l9E) (now:Int):(dO l now).1.length<=l.length:=by
 have:=c4Z now l ([],0)
 simpa [dO] using this
def Y9 (l:List Entry) (now:Int):List Key:=(dO l now).1.map (·.card.key)
def a3I:Ann:={ gh:=[(8,.frz 5)],gha:=[(1,.vir 5 10),(7,.cut 1)],fin:=some 0,live:=[(3,[1,5,8,9,10])],out:=[(3,[1,5,8,9,10])] }
@[simp] abbrev d9r (a:Nat) (b:l9E) (c:l9E) (d:Nat):Heap:=[(o_ (a+1) 10 (mE (b++[(nth c d)])))]
@[simp] abbrev d9q (a:Int) (b:Nat) (c:Nat) (d:l9E) (e:Nat):Fr:=(mkF 30 [(1,(iI a)),(5,(d9 0 b 10 c)),(8,(sA 10 (mE d))),(9,(iN d.length)),(10,(iN (e+1)))])
@[simp] abbrev d9p (a:Int) (b:Nat) (c:Nat) (d:l9E) (e:Nat):Fr:=(mkF 30 [(1,(iI a)),(5,(d9 0 b 10 c)),(8,(sA 10 (mE d))),(9,(iN d.length)),(10,(iN e))])
@[simp] abbrev b1o :=(C8 a3I Tryz.f135 0)
theorem a8a (l few:l9E) (now:Int) (i k g:Nat) (hk:k=few.length) (hki:k<=l.length) (hl:l.length < 1099511627776) {eX:Ex} {FX:Fr} {HX:Heap} (k1:(l9 i l.length)=true->(nth l i).card.gone=true->(decide ((a6U (nth l i) now) > 400))=true->l6 b1o (some [1,5,8,9,10]) (some [1,5,8,9,10]) (mkF 30 [(1,(iI now)),(5,(cv_ g k)),(8,(sA 10 (mE l))),(9,(iN l.length)),(10,(iN (i+1)))]) (d9r g few l i) eX FX HX) (k2:(l9 i l.length)=true->(nth l i).card.gone=true->(decide ((a6U (nth l i) now) > 400))=false->l6 b1o (some [1,5,8,9,10]) (some [1,5,8,9,10]) (d9q now g k l i) [(o_ g 10 (mE few))] eX FX HX) (k3:(l9 i l.length)=true->(nth l i).card.gone=false->l6 b1o (some [1,5,8,9,10]) (some [1,5,8,9,10]) (d9q now g k l i) [(o_ g 10 (mE few))] eX FX HX) (k4:(l9 i l.length)=false->((.exit 0:Ex),(d9p now g k l i),[(o_ g 10 (mE few))])=(eX,FX,HX)):l6 b1o (some [1,5,8,9,10]) (some [1,5,8,9,10]) (d9p now g k l i) [(o_ g 10 (mE few))] eX FX HX :=
 J7 (.r (.g (.two (l9 i l.length) (fun h1 h1'=>(.r (.h' [(o_ g 10 (mE few)),(o_ 0 10 [[e_,e_,z_,z_,z_,z_,z_,z_,bF,z_]])] (.is 0 10 10 (mE l) (i:Int) (Entry.row (nth l i)) (N7.mk _ ow ow) (.s (.two (nth l i).card.gone (fun h2 h2'=>(.u2 (.c 6 ((d1s (nth l i) now).lift kr kr (a0B g few l i)) (.u (.g (.two (decide ((a6U (nth l i) now) > 400)) (fun h3 h3'=>(.r (.h' (a0B g few l i) (.ap 3 89 (d9 0 g 10 k) (AV.sl .clip 10 [(Entry.row (nth l i))]) (cv_ g k) [(o_ (g+1) 10 (mE (few++[(nth l i)]))),(o_ 0 10 [(Entry.row (nth l i))])] (I4 (row:=Entry.row) (l:=few) (x:=(nth l i)) (T:=tt) (e:=93) (te:=kZ) (z:=1) (b:=24) (y:=[.sl .nil 0 []]) kr kr rfl D8 D8 kr Z0 rfl rfl b4V) (.s (.y 0 (.int .i64 (cb_ i)) (iN (i+1)) Yes.o (.h' (d9r g few l i) (.b 1 (.g (.l (k1 h1 h2 h3))))))))))) (fun h3 h3'=>(.r (.h' (a0B g few l i) (.y 0 (.int .i64 (cb_ i)) (iN (i+1)) Yes.o (.h' [(o_ g 10 (mE few))] (.b 1 (.g (.l (k2 h1 h2 h3))))))))))))))) (fun h2 h2'=>(.n3 (.rn (.h' (a0B g few l i) (.y 0 (.int .i64 (cb_ i)) (iN (i+1)) Yes.o (.h' [(o_ g 10 (mE few))] (.b 1 (.g (.l (k3 h1 h2)))))))))))))))) (fun h1 h1'=>(.l (k4 h1))))))
theorem c4W (l:l9E) (now:Int) (r:Nat):∀ (few:l9E) (i k g:Nat) (sF:l9E × Nat),i+r=l.length->k=few.length->k<=i->l.length < 1099511627776->sF=(l.drop i).foldl (eB now) (few,g) ->
 l6 (C8 a3I Tryz.f135 0) (some [1,5,8,9,10]) (some [1,5,8,9,10]) (mkF 30 [(1,(iI now)),(5,(d9 0 g 10 k)),(8,(sA 10 (mE l))),(9,(iN l.length)),(10,(iN i))]) [(o_ g 10 (mE few))] (.exit 0) (mkF 30 [(1,(iI now)),(5,(d9 0 sF.2 10 sF.1.length)),(8,(sA 10 (mE l))),(9,(iN l.length)),(10,(iN l.length))]) [(o_ sF.2 10 (mE sF.1))]:=by
 induction r with
 | zero =>
  intro few i k g sF hi hk hki hl h
  have:l.drop i=[]:=List.drop_of_length_le ow
  rw [this] at h
  refine a8a l few now i k g hk ow hl (fun h=>by simp at h; omega) (fun h=>by simp at h; omega) (fun h=>by simp at h; omega) fun _=>?_
  have e3:i=l.length:=by omega
  rw [h,e3,hk]
  rfl
 | succ r ih =>
  intro few i k g sF hi hk hki hl h
  rw [aU ow,List.foldl_cons] at h
  refine a8a l few now i k g hk ow hl (fun _ h2 h3=>?_) (fun _ h2 h3=>?_) (fun _ h2=>?_) fun h=>by simp at h; omega
  · exact ih (few++[nth l i]) (i+1) (k+1) (g+1) sF ow uH ow hl (by rw [h]; simp only [eB,a0g,h2,h3,if_true])
  · exact ih few (i+1) k g sF ow hk ow hl (by rw [h]; simp only [eB,a0g,h2,h3,if_true,Bool.false_eq_true,if_false])
  · exact ih few (i+1) k g sF ow hk ow hl (by rw [h]; simp only [eB,a0g,h2,Bool.false_eq_true,if_false])
abbrev d9o (a:Int) (b:l9E):Fr:=(mkF 30 [(1,(iI a)),(5,(d9 0 (dO b a).2 10 (dO b a).1.length)),(8,(sA 10 (mE b))),(9,(iN b.length)),(10,(iN b.length))])
abbrev d9n (a:l9E) (b:Int):Heap:=[(o_ ((dO a b).2) 10 (mE (dO a b).1))]
theorem c4V (l:l9E) (now:Int) (hl:l.length < 1099511627776):AC 135 [(sA 10 (mE l)),(iI now)] [] ((sA 2 (mK (Y9 l now))),[]):=by
 have hd:=c4X l now
 exact x9 (fn:=Tryz.f135) (ann:=a3I) (Has.o Tryz.func135) (.r (.s (.s (.h' [(o_ 0 10 (mE []))] (.y 1 (.int .i64 ((List.length (mE l):Nat):Int)) (iN l.length) (Yes.len _ _ _) (.g (.loop (d9o now l) (show l6 b1o (some [1,5,8,9,10]) (some [1,5,8,9,10]) (mkF 30 [(1,(iI now)),(5,(d9 0 0 10 0)),(8,(sA 10 (mE l))),(9,(iN l.length)),(10,z_)]) [(o_ 0 10 (mE []))] (.exit 0) (d9o now l) (d9n l now) from (c4W l now l.length [] 0 0 0 _ ow rfl ow hl rfl)) (.r (.w 5 (mE (dO l now).1) (And.intro (G5 (room:=none) kr om) (Entry.z8 _ _):I5 (d9n l now) 10 (d9 0 (dO l now).2 10 (dO l now).1.length)=some (mE (dO l now).1)/\AV.F3 0 (mE (dO l now).1)=true) (.c 1 ((a4R (dO l now).1 oa).lift kr kr [(o_ ((dO l now).2+1) 10 [])]) (.g (.h' [] (.q 0 (sA 2 (mK ((dO l now).1.map (·.card.key)))))))))))))))))
attribute [local irreducible] F6 J4 U6 U7 Y9 dO
def a0e (now:Int) (a b:Entry):Bool:=if (F9 a now != F9 b now)=true then decide (F9 a now > F9 b now) else F8 a.card.key b.card.key
def vV:List Entry->Nat
 | []=>0
 | e :: l=>(if (!e.card.gone)=true then 1 else 0)+vV l
theorem d9T (now:Int) (l:l9E):∀ (out:l9E) (g:Nat),(l.foldl (eB now) (out,g)).1=out++l.filter (a0g now):=by
 induction l with
 | nil=>intro out g; simp
 | cons e l ih =>
  intro out g
  rw [List.foldl_cons]
  unfold eB at ih ⊢
  by_cases h:a0g now e=true
  · rw [if_pos h,ih]; simp [List.filter_cons,h]
  · rw [if_neg h,ih]; simp [List.filter_cons,h]
theorem d0l (l:l9E) (now:Int):Y9 l now=(l.filter (a0g now)).map (·.card.key):=by
 unfold Y9 dO; rw [d9T]; simp
theorem c4Y (l:l9E) (now:Int):(Y9 l now).length<=l.length:=by rw [d0l,List.length_map]; exact List.length_filter_le _ _
def xA (now:Int) (e:Entry) (out:List Entry):Nat->Nat
 | 0=>0
 | k+1=>if a0e now e (nth out k)=true then xA now e out k else k+1
theorem d5R (now:Int) (e:Entry) (out:l9E) (k:Nat):xA now e out k<=k:=by
 induction k with
 | zero=>simp only [xA]; omega
 | succ k ih=>simp only [xA]; split <;> omega
def a1e (now:Int) (out:List Entry) (e:Entry):List Entry:=(out.take (xA now e out out.length)++[e])++out.drop (xA now e out out.length)
theorem c9Q (now:Int) (out:l9E) (e:Entry):(a1e now out e).length=out.length+1:=by
 have:=d5R now e out out.length
 simp [a1e]; omega
def vM (l:List Entry) (now late:Int):List Entry:=(l.filter fun e=>!decide (F9 e now<=late)).foldl (a1e now) []
theorem c4x (now:Int) (l:l9E):∀ (out:l9E),(l.foldl (a1e now) out).length=out.length+l.length:=by
 induction l with
 | nil=>intro out; simp
 | cons e l ih=>intro out; rw [List.foldl_cons,ih,c9Q]; simp; omega
theorem c2f (l:l9E) (now late:Int):(vM l now late).length<=l.length:=by
 unfold vM; rw [c4x]; simpa using List.length_filter_le _ _
def a0S (l:List Entry) (now late:Int):List Key:=((vM l now (max late 0)).take (min (vM l now (max late 0)).length (Q5 (vV l:Nat)))).map (·.card.key)
end Go.Proofs.YtmghjcbabebanaaGreat.AM
namespace Go.Proofs.YtmghjcbabebanaaGreat.AM
open Go
attribute [local irreducible] Tp.J5 Tp.K8 Tp.card Tp.cards Tp.key Tp.keyT Tp.next Tp.step
theorem d6E (now late:Int) (l:l9E):∀ (s:Nat × l9E × Nat),(l.foldl (aC now late) s).2.1=s.2.1++l.filter (fun e=>decide (F9 e now > late))/\(l.foldl (aC now late) s).1=s.1+vV l:=by
 induction l with
 | nil=>intro s; simp [vV]
 | cons e l ih =>
  intro s
  obtain ⟨h1,h2⟩:=ih (aC now late s e)
  rw [List.foldl_cons,h1,h2]
  simp only [aC,vV,List.filter_cons]
  constructor
  · split <;> simp
  · split <;> omega
theorem c3j (l:l9E) (now late:Int):(F5 l now late).2.1=l.filter (fun e=>decide (F9 e now > late))/\(F5 l now late).1=vV l:=by
 have:=d6E now late l (0,[],0)
 exact ⟨by simpa [F5] using this.1,by simpa [F5] using this.2⟩
theorem c3f (now:Int) (e:Entry) (out:l9E) (k:Nat):xA now e out k=bM (a0e now) e out k:=by
 induction k with
 | zero=>rfl
 | succ k ih=>simp only [xA,bM,ih]
theorem c4j (now:Int):a1e now=aY (a0e now):=by funext out e; unfold a1e aY; rw [c3f]
theorem b7S (now:Int):(fun a b:Entry=>decide (cmpL now a b < 0))=a0e now:=by
 funext a b
 unfold cmpL a0e
 by_cases h:F9 a now=F9 b now
 · have h1:V7 (F9 b now) (F9 a now)=0:=by simp [V7,h]
   have h2:(F9 a now != F9 b now)=false:=by simp [h]
   rw [if_pos h1,h2]
   simp only [Bool.false_eq_true,if_false]
   rw [<- iO]
   unfold M8
   cases h3:mO a.card.key b.card.key
   · simp only [Bool.false_eq_true,if_false]; split <;> simp
   · simp
 · have h2:(F9 a now != F9 b now)=true:=by simp [h]
   rw [h2]
   simp only [if_true]
   by_cases h3:F9 b now < F9 a now
   · have h1:V7 (F9 b now) (F9 a now) = -1:=by simp [V7,h3]
     rw [h1]; simp [h3]
   · have h1:V7 (F9 b now) (F9 a now)=1:=by
      have:F9 b now > F9 a now:=by omega
      simp [V7,h3,this]
     rw [h1]; simp [h3]
theorem c3h (l:l9E) (now late:Int):G9 l now late=a0S l now late:=by
 obtain ⟨h1,h2⟩:=c3j l now (max 0 late)
 have hm:max late 0=max 0 late:=by omega
 have hf:(l.filter fun e=>!decide (F9 e now<=max 0 late))=l.filter (fun e=>decide (F9 e now > max 0 late)):=by
  congr 1; funext e
  by_cases h:F9 e now<=max 0 late
  · have:¬ F9 e now > max 0 late:=by omega
    simp only [h,this,decide_true,decide_false,Bool.not_true]
  · have:F9 e now > max 0 late:=by omega
    simp only [h,this,decide_true,decide_false,Bool.not_false]
 have key:R7 l now late=vM l now (max late 0):=by
  unfold R7 vM
  rw [h1,hm,hf,rT,b7S,c4j]; rfl
 unfold G9 a0S V3
 rw [key,h2]
theorem c8R (l:l9E) (now late:Int):(G9 l now late).length<=l.length:=by
 rw [c3h]
 have:=c2f l now (max late 0)
 unfold a0S; simp; omega
theorem a4J (l:l9E) (now late:Int):List.Perm (R7 l now late) (l.filter (fun e=>decide (F9 e now > max 0 late))):=by
 unfold R7
 refine (a8x (cmpL now) _).trans ?_
 rw [(c3j l now (max 0 late)).1]
theorem c8S {l:l9E} {now late:Int} {k:Key} (h:k∈G9 l now late):∃ e∈l,e.card.key=k/\F9 e now > max 0 late:=by
 unfold G9 at h
 obtain ⟨e,he,rfl⟩:=List.mem_map.1 h
 have h1:=(a4J l now late).mem_iff.1 (List.mem_of_mem_take he)
 rw [List.mem_filter] at h1
 exact ⟨e,h1.1,rfl,by simpa using h1.2⟩
theorem b2R {l:l9E} (h:bP l):List.Pairwise (fun a b:Entry=>a.card.key≠b.card.key) l:=by
 have h2:List.Pairwise (fun a b:Entry=>F8 a.card.key b.card.key=true) l:=List.pairwise_map.1 h
 exact h2.imp fun h=>d9U h
theorem b6I {l:l9E} (h:bP l) (now late:Int):List.Pairwise (·≠·) (G9 l now late):=by
 unfold G9
 rw [List.pairwise_map]
 have h2:List.Pairwise (fun a b:Entry=>a.card.key≠b.card.key) (R7 l now late):=List.Perm.pairwise (a4J l now late).symm (List.Pairwise.filter _ (b2R h)) fun h e=>h e.symm
 exact h2.sublist (List.take_sublist _ _)
def a6h (l:List Entry) (ks:List Key):Prop:=List.Pairwise (·≠·) ks/\∀ k∈ks,D7 l k=true/\(q9 l k).card.gone=false
theorem c3g {l:l9E} (h:bP l) (now late:Int):a6h l (G9 l now late):=by
 refine ⟨b6I h now late,fun k hk=>?_⟩
 obtain ⟨e,he,rfl,hl⟩:=c8S hk
 obtain ⟨f1,f2⟩:=a0c h he
 refine ⟨f1,?_⟩
 rw [f2]
 cases hg:e.card.gone with
 | false=>rfl
 | true =>
  have:F9 e now=0:=by unfold F9; rw [if_pos hg]
  omega
theorem a6h.next {l:l9E} (hs:bP l) {k:Key} {ks:l9K} (h:a6h l (k :: ks)) {x:Entry} (hx:x.card.key=k):a6h (J2 (r9 32) l x) ks:=by
 obtain ⟨h1,h2⟩:=h
 have h3:=List.pairwise_cons.1 h1
 refine ⟨h3.2,fun k' hk'=>?_⟩
 have hf:=h2 k (List.mem_cons_self)
 have hf':=h2 k' (List.mem_cons_of_mem _ hk')
 have hne:k'≠x.card.key:=by rw [hx]; exact fun e=>h3.1 k' hk' e.symm
 obtain ⟨g1,g2⟩:=b0I (most:=r9 32) hs (e:=x) (.inl (by rw [hx]; exact hf.1)) hne
 rw [g1,g2]; exact hf'
open Go.Proofs.YtmghjcbabebanaaGreat
attribute [local irreducible] A9 E9 F5 F6 F8 F9 G9 H6 J4 K4 K5 L8 M8 Q5 R7 S9 U6 U7 V3 V8 bsr cmpL j5 l6 mAt mg mgL shD shU sink
abbrev c0J (a:Nat) (b:l9E) (c:l9E) (d:Entry) (e:l9E) (f:l9E):Heap:=[(o_ a 10 (mE (b++(c++(d :: (e++f))))))]
abbrev d8J (a:Nat) (b:Nat) (c:Nat) (d:Nat):Fr:=(mkF 220 [(0,(d9 0 a 10 b)),(1,(iN c)),(10,(iN d))])
abbrev d8I (a:Nat) (b:Nat) (c:Nat):Fr:=(mkF 220 [(0,(d9 0 a 10 b)),(10,(iN c)),(13,(iN ((c - 1))))])
theorem c8w (cmp:Entry->Entry->Int) (f:Nat) (xs:List AV) (A R1 R2 B:l9E) (x:Entry) (a p b n g i:Nat) (l:l9E) (hc:h9E cmp f xs) (hxs:AV.bdds 1 xs=true) (hn:n=l.length) (hnb:n < 1048576) (hl:l=A++(x :: (R1++(R2++B)))) (hA:a=A.length) (hp:p=a+1) (hpb:p<=b) (hbn:b<=n) (hi:i=p+R1.length) (hib:i<=b) (hs:i=bsr (fun c=>decide (cmp (nth l c) (nth l a) < 0)) (b - p) p b):AC 219 [(d9 0 g 10 n),(AV.int .i64 (a:Int)),(AV.int .i64 (p:Int)),(AV.int .i64 (b:Int)),(A8 f xs)] [(o_ g 10 (l.map Entry.row))] (F4,(c0J g A R1 x R2 B)):=by
 have hfin:shU (i - 1 - a) a l=A++(R1++(x :: (R2++B))):=by rw [hl,show i - 1 - a=R1.length by omega]; exact a7j x R1 A (R2++B) a hA
 exact x9 (fn:=Tryz.f219) (ann:=aL) (Has.o Tryz.func219) (.r (.y 2 (iW ((p:Int) - (a:Int))) (AV.int .i64 ((p - a:Nat):Int)) Yes.o (.y 3 (AV.bool (((p - a:Nat):Int) == 1)) (AV.bool true) (Yes.b b4R) (.ru (.s (.g (.loop (d8J g n a i) (show l6 (C8 aL Tryz.f219 0) (some [0,1,4,10,11]) (some [0,1,10]) (mkF 220 [(0,(d9 0 g 10 n)),(1,(AV.int .i64 (a:Int))),(4,(A8 f xs)),(10,(AV.int .i64 (p:Int))),(11,(AV.int .i64 (b:Int)))]) [(o_ g 10 (l.map Entry.row))] (.exit 0) (d8J g n a i) [(o_ g 10 (l.map Entry.row))] from (by rw [hs]; exact c8s cmp f xs hc a n g l hn hnb ow (b - p) p b ow ow ow)) (.r (.g (.loop (d8I g n i) (show l6 (C8 aL Tryz.f219 1) (some [0,10,13]) (some [0,10,13]) (mkF 220 [(0,(d9 0 g 10 n)),(10,(AV.int .i64 (i:Int))),(13,(AV.int .i64 (a:Int)))]) [(o_ g 10 (l.map Entry.row))] (.exit 2) (d8I g n i) [(o_ g 10 ((shU (i - 1 - a) a l).map Entry.row))] from (c8n i n g ow ow hnb (i - 1 - a) l a _ ow hn (c8o _ _ _ _ _ _))) (.q 1 F4 (by (try delta c0J); rw [hfin]))))))))))))
abbrev d8H (a:Nat) (b:Nat) (c:Nat) (d:Nat):Fr:=(mkF 220 [(0,(d9 0 a 10 b)),(2,(iN c)),(14,(iN d))])
abbrev e1d (a:Nat) (b:Nat) (c:Nat):Fr:=(mkF 220 [(0,(d9 0 a 10 b)),(14,(iN c)),(17,(iN c))])
theorem c8v (cmp:Entry->Entry->Int) (f:Nat) (xs:List AV) (A L1 L2 B:l9E) (y:Entry) (a p b n g i:Nat) (l:l9E) (hc:h9E cmp f xs) (hxs:AV.bdds 1 xs=true) (hn:n=l.length) (hnb:n < 1048576) (hl:l=A++(L1++(L2++(y :: B)))) (hA:a=A.length) (hi:i=a+L1.length) (hp:p=i+L2.length) (h1:p≠a+1) (hb:b=p+1) (hbn:b<=n) (hs:i=bsr (fun c=>!decide (cmp (nth l p) (nth l c) < 0)) (p - a) a p):AC 219 [(d9 0 g 10 n),(AV.int .i64 (a:Int)),(AV.int .i64 (p:Int)),(AV.int .i64 (b:Int)),(A8 f xs)] [(o_ g 10 (l.map Entry.row))] (F4,(c0J g A L1 y L2 B)):=by
 have hfin:shD (p - i) p l=A++(L1++(y :: (L2++B))):=by rw [hl,show p - i=L2.length by omega,show A++(L1++(L2++(y :: B)))=(A++L1)++(L2++(y :: B)) by simp,a7k y L2.length (A++L1) L2 B p rfl yg_]; simp
 exact x9 (fn:=Tryz.f219) (ann:=aL) (Has.o Tryz.func219) (.r (.y 2 (iW ((p:Int) - (a:Int))) (AV.int .i64 ((p - a:Nat):Int)) Yes.o (.y 3 (AV.bool (((p - a:Nat):Int) == 1)) (AV.bool false) (Yes.b uF) (.rn (.y 2 (iW ((b:Int) - (p:Int))) (AV.int .i64 ((b - p:Nat):Int)) Yes.o (.y 3 (AV.bool (((b - p:Nat):Int) == 1)) (AV.bool true) (Yes.b b4R) (.ru (.s (.g (.loop (d8H g n p i) (show l6 (C8 aL Tryz.f219 2) (some [0,2,4,14,15]) (some [0,2,14]) (mkF 220 [(0,(d9 0 g 10 n)),(2,(AV.int .i64 (p:Int))),(4,(A8 f xs)),(14,(AV.int .i64 (a:Int))),(15,(AV.int .i64 (p:Int)))]) [(o_ g 10 (l.map Entry.row))] (.exit 4) (d8H g n p i) [(o_ g 10 (l.map Entry.row))] from (by rw [hs]; exact c8r cmp f xs hc p n g l hn hnb ow (p - a) a p ow ow ow)) (.r (.g (.loop (e1d g n i) (c8q i n g hnb (p - i) p l ow hn ow) (.q 1 F4 (by (try delta c0J); rw [hfin])))))))))))))))
abbrev c0I (a:Nat) (b:Nat) (c:Nat) (d:Nat) (e:Nat) (f:Nat) (g:List AV) (h:Nat) (i:Nat):Fr:=(mkF 220 [(0,(d9 0 a 10 b)),(1,(iN c)),(2,(iN d)),(3,(iN e)),(4,(A8 f g)),(18,(iN h)),(19,(iN ((h+d)))),(20,(iN i))])
@[simp] abbrev d2a (a:Nat) (b:Nat) (c:Nat) (d:Nat) (e:l9E):Heap:=[(o_ a 10 (mE (S9 b c ((d+c) - b) e)))]
theorem O8 {p:Prop} (h:p:=by (try delta d2a); first | (exfalso; omega) | ((first | rw [if_pos ow] at e1 | rw [if_neg ow] at e1); (first | rw [if_pos ow] at e2 | rw [if_neg ow] at e2); (first | rw [if_pos ow] at e3 | rw [if_neg ow] at e3); rw [e1,e2,e3])):p:=h
set_option maxHeartbeats 4000000 in
theorem c8u (cmp:Entry->Entry->Int) (f:Nat) (xs:List AV) (A L1 L2 R1 R2 B:l9E) (a p b n g i mid Nz:Nat) (l:l9E) (hc:h9E cmp f xs) (hxs:AV.bdds 1 xs=true) (hn:n=l.length) (hnb:n < 1048576) (ih_at:∀ (a p b n g:Nat) (l:l9E),n=l.length->n < 1048576->a < p->p < b->b<=n->b - a < Nz->Srt (ltF cmp) ((l.drop a).take (p - a))->Srt (ltF cmp) ((l.drop p).take (b - p))->∀ H:Heap,AC 219 [(AV.osl 0 g 10 0 n),(AV.int .i64 (a:Int)),(AV.int .i64 (p:Int)),(AV.int .i64 (b:Int)),(AV.func f xs)] (([(o_ g 10 (l.map Entry.row))]:Heap)++H) (.tup [],([(o_ g 10 ((mAt (ltF cmp) a p b l).map Entry.row))]:Heap)++H)) (hl:l=A++(L1++(L2++(R1++(R2++B))))) (hA:a=A.length) (hi:i=a+L1.length) (hp:p=i+L2.length) (hR1:mid=i+R1.length) (hb:b=p+R1.length+R2.length) (hbn:b<=n) (hap:a < p) (hpb:p < b) (h1:p≠a+1) (h2:b≠p+1) (hmid:mid=(a+b) / 2) (hNz:b - a<=Nz) (hgt:mid < p) (hs:i=bsr (fun c=>!decide (cmp (nth l (mid+p - 1 - c)) (nth l c) < 0)) (mid - (mid+p - b)) (mid+p - b) mid) (hlo:mid+p - b<=i) (hhi:i<=mid) (q1:Srt (ltF cmp) L1) (q2:Srt (ltF cmp) L2) (q3:Srt (ltF cmp) R1) (q4:Srt (ltF cmp) R2):AC 219 [(AV.osl 0 g 10 0 n),(AV.int .i64 (a:Int)),(AV.int .i64 (p:Int)),(AV.int .i64 (b:Int)),(AV.func f xs)] [(o_ g 10 (l.map Entry.row))] ((AV.tup []),[(o_ g 10 ((A++(mg (ltF cmp) L1 R1++(mg (ltF cmp) L2 R2++B))).map Entry.row))]):=by
 have hll:n=A.length+L1.length+L2.length+R1.length+R2.length+B.length:=by rw [hn,hl]; simp; omega
 have e1:=sm1 A L1 L2 R1 R2 B hl (s:=i) (m:=p) (e:=mid+p - i) ow hp ow
 have e2:=sm2 (ltF cmp) A L1 R1 (L2++(R2++B)) (a:=a) (s:=i) (mid:=mid) hA hi hR1
 have e3:=sm3 (ltF cmp) A (mg (ltF cmp) L1 R1) L2 R2 B (mid:=mid) (e:=mid+p - i) (b:=b) b4Q ow ow
 have hrot:0 < L2.length->0 < R1.length->_:=vP (A++L1) L2 R1 (R2++B) (l:=l) (by rw [hl]; simp) (a:=i) (m:=p) (b:=mid+p - i) yg_ hp ow
 have hlen2:(A++(mg (ltF cmp) L1 R1++(L2++(R2++B)))).length=n:=by rw [hll]; simp [uW]; omega
 have hlen1:(A++(L1++(R1++(L2++(R2++B))))).length=n:=by rw [hll]; simp; omega
 exact x9 (fn:=Tryz.f219) (ann:=aL) (Has.o Tryz.func219) (.r (.y 2 (iW ((p:Int) - (a:Int))) (AV.int .i64 ((p - a:Nat):Int)) Yes.o (.y 3 (AV.bool (((p - a:Nat):Int) == 1)) (AV.bool false) (Yes.b uF) (.rn (.y 2 (iW ((b:Int) - (p:Int))) (AV.int .i64 ((b - p:Nat):Int)) Yes.o (.y 3 (AV.bool (((b - p:Nat):Int) == 1)) (AV.bool false) (Yes.b uF) (.rn (.y 2 (iW ((a:Int)+(b:Int))) (AV.int .i64 ((a+b:Nat):Int)) Yes.o (.y 5 (iW (Int.fdiv (IntKind.u64.wrap ((a+b:Nat):Int)) (2 ^ (min (Int.toNat 1) 64)))) (AV.int .i64 (mid:Int)) (Yes.int (fQ ow ow)) (.s (.y 2 (iW ((mid:Int)+(p:Int))) (AV.int .i64 ((mid+p:Nat):Int)) Yes.o (.s (.s (.y 2 (AV.bool (decide ((p:Int) > (mid:Int)))) (AV.bool true) (Yes.b a9k) (.ru (.y 2 (iW (((mid+p:Nat):Int) - (b:Int))) (AV.int .i64 ((mid+p - b:Nat):Int)) Yes.o (.s (.s (.y 1 (iW (((mid+p:Nat):Int) - 1)) (AV.int .i64 ((mid+p - 1:Nat):Int)) Yes.o (.g (.loop (c0I g n a p b f xs mid i) (show l6 (C8 aL Tryz.f219 4) (some [0,1,2,3,4,18,19,20,21,22]) (some [0,1,2,3,4,18,19,20]) (mkF 220 [(0,(AV.osl 0 g 10 0 n)),(1,(AV.int .i64 (a:Int))),(2,(AV.int .i64 (p:Int))),(3,(AV.int .i64 (b:Int))),(4,(AV.func f xs)),(18,(AV.int .i64 (mid:Int))),(19,(AV.int .i64 ((mid+p:Nat):Int))),(20,(AV.int .i64 ((mid+p - b:Nat):Int))),(21,(AV.int .i64 (mid:Int))),(22,(AV.int .i64 ((mid+p - 1:Nat):Int)))]) [(o_ g 10 (l.map Entry.row))] (.exit 8) (c0I g n a p b f xs mid i) [(o_ g 10 (l.map Entry.row))] from (by rw [hs]; exact a9K cmp f xs hc a p b mid (mid+p) (mid+p - 1) n g l hn hnb (mid - ((mid+p - b))) (mid+p - b) mid ow ow ow)) (.r (.y 2 (iW ((((mid+p):Nat):Int) - (i:Int))) (AV.int .i64 (((mid+p) - i:Nat):Int)) Yes.o (.s (.two (l9 i p) (fun h1 h1'=>(.u2 (.g (.two (l9 p ((mid+p) - i)) (fun h2 h2'=>(.r (.ch 5 (d2a g i p mid l) (c3I f xs i p ((mid+p) - i) n g l y7 y7 y7 y7 y7 y7 ((hrot ow ow).1) ((hrot ow ow).2.1) ((hrot ow ow).2.2) []) (.s (.two (l9 a i) (fun h3 h3'=>(.u2 (.g (.two (l9 i mid) (fun h4 h4'=>(.r (.ch 5 [(o_ g 10 ((mAt (ltF cmp) a i mid (S9 i p ((mid+p) - i) l)).map Entry.row))] (ih_at a i mid n g (S9 i p ((mid+p) - i) l) rM y7 y7 y7 y7 y7 rJ rH []) (.s (.two (l9 mid ((mid+p) - i)) (fun h5 h5'=>(.u2 (.g (.two (l9 ((mid+p) - i) b) (fun h6 h6'=>(.r (.ch 5 [(o_ g 10 ((mAt (ltF cmp) mid ((mid+p) - i) b (mAt (ltF cmp) a i mid (S9 i p ((mid+p) - i) l))).map Entry.row))] (ih_at mid ((mid+p) - i) b n g (mAt (ltF cmp) a i mid (S9 i p ((mid+p) - i) l)) Y2 y7 y7 y7 y7 y7 Y1 Y0 []) (.q 1 (AV.tup []) O8)))) (fun h6 h6'=>(.q 1 (AV.tup []) O8)))))) (fun h5 h5'=>(.n2 (.g (.n (.q 1 (AV.tup []) O8)))))))))) (fun h4 h4'=>(.r (.two (l9 mid ((mid+p) - i)) (fun h5 h5'=>(.u2 (.g (.two (l9 ((mid+p) - i) b) (fun h6 h6'=>(.r (.ch 5 [(o_ g 10 ((mAt (ltF cmp) mid ((mid+p) - i) b (S9 i p ((mid+p) - i) l)).map Entry.row))] (ih_at mid ((mid+p) - i) b n g (S9 i p ((mid+p) - i) l) Y2 y7 y7 y7 y7 y7 Y1 Y0 []) (.q 1 (AV.tup []) O8)))) (fun h6 h6'=>(.q 1 (AV.tup []) O8)))))) (fun h5 h5'=>(.n2 (.g (.n (.q 1 (AV.tup []) O8)))))))))))) (fun h3 h3'=>(.n2 (.rn (.two (l9 mid ((mid+p) - i)) (fun h4 h4'=>(.u2 (.g (.two (l9 ((mid+p) - i) b) (fun h5 h5'=>(.r (.ch 5 [(o_ g 10 ((mAt (ltF cmp) mid ((mid+p) - i) b (S9 i p ((mid+p) - i) l)).map Entry.row))] (ih_at mid ((mid+p) - i) b n g (S9 i p ((mid+p) - i) l) Y2 y7 y7 y7 y7 y7 Y1 Y0 []) (.q 1 (AV.tup []) O8)))) (fun h5 h5'=>(.q 1 (AV.tup []) O8)))))) (fun h4 h4'=>(.n2 (.g (.n (.q 1 (AV.tup []) O8)))))))))))))) (fun h2 h2'=>(.r (.two (l9 a i) (fun h3 h3'=>(.u2 (.g (.two (l9 i mid) (fun h4 h4'=>(.r (.ch 5 [(o_ g 10 ((mAt (ltF cmp) a i mid l).map Entry.row))] (ih_at a i mid n g l rM y7 y7 y7 y7 y7 rJ rH []) (.s (.two (l9 mid ((mid+p) - i)) (fun h5 h5'=>(.u2 (.g (.two (l9 ((mid+p) - i) b) (fun h6 h6'=>(.r (.ch 5 [(o_ g 10 ((mAt (ltF cmp) mid ((mid+p) - i) b (mAt (ltF cmp) a i mid l)).map Entry.row))] (ih_at mid ((mid+p) - i) b n g (mAt (ltF cmp) a i mid l) Y2 y7 y7 y7 y7 y7 Y1 Y0 []) (.q 1 (AV.tup []) O8)))) (fun h6 h6'=>(.q 1 (AV.tup []) O8)))))) (fun h5 h5'=>(.n2 (.g (.n (.q 1 (AV.tup []) O8)))))))))) (fun h4 h4'=>(.r (.two (l9 mid ((mid+p) - i)) (fun h5 h5'=>(.u2 (.g (.two (l9 ((mid+p) - i) b) (fun h6 h6'=>(.r (.ch 5 [(o_ g 10 ((mAt (ltF cmp) mid ((mid+p) - i) b l).map Entry.row))] (ih_at mid ((mid+p) - i) b n g l Y2 y7 y7 y7 y7 y7 Y1 Y0 []) (.q 1 (AV.tup []) O8)))) (fun h6 h6'=>(.q 1 (AV.tup []) O8)))))) (fun h5 h5'=>(.n2 (.g (.n (.q 1 (AV.tup []) O8)))))))))))) (fun h3 h3'=>(.n2 (.rn (.two (l9 mid ((mid+p) - i)) (fun h4 h4'=>(.u2 (.g (.two (l9 ((mid+p) - i) b) (fun h5 h5'=>(.r (.ch 5 [(o_ g 10 ((mAt (ltF cmp) mid ((mid+p) - i) b l).map Entry.row))] (ih_at mid ((mid+p) - i) b n g l Y2 y7 y7 y7 y7 y7 Y1 Y0 []) (.q 1 (AV.tup []) O8)))) (fun h5 h5'=>(.q 1 (AV.tup []) O8)))))) (fun h4 h4'=>(.n2 (.g (.n (.q 1 (AV.tup []) O8)))))))))))))))) (fun h1 h1'=>(.n2 (.rn (.two (l9 a i) (fun h2 h2'=>(.u2 (.g (.two (l9 i mid) (fun h3 h3'=>(.r (.ch 5 [(o_ g 10 ((mAt (ltF cmp) a i mid l).map Entry.row))] (ih_at a i mid n g l rM y7 y7 y7 y7 y7 rJ rH []) (.s (.two (l9 mid ((mid+p) - i)) (fun h4 h4'=>(.u2 (.g (.two (l9 ((mid+p) - i) b) (fun h5 h5'=>(.r (.ch 5 [(o_ g 10 ((mAt (ltF cmp) mid ((mid+p) - i) b (mAt (ltF cmp) a i mid l)).map Entry.row))] (ih_at mid ((mid+p) - i) b n g (mAt (ltF cmp) a i mid l) Y2 y7 y7 y7 y7 y7 Y1 Y0 []) (.q 1 (AV.tup []) O8)))) (fun h5 h5'=>(.q 1 (AV.tup []) O8)))))) (fun h4 h4'=>(.n2 (.g (.n (.q 1 (AV.tup []) O8)))))))))) (fun h3 h3'=>(.r (.two (l9 mid ((mid+p) - i)) (fun h4 h4'=>(.u2 (.g (.two (l9 ((mid+p) - i) b) (fun h5 h5'=>(.r (.ch 5 [(o_ g 10 ((mAt (ltF cmp) mid ((mid+p) - i) b l).map Entry.row))] (ih_at mid ((mid+p) - i) b n g l Y2 y7 y7 y7 y7 y7 Y1 Y0 []) (.q 1 (AV.tup []) O8)))) (fun h5 h5'=>(.q 1 (AV.tup []) O8)))))) (fun h4 h4'=>(.n2 (.g (.n (.q 1 (AV.tup []) O8)))))))))))) (fun h2 h2'=>(.n2 (.rn (.two (l9 mid ((mid+p) - i)) (fun h3 h3'=>(.u2 (.g (.two (l9 ((mid+p) - i) b) (fun h4 h4'=>(.r (.ch 5 [(o_ g 10 ((mAt (ltF cmp) mid ((mid+p) - i) b l).map Entry.row))] (ih_at mid ((mid+p) - i) b n g l Y2 y7 y7 y7 y7 y7 Y1 Y0 []) (.q 1 (AV.tup []) O8)))) (fun h4 h4'=>(.q 1 (AV.tup []) O8)))))) (fun h3 h3'=>(.n2 (.g (.n (.q 1 (AV.tup []) O8))))))))))))))))))))))))))))))))))))))
set_option maxHeartbeats 4000000 in
theorem c8t (cmp:Entry->Entry->Int) (f:Nat) (xs:List AV) (A L1 L2 R1 R2 B:l9E) (a p b n g i mid Nz:Nat) (l:l9E) (hc:h9E cmp f xs) (hxs:AV.bdds 1 xs=true) (hn:n=l.length) (hnb:n < 1048576) (ih_at:∀ (a p b n g:Nat) (l:l9E),n=l.length->n < 1048576->a < p->p < b->b<=n->b - a < Nz->Srt (ltF cmp) ((l.drop a).take (p - a))->Srt (ltF cmp) ((l.drop p).take (b - p))->∀ H:Heap,AC 219 [(AV.osl 0 g 10 0 n),(AV.int .i64 (a:Int)),(AV.int .i64 (p:Int)),(AV.int .i64 (b:Int)),(AV.func f xs)] (([(o_ g 10 (l.map Entry.row))]:Heap)++H) (.tup [],([(o_ g 10 ((mAt (ltF cmp) a p b l).map Entry.row))]:Heap)++H)) (hl:l=A++(L1++(L2++(R1++(R2++B))))) (hA:a=A.length) (hi:i=a+L1.length) (hp:p=i+L2.length) (hR1:mid=i+R1.length) (hb:b=p+R1.length+R2.length) (hbn:b<=n) (hap:a < p) (hpb:p < b) (h1:p≠a+1) (h2:b≠p+1) (hmid:mid=(a+b) / 2) (hNz:b - a<=Nz) (hgt:p<=mid) (hs:i=bsr (fun c=>!decide (cmp (nth l (mid+p - 1 - c)) (nth l c) < 0)) (p - a) a p) (hlo:a<=i) (hhi:i<=p) (q1:Srt (ltF cmp) L1) (q2:Srt (ltF cmp) L2) (q3:Srt (ltF cmp) R1) (q4:Srt (ltF cmp) R2):AC 219 [(AV.osl 0 g 10 0 n),(AV.int .i64 (a:Int)),(AV.int .i64 (p:Int)),(AV.int .i64 (b:Int)),(AV.func f xs)] [(o_ g 10 (l.map Entry.row))] ((AV.tup []),[(o_ g 10 ((A++(mg (ltF cmp) L1 R1++(mg (ltF cmp) L2 R2++B))).map Entry.row))]):=by
 have hll:n=A.length+L1.length+L2.length+R1.length+R2.length+B.length:=by rw [hn,hl]; simp; omega
 have e1:=sm1 A L1 L2 R1 R2 B hl (s:=i) (m:=p) (e:=mid+p - i) ow hp ow
 have e2:=sm2 (ltF cmp) A L1 R1 (L2++(R2++B)) (a:=a) (s:=i) (mid:=mid) hA hi hR1
 have e3:=sm3 (ltF cmp) A (mg (ltF cmp) L1 R1) L2 R2 B (mid:=mid) (e:=mid+p - i) (b:=b) b4Q ow ow
 have hrot:0 < L2.length->0 < R1.length->_:=vP (A++L1) L2 R1 (R2++B) (l:=l) (by rw [hl]; simp) (a:=i) (m:=p) (b:=mid+p - i) yg_ hp ow
 have hlen2:(A++(mg (ltF cmp) L1 R1++(L2++(R2++B)))).length=n:=by rw [hll]; simp [uW]; omega
 have hlen1:(A++(L1++(R1++(L2++(R2++B))))).length=n:=by rw [hll]; simp; omega
 exact x9 (fn:=Tryz.f219) (ann:=aL) (Has.o Tryz.func219) (.r (.y 2 (iW ((p:Int) - (a:Int))) (AV.int .i64 ((p - a:Nat):Int)) Yes.o (.y 3 (AV.bool (((p - a:Nat):Int) == 1)) (AV.bool false) (Yes.b uF) (.rn (.y 2 (iW ((b:Int) - (p:Int))) (AV.int .i64 ((b - p:Nat):Int)) Yes.o (.y 3 (AV.bool (((b - p:Nat):Int) == 1)) (AV.bool false) (Yes.b uF) (.rn (.y 2 (iW ((a:Int)+(b:Int))) (AV.int .i64 ((a+b:Nat):Int)) Yes.o (.y 5 (iW (Int.fdiv (IntKind.u64.wrap ((a+b:Nat):Int)) (2 ^ (min (Int.toNat 1) 64)))) (AV.int .i64 (mid:Int)) (Yes.int (fQ ow ow)) (.s (.y 2 (iW ((mid:Int)+(p:Int))) (AV.int .i64 ((mid+p:Nat):Int)) Yes.o (.s (.s (.y 2 (AV.bool (decide ((p:Int) > (mid:Int)))) (AV.bool false) (Yes.b a9j) (.rn (.s (.s (.y 1 (iW (((mid+p:Nat):Int) - 1)) (AV.int .i64 ((mid+p - 1:Nat):Int)) Yes.o (.g (.loop (c0I g n a p b f xs mid i) (show l6 (C8 aL Tryz.f219 4) (some [0,1,2,3,4,18,19,20,21,22]) (some [0,1,2,3,4,18,19,20]) (mkF 220 [(0,(AV.osl 0 g 10 0 n)),(1,(AV.int .i64 (a:Int))),(2,(AV.int .i64 (p:Int))),(3,(AV.int .i64 (b:Int))),(4,(AV.func f xs)),(18,(AV.int .i64 (mid:Int))),(19,(AV.int .i64 ((mid+p:Nat):Int))),(20,(AV.int .i64 (a:Int))),(21,(AV.int .i64 (p:Int))),(22,(AV.int .i64 ((mid+p - 1:Nat):Int)))]) [(o_ g 10 (l.map Entry.row))] (.exit 8) (c0I g n a p b f xs mid i) [(o_ g 10 (l.map Entry.row))] from (by rw [hs]; exact a9K cmp f xs hc a p b mid (mid+p) (mid+p - 1) n g l hn hnb (p - a) a p ow ow ow)) (.r (.y 2 (iW ((((mid+p):Nat):Int) - (i:Int))) (AV.int .i64 (((mid+p) - i:Nat):Int)) Yes.o (.s (.two (l9 i p) (fun h1 h1'=>(.u2 (.g (.two (l9 p ((mid+p) - i)) (fun h2 h2'=>(.r (.ch 5 (d2a g i p mid l) (c3I f xs i p ((mid+p) - i) n g l y7 y7 y7 y7 y7 y7 ((hrot ow ow).1) ((hrot ow ow).2.1) ((hrot ow ow).2.2) []) (.s (.two (l9 a i) (fun h3 h3'=>(.u2 (.g (.two (l9 i mid) (fun h4 h4'=>(.r (.ch 5 [(o_ g 10 ((mAt (ltF cmp) a i mid (S9 i p ((mid+p) - i) l)).map Entry.row))] (ih_at a i mid n g (S9 i p ((mid+p) - i) l) rM y7 y7 y7 y7 y7 rJ rH []) (.s (.two (l9 mid ((mid+p) - i)) (fun h5 h5'=>(.u2 (.g (.two (l9 ((mid+p) - i) b) (fun h6 h6'=>(.r (.ch 5 [(o_ g 10 ((mAt (ltF cmp) mid ((mid+p) - i) b (mAt (ltF cmp) a i mid (S9 i p ((mid+p) - i) l))).map Entry.row))] (ih_at mid ((mid+p) - i) b n g (mAt (ltF cmp) a i mid (S9 i p ((mid+p) - i) l)) Y2 y7 y7 y7 y7 y7 Y1 Y0 []) (.q 1 (AV.tup []) O8)))) (fun h6 h6'=>(.q 1 (AV.tup []) O8)))))) (fun h5 h5'=>(.n2 (.g (.n (.q 1 (AV.tup []) O8)))))))))) (fun h4 h4'=>(.r (.two (l9 mid ((mid+p) - i)) (fun h5 h5'=>(.u2 (.g (.two (l9 ((mid+p) - i) b) (fun h6 h6'=>(.r (.ch 5 [(o_ g 10 ((mAt (ltF cmp) mid ((mid+p) - i) b (S9 i p ((mid+p) - i) l)).map Entry.row))] (ih_at mid ((mid+p) - i) b n g (S9 i p ((mid+p) - i) l) Y2 y7 y7 y7 y7 y7 Y1 Y0 []) (.q 1 (AV.tup []) O8)))) (fun h6 h6'=>(.q 1 (AV.tup []) O8)))))) (fun h5 h5'=>(.n2 (.g (.n (.q 1 (AV.tup []) O8)))))))))))) (fun h3 h3'=>(.n2 (.rn (.two (l9 mid ((mid+p) - i)) (fun h4 h4'=>(.u2 (.g (.two (l9 ((mid+p) - i) b) (fun h5 h5'=>(.r (.ch 5 [(o_ g 10 ((mAt (ltF cmp) mid ((mid+p) - i) b (S9 i p ((mid+p) - i) l)).map Entry.row))] (ih_at mid ((mid+p) - i) b n g (S9 i p ((mid+p) - i) l) Y2 y7 y7 y7 y7 y7 Y1 Y0 []) (.q 1 (AV.tup []) O8)))) (fun h5 h5'=>(.q 1 (AV.tup []) O8)))))) (fun h4 h4'=>(.n2 (.g (.n (.q 1 (AV.tup []) O8)))))))))))))) (fun h2 h2'=>(.r (.two (l9 a i) (fun h3 h3'=>(.u2 (.g (.two (l9 i mid) (fun h4 h4'=>(.r (.ch 5 [(o_ g 10 ((mAt (ltF cmp) a i mid l).map Entry.row))] (ih_at a i mid n g l rM y7 y7 y7 y7 y7 rJ rH []) (.s (.two (l9 mid ((mid+p) - i)) (fun h5 h5'=>(.u2 (.g (.two (l9 ((mid+p) - i) b) (fun h6 h6'=>(.r (.ch 5 [(o_ g 10 ((mAt (ltF cmp) mid ((mid+p) - i) b (mAt (ltF cmp) a i mid l)).map Entry.row))] (ih_at mid ((mid+p) - i) b n g (mAt (ltF cmp) a i mid l) Y2 y7 y7 y7 y7 y7 Y1 Y0 []) (.q 1 (AV.tup []) O8)))) (fun h6 h6'=>(.q 1 (AV.tup []) O8)))))) (fun h5 h5'=>(.n2 (.g (.n (.q 1 (AV.tup []) O8)))))))))) (fun h4 h4'=>(.r (.two (l9 mid ((mid+p) - i)) (fun h5 h5'=>(.u2 (.g (.two (l9 ((mid+p) - i) b) (fun h6 h6'=>(.r (.ch 5 [(o_ g 10 ((mAt (ltF cmp) mid ((mid+p) - i) b l).map Entry.row))] (ih_at mid ((mid+p) - i) b n g l Y2 y7 y7 y7 y7 y7 Y1 Y0 []) (.q 1 (AV.tup []) O8)))) (fun h6 h6'=>(.q 1 (AV.tup []) O8)))))) (fun h5 h5'=>(.n2 (.g (.n (.q 1 (AV.tup []) O8)))))))))))) (fun h3 h3'=>(.n2 (.rn (.two (l9 mid ((mid+p) - i)) (fun h4 h4'=>(.u2 (.g (.two (l9 ((mid+p) - i) b) (fun h5 h5'=>(.r (.ch 5 [(o_ g 10 ((mAt (ltF cmp) mid ((mid+p) - i) b l).map Entry.row))] (ih_at mid ((mid+p) - i) b n g l Y2 y7 y7 y7 y7 y7 Y1 Y0 []) (.q 1 (AV.tup []) O8)))) (fun h5 h5'=>(.q 1 (AV.tup []) O8)))))) (fun h4 h4'=>(.n2 (.g (.n (.q 1 (AV.tup []) O8)))))))))))))))) (fun h1 h1'=>(.n2 (.rn (.two (l9 a i) (fun h2 h2'=>(.u2 (.g (.two (l9 i mid) (fun h3 h3'=>(.r (.ch 5 [(o_ g 10 ((mAt (ltF cmp) a i mid l).map Entry.row))] (ih_at a i mid n g l rM y7 y7 y7 y7 y7 rJ rH []) (.s (.two (l9 mid ((mid+p) - i)) (fun h4 h4'=>(.u2 (.g (.two (l9 ((mid+p) - i) b) (fun h5 h5'=>(.r (.ch 5 [(o_ g 10 ((mAt (ltF cmp) mid ((mid+p) - i) b (mAt (ltF cmp) a i mid l)).map Entry.row))] (ih_at mid ((mid+p) - i) b n g (mAt (ltF cmp) a i mid l) Y2 y7 y7 y7 y7 y7 Y1 Y0 []) (.q 1 (AV.tup []) O8)))) (fun h5 h5'=>(.q 1 (AV.tup []) O8)))))) (fun h4 h4'=>(.n2 (.g (.n (.q 1 (AV.tup []) O8)))))))))) (fun h3 h3'=>(.r (.two (l9 mid ((mid+p) - i)) (fun h4 h4'=>(.u2 (.g (.two (l9 ((mid+p) - i) b) (fun h5 h5'=>(.r (.ch 5 [(o_ g 10 ((mAt (ltF cmp) mid ((mid+p) - i) b l).map Entry.row))] (ih_at mid ((mid+p) - i) b n g l Y2 y7 y7 y7 y7 y7 Y1 Y0 []) (.q 1 (AV.tup []) O8)))) (fun h5 h5'=>(.q 1 (AV.tup []) O8)))))) (fun h4 h4'=>(.n2 (.g (.n (.q 1 (AV.tup []) O8)))))))))))) (fun h2 h2'=>(.n2 (.rn (.two (l9 mid ((mid+p) - i)) (fun h3 h3'=>(.u2 (.g (.two (l9 ((mid+p) - i) b) (fun h4 h4'=>(.r (.ch 5 [(o_ g 10 ((mAt (ltF cmp) mid ((mid+p) - i) b l).map Entry.row))] (ih_at mid ((mid+p) - i) b n g l Y2 y7 y7 y7 y7 y7 Y1 Y0 []) (.q 1 (AV.tup []) O8)))) (fun h4 h4'=>(.q 1 (AV.tup []) O8)))))) (fun h3 h3'=>(.n2 (.g (.n (.q 1 (AV.tup []) O8)))))))))))))))))))))))))))))))))))))
end Go.Proofs.YtmghjcbabebanaaGreat.AM
namespace Go.Proofs.YtmghjcbabebanaaGreat.AM
open Go Go.Proofs.YtmghjcbabebanaaGreat
attribute [local irreducible] A9 E9 F5 F6 F8 F9 G9 H6 J4 K4 K5 L8 M8 Q5 R7 S9 Tp.J5 Tp.K8 Tp.card Tp.cards Tp.key Tp.keyT Tp.next Tp.step U6 U7 V3 V8 bsr cmpL j5 l6 mg mgL shD shU sink
theorem d6y (cmp:Entry->Entry->Int) (f:Nat) (xs:List AV) (hc:h9E cmp f xs) (hxs:AV.bdds 1 xs=true) (W:U8 (ltF cmp)) (Nz:Nat):∀ (a p b n g:Nat) (l:l9E),n=l.length->n < 1048576->a < p->p < b->b<=n->b - a < Nz ->
 Srt (ltF cmp) ((l.drop a).take (p - a))->Srt (ltF cmp) ((l.drop p).take (b - p))->AC 219 [(d9 0 g 10 n),(iN a),(iN p),(iN b),(A8 f xs)] [(o_ g 10 (mE l))] (.tup [],[(o_ g 10 (mE (mAt (ltF cmp) a p b l)))]):=by
 induction Nz with
 | zero=>intro a p b n g l _ _ _ _ _ h; omega
 | succ Nz ih =>
  intro a p b n g l hn hnb hap hpb hbn hN h7 h8
  by_cases c1:p=a+1
  · obtain ⟨s1,s2,s3,s4⟩:=oN (fun c=>decide (cmp (nth l c) (nth l a) < 0)) (b - p) p b J8 ow
    generalize hs:bsr (fun c=>decide (cmp (nth l c) (nth l a) < 0)) (b - p) p b=s at s1 s2 s3 s4
    have hlaw:=nV W (l:=l) (a:=a) (p:=p) (b:=b) (s:=a) (e:=s) ow ow ow h7 h8 ow ow s1 s2 (fun _ h=>s3 h) (fun h=>by omega)
    have hx:(l.drop a).take (p - a)=[nth l a]:=by rw [show p - a=1 by omega]; exact zV ow
    rw [Nat.sub_self,List.take_zero,bE,hx,b0r (fun y hy=>by
     obtain ⟨q1,q2⟩:=vZ hy ow
     rw [q2]; exact s4 ow)] at hlaw
    rw [hlaw]
    have hl:=four (l:=l) (a:=a) (m:=p) (b:=b) ow ow
    rw [hx,dX (l:=l) (a:=p) (k:=b - p) (s:=s - p) ow,show p+(s - p)=s by omega,show b - p - (s - p)=b - s by omega,List.append_assoc] at hl
    exact c8w cmp f xs (l.take a) ((l.drop p).take (s - p)) ((l.drop s).take (b - s)) (l.drop b) (nth l a) a p b n g s l hc hxs hn hnb hl yg_ c1 ow hbn rG s2 hs.symm
  by_cases c2:b=p+1
  · obtain ⟨s1,s2,s3,s4⟩:=oN (fun c=>!decide (cmp (nth l p) (nth l c) < 0)) (p - a) a p J8 ow
    generalize hs:bsr (fun c=>!decide (cmp (nth l p) (nth l c) < 0)) (p - a) a p=s at s1 s2 s3 s4
    have hlaw:=nV W (l:=l) (a:=a) (p:=p) (b:=b) (s:=s) (e:=p) ow ow ow h7 h8 s1 s2 ow ow (fun _ h=>by omega) (fun h _=>by have:=s3 h; simp only [Bool.not_eq_true'] at this; exact this)
    have hx:(l.drop p).take (b - p)=[nth l p]:=by rw [show b - p=1 by omega]; exact zV ow
    rw [Nat.sub_self,List.take_zero,fM,hx,b0q (fun y hy=>by
     obtain ⟨q1,q2⟩:=vZ hy ow
     rw [q2]; simpa [ltF] using s4 ow)] at hlaw
    rw [hlaw]
    have hl:=four (l:=l) (a:=a) (m:=p) (b:=b) ow ow
    rw [hx,dX (l:=l) (a:=a) (k:=p - a) (s:=s - a) ow,show a+(s - a)=s by omega,show p - a - (s - a)=p - s by omega,List.append_assoc] at hl
    exact c8v cmp f xs (l.take a) ((l.drop a).take (s - a)) ((l.drop s).take (p - s)) (l.drop b) (nth l p) a p b n g s l hc hxs hn hnb hl yg_ rG rG c1 c2 hbn hs.symm
  have ih_at:∀ (a p b n g:Nat) (l:l9E),n=l.length->n < 1048576->a < p->p < b->b<=n->b - a < Nz->Srt (ltF cmp) ((l.drop a).take (p - a))->Srt (ltF cmp) ((l.drop p).take (b - p))->∀ H:Heap,AC 219 [(d9 0 g 10 n),(iN a),(iN p),(iN b),(A8 f xs)] (([(o_ g 10 (mE l))]:Heap)++H) (.tup [],([(o_ g 10 (mE (mAt (ltF cmp) a p b l)))]:Heap)++H) :=
   fun a p b n g l q1 q2 q3 q4 q5 q6 q7 q8 H=>(ih a p b n g l q1 q2 q3 q4 q5 q6 q7 q8).ext (by simp [AV.bdds,AV.bdd,hxs]) kr ob ob kr H
  obtain ⟨mid,hmid⟩:∃ mid,mid=(a+b) / 2:=⟨_,rfl⟩
  have go:∀ lo hi,lo<=hi->(∀ s,lo<=s->s<=hi->a<=s/\s<=p/\p<=mid+p - s/\mid+p - s<=b/\(s < p->p < mid+p - s->s < hi)/\(a < s->mid+p - s < b->lo < s)) ->
   (∀ s,s=bsr (fun c=>!decide (cmp (nth l (mid+p - 1 - c)) (nth l c) < 0)) (hi - lo) lo hi->lo<=s->s<=hi->∀ (L1 L2 R1 R2:l9E),l=l.take a++(L1++(L2++(R1++(R2++l.drop b))))->s=a+L1.length->p=s+L2.length->mid=s+R1.length->b=p+R1.length+R2.length->Srt (ltF cmp) L1->Srt (ltF cmp) L2->Srt (ltF cmp) R1->Srt (ltF cmp) R2 ->
    AC 219 [(d9 0 g 10 n),(iN a),(iN p),(iN b),(A8 f xs)] [(o_ g 10 (mE l))] (.tup [],([(o_ g 10 (mE (l.take a++(mg (ltF cmp) L1 R1++(mg (ltF cmp) L2 R2++l.drop b)))))]:Heap))) ->
   AC 219 [(d9 0 g 10 n),(iN a),(iN p),(iN b),(A8 f xs)] [(o_ g 10 (mE l))] (.tup [],([(o_ g 10 (mE (mAt (ltF cmp) a p b l)))]:Heap)):=by
   intro lo hi hlh hb walk
   obtain ⟨s1,s2,s3,s4⟩:=oN (fun c=>!decide (cmp (nth l (mid+p - 1 - c)) (nth l c) < 0)) (hi - lo) lo hi J8 hlh
   generalize hs:bsr (fun c=>!decide (cmp (nth l (mid+p - 1 - c)) (nth l c) < 0)) (hi - lo) lo hi=s at s1 s2 s3 s4
   obtain ⟨b1,b2,b3,b4,b5,b6⟩:=hb s s1 s2
   have hlaw:=nV W (l:=l) (a:=a) (p:=p) (b:=b) (s:=s) (e:=mid+p - s) ow ow ow h7 h8 b1 b2 b3 b4 (fun h1 h2=>by
    have:=s4 (b5 h1 h2)
    simp only [Bool.not_eq_false'] at this
    rwa [show mid+p - 1 - s=mid+p - s - 1 by omega] at this) (fun h1 h2=>by
    have:=s3 (b6 h1 h2)
    simp only [Bool.not_eq_true'] at this
    rwa [show mid+p - 1 - (s - 1)=mid+p - s by omega] at this)
   rw [hlaw]
   have hl:=four (l:=l) (a:=a) (m:=p) (b:=b) ow ow
   rw [dX (l:=l) (a:=a) (k:=p - a) (s:=s - a) ow,show a+(s - a)=s by omega,show p - a - (s - a)=p - s by omega,
    dX (l:=l) (a:=p) (k:=b - p) (s:=mid+p - s - p) ow,show p+(mid+p - s - p)=mid+p - s by omega,show b - p - (mid+p - s - p)=b - (mid+p - s) by omega,List.append_assoc,List.append_assoc] at hl
   have q1:=a2g (l:=l) (a:=a) (k:=p - a) (s:=s - a) ow h7
   have q2:=a2g (l:=l) (a:=p) (k:=b - p) (s:=mid+p - s - p) ow h8
   rw [show a+(s - a)=s by omega,show p - a - (s - a)=p - s by omega] at q1
   rw [show p+(mid+p - s - p)=mid+p - s by omega,show b - p - (mid+p - s - p)=b - (mid+p - s) by omega] at q2
   exact walk s hs.symm s1 s2 _ _ _ _ hl rG rG rG (by rw [lG ow,lG ow]; omega) q1.1 q1.2 q2.1 q2.2
  have hA:a=(l.take a).length:=by simp; omega
  by_cases hgt:mid < p
  · refine go (mid+p - b) mid ow (fun s h1 h2=>⟨by omega,by omega,by omega,by omega,fun _ _=>by omega,fun _ _=>by omega⟩) fun s hs h1 h2 L1 L2 R1 R2 hl e1 e2 e3 e4 q1 q2 q3 q4=>?_
    exact c8u cmp f xs (l.take a) L1 L2 R1 R2 (l.drop b) a p b n g s mid Nz l hc hxs hn hnb ih_at hl hA e1 e2 e3 e4 hbn hap hpb c1 c2 hmid ow hgt hs h1 h2 q1 q2 q3 q4
  · refine go a p ow (fun s h1 h2=>⟨by omega,by omega,by omega,by omega,fun _ _=>by omega,fun _ _=>by omega⟩) fun s hs h1 h2 L1 L2 R1 R2 hl e1 e2 e3 e4 q1 q2 q3 q4=>?_
    exact c8t cmp f xs (l.take a) L1 L2 R1 R2 (l.drop b) a p b n g s mid Nz l hc hxs hn hnb ih_at hl hA e1 e2 e3 e4 hbn hap hpb c1 c2 hmid ow ow hs h1 h2 q1 q2 q3 q4
attribute [local irreducible] Q0 blk iD mAt mix
theorem c8p (cmp:Entry->Entry->Int) (f:Nat) (xs:List AV) (a p b n g:Nat) (l:l9E) (hc:h9E cmp f xs) (hxs:AV.bdds 1 xs=true) (W:U8 (ltF cmp)) (h1:n=l.length) (h2:n < 1048576) (h3:a < p) (h4:p < b) (h5:b<=n) (h7:Srt (ltF cmp) ((l.drop a).take (p - a))) (h8:Srt (ltF cmp) ((l.drop p).take (b - p))):AC 219 [(d9 0 g 10 n),(iN a),(iN p),(iN b),(A8 f xs)] [(o_ g 10 (mE l))] (F4,[(o_ g 10 (mE (mAt (ltF cmp) a p b l)))]):=d6y cmp f xs hc hxs W (b - a+1) a p b n g l h1 h2 h3 h4 h5 ow h7 h8
theorem c2A (cmp:Entry->Entry->Int) (f:Nat) (xs:List AV) (a p b n g:Nat) (l:l9E) (hc:h9E cmp f xs) (hxs:AV.bdds 1 xs=true) (W:U8 (ltF cmp)) (h1:n=l.length) (h2:n < 1048576) (h3:a < p) (h4:p < b) (h5:b<=n) (h7:Srt (ltF cmp) ((l.drop a).take (p - a))) (h8:Srt (ltF cmp) ((l.drop p).take (b - p))) (H:Heap):AC 219 [(d9 0 g 10 n),(iN a),(iN p),(iN b),(A8 f xs)] (([(o_ g 10 (mE l))]:Heap)++H) (F4,([(o_ g 10 (mE (mAt (ltF cmp) a p b l)))]:Heap)++H):=(c8p cmp f xs a p b n g l hc hxs W h1 h2 h3 h4 h5 h7 h8).ext lZ kr ob ob kr H
def gX:Ann:={ base:=1,fin:=some 1,live:=[(2,[0,1,2,6,7,8]),(7,[0,1,2,6]),(9,[0,1,2,6,7,8])],out:=[(2,[0,1,2,6,7]),(7,[]),(9,[0,1,2,6,7])] }
theorem a4u (cmp:Entry->Entry->Int) (f:Nat) (xs:List AV) (a b n g:Nat) (l:l9E) (hc:h9E cmp f xs) (hxs:AV.bdds 1 xs=true) (W:U8 (ltF cmp)) (hn:n=l.length) (hnb:n < 524288) (hb:b=a+20) (han:a<=n) {eX:Ex} {FX:Fr} {HX:Heap} (k1:(decide ((b:Int)<=(n:Int)))=true->l6 (C8 gX Tryz.f209 0) (some [0,1,2,6,7,8]) (some [0,1,2,6,7]) (mkF 63 [(0,(d9 0 g 10 n)),(1,(iN n)),(2,(A8 f xs)),(6,(iI 20)),(7,(iN b)),(8,(iN (b+20)))]) [(o_ g 10 (mE (A9 cmp a (b - (a+1)) (a+1) l)))] eX FX HX) (k2:(decide ((b:Int)<=(n:Int)))=false->((.exit 0:Ex),(mkF 63 [(0,(d9 0 g 10 n)),(1,(iN n)),(2,(A8 f xs)),(6,(iI 20)),(7,(iN a))]),[(o_ g 10 (mE l))])=(eX,FX,HX)):l6 (C8 gX Tryz.f209 0) (some [0,1,2,6,7,8]) (some [0,1,2,6,7]) (mkF 63 [(0,(d9 0 g 10 n)),(1,(iN n)),(2,(A8 f xs)),(6,(iI 20)),(7,(iN a)),(8,(iN b))]) [(o_ g 10 (mE l))] eX FX HX :=
 J7 (.r (.g (.two (decide ((b:Int)<=(n:Int))) (fun h1 h1'=>(.r (.t 4 F4 [(o_ g 10 (mE (A9 cmp a (b - (a+1)) (a+1) l)))] (b4D _ f xs a b n g l bL bL bL bL bL bL []:AC 218 [(d9 0 g 10 n),(iN a),(iN b),(A8 f xs)] [(o_ g 10 (mE l))] (F4,([(o_ g 10 (mE (A9 cmp a (b - (a+1)) (a+1) l)))]:Heap))) (.s (.s (.h' [(o_ g 10 (mE (A9 cmp a (b - (a+1)) (a+1) l)))] (.y 2 (iW ((b:Int)+20)) (iN (b+20)) Yes.o (.g (.l (k1 h1)))))))))) (fun h1 h1'=>(.l (k2 h1))))))
theorem b5S (cmp:Entry->Entry->Int) (f:Nat) (xs:List AV) (hc:h9E cmp f xs) (hxs:AV.bdds 1 xs=true) (W:U8 (ltF cmp)) (n g:Nat) (l0:l9E) (hn:n=l0.length) (hnb:n < 524288) (r:Nat):∀ (j a b:Nat) (l:l9E),j+r=n / 20->a=j * 20->b=a+20->l=blk (ltF cmp) 20 j l0 ->
 l6 (C8 gX Tryz.f209 0) (some [0,1,2,6,7,8]) (some [0,1,2,6,7]) (mkF 63 [(0,(d9 0 g 10 n)),(1,(iN n)),(2,(A8 f xs)),(6,(iI 20)),(7,(iN a)),(8,(iN b))]) [(o_ g 10 (mE l))] (.exit 0) (mkF 63 [(0,(d9 0 g 10 n)),(1,(iN n)),(2,(A8 f xs)),(6,(iI 20)),(7,(iN ((n / 20 * 20))))]) [(o_ g 10 (mE (blk (ltF cmp) 20 (n / 20) l0)))]:=by
 induction r with
 | zero =>
  intro j a b l hj ha hb hl
  subst hl
  refine a4u cmp f xs a b n g _ hc hxs W b4P hnb hb ow (fun h=>by simp at h; omega) (fun _=>?_)
  rw [show n / 20=j by omega,<- ha]
 | succ r ih =>
  intro j a b l hj ha hb hl
  subst hl
  refine a4u cmp f xs a b n g _ hc hxs W b4P hnb hb ow (fun h=>?_) (fun h=>by simp at h; omega)
  rw [a9w cmp ha hb ow]
  exact ih (j+1) b (b+20) _ ow ow rfl rfl
theorem a4t (cmp:Entry->Entry->Int) (f:Nat) (xs:List AV) (bs a b n g:Nat) (l:l9E) (hc:h9E cmp f xs) (hxs:AV.bdds 1 xs=true) (W:U8 (ltF cmp)) (hn:n=l.length) (hnb:n < 524288) (hb:b=a+2 * bs) (hbs:0 < bs) (hbn:bs < 524288) (han:a<=n) (hs7:b<=n->Srt (ltF cmp) ((l.drop a).take (a+bs - a))) (hs8:b<=n->Srt (ltF cmp) ((l.drop (a+bs)).take (b - (a+bs)))) {eX:Ex} {FX:Fr} {HX:Heap} (k1:(decide ((b:Int)<=(n:Int)))=true->l6 (C8 gX Tryz.f209 2) (some [0,1,2,6,7,8]) (some [0,1,2,6,7]) (mkF 63 [(0,(d9 0 g 10 n)),(1,(iN n)),(2,(A8 f xs)),(6,(iN bs)),(7,(iN b)),(8,(iN (b+(2 * bs))))]) [(o_ g 10 (mE (mAt (ltF cmp) a (a+bs) b l)))] eX FX HX) (k2:(decide ((b:Int)<=(n:Int)))=false->((.exit 4:Ex),(mkF 63 [(0,(d9 0 g 10 n)),(1,(iN n)),(2,(A8 f xs)),(6,(iN bs)),(7,(iN a))]),[(o_ g 10 (mE l))])=(eX,FX,HX)):l6 (C8 gX Tryz.f209 2) (some [0,1,2,6,7,8]) (some [0,1,2,6,7]) (mkF 63 [(0,(d9 0 g 10 n)),(1,(iN n)),(2,(A8 f xs)),(6,(iN bs)),(7,(iN a)),(8,(iN b))]) [(o_ g 10 (mE l))] eX FX HX :=
 J7 (.r (.g (.two (decide ((b:Int)<=(n:Int))) (fun h1 h1'=>(.r (.y 4 (.int .i64 (iT a bs)) (iN (a+bs)) Yes.o (.t 7 F4 [(o_ g 10 (mE (mAt (ltF cmp) a (a+bs) b l)))] (c2A _ f xs a (a+bs) b n g l bL bL bL bL bL bL bL bL (hs7 a9l) (hs8 a9l) []:AC 219 [(d9 0 g 10 n),(iN a),(iN (a+bs)),(iN b),(A8 f xs)] [(o_ g 10 (mE l))] (F4,([(o_ g 10 (mE (mAt (ltF cmp) a (a+bs) b l)))]:Heap))) (.s (.s (.h' [(o_ g 10 (mE (mAt (ltF cmp) a (a+bs) b l)))] (.y 2 (.int .i64 (b9u bs)) (iN (2 * bs)) Yes.o (.y 3 (iW ((b:Int)+((2 * bs:Nat):Int))) (iN (b+(2 * bs))) Yes.o (.g (.l (k1 h1)))))))))))) (fun h1 h1'=>(.l (k2 h1))))))
theorem b5R (cmp:Entry->Entry->Int) (f:Nat) (xs:List AV) (hc:h9E cmp f xs) (hxs:AV.bdds 1 xs=true) (W:U8 (ltF cmp)) (bs n g:Nat) (l0:l9E) (hn:n=l0.length) (hnb:n < 524288) (hbs:0 < bs) (hbn:bs < 524288) (J:Nat) (hJ:J=n / (2 * bs)) (r:Nat):∀ (j a b:Nat) (l:l9E),j+r=J->a=j * (2 * bs)->b=a+2 * bs->l=mix (ltF cmp) bs j l0 ->
 l6 (C8 gX Tryz.f209 2) (some [0,1,2,6,7,8]) (some [0,1,2,6,7]) (mkF 63 [(0,(d9 0 g 10 n)),(1,(iN n)),(2,(A8 f xs)),(6,(iN bs)),(7,(iN a)),(8,(iN b))]) [(o_ g 10 (mE l))] (.exit 4) (mkF 63 [(0,(d9 0 g 10 n)),(1,(iN n)),(2,(A8 f xs)),(6,(iN bs)),(7,(iN ((J * (2 * bs)))))]) [(o_ g 10 (mE (mix (ltF cmp) bs J l0)))]:=by
 have hdm:=Nat.div_mul_le_self n (2 * bs)
 have hlt:=Nat.lt_div_mul_add (a:=n) (b:=2 * bs) ow
 rw [<- hJ] at hdm hlt
 induction r with
 | zero =>
  intro j a b l hj ha hb hl
  subst hl
  obtain rfl:j=J:=by omega
  refine a4t cmp f xs bs a b n g _ hc hxs W b4O hnb hb hbs hbn ow (fun h=>by omega) (fun h=>by omega) (fun h=>by simp at h; omega) (fun _=>?_)
  rw [<- ha]
 | succ r ih =>
  intro j a b l hj ha hb hl
  subst hl
  have hmul:(j+1) * (2 * bs)=j * (2 * bs)+2 * bs:=Nat.succ_mul _ _
  have hle:(j+1) * (2 * bs)<=J * (2 * bs):=Nat.mul_le_mul_right _ ow
  obtain ⟨q1,q2,q3⟩:=a7B W hbs (l:=l0) ha hb ow
  refine a4t cmp f xs bs a b n g _ hc hxs W b4O hnb hb hbs hbn ow (fun _=>q2) (fun _=>q3) (fun h=>?_) (fun h=>by simp at h; omega)
  rw [q1]
  exact ih (j+1) b (b+2 * bs) _ ow ow rfl rfl
@[simp] abbrev d8G (a:Nat) (b:Nat) (c:Nat) (d:List AV) (e:Nat):Fr:=(mkF 63 [(0,(d9 0 a 10 b)),(1,(iN b)),(2,(A8 c d)),(6,(iN (e * 2)))])
abbrev e1c (a:Nat) (b:Nat) (c:Nat) (d:List AV) (e:Nat) (f:Nat):Fr:=(mkF 63 [(0,(d9 0 a 10 b)),(1,(iN b)),(2,(A8 c d)),(6,(iN e)),(7,(iN ((f * (2 * e)))))])
@[simp] abbrev d0I :=(C8 gX Tryz.f209 1)
theorem a4s (cmp:Entry->Entry->Int) (f:Nat) (xs:List AV) (bs J n g:Nat) (l l0:l9E) (hc:h9E cmp f xs) (hxs:AV.bdds 1 xs=true) (W:U8 (ltF cmp)) (hn:n=l0.length) (hnb:n < 524288) (hbs:0 < bs) (hbn:bs < 1048576) (hl:l=iD (ltF cmp) bs l0) (hJ:J=n / (2 * bs)) (hJn:J * (2 * bs)<=n) (hs7:J * (2 * bs)+bs < n->Srt (ltF cmp) (((mix (ltF cmp) bs J l0).drop (J * (2 * bs))).take (J * (2 * bs)+bs - J * (2 * bs)))) (hs8:J * (2 * bs)+bs < n->Srt (ltF cmp) (((mix (ltF cmp) bs J l0).drop (J * (2 * bs)+bs)).take (n - (J * (2 * bs)+bs)))) {eX:Ex} {FX:Fr} {HX:Heap} (k1:(l9 bs n)=true->(l9 ((J * (2 * bs))+bs) n)=true->l6 d0I (some [0,1,2,6]) (some []) (d8G g n f xs bs) [(o_ g 10 (mE (mAt (ltF cmp) (J * (2 * bs)) ((J * (2 * bs))+bs) n (mix (ltF cmp) bs J l0))))] eX FX HX) (k2:(l9 bs n)=true->(l9 ((J * (2 * bs))+bs) n)=false->l6 d0I (some [0,1,2,6]) (some []) (d8G g n f xs bs) [(o_ g 10 (mE (mix (ltF cmp) bs J l0)))] eX FX HX) (k3:(l9 bs n)=false->((.exit 2:Ex),(mkF 63 []),[(o_ g 10 (mE l))])=(eX,FX,HX)):l6 d0I (some [0,1,2,6]) (some []) (mkF 63 [(0,(d9 0 g 10 n)),(1,(iN n)),(2,(A8 f xs)),(6,(iN bs))]) [(o_ g 10 (mE l))] eX FX HX :=
 J7 (.r (.g (.two (l9 bs n) (fun h1 h1'=>(.r (.y 1 (.int .i64 (b9u bs)) (iN (2 * bs)) Yes.o (.g (.loop (e1c g n f xs bs J) (b5R cmp f xs hc hxs W bs n g l0 hn hnb hbs ow J hJ J 0 0 (2 * bs) l ow ow ow (by rw [hl]; simp only [mix])) (.r (.y 2 (iW ((((J * (2 * bs)):Nat):Int)+(bs:Int))) (iN ((J * (2 * bs))+bs)) Yes.o (.s (.g (.two (l9 ((J * (2 * bs))+bs) n) (fun h2 h2'=>(.r (.t 5 F4 [(o_ g 10 (mE (mAt (ltF cmp) (J * (2 * bs)) ((J * (2 * bs))+bs) n (mix (ltF cmp) bs J l0))))] (c2A _ f xs (J * (2 * bs)) ((J * (2 * bs))+bs) n n g (mix (ltF cmp) bs J l0) rF rF rF rF rF rF a0J ow (hs7 a0J) (hs8 a0J) []:AC 219 [(d9 0 g 10 n),(iN ((J * (2 * bs)))),(iN ((J * (2 * bs))+bs)),(iN n),(A8 f xs)] [(o_ g 10 (mE (mix (ltF cmp) bs J l0)))] (F4,([(o_ g 10 (mE (mAt (ltF cmp) (J * (2 * bs)) ((J * (2 * bs))+bs) n (mix (ltF cmp) bs J l0))))]:Heap))) (.s (.h' [(o_ g 10 (mE (mAt (ltF cmp) (J * (2 * bs)) ((J * (2 * bs))+bs) n (mix (ltF cmp) bs J l0))))] (.y 1 (.int .i64 (b9t bs)) (iN (bs * 2)) Yes.o (.g (.l (k1 h1 h2))))))))) (fun h2 h2'=>(.r (.y 1 (.int .i64 (b9t bs)) (iN (bs * 2)) Yes.o (.g (.l (k2 h1 h2)))))))))))))))) (fun h1 h1'=>(.l (k3 h1))))))
theorem b5Q (cmp:Entry->Entry->Int) (f:Nat) (xs:List AV) (hc:h9E cmp f xs) (hxs:AV.bdds 1 xs=true) (W:U8 (ltF cmp)) (n g:Nat) (l0:l9E) (hn:n=l0.length) (hnb:n < 524288) (r:Nat):∀ (bs:Nat) (l:l9E),n - bs<=r->0 < bs->bs < 1048576->l=iD (ltF cmp) bs l0 ->
 l6 (C8 gX Tryz.f209 1) (some [0,1,2,6]) (some []) (mkF 63 [(0,(d9 0 g 10 n)),(1,(iN n)),(2,(A8 f xs)),(6,(iN bs))]) [(o_ g 10 (mE l))] (.exit 2) (mkF 63 []) [(o_ g 10 (mE (Q0 (ltF cmp) l0)))]:=by
 have key:∀ bs,0 < bs->(n / (2 * bs) * (2 * bs)<=n/\n < n / (2 * bs) * (2 * bs)+2 * bs):=fun bs hbs=>⟨Nat.div_mul_le_self n (2 * bs),Nat.lt_div_mul_add (a:=n) (b:=2 * bs) ow⟩
 induction r with
 | zero =>
  intro bs l h1 hbs hbn hl
  obtain ⟨k1,k2⟩:=key bs hbs
  obtain ⟨q1,q2⟩:=zW W hbs (l:=l0) (J:=n / (2 * bs)) rfl hn k1 k2
  refine a4s cmp f xs bs (n / (2 * bs)) n g l l0 hc hxs W hn hnb hbs hbn hl rfl k1 (fun h=>(q1 h).2.1) (fun h=>(q1 h).2.2) (fun h=>by simp at h; omega) (fun h=>by simp at h; omega) (fun _=>?_)
  rw [hl,oQ (ltF cmp) ow hbs]
 | succ r ih =>
  intro bs l h1 hbs hbn hl
  obtain ⟨k1,k2⟩:=key bs hbs
  obtain ⟨q1,q2⟩:=zW W hbs (l:=l0) (J:=n / (2 * bs)) rfl hn k1 k2
  refine a4s cmp f xs bs (n / (2 * bs)) n g l l0 hc hxs W hn hnb hbs hbn hl rfl k1 (fun h=>(q1 h).2.1) (fun h=>(q1 h).2.2) (fun h h2=>?_) (fun h h2=>?_) (fun h=>?_)
  · rw [(q1 a0J).1]
    exact ih (bs * 2) _ rQ ow rQ b4N
  · rw [q2 (by have:=of_decide_eq_false h2; omega)]
    exact ih (bs * 2) _ rQ ow rQ b4N
  · rw [hl,oQ (ltF cmp) rQ hbs]
abbrev e1a (a:Nat) (b:Nat) (c:Nat) (d:List AV):Fr:=(mkF 63 [(0,(d9 0 a 10 b)),(1,(iN b)),(2,(A8 c d)),(6,(iI 20)),(7,(iN ((b / 20 * 20))))])
theorem c2z (cmp:Entry->Entry->Int) (f:Nat) (xs:List AV) (n g:Nat) (l:l9E) (hc:h9E cmp f xs) (hxs:AV.bdds 1 xs=true) (W:U8 (ltF cmp)) (hn:n=l.length) (hb:n < 524288):AC 209 [(d9 0 g 10 n),(AV.int .i64 (n:Int)),(A8 f xs)] [(o_ g 10 (l.map Entry.row))] (F4,[(o_ g 10 ((A9 cmp 0 (n - 1) 1 l).map Entry.row))]):=by
 have hq:(blk (ltF cmp) 20 (n / 20) l).length=n:=by rw [yP]; exact hn.symm
 have ht:=b4q cmp (l:=l) (j:=n / 20) (a:=n / 20 * 20) rfl hn ow ow
 have hfin:Q0 (ltF cmp) l=A9 cmp 0 (n - 1) 1 l:=by subst hn; exact (rT cmp l).symm
 exact x9 (fn:=Tryz.f209) (ann:=gX) (Has.o Tryz.func209) (.r (.s (.g (.loop (e1a g n f xs) (b5S cmp f xs hc hxs W n g l hn hb (n / 20) 0 0 20 l ow rfl ow (by simp only [blk])) (.r (.t 4 F4 [(o_ g 10 ((A9 cmp (n / 20 * 20) (n - ((n / 20 * 20)+1)) ((n / 20 * 20)+1) (blk (ltF cmp) 20 (n / 20) l)).map Entry.row))] (b4D _ f xs (n / 20 * 20) n n g (blk (ltF cmp) 20 (n / 20) l) rE rE rE rE rE rE []:AC 218 [(d9 0 g 10 n),(AV.int .i64 (((n / 20 * 20):Nat):Int)),(AV.int .i64 (n:Int)),(A8 f xs)] [(o_ g 10 ((blk (ltF cmp) 20 (n / 20) l).map Entry.row))] (F4,([(o_ g 10 ((A9 cmp (n / 20 * 20) (n - ((n / 20 * 20)+1)) ((n / 20 * 20)+1) (blk (ltF cmp) 20 (n / 20) l)).map Entry.row))]:Heap))) (.g (.loop (mkF 63 []) (b5Q cmp f xs hc hxs W n g l hn hb n 20 (A9 cmp (n / 20 * 20) (n - ((n / 20 * 20)+1)) ((n / 20 * 20)+1) (blk (ltF cmp) 20 (n / 20) l)) ow ow ow ht) (.q 1 F4 (by rw [hfin]))))))))))
theorem d5J (cmp:Entry->Entry->Int) (f:Nat) (xs:List AV) (n g:Nat) (l:l9E) (hc:h9E cmp f xs) (hxs:AV.bdds 1 xs=true) (W:U8 (ltF cmp)) (hn:n=l.length) (hb:n < 524288) (H:Heap):AC 209 [(d9 0 g 10 n),(iN n),(A8 f xs)] (([(o_ g 10 (mE l))]:Heap)++H) (F4,([(o_ g 10 (mE (A9 cmp 0 (n - 1) 1 l)))]:Heap)++H):=(c2z cmp f xs n g l hc hxs W hn hb).ext lZ kr ob ob kr H
def b5s:Ann:={ base:=1,fin:=some 1 }
theorem b2T (cmp:Entry->Entry->Int) (f:Nat) (xs:List AV) (n g:Nat) (l:l9E) (hc:h9E cmp f xs) (hxs:AV.bdds 1 xs=true) (W:U8 (ltF cmp)) (hn:n=l.length) (hb:n < 524288):AC 178 [(d9 0 g 10 n),(A8 f xs)] [(o_ g 10 (mE l))] (F4,[(o_ g 10 (mE (A9 cmp 0 (n - 1) 1 l)))]) :=
 x9 (fn:=Tryz.f178) (ann:=b5s) (Has.o Tryz.func178) (.r (.t 4 F4 [(o_ g 10 (mE (A9 cmp 0 (n - 1) 1 l)))] (d5J _ f xs n g l wO wO wO wO wO []:AC 209 [(d9 0 g 10 n),(iN n),(A8 f xs)] [(o_ g 10 (mE l))] (F4,([(o_ g 10 (mE (A9 cmp 0 (n - 1) 1 l)))]:Heap))) (.g (.h' [(o_ g 10 (mE (A9 cmp 0 (n - 1) 1 l)))] (.q 1 F4)))))
theorem c2d (cmp:Entry->Entry->Int) (f:Nat) (xs:List AV) (n g:Nat) (l:l9E) (hc:h9E cmp f xs) (hxs:AV.bdds 1 xs=true) (W:U8 (ltF cmp)) (hn:n=l.length) (hb:n < 524288) (H:Heap):AC 178 [(d9 0 g 10 n),(A8 f xs)] (([(o_ g 10 (mE l))]:Heap)++H) (F4,([(o_ g 10 (mE (A9 cmp 0 (n - 1) 1 l)))]:Heap)++H):=(b2T cmp f xs n g l hc hxs W hn hb).ext lZ kr ob ob kr H
attribute [local irreducible] Y9 a0S a0e a1e dO vM vV xA
def ltM (now:Int) (a b:Entry):Bool:=decide (cmpL now a b < 0)
theorem d0m (a b:Int):V7 a b < 0↔a < b:=by unfold V7; split <;> (try split) <;> omega
theorem a8e (a b:Int):V7 a b=0↔a=b:=by unfold V7; split <;> (try split) <;> omega
theorem b6K (a b:Key):M8 a b < 0↔F8 a b=true:=by
 unfold M8
 rw [iO,iO]
 cases F8 a b <;> cases F8 b a <;> simp
theorem b4B (now:Int) (a b:Entry):ltM now a b=true↔F9 b now < F9 a now\/(F9 b now=F9 a now/\F8 a.card.key b.card.key=true):=by
 unfold ltM cmpL
 rw [decide_eq_true_eq]
 split
 · rename_i h
   rw [a8e] at h
   rw [b6K]
   constructor
   · intro h2; exact .inr ⟨h,h2⟩
   · rintro (h2 | h2)
     · omega
     · exact h2.2
 · rename_i h
   rw [a8e] at h
   rw [d0m]
   constructor
   · intro h2; exact .inl h2
   · rintro (h2 | h2)
     · exact h2
     · exact absurd h2.1 h
theorem a7D (now:Int) (a b:Entry):ltM now a b=false↔F9 a now < F9 b now\/(F9 a now=F9 b now/\F8 a.card.key b.card.key=false):=by
 rw [<- Bool.not_eq_true,b4B]
 constructor
 · intro h
   rcases Nat.lt_or_ge 0 1 with _ | _
   · by_cases h1:F9 a now < F9 b now
     · exact .inl h1
     · refine .inr ⟨?_,?_⟩
       · have:¬ F9 b now < F9 a now:=fun x=>h (.inl x)
         omega
       · cases hb:F8 a.card.key b.card.key with
         | false=>rfl
         | true =>
          have:¬ F9 b now < F9 a now:=fun x=>h (.inl x)
          exact absurd (.inr ⟨by omega,hb⟩) h
   · omega
 · rintro (h | h) (k | k)
   · omega
   · omega
   · omega
   · rw [h.2] at k; exact absurd k.2 ye_
theorem c9D (now:Int):U8 (ltM now):=by
 refine ⟨fun a b h=>?_,fun a b c h k=>?_⟩
 · rw [b4B] at h
   rw [a7D]
   rcases h with h | h
   · exact .inl h
   · exact .inr ⟨h.1,b1B h.2⟩
 · rw [a7D] at h k ⊢
   rcases h with h | h <;> rcases k with k | k
   · exact .inl ow
   · exact .inl ow
   · exact .inl ow
   · exact .inr ⟨by omega,a3a h.2 k.2⟩
abbrev d8F (a:Int) (b:Int) (c:l9E):Fr:=(mkF 46 [(2,(iI (max 0 a))),(4,(AV.ref [(iI b)] 0)),(7,(iN ((F5 c b (max 0 a)).1))),(8,(d9 0 (F5 c b (max 0 a)).2.2 10 (F5 c b (max 0 a)).2.1.length)),(13,(sA 10 (mE c))),(14,(iN c.length)),(15,(iN c.length))])
abbrev d1Z (a:l9E) (b:Int) (c:Int):Heap:=[(o_ ((F5 a b (max 0 c)).2.2) 10 (mE (A9 (cmpL b) 0 ((F5 a b (max 0 c)).2.1.length - 1) 1 (F5 a b (max 0 c)).2.1)))]
theorem b6H (l:l9E) (now late:Int) (hl:l.length < 1000):AC 133 [(sA 10 (mE l)),(iI now),(iI late)] [] ((sA 2 (mK (G9 l now late))),[]):=by
 have hp:=c3k l now (max 0 late)
 have hpl:=dU (cmpL now) 0 ((F5 l now (max 0 late)).2.1.length - 1) 1 (F5 l now (max 0 late)).2.1
 exact x9 (fn:=Tryz.f133) (ann:=zP) (Has.o Tryz.func133) (.r (.s (.y 1 (.int .i64 (if late > 0 then late else 0)) (iI (max 0 late)) (Yes.int yv_) (.s (.s (.s (.h' [(o_ 0 10 (mE []))] (.y 1 (.int .i64 ((List.length (mE l):Nat):Int)) (iN l.length) (Yes.len _ _ _) (.g (.loop (d8F late now l) (show l6 (C8 zP Tryz.f133 0) (some [2,4,7,8,13,14,15]) (some [2,4,7,8,13,14,15]) (mkF 46 [(2,(iI (max 0 late))),(4,(AV.ref [(iI now)] 0)),(7,z_),(8,(d9 0 0 10 0)),(13,(sA 10 (mE l))),(14,(iN l.length)),(15,z_)]) [(o_ 0 10 (mE []))] (.exit 0) (d8F late now l) [(o_ ((F5 l now (max 0 late)).2.2) 10 (mE (F5 l now (max 0 late)).2.1))] from (c3i l now (max 0 late) l.length 0 0 0 0 [] _ ow rfl ow ow ow (by unfold F5; rfl))) (.r (.ch 2 (d1Z l now late) (c2d (cmpL now) 179 ([(AV.ref [(iI now)] 0)]) (F5 l now (max 0 late)).2.1.length (F5 l now (max 0 late)).2.2 (F5 l now (max 0 late)).2.1 (fun x y H=>b6G now x y H) (rfl) (c9D now) oa oa []) (.w' 8 (mE (A9 (cmpL now) 0 ((F5 l now (max 0 late)).2.1.length - 1) 1 (F5 l now (max 0 late)).2.1)) (And.intro (G5 (room:=none) kr (by first | omega | (simp [dU]; done) | (simp [dU]; omega))) (Entry.z8 _ _):I5 (d1Z l now late) 10 (d9 0 (F5 l now (max 0 late)).2.2 10 (F5 l now (max 0 late)).2.1.length)=some (mE (A9 (cmpL now) 0 ((F5 l now (max 0 late)).2.1.length - 1) 1 (F5 l now (max 0 late)).2.1))/\AV.F3 0 (mE (A9 (cmpL now) 0 ((F5 l now (max 0 late)).2.1.length - 1) 1 (F5 l now (max 0 late)).2.1))=true) (.s (.h' [(o_ ((F5 l now (max 0 late)).2.2+1) 10 [])] (.y 2 (.int .i64 ((List.length (mE (A9 (cmpL now) 0 ((F5 l now (max 0 late)).2.1.length - 1) 1 (F5 l now (max 0 late)).2.1)):Nat):Int)) (iN ((A9 (cmpL now) 0 ((F5 l now (max 0 late)).2.1.length - 1) 1 (F5 l now (max 0 late)).2.1).length)) (Yes.len _ _ _) (.c 4 ((c3t (((F5 l now (max 0 late)).1:Nat):Int)).lift kr kr [(o_ ((F5 l now (max 0 late)).2.2+1) 10 [])]) (.y 5 (.int .i64 (if ((Q5 (((F5 l now (max 0 late)).1:Nat):Int):Nat):Int) < (((A9 (cmpL now) 0 ((F5 l now (max 0 late)).2.1.length - 1) 1 (F5 l now (max 0 late)).2.1).length:Nat):Int) then ((Q5 (((F5 l now (max 0 late)).1:Nat):Int):Nat):Int) else (((A9 (cmpL now) 0 ((F5 l now (max 0 late)).2.1.length - 1) 1 (F5 l now (max 0 late)).2.1).length:Nat):Int))) (iN (min (A9 (cmpL now) 0 ((F5 l now (max 0 late)).2.1.length - 1) 1 (F5 l now (max 0 late)).2.1).length (Q5 (((F5 l now (max 0 late)).1:Nat):Int)))) (Yes.int yv_) (.t 6 (sA 10 (mE ((A9 (cmpL now) 0 ((F5 l now (max 0 late)).2.1.length - 1) 1 (F5 l now (max 0 late)).2.1).take (min (A9 (cmpL now) 0 ((F5 l now (max 0 late)).2.1.length - 1) 1 (F5 l now (max 0 late)).2.1).length (Q5 (((F5 l now (max 0 late)).1:Nat):Int)))))) [(o_ ((F5 l now (max 0 late)).2.2+1) 10 [])] (zD (l:=0) (h:=min (A9 (cmpL now) 0 ((F5 l now (max 0 late)).2.1.length - 1) 1 (F5 l now (max 0 late)).2.1).length (Q5 (((F5 l now (max 0 late)).1:Nat):Int))) om om om om a9m:Option.map (fun a=>(a,([(o_ ((F5 l now (max 0 late)).2.2+1) 10 [])]:Heap))) (if 10=10\/((mE (A9 (cmpL now) 0 ((F5 l now (max 0 late)).2.1.length - 1) 1 (F5 l now (max 0 late)).2.1))).isEmpty=true then (bounds 0 ((min (A9 (cmpL now) 0 ((F5 l now (max 0 late)).2.1.length - 1) 1 (F5 l now (max 0 late)).2.1).length (Q5 (((F5 l now (max 0 late)).1:Nat):Int)):Nat):Int) (mE (A9 (cmpL now) 0 ((F5 l now (max 0 late)).2.1.length - 1) 1 (F5 l now (max 0 late)).2.1)).length).map fun p=>sA 10 ((List.take p.2 (mE (A9 (cmpL now) 0 ((F5 l now (max 0 late)).2.1.length - 1) 1 (F5 l now (max 0 late)).2.1))).drop p.1) else none)=some ((sA 10 (mE ((A9 (cmpL now) 0 ((F5 l now (max 0 late)).2.1.length - 1) 1 (F5 l now (max 0 late)).2.1).take (min (A9 (cmpL now) 0 ((F5 l now (max 0 late)).2.1.length - 1) 1 (F5 l now (max 0 late)).2.1).length (Q5 (((F5 l now (max 0 late)).1:Nat):Int)))))),([(o_ ((F5 l now (max 0 late)).2.2+1) 10 [])]:Heap))) (.c 7 ((a4R ((A9 (cmpL now) 0 ((F5 l now (max 0 late)).2.1.length - 1) 1 (F5 l now (max 0 late)).2.1).take (min (A9 (cmpL now) 0 ((F5 l now (max 0 late)).2.1.length - 1) 1 (F5 l now (max 0 late)).2.1).length (Q5 (((F5 l now (max 0 late)).1:Nat):Int)))) oa).lift kr kr [(o_ ((F5 l now (max 0 late)).2.2+1) 10 [])]) (.g (.h' [] (.q 0 (sA 2 (mK (((A9 (cmpL now) 0 ((F5 l now (max 0 late)).2.1.length - 1) 1 (F5 l now (max 0 late)).2.1).take (min (A9 (cmpL now) 0 ((F5 l now (max 0 late)).2.1.length - 1) 1 (F5 l now (max 0 late)).2.1).length (Q5 (((F5 l now (max 0 late)).1:Nat):Int)))).map (·.card.key)))) (by (try delta d1Z); simp only [G9,V3,R7,dU]))))))))))))))))))))))))
attribute [local irreducible] D7 E5 J2 J9 K3 K6 K9 O1 Q9 R4 R9 U2 X6 bQ hdD jX l8 lJ maxS opM q9 tuR
def b8a:Ann:={ base:=6,fin:=some 6 }
theorem fU (l:l9E) (g:Nat) (al:l9K) (ga:Nat) (gf gl gt nd:Int) (st:y9) :AC 74 [(j3 5)] (M9 g l gf gl gt al ga nd st) ((j3 2),(M9 g l gf gl gt al ga nd st)) :=
 x9 (fn:=Tryz.f74) (ann:=b8a) (Has.o Tryz.func74) (.r (.g (.qr 6 (j3 2))))
abbrev a0t (a:Int) (b:Int) (c:Int):Heap:=[M0 a b c]
def wS (a now:Int):Int:=IntKind.u64.wrap (Int.tdiv (IntKind.u64.wrap ((IntKind.u64.wrap now) - (IntKind.u64.wrap a))) 60)
def tkN (a now:Int):Bool:=decide (now < a) || (wS a now == 0)
def tkF (a now:Int):Int:=if tkN a now=true then a else IntKind.i64.wrap (IntKind.u64.wrap ((IntKind.u64.wrap a)+(IntKind.u64.wrap (wS a now * 60))))
def tkL (a b c now:Int):Int:=if tkN a now=true then b else if (wS a now == 1)=true then c else 0
def tkT (a c now:Int):Int:=if tkN a now=true then c else 0
def c4n:Ann:={ base:=1,fin:=some 1 }
abbrev b1Y (a:Int) (b:Int) (c:Int) (d:Int):Heap:=[(o_ 0 3 [[(iI (tkF a b)),(iI (tkL a c d b)),(iI (tkT a d b))]])]
theorem a6c {p:Prop} (h:p:=by rw [e]; simp):p:=h
theorem gZ (a b c now:Int) :AC 75 [(AV.obj 0 0 0 0),(AV.int .i64 now)] (a0t a b c) (F4,(b1Y a now b c)) :=
 x9 (fn:=Tryz.f75) (ann:=c4n) (Has.o Tryz.func75) (.r (.g (.two (decide (now < a)) (fun h1 h1'=>(.q 1 F4 (by (try delta a0t b1Y M0); (have e:tkN a now=true:=by unfold tkN; rw [h1]; rfl); have e1:tkF a now=a:=if_pos e; have e2:tkL a b c now=b:=if_pos e; have e3:tkT a c now=c:=if_pos e; rw [e1,e2,e3]))) (fun h1 h1'=>(.r (.s (.s (.g (.two ((IntKind.u64.wrap (Int.tdiv (IntKind.u64.wrap ((IntKind.u64.wrap now) - (IntKind.u64.wrap a))) 60)) == 0) (fun h2 h2'=>(.q 1 F4 (by (try delta a0t b1Y M0); (have e:tkN a now=true:=by unfold tkN wS; rw [h1,h2]; rfl); have e1:tkF a now=a:=if_pos e; have e2:tkL a b c now=b:=if_pos e; have e3:tkT a c now=c:=if_pos e; rw [e1,e2,e3]))) (fun h2 h2'=>(.r (.g (.two ((IntKind.u64.wrap (Int.tdiv (IntKind.u64.wrap ((IntKind.u64.wrap now) - (IntKind.u64.wrap a))) 60)) == 1) (fun h3 h3'=>(.r (.s (.s (.g (.h' [(o_ 0 3 [[(iW (IntKind.u64.wrap ((IntKind.u64.wrap a)+(IntKind.u64.wrap ((IntKind.u64.wrap (Int.tdiv (IntKind.u64.wrap ((IntKind.u64.wrap now) - (IntKind.u64.wrap a))) 60)) * 60))))),(AV.int .i64 c),(AV.int .i64 0)]])] (.q 1 F4 (by (try delta a0t b1Y M0); (have e:tkN a now=false:=by unfold tkN wS; rw [h1,h2]; rfl); (have e1:tkF a now=IntKind.i64.wrap (IntKind.u64.wrap ((IntKind.u64.wrap a)+(IntKind.u64.wrap (wS a now * 60)))):=if_neg a6c); (have e2:tkL a b c now=c:=by unfold tkL; rw [if_neg a6c,if_pos]; unfold wS; rw [h3]); (have e3:tkT a c now=0:=if_neg a6c); rw [e1,e2,e3]; first | done | rfl)))))))) (fun h3 h3'=>(.r (.s (.s (.g (.h' [(o_ 0 3 [[(iW (IntKind.u64.wrap ((IntKind.u64.wrap a)+(IntKind.u64.wrap ((IntKind.u64.wrap (Int.tdiv (IntKind.u64.wrap ((IntKind.u64.wrap now) - (IntKind.u64.wrap a))) 60)) * 60))))),(AV.int .i64 0),(AV.int .i64 0)]])] (.q 1 F4 (by (try delta a0t b1Y M0); (have e:tkN a now=false:=by unfold tkN wS; rw [h1,h2]; rfl); (have e1:tkF a now=IntKind.i64.wrap (IntKind.u64.wrap ((IntKind.u64.wrap a)+(IntKind.u64.wrap (wS a now * 60)))):=if_neg a6c); (have e2:tkL a b c now=0:=by unfold tkL; rw [if_neg a6c,if_neg]; unfold wS; rw [h3]; simp); (have e3:tkT a c now=0:=if_neg a6c); rw [e1,e2,e3]; first | done | rfl)))))))))))))))))))))
attribute [local irreducible] tkF tkL tkT
def sS (n:Nat):Int:=Int.tdiv (((min n 1048576) * 6 * 85:Nat):Int) 100
def c4r:Ann:={ fin:=some 0 }
theorem b7B (n:Nat) (hn:n < 1000000):AC 176 [(AV.int .i64 (n:Int))] [] ((AV.int .i64 (sS n)),[]) :=
 x9 (fn:=Tryz.f176) (ann:=c4r) (Has.o Tryz.func176) (.r (.s (.y 1 (.int .i64 (if 1048576 < (n:Int) then 1048576 else (n:Int))) (AV.int .i64 ((min n 1048576:Nat):Int)) (Yes.int yv_) (.y 2 (.int .i64 (if ((min n 1048576:Nat):Int) > 0 then ((min n 1048576:Nat):Int) else 0)) (AV.int .i64 ((max 0 (min n 1048576):Nat):Int)) (Yes.int yv_) (.s (.y 1 (iW (((max 0 (min n 1048576):Nat):Int) * 6)) (AV.int .i64 ((max 0 (min n 1048576) * 6:Nat):Int)) Yes.o (.y 2 (iW (((max 0 (min n 1048576) * 6:Nat):Int) * 85)) (AV.int .i64 ((max 0 (min n 1048576) * 6 * 85:Nat):Int)) Yes.o (.y 3 (iW (Int.tdiv ((max 0 (min n 1048576) * 6 * 85:Nat):Int) 100)) (AV.int .i64 (((max 0 (min n 1048576) * 6 * 85) / 100:Nat):Int)) (Yes.quo ow) (.q 0 (AV.int .i64 (((max 0 (min n 1048576) * 6 * 85) / 100:Nat):Int)) (by unfold sS; first | rfl | (rw [Int.min_def]; simp; omega)))))))))))
def c4p:Ann:={ base:=1,fin:=some 1 }
theorem b7A (a b c:Int) (n:Nat) (hn:n < 1000000):AC 131 [(j3 0),(iN n)] (a0t a b c) ((bB (decide (b < sS n))),(a0t a b c)) :=
 x9 (fn:=Tryz.f131) (ann:=c4p) (Has.o Tryz.func131) (.r (.s (.c 5 ((b7B n oa).lift kr kr (a0t a b c)) (.rd (iI b) (a0t a b c) (.q 1 (bB (decide (b < (sS n)))))))))
attribute [local irreducible] sS
def b8c:Ann:={ refs:=[3],base:=6,fin:=some 6 }
abbrev d8i (a:l9E) (b:Entry) (c:Nat) (d:Int) (e:Int) (f:Int) (g:l9K) (h:Nat) (i:Int):Heap:=[(o_ 0 2 (d1b a b c)),(o_ (J9 (r9 32) a b c) 10 (mE (J2 (r9 32) a b))),M0 d e f,(o_ 0 2 (d0L a b g h)),(o_ (Q9 a b h) 2 (mK (l7 (K9 a b g)))),(o_ 0 7 (d7w i b))]
abbrev d7k (a:Entry):=(AV.tup [(AV.sl .clip 9 [(j4.row a.card)]),z_])
theorem b3R (l:l9E) (g:Nat) (al:l9K) (ga:Nat) (gf gl gt nd:Int) (st:y9) (x:Entry) (hl:l.length < 1000) (ha:al.length < 100000) (h:(K3 (r9 32) l x == 0)=true):AC 117 [(j3 5),(p9 (Entry.row x))] (M9 g l gf gl gt al ga nd st) ((d7k x),(d8i l x g gf gl gt al ga nd)) :=
 x9 (fn:=Tryz.f117) (ann:=b8c) (Has.o Tryz.func117) (.r (.s (.ch 2 [(o_ 0 2 (d1b l x g)),(o_ (J9 (r9 32) l x g) 10 (mE (J2 (r9 32) l x))),(o_ 0 3 (sD gf gl gt)),(o_ 0 2 (d0L l x al ga)),(o_ (Q9 l x ga) 2 (mK (l7 (K9 l x al)))),(o_ 0 7 (a1u nd st))] (a6A l g al ga gf gl gt nd st.t st.node st.n x oa oa []) (.s (.y 1 (bB ((K3 (r9 32) l x) != 0)) bF (Yes.b (by have q:=eq_of_beq h; rw [q]; rfl)) (.rn (.s (.g (.h' (d8i l x g gf gl gt al ga nd) (.q 6 (d7k x)))))))))))
def swX (nd now:Int) (s:DS) (k:Key):Entry:=J3 (q9 s.l k) (E5 (maxS s.st (q9 s.l k).card.stamp) now nd) now
def swS (nd now:Int) (s:DS) (k:Key):DS:=⟨J2 (r9 32) s.l (swX nd now s k),J9 (r9 32) s.l (swX nd now s k) s.g,K9 s.l (swX nd now s k) s.al,Q9 s.l (swX nd now s k) s.ga,s.gf,s.gl,s.gt,(swX nd now s k).card.stamp⟩
def swF (nd now:Int):List Key->DS->DS
 | [],s=>s
 | k :: ks,s=>swF nd now ks (swS nd now s k)
def swC (nd now:Int):List Key->DS->List j4
 | [],_=>[]
 | k :: ks,s=>(swX nd now s k).card :: swC nd now ks (swS nd now s k)
theorem a6i (nd now:Int):∀ (ks:l9K) (s:DS),(swC nd now ks s).length=ks.length
 | [],_=>rfl
 | k :: ks,s=>by simp only [swC,List.length_cons,a6i nd now ks]
theorem b9C {l:l9E} {k:Key} (hf:D7 l k=true) (st:y9) (now:Int):(K3 (r9 32) l (J3 (q9 l k) st now) == 0)=true:=by
 have e:(J3 (q9 l k) st now).card.key=k:=(iA hf).2
 have h:=c3c (most:=r9 32) (l:=l) (e:=J3 (q9 l k) st now) (.inl (by rw [e]; exact hf))
 rw [h]; rfl
theorem c1U {n:Nat} {s:DS} (h:aP n s) (nd now:Int) (k:Key):aP (n+1) (swS nd now s k):=by
 have ho:=h.put (swX nd now s k)
 exact ⟨ho.srt,ho.len,ho.al,ho.g0,ho.g1⟩
theorem c1V (nd now:Int):∀ (ks:l9K) {n:Nat} {s:DS},aP n s->aP (n+ks.length) (swF nd now ks s)
 | [],n,s,h=>h
 | k :: ks,n,s,h=>by
  have:=c1V nd now ks (c1U h nd now k)
  rw [List.length_cons,show n+(ks.length+1)=n+1+ks.length by omega]; exact this
theorem d5F {nd now:Int} {s:DS} {k:Key} (hf:D7 s.l k=true):(swX nd now s k).card.key=k:=(iA hf).2
def xX:Ann:={ gh:=[(13,.frz 7)],gha:=[(4,.vir 7 9),(11,.cut 7),(3,.any 6 9)],base:=6,fin:=some 6,live:=[(6,[0,1,7,35,36,37])],out:=[(6,[0,1,7,35,36,37])] }
@[simp] abbrev d7j (a:DS) (b:l9K) (c:Nat) (d e:Int):=[[(iI (r9 32)),(d9 1 (J9 (r9 32) a.l (J3 (q9 a.l (nth b c)) (E5 (maxS a.st (q9 a.l (nth b c)).card.stamp) d e) d) a.g) 10 (J2 (r9 32) a.l (J3 (q9 a.l (nth b c)) (E5 (maxS a.st (q9 a.l (nth b c)).card.stamp) d e) d)).length)]]
@[simp] abbrev d3w (a:DS) (b:l9K) (c:Nat) (d:Int) (e:Int):Ob:=(o_ 0 2 (d7j a b c d e))
@[simp] abbrev d3v (a:DS) (b:l9K) (c:Nat) (d:Int) (e:Int):Ob:=(o_ (J9 (r9 32) a.l (J3 (q9 a.l (nth b c)) (E5 (maxS a.st (q9 a.l (nth b c)).card.stamp) d e) d) a.g) 10 (mE (J2 (r9 32) a.l (J3 (q9 a.l (nth b c)) (E5 (maxS a.st (q9 a.l (nth b c)).card.stamp) d e) d))))
@[simp] abbrev b1n (a:DS):=[[(iI a.gf),(iI a.gl),(iI a.gt)]]
@[simp] abbrev a5t (a:DS):Ob:=(o_ 0 3 (b1n a))
@[simp] abbrev d7i (a:DS) (b:l9K) (c:Nat) (d e:Int):=[[(iN ((K9 a.l (J3 (q9 a.l (nth b c)) (E5 (maxS a.st (q9 a.l (nth b c)).card.stamp) d e) d) a.al).length)),(d9 4 (Q9 a.l (J3 (q9 a.l (nth b c)) (E5 (maxS a.st (q9 a.l (nth b c)).card.stamp) d e) d) a.ga) 2 (l7 (K9 a.l (J3 (q9 a.l (nth b c)) (E5 (maxS a.st (q9 a.l (nth b c)).card.stamp) d e) d) a.al)).length)]]
@[simp] abbrev d3u (a:DS) (b:l9K) (c:Nat) (d:Int) (e:Int):Ob:=(o_ 0 2 (d7i a b c d e))
@[simp] abbrev d3t (a:DS) (b:l9K) (c:Nat) (d:Int) (e:Int):Ob:=(o_ (Q9 a.l (J3 (q9 a.l (nth b c)) (E5 (maxS a.st (q9 a.l (nth b c)).card.stamp) d e) d) a.ga) 2 (mK (l7 (K9 a.l (J3 (q9 a.l (nth b c)) (E5 (maxS a.st (q9 a.l (nth b c)).card.stamp) d e) d) a.al))))
@[simp] abbrev d7h (a:Int) (b:DS) (c:l9K) (d:Nat) (e:Int):=[[(iI a),(iI (J3 (q9 b.l (nth c d)) (E5 (maxS b.st (q9 b.l (nth c d)).card.stamp) e a) e).card.stamp.t),(iI (J3 (q9 b.l (nth c d)) (E5 (maxS b.st (q9 b.l (nth c d)).card.stamp) e a) e).card.stamp.node),(iI (J3 (q9 b.l (nth c d)) (E5 (maxS b.st (q9 b.l (nth c d)).card.stamp) e a) e).card.stamp.n),(j3 0),(j3 2),(j3 3)]]
@[simp] abbrev c6m (a:Int) (b:DS) (c:l9K) (d:Nat) (e:Int):Ob:=(o_ 0 7 (d7h a b c d e))
@[simp] abbrev d8h (a:DS) (b:l9K) (c:Nat) (d:Int) (e:Int) (f:Nat) (g:l9C):Heap:=[d3w a b c d e,d3v a b c d e,a5t a,d3u a b c d e,d3t a b c d e,c6m e a b c d,(o_ (f+1) 9 (mC (g++[(J3 (q9 a.l (nth b c)) (E5 (maxS a.st (q9 a.l (nth b c)).card.stamp) d e) d).card])))]
@[simp] abbrev d8g (a:Int) (b:Nat) (c:Nat) (d:l9K) (e:Nat):Fr:=(mkF 72 [(0,(j3 5)),(1,(iI a)),(7,(d9 6 b 9 c)),(35,(sA 2 (mK d))),(36,(iN d.length)),(37,(iN e))])
@[simp] abbrev b9i (a:DS):=[[(iI (r9 32)),(d9 1 a.g 10 a.l.length)]]
@[simp] abbrev b1X (a:DS):Ob:=(o_ 0 2 (b9i a))
@[simp] abbrev b9h (a:DS):=[[(iN (a.al.length)),(d9 4 a.ga 2 (l7 a.al).length)]]
@[simp] abbrev b1W (a:DS):Ob:=(o_ 0 2 (b9h a))
@[simp] abbrev b1V (a:DS):Ob:=(o_ a.ga 2 (mK (l7 a.al)))
@[simp] abbrev b9g (a:Int) (b:DS):=[[(iI a),(iI b.st.t),(iI b.st.node),(iI b.st.n),(j3 0),(j3 2),(j3 3)]]
@[simp] abbrev b1U (a:Int) (b:DS):Ob:=(o_ 0 7 (b9g a b))
@[simp] abbrev d8f (a:DS) (b:Int) (c:Nat) (d:l9C):Heap:=[b1X a,(o_ a.g 10 (mE a.l)),a5t a,b1W a,b1V a,b1U b a,(o_ c 9 (mC d))]
abbrev d8e (a:DS) (b:Int) (c:Nat) (d:l9C) (e:l9K) (f:Nat):Heap:=[b1X a,(o_ a.g 10 (mE a.l)),a5t a,b1W a,b1V a,b1U b a,(o_ c 9 (mC d)),(o_ 0 2 [(Key.row (nth e f))]),a0z]
abbrev c6l (a:DS) (b:l9K) (c:Nat):Ob:=(o_ 0 10 [(Entry.row (q9 a.l (nth b c)))])
abbrev c0p (a:DS) (b:Int) (c:Nat) (d:l9C) (e:l9K) (f:Nat):Heap:=[b1X a,(o_ a.g 10 (mE a.l)),a5t a,b1W a,b1V a,b1U b a,(o_ c 9 (mC d)),(o_ 0 2 [(Key.row (nth e f))]),c6l a e f,a0z]
abbrev d3C (a:DS) (b:l9K) (c:Nat) (d:Int) (e:Int) (f:Nat) (g:l9C):Heap:=[d3w a b c d e,d3v a b c d e,a5t a,d3u a b c d e,d3t a b c d e,c6m e a b c d,(o_ f 9 (mC g)),(o_ 0 2 [(Key.row (nth b c))]),c6l a b c,(o_ 0 10 [(Entry.row (J3 (q9 a.l (nth b c)) (E5 (maxS a.st (q9 a.l (nth b c)).card.stamp) d e) d))])]
theorem b4p (nd now:Int) (ks:l9K) (s:DS) (out:l9C) (k h i:Nat) (hk:k=out.length) (hki:k<=i) (hks:ks.length < 1000) (hi:i<=ks.length) (hl:s.l.length < 1000) (ha:s.al.length < 100000) (hf:i < ks.length->D7 s.l (nth ks i)=true/\(q9 s.l (nth ks i)).card.gone=false) {eX:Ex} {FX:Fr} {HX:Heap} (k1:(l9 i ks.length)=true->l6 (C8 xX Tryz.f76 0) (some [0,1,7,35,36,37]) (some [0,1,7,35,36,37]) (mkF 72 [(0,(j3 5)),(1,(iI now)),(7,(xP h k)),(35,(sA 2 (mK ks))),(36,(iN ks.length)),(37,(iN (i+1)))]) (d8h s ks i now nd h out) eX FX HX) (k2:(l9 i ks.length)=false->((.exit 0:Ex),(d8g now h k ks i),(d8f s nd h out))=(eX,FX,HX)):l6 (C8 xX Tryz.f76 0) (some [0,1,7,35,36,37]) (some [0,1,7,35,36,37]) (d8g now h k ks i) (d8f s nd h out) eX FX HX :=
 J7 (.r (.g (.two (l9 i ks.length) (fun h1 h1'=>(.r (.h' [(o_ 0 2 (b9i s)),(o_ s.g 10 (mE s.l)),(o_ 0 3 (b1n s)),(o_ 0 2 (b9h s)),(o_ s.ga 2 (mK (l7 s.al))),(o_ 0 7 (b9g nd s)),(o_ h 9 (mC out)),(o_ 0 2 [[e_,e_]])] (.is 0 2 2 (mK ks) (i:Int) (Key.row (nth ks i)) (N7.mk _ ow ow) (.s (.c 5 (j5.put2 [0,1] (d8e s nd h out ks i) (AV.tup [(p9 (Entry.row (q9 s.l (nth ks i)))),(bB (D7 s.l (nth ks i)))]) (d8e s nd h out ks i) (a0b (r9 32) s.l (nth ks i) s.g s.l.length oa oa) rlF rlF) (.s (.c 5 (j5.put2 [0,1,2,3,4,5] (c0p s nd h out ks i) (p9 (y9.row (E5 (maxS s.st (q9 s.l (nth ks i)).card.stamp) now nd))) (c0p s nd h out ks i) (jV s.l s.g s.al s.ga s.gf s.gl s.gt nd s.st (q9 s.l (nth ks i)).card now ) rlA rlA) (.c 7 ((uX (q9 s.l (nth ks i)) (E5 (maxS s.st (q9 s.l (nth ks i)).card.stamp) now nd) now ((hf (by have q:=of_decide_eq_true h1; omega)).2)).lift kr kr (c0p s nd h out ks i)) (.rd (p9 (Entry.row (q9 s.l (nth ks i)))) (c0p s nd h out ks i) (.s (.ch 2 (d3C s ks i now nd h out) (j5.put2 [0,1,2,3,4,5] [(o_ 0 2 (b9i s)),(o_ s.g 10 (mE s.l)),(o_ 0 3 (b1n s)),(o_ 0 2 (b9h s)),(o_ s.ga 2 (mK (l7 s.al))),(o_ 0 7 (b9g nd s)),(o_ h 9 (mC out)),(o_ 0 2 [(Key.row (nth ks i))]),(o_ 0 10 [(Entry.row (q9 s.l (nth ks i)))]),(o_ 0 10 [(Entry.row (J3 (q9 s.l (nth ks i)) (E5 (maxS s.st (q9 s.l (nth ks i)).card.stamp) now nd) now))])] (AV.tup [(AV.sl .clip 9 [(j4.row (J3 (q9 s.l (nth ks i)) (E5 (maxS s.st (q9 s.l (nth ks i)).card.stamp) now nd) now).card)]),z_]) (d3C s ks i now nd h out) (b3R s.l s.g s.al s.ga s.gf s.gl s.gt nd s.st (J3 (q9 s.l (nth ks i)) (E5 (maxS s.st (q9 s.l (nth ks i)).card.stamp) now nd) now) oa oa (b9C (hf (by have q:=of_decide_eq_true h1; omega)).1 _ _)) rlA rlA) (.s (.ap 2 30 (d9 6 h 9 k) (AV.sl .clip 9 [(j4.row (J3 (q9 s.l (nth ks i)) (E5 (maxS s.st (q9 s.l (nth ks i)).card.stamp) now nd) now).card)]) (xP h k) [(o_ 0 2 (d7j s ks i now nd)),(o_ (J9 (r9 32) s.l (J3 (q9 s.l (nth ks i)) (E5 (maxS s.st (q9 s.l (nth ks i)).card.stamp) now nd) now) s.g) 10 (mE (J2 (r9 32) s.l (J3 (q9 s.l (nth ks i)) (E5 (maxS s.st (q9 s.l (nth ks i)).card.stamp) now nd) now)))),(o_ 0 3 (b1n s)),(o_ 0 2 (d7i s ks i now nd)),(o_ (Q9 s.l (J3 (q9 s.l (nth ks i)) (E5 (maxS s.st (q9 s.l (nth ks i)).card.stamp) now nd) now) s.ga) 2 (mK (l7 (K9 s.l (J3 (q9 s.l (nth ks i)) (E5 (maxS s.st (q9 s.l (nth ks i)).card.stamp) now nd) now) s.al)))),(o_ 0 7 (d7h nd s ks i now)),(o_ (h+1) 9 (mC (out++[(J3 (q9 s.l (nth ks i)) (E5 (maxS s.st (q9 s.l (nth ks i)).card.stamp) now nd) now).card]))),(o_ 0 2 [(Key.row (nth ks i))]),(o_ 0 10 [(Entry.row (q9 s.l (nth ks i)))]),(o_ 0 10 [(Entry.row (J3 (q9 s.l (nth ks i)) (E5 (maxS s.st (q9 s.l (nth ks i)).card.stamp) now nd) now))])] (I4 (row:=j4.row) (l:=out) (x:=(J3 (q9 s.l (nth ks i)) (E5 (maxS s.st (q9 s.l (nth ks i)).card.stamp) now nd) now).card) (T:=tt) (e:=50) (te:=bZ) (z:=1) (b:=24) (y:=[.sl .nil 0 []]) kr kr rfl D8 D8 kr Z0 rfl rfl gV) (.h' (d8h s ks i now nd h out) (.b 7 (.s (.y 0 (.int .i64 (cb_ i)) (iN (i+1)) Yes.o (.g (.l (k1 h1))))))))))))))))))))) (fun h1 h1'=>(.l (k2 h1))))))
theorem d5E (nd now:Int) (ks:l9K) (hks:ks.length < 1000) (r:Nat):∀ (n i:Nat) (s:DS) (out:l9C) (k h:Nat),i+r=ks.length->k=out.length->k<=i->aP n s->n+r < 100000->a6h s.l (ks.drop i) ->
 l6 (C8 xX Tryz.f76 0) (some [0,1,7,35,36,37]) (some [0,1,7,35,36,37]) (mkF 72 [(0,(j3 5)),(1,(iI now)),(7,(d9 6 h 9 k)),(35,(sA 2 (mK ks))),(36,(iN ks.length)),(37,(iN i))]) [(o_ 0 2 [[(iI (r9 32)),(d9 1 s.g 10 s.l.length)]]),(o_ s.g 10 (mE s.l)),(o_ 0 3 [[(iI s.gf),(iI s.gl),(iI s.gt)]]),(o_ 0 2 [[(iN (s.al.length)),(d9 4 s.ga 2 (l7 s.al).length)]]),(o_ s.ga 2 (mK (l7 s.al))),(o_ 0 7 [[(iI nd),(iI s.st.t),(iI s.st.node),(iI s.st.n),(j3 0),(j3 2),(j3 3)]]),(o_ h 9 (mC out))] (.exit 0) (mkF 72 [(0,(j3 5)),(1,(iI now)),(7,(d9 6 (h+r) 9 (k+r))),(35,(sA 2 (mK ks))),(36,(iN ks.length)),(37,(iN ks.length))]) [(o_ 0 2 [[(iI (r9 32)),(d9 1 (swF nd now (ks.drop i) s).g 10 (List.length (swF nd now (ks.drop i) s).l))]]),(o_ ((swF nd now (ks.drop i) s).g) 10 (mE (swF nd now (ks.drop i) s).l)),(o_ 0 3 [[(iI (swF nd now (ks.drop i) s).gf),(iI (swF nd now (ks.drop i) s).gl),(iI (swF nd now (ks.drop i) s).gt)]]),(o_ 0 2 [[(iN ((List.length (swF nd now (ks.drop i) s).al))),(d9 4 (swF nd now (ks.drop i) s).ga 2 (l7 (swF nd now (ks.drop i) s).al).length)]]),(o_ ((swF nd now (ks.drop i) s).ga) 2 (mK (l7 (swF nd now (ks.drop i) s).al))),(o_ 0 7 [[(iI nd),(iI (swF nd now (ks.drop i) s).st.t),(iI (swF nd now (ks.drop i) s).st.node),(iI (swF nd now (ks.drop i) s).st.n),(j3 0),(j3 2),(j3 3)]]),(o_ (h+r) 9 (mC (out++swC nd now (ks.drop i) s)))]:=by
 induction r with
 | zero =>
  intro n i s out k h hi hk hki hI hn hw
  have e:ks.drop i=[]:=List.drop_of_length_le ow
  have hl:=hI.len
  have ha:=hI.al
  rw [e]
  refine b4p nd now ks s out k h i hk hki hks ow ow ow (fun q=>absurd q ow) (fun q=>absurd (of_decide_eq_true q) ow) fun _=>?_
  obtain rfl:i=ks.length:=by omega
  simp only [swF,swC,List.append_nil,Nat.add_zero]
 | succ r ih =>
  intro n i s out k h hi hk hki hI hn hw
  have e:ks.drop i=nth ks i :: ks.drop (i+1):=aU ow
  have hl:=hI.len
  have ha:=hI.al
  rw [e] at hw ⊢
  have hf:=hw.2 _ List.mem_cons_self
  refine b4p nd now ks s out k h i hk hki hks ow ow ow (fun _=>hf) (fun _=>?_) fun q=>absurd (of_decide_eq_false q) ow
  have q:=ih (n+1) (i+1) (swS nd now s (nth ks i)) (out++[(swX nd now s (nth ks i)).card]) (k+1) (h+1) ow uH ow (c1U hI nd now _) ow (hw.next hI.srt (x:=swX nd now s (nth ks i)) (d5F hf.1))
  rw [show k+1+r=k+(r+1) by omega,show h+1+r=h+(r+1) by omega,List.append_assoc] at q
  exact q
def c1R (s:DS):Bool:=decide (s.gl < sS (bQ s.l))
def X9 (s:DS) (now late:Int):List Key:=if c1R s=true then [] else G9 s.l now late
theorem a4K {l:l9E} (h:l.length<=32) (now late:Int):(G9 l now late).length<=32:=Nat.le_trans (c8R l now late) h
theorem c9F (l:l9E):bQ l<=l.length:=by
 with_unfolding_all
  unfold bQ
  have key:∀ (l:l9E) (n:Nat),l.foldl (fun s (e:Entry)=>if (!e.card.gone)=true then s+1 else s) n<=n+l.length:=by
   intro l
   induction l with
   | nil=>intro n; simp
   | cons e l ih =>
    intro n
    rw [List.foldl_cons,List.length_cons]
    by_cases hq:(!e.card.gone)=true
    · rw [if_pos hq]; have:=ih (n+1); omega
    · rw [if_neg hq]; have:=ih n; omega
  have:=key l 0
  omega
theorem c8a (nd now:Int) (ks:l9K) (hks:ks.length < 1000) (n:Nat) (s:DS) (hI:aP n s) (hn:n+ks.length < 100000) (hw:a6h s.l ks) :
 l6 (C8 xX Tryz.f76 0) (some [0,1,7,35,36,37]) (some [0,1,7,35,36,37]) (mkF 72 [(0,(j3 5)),(1,(iI now)),(7,(d9 6 0 9 0)),(35,(sA 2 (mK ks))),(36,(iN ks.length)),(37,(iN 0))]) [(o_ 0 2 [[(iI (r9 32)),(d9 1 s.g 10 s.l.length)]]),(o_ s.g 10 (mE s.l)),(o_ 0 3 [[(iI s.gf),(iI s.gl),(iI s.gt)]]),(o_ 0 2 [[(iN (s.al.length)),(d9 4 s.ga 2 (l7 s.al).length)]]),(o_ s.ga 2 (mK (l7 s.al))),(o_ 0 7 [[(iI nd),(iI s.st.t),(iI s.st.node),(iI s.st.n),(j3 0),(j3 2),(j3 3)]]),(o_ 0 9 (mC ([]:l9C)))] (.exit 0) (mkF 72 [(0,(j3 5)),(1,(iI now)),(7,(d9 6 ks.length 9 ks.length)),(35,(sA 2 (mK ks))),(36,(iN ks.length)),(37,(iN ks.length))]) [(o_ 0 2 [[(iI (r9 32)),(d9 1 (swF nd now ks s).g 10 (List.length (swF nd now ks s).l))]]),(o_ ((swF nd now ks s).g) 10 (mE (swF nd now ks s).l)),(o_ 0 3 [[(iI (swF nd now ks s).gf),(iI (swF nd now ks s).gl),(iI (swF nd now ks s).gt)]]),(o_ 0 2 [[(iN ((List.length (swF nd now ks s).al))),(d9 4 (swF nd now ks s).ga 2 (l7 (swF nd now ks s).al).length)]]),(o_ ((swF nd now ks s).ga) 2 (mK (l7 (swF nd now ks s).al))),(o_ 0 7 [[(iI nd),(iI (swF nd now ks s).st.t),(iI (swF nd now ks s).st.node),(iI (swF nd now ks s).st.n),(j3 0),(j3 2),(j3 3)]]),(o_ ks.length 9 (mC (swC nd now ks s)))]:=by
 have q:=d5E nd now ks hks ks.length n 0 s [] 0 0 ow rfl ow hI hn hw
 simpa only [List.drop_zero,Nat.zero_add,List.nil_append] using q
abbrev a0u (a:Nat) (b:l9E) (c:Int) (d:Int) (e:Int) (f:l9K) (g:Nat) (h:Int) (i:y9):Heap:=[W9 a b,(o_ a 10 (mE b)),M0 c d e,Q8 f g,(o_ g 2 (mK (l7 f))),V4 h i,(o_ 0 9 (mC []))]
abbrev d3B (a:Int) (b:l9E) (c:Int):Fr:=(mkF 72 [(0,(j3 5)),(1,(iI (l8 a))),(7,(d9 6 (G9 b (l8 a) c).length 9 (G9 b (l8 a) c).length)),(35,(sA 2 (mK (G9 b (l8 a) c)))),(36,(iN ((G9 b (l8 a) c).length))),(37,(iN ((G9 b (l8 a) c).length)))])
abbrev a8Q (a:Int) (b:Int) (c:l9E) (d:Int) (e:Nat) (f:l9K) (h:Nat) (i:Int) (j:Int) (k:Int) (m:y9):Heap:=[(o_ 0 2 [[(iI (r9 32)),(d9 1 (swF a (l8 b) (G9 c (l8 b) d) (DS.mk c e f h i j k m)).g 10 (List.length (swF a (l8 b) (G9 c (l8 b) d) (DS.mk c e f h i j k m)).l))]]),(o_ ((swF a (l8 b) (G9 c (l8 b) d) (DS.mk c e f h i j k m)).g) 10 (mE (swF a (l8 b) (G9 c (l8 b) d) (DS.mk c e f h i j k m)).l)),(o_ 0 3 [[(iI (swF a (l8 b) (G9 c (l8 b) d) (DS.mk c e f h i j k m)).gf),(iI (swF a (l8 b) (G9 c (l8 b) d) (DS.mk c e f h i j k m)).gl),(iI (swF a (l8 b) (G9 c (l8 b) d) (DS.mk c e f h i j k m)).gt)]]),(o_ 0 2 [[(iN ((List.length (swF a (l8 b) (G9 c (l8 b) d) (DS.mk c e f h i j k m)).al))),(d9 4 (swF a (l8 b) (G9 c (l8 b) d) (DS.mk c e f h i j k m)).ga 2 (l7 (swF a (l8 b) (G9 c (l8 b) d) (DS.mk c e f h i j k m)).al).length)]]),(o_ ((swF a (l8 b) (G9 c (l8 b) d) (DS.mk c e f h i j k m)).ga) 2 (mK (l7 (swF a (l8 b) (G9 c (l8 b) d) (DS.mk c e f h i j k m)).al))),(o_ 0 7 [[(iI a),(iI (swF a (l8 b) (G9 c (l8 b) d) (DS.mk c e f h i j k m)).st.t),(iI (swF a (l8 b) (G9 c (l8 b) d) (DS.mk c e f h i j k m)).st.node),(iI (swF a (l8 b) (G9 c (l8 b) d) (DS.mk c e f h i j k m)).st.n),(j3 0),(j3 2),(j3 3)]]),(o_ ((G9 c (l8 b) d).length) 9 (mC (swC a (l8 b) (G9 c (l8 b) d) (DS.mk c e f h i j k m))))]
theorem d0e (l:l9E) (g:Nat) (al:l9K) (ga:Nat) (gf gl gt nd:Int) (st:y9) (now late:Int) (hs:bP l) (hl:l.length<=32) (ha:al.length < 60000) (hgt:0<=gt/\gt<=1048576):AC 76 [(AV.obj 5 0 0 0),(AV.int .i64 now),(AV.int .i64 late)] (M9 g l gf gl gt al ga nd st) ((AV.sl .any 9 ((swC nd (l8 now) (X9 (DS.mk l g al ga gf gl gt st) (l8 now) late) (DS.mk l g al ga gf gl gt st)).map j4.row)),[(o_ 0 2 [[(AV.int .i64 (r9 32)),(d9 1 (swF nd (l8 now) (X9 (DS.mk l g al ga gf gl gt st) (l8 now) late) (DS.mk l g al ga gf gl gt st)).g 10 (List.length (swF nd (l8 now) (X9 (DS.mk l g al ga gf gl gt st) (l8 now) late) (DS.mk l g al ga gf gl gt st)).l))]]),(o_ ((swF nd (l8 now) (X9 (DS.mk l g al ga gf gl gt st) (l8 now) late) (DS.mk l g al ga gf gl gt st)).g) 10 (List.map Entry.row (swF nd (l8 now) (X9 (DS.mk l g al ga gf gl gt st) (l8 now) late) (DS.mk l g al ga gf gl gt st)).l)),(o_ 0 3 [[(AV.int .i64 (swF nd (l8 now) (X9 (DS.mk l g al ga gf gl gt st) (l8 now) late) (DS.mk l g al ga gf gl gt st)).gf),(AV.int .i64 (swF nd (l8 now) (X9 (DS.mk l g al ga gf gl gt st) (l8 now) late) (DS.mk l g al ga gf gl gt st)).gl),(AV.int .i64 (swF nd (l8 now) (X9 (DS.mk l g al ga gf gl gt st) (l8 now) late) (DS.mk l g al ga gf gl gt st)).gt)]]),(o_ 0 2 [[(AV.int .i64 (((List.length (swF nd (l8 now) (X9 (DS.mk l g al ga gf gl gt st) (l8 now) late) (DS.mk l g al ga gf gl gt st)).al):Nat):Int)),(d9 4 (swF nd (l8 now) (X9 (DS.mk l g al ga gf gl gt st) (l8 now) late) (DS.mk l g al ga gf gl gt st)).ga 2 (l7 (swF nd (l8 now) (X9 (DS.mk l g al ga gf gl gt st) (l8 now) late) (DS.mk l g al ga gf gl gt st)).al).length)]]),(o_ ((swF nd (l8 now) (X9 (DS.mk l g al ga gf gl gt st) (l8 now) late) (DS.mk l g al ga gf gl gt st)).ga) 2 ((l7 (swF nd (l8 now) (X9 (DS.mk l g al ga gf gl gt st) (l8 now) late) (DS.mk l g al ga gf gl gt st)).al).map Key.row)),(o_ 0 7 [[(AV.int .i64 nd),(AV.int .i64 (swF nd (l8 now) (X9 (DS.mk l g al ga gf gl gt st) (l8 now) late) (DS.mk l g al ga gf gl gt st)).st.t),(AV.int .i64 (swF nd (l8 now) (X9 (DS.mk l g al ga gf gl gt st) (l8 now) late) (DS.mk l g al ga gf gl gt st)).st.node),(AV.int .i64 (swF nd (l8 now) (X9 (DS.mk l g al ga gf gl gt st) (l8 now) late) (DS.mk l g al ga gf gl gt st)).st.n),(AV.obj 0 0 0 0),(AV.obj 2 0 0 0),(AV.obj 3 0 0 0)]])]):=by
 have hlv:bQ l<=1000:=Nat.le_trans (c9F l) ow
 have hpk:=a4K hl (l8 now) late
 have hcl:=a6i nd (l8 now) (G9 l (l8 now) late) (DS.mk l g al ga gf gl gt st)
 exact x9 (fn:=Tryz.f76) (ann:=xX) (Has.o Tryz.func76) (.r (.s (.c 1 ((iB now).lift kr kr (M9 g l gf gl gt al ga nd st)) (.s (.c 8 (j5.put2 [0,1] (M9 g l gf gl gt al ga nd st) (AV.int .i64 (((bQ l):Nat):Int)) (M9 g l gf gl gt al ga nd st) (b5A (r9 32) l g l.length oa oa) rlF rlF) (.c 9 (j5.put2 [2] (M9 g l gf gl gt al ga nd st) (AV.bool (decide (gl < sS (bQ l)))) (M9 g l gf gl gt al ga nd st) (b7A gf gl gt (bQ l) oa) D5 D5) (.rd (AV.obj 2 0 0 0) (M9 g l gf gl gt al ga nd st) (.g (.two (decide (gl < sS (bQ l))) (fun h1 h1'=>(.qr 6 (AV.sl .any 9 []) (by (try delta M9 a0u a8Q W9 M0 Q8 V4); (have e:X9 (DS.mk l g al ga gf gl gt st) (l8 now) late=[]:=by with_unfolding_all exact if_pos h1); rw [e]; first | done | rfl))) (fun h1 h1'=>(.r (.s (.c 4 (j5.put2 [0,1] (a0u g l gf gl gt al ga nd st) (AV.sl .any 10 (l.map Entry.row)) (a0u g l gf gl gt al ga nd st) (a7p (r9 32) l g l.length oa oa) rlF rlF) (.c 7 ((b6H l (l8 now) late oa).lift kr kr (a0u g l gf gl gt al ga nd st)) (.h' (a0u g l gf gl gt al ga nd st) (.y 8 (.int .i64 ((List.length ((G9 l (l8 now) late).map Key.row):Nat):Int)) (AV.int .i64 (((G9 l (l8 now) late).length:Nat):Int)) (Yes.len _ _ _) (.g (.loop (d3B now l late) (show l6 (C8 xX Tryz.f76 0) (some [0,1,7,35,36,37]) (some [0,1,7,35,36,37]) (mkF 72 [(0,(AV.obj 5 0 0 0)),(1,(AV.int .i64 (l8 now))),(7,(d9 6 0 9 0)),(35,(AV.sl .any 2 ((G9 l (l8 now) late).map Key.row))),(36,(AV.int .i64 (((G9 l (l8 now) late).length:Nat):Int))),(37,(AV.int .i64 0))]) (a0u g l gf gl gt al ga nd st) (.exit 0) (d3B now l late) (a8Q nd now l late g al ga gf gl gt st) from (c8a nd (l8 now) (G9 l (l8 now) late) ow al.length (DS.mk l g al ga gf gl gt st) ⟨hs,hl,Nat.le_refl _,hgt.1,hgt.2⟩ ow (c3g hs _ _))) (.r (.w 7 ((swC nd (l8 now) (G9 l (l8 now) late) (DS.mk l g al ga gf gl gt st)).map j4.row) (And.intro (G5 (room:=none) kr om) (j4.z8 _ _):I5 (a8Q nd now l late g al ga gf gl gt st) 9 (d9 6 (G9 l (l8 now) late).length 9 (G9 l (l8 now) late).length)=some ((swC nd (l8 now) (G9 l (l8 now) late) (DS.mk l g al ga gf gl gt st)).map j4.row)/\AV.F3 0 ((swC nd (l8 now) (G9 l (l8 now) late) (DS.mk l g al ga gf gl gt st)).map j4.row)=true) (.g (.h' [(o_ 0 2 [[(AV.int .i64 (r9 32)),(d9 1 (swF nd (l8 now) (G9 l (l8 now) late) (DS.mk l g al ga gf gl gt st)).g 10 (List.length (swF nd (l8 now) (G9 l (l8 now) late) (DS.mk l g al ga gf gl gt st)).l))]]),(o_ ((swF nd (l8 now) (G9 l (l8 now) late) (DS.mk l g al ga gf gl gt st)).g) 10 (List.map Entry.row (swF nd (l8 now) (G9 l (l8 now) late) (DS.mk l g al ga gf gl gt st)).l)),(o_ 0 3 [[(AV.int .i64 (swF nd (l8 now) (G9 l (l8 now) late) (DS.mk l g al ga gf gl gt st)).gf),(AV.int .i64 (swF nd (l8 now) (G9 l (l8 now) late) (DS.mk l g al ga gf gl gt st)).gl),(AV.int .i64 (swF nd (l8 now) (G9 l (l8 now) late) (DS.mk l g al ga gf gl gt st)).gt)]]),(o_ 0 2 [[(AV.int .i64 (((List.length (swF nd (l8 now) (G9 l (l8 now) late) (DS.mk l g al ga gf gl gt st)).al):Nat):Int)),(d9 4 (swF nd (l8 now) (G9 l (l8 now) late) (DS.mk l g al ga gf gl gt st)).ga 2 (l7 (swF nd (l8 now) (G9 l (l8 now) late) (DS.mk l g al ga gf gl gt st)).al).length)]]),(o_ ((swF nd (l8 now) (G9 l (l8 now) late) (DS.mk l g al ga gf gl gt st)).ga) 2 ((l7 (swF nd (l8 now) (G9 l (l8 now) late) (DS.mk l g al ga gf gl gt st)).al).map Key.row)),(o_ 0 7 [[(AV.int .i64 nd),(AV.int .i64 (swF nd (l8 now) (G9 l (l8 now) late) (DS.mk l g al ga gf gl gt st)).st.t),(AV.int .i64 (swF nd (l8 now) (G9 l (l8 now) late) (DS.mk l g al ga gf gl gt st)).st.node),(AV.int .i64 (swF nd (l8 now) (G9 l (l8 now) late) (DS.mk l g al ga gf gl gt st)).st.n),(AV.obj 0 0 0 0),(AV.obj 2 0 0 0),(AV.obj 3 0 0 0)]])] (.q 6 (AV.sl .any 9 ((swC nd (l8 now) (G9 l (l8 now) late) (DS.mk l g al ga gf gl gt st)).map j4.row)) (by (try delta M9 a0u a8Q W9 M0 Q8 V4); (have e:X9 (DS.mk l g al ga gf gl gt st) (l8 now) late=G9 l (l8 now) late:=by with_unfolding_all exact if_neg (by unfold c1R; rw [h1]; simp)); rw [e]; first | done | rfl))))))))))))))))))))))))
def a6B:Ann:={ gha:=[(5,.cut 6)],base:=6,fin:=some 6,live:=[(3,[0,5,16,17,18])],out:=[(3,[0,5,16,17,18])] }
@[simp] abbrev c6k (a:Nat) (b:l9E) (c:l9K) (d:Nat):Ob:=(o_ 0 2 [[(iI (r9 32)),(d9 1 a 10 (X6 b (nth c d)).length)]])
@[simp] abbrev c6j (a:Nat) (b:l9E) (c:l9K) (d:Nat):Ob:=(o_ a 10 (mE (X6 b (nth c d))))
@[simp] abbrev d3A (a:Nat) (b:l9E) (c:l9K) (d:Nat) (e:Int) (f:Int) (g:Int) (h:l9K) (i:Nat) (j:Int) (k:y9):Heap:=[c6k a b c d,c6j a b c d,M0 e f g,Q8 h i,(o_ i 2 (mK (l7 h))),V4 j k]
@[simp] abbrev c0q (a:l9K) (b:Nat):Fr:=(mkF 31 [(0,(j3 5)),(5,(sA 2 (mK a))),(16,(sA 2 (mK a))),(17,(iN a.length)),(18,(iN b))])
abbrev d3z (a:Nat) (b:l9E) (c:l9K) (d:Nat) (e:Int) (f:Int) (g:Int) (h:l9K) (i:Nat) (j:Int) (k:y9):Heap:=[c6k a b c d,c6j a b c d,M0 e f g,Q8 h i,(o_ i 2 (mK (l7 h))),V4 j k,(o_ 0 2 [(Key.row (nth c d))])]
@[simp] abbrev d0H :=(C8 a6B Tryz.f77 0)
theorem b0M (g:Nat) (al:l9K) (ga:Nat) (gf:Int) (gl:Int) (gt:Int) (nd:Int) (st:y9) (ks:l9K) (l:l9E) (i:Nat) (hks:ks.length < 1000) (hl:l.length < 1000) (hle_:i<=ks.length) {eX:Ex} {FX:Fr} {HX:Heap} (k1:(l9 i ks.length)=true->l6 d0H (some [0,5,16,17,18]) (some [0,5,16,17,18]) (mkF 31 [(0,(j3 5)),(5,(sA 2 (mK ks))),(16,(sA 2 (mK ks))),(17,(iN ks.length)),(18,(iN (i+1)))]) (d3A g l ks i gf gl gt al ga nd st) eX FX HX) (k2:(l9 i ks.length)=false->((.exit 0:Ex),(c0q ks i),(M9 g l gf gl gt al ga nd st))=(eX,FX,HX)):l6 d0H (some [0,5,16,17,18]) (some [0,5,16,17,18]) (c0q ks i) (M9 g l gf gl gt al ga nd st) eX FX HX :=
 J7 (.r (.g (.two (l9 i ks.length) (fun h1 h1'=>(.r (.h' [(o_ 0 2 (a1A g l)),(o_ g 10 (mE l)),(o_ 0 3 (sD gf gl gt)),(o_ 0 2 (a0m al ga)),(o_ ga 2 (mK (l7 al))),(o_ 0 7 (a1u nd st)),(o_ 0 2 [[e_,e_]])] (.is 0 2 2 (mK ks) (i:Int) (Key.row (nth ks i)) (N7.mk _ ow ow) (.s (.ch 5 (d3z g l ks i gf gl gt al ga nd st) (j5.put2 [0,1] [(o_ 0 2 (a1A g l)),(o_ g 10 (mE l)),(o_ 0 3 (sD gf gl gt)),(o_ 0 2 (a0m al ga)),(o_ ga 2 (mK (l7 al))),(o_ 0 7 (a1u nd st)),(o_ 0 2 [(Key.row (nth ks i))])] (bB (D7 l (nth ks i))) (d3z g l ks i gf gl gt al ga nd st) (c4N (r9 32) l (nth ks i) g l.length oa oa) rlF rlF) (.h' (d3A g l ks i gf gl gt al ga nd st) (.b 6 (.s (.y 0 (.int .i64 (cb_ i)) (iN (i+1)) Yes.o (.g (.l (k1 h1))))))))))))) (fun h1 h1'=>(.l (k2 h1))))))
def a8E (g:Nat) (al:List Key) (ga:Nat) (gf:Int) (gl:Int) (gt:Int) (nd:Int) (st:y9) (ks:List Key) (i:Nat) (s:(List Entry)):(List Entry):=(X6 s (nth ks i))
theorem d0i (g:Nat) (al:l9K) (ga:Nat) (gf:Int) (gl:Int) (gt:Int) (nd:Int) (st:y9) (ks:l9K) (hks:ks.length < 1000)  (r_:Nat):∀ (l:l9E) (i:Nat) (sF:l9E),i+r_=ks.length->l.length < 1000->sF=iter (a8E g al ga gf gl gt nd st ks) r_ i l ->
 l6 (C8 a6B Tryz.f77 0) (some [0,5,16,17,18]) (some [0,5,16,17,18]) (c0q ks i) (M9 g l gf gl gt al ga nd st) (.exit 0) (mkF 31 [(0,(j3 5)),(5,(sA 2 (mK ks))),(16,(sA 2 (mK ks))),(17,(iN ks.length)),(18,(iN ks.length))]) [(o_ 0 2 [[(iI (r9 32)),(d9 1 g 10 sF.length)]]),(o_ g 10 (mE sF)),(o_ 0 3 [[(iI gf),(iI gl),(iI gt)]]),(o_ 0 2 [[(iN (al.length)),(d9 4 ga 2 (l7 al).length)]]),(o_ ga 2 (mK (l7 al))),(o_ 0 7 [[(iI nd),(iI st.t),(iI st.node),(iI st.n),(j3 0),(j3 2),(j3 3)]])]:=by
 induction r_ with
 | zero =>
  intro l i sF hi_ hl  hF
  obtain rfl:ks.length=i:=by omega
  have e_:sF=l:=hF
  refine b0M g al ga gf gl gt nd st ks l ks.length hks hl J8 (fun h=>by simp at h <;> omega) (fun _=>?_)
  first | done | rfl | (rw [e_]; done) | (rw [e_]; rfl)
 | succ r_ ih =>
  intro l i sF hi_ hl  hF
  refine b0M g al ga gf gl gt nd st ks l i hks hl ow (fun h1=>?_) (fun h=>by simp at h <;> omega)
  · exact ih (X6 l (nth ks i)) (i+1) sF ow (by have u1:=a7W l (nth ks i); first | omega | assumption | (simp; done) | (simp; omega) | (simp [*]; done) | (simp [*]; omega))  (by rw [hF] <;> simp only [iter,a8E,if_true,Bool.false_eq_true,if_false])
theorem d0j (g:Nat) (al:l9K) (ga:Nat) (gf gl gt nd:Int) (st:y9) (ks:l9K) (l:l9E):ks.foldl X6 l=iter (a8E g al ga gf gl gt nd st ks) ks.length 0 l:=by
 rw [fO (a8E g al ga gf gl gt nd st ks) X6 ks (fun i s hi=>rfl)]
theorem a5a (ks:l9K):∀ (l:l9E),(ks.foldl X6 l).length<=l.length:=by
 induction ks with
 | nil=>intro l; exact Nat.le_refl _
 | cons k ks ih=>intro l; rw [List.foldl_cons]; exact Nat.le_trans (ih _) (a7W l k)
abbrev d3y (a:Nat) (b:l9E) (c:Int) (d:Int) (e:Int) (f:Int) (g:l9K) (h:Nat) (i:Int) (j:y9):Heap:=[(o_ 0 2 [[(iI (r9 32)),(d9 1 a 10 (List.foldl X6 b (Y9 b (l8 c))).length)]]),(o_ a 10 (mE (List.foldl X6 b (Y9 b (l8 c))))),M0 d e f,Q8 g h,(o_ h 2 (mK (l7 g))),V4 i j]
abbrev a6I (a:l9E) (b:Int):=(iN ((Y9 a (l8 b)).length))
abbrev d3x (a:l9E) (b:Int):Fr:=(mkF 31 [(0,(j3 5)),(5,(sA 2 (mK (Y9 a (l8 b))))),(16,(sA 2 (mK (Y9 a (l8 b))))),(17,(a6I a b)),(18,(a6I a b))])
theorem d0h (l:l9E) (g:Nat) (al:l9K) (ga:Nat) (gf gl gt nd:Int) (st:y9) (now:Int) (hl:l.length < 1000):AC 77 [(j3 5),(iI now)] (M9 g l gf gl gt al ga nd st) ((iN ((Y9 l (l8 now)).length)),(d3y g l now gf gl gt al ga nd st)):=by
 have hdk:=c4Y l (l8 now)
 exact x9 (fn:=Tryz.f77) (ann:=a6B) (Has.o Tryz.func77) (.r (.s (.c 4 (j5.put2 [0,1] (M9 g l gf gl gt al ga nd st) (sA 10 (mE l)) (M9 g l gf gl gt al ga nd st) (a7p (r9 32) l g l.length oa oa) rlF rlF) (.c 6 ((iB now).lift kr kr (M9 g l gf gl gt al ga nd st)) (.c 7 ((c4V l (l8 now) oa).lift kr kr (M9 g l gf gl gt al ga nd st)) (.s (.y 1 (.int .i64 ((List.length (mK (Y9 l (l8 now))):Nat):Int)) (a6I l now) (Yes.len _ _ _) (.g (.loop (d3x l now) (show l6 d0H (some [0,5,16,17,18]) (some [0,5,16,17,18]) (mkF 31 [(0,(j3 5)),(5,(sA 2 (mK (Y9 l (l8 now))))),(16,(sA 2 (mK (Y9 l (l8 now))))),(17,(a6I l now)),(18,z_)]) (M9 g l gf gl gt al ga nd st) (.exit 0) (d3x l now) (d3y g l now gf gl gt al ga nd st) from (d0i g al ga gf gl gt nd st (Y9 l (l8 now)) ow (Y9 l (l8 now)).length l 0 _ ow ow (d0j _ _ _ _ _ _ _ _ _ _))) (.r (.y 1 (.int .i64 ((List.length (mK (Y9 l (l8 now))):Nat):Int)) (a6I l now) (Yes.len _ _ _) (.q 6 (a6I l now)))))))))))))
end Go.Proofs.YtmghjcbabebanaaGreat.AM
namespace Go.Proofs.YtmghjcbabebanaaGreat.AM
open Go Go.Proofs.YtmghjcbabebanaaGreat
attribute [local irreducible] E5 E9 H6 K5 R4 U1 hdD j5 l6 l8 maxS qA swC swF tkF tkL tkT
@[simp] theorem e0o (n:Nat) (p:Int):AV.bdds n (y5 p)=true:=rfl
def c5j:Ann:={ own:=[7],fin:=some 1 }
theorem b8k (p:Int) :AC 51 [(AV.sl .op 1 [[(iI p)]])] [] ((d9 0 0 1 1),[(o_ 0 1 (List.map y5 [p]))]) :=
 x9 (fn:=Tryz.f51) (ann:=c5j) (Has.o Tryz.func51) (.r (.s (.rn (.ao 2 22 (AV.sl .clip 1 []) (AV.sl .op 1 [[(iI p)]]) (d9 0 0 1 1) [(o_ 0 1 (List.map y5 [p]))] (aI (T:=tt) (e:=3) (te:=a9s) (z:=1) (b:=24) (y:=[.sl .nil 0 []]) (row:=y5) kr kr rfl D8 D8 ye_ Y3 rfl rfl rfl om) (.q 1 (d9 0 0 1 1))))))
theorem c5i (p:Int) :AC 51 [(sA 1 (List.map y5 [p]))] [] ((d9 0 0 1 1),[(o_ 0 1 (List.map y5 [p]))]):=j5.a2q (fun h=>by simp at h) (b8k p)
def b3o:Ann:={ base:=4,fin:=some 5 }
abbrev d8a (a:Int) (b:Int) (c:Nat) (d:l9C):Heap:=[wI a,(o_ 0 1 (List.map y5 [b])),a0s c d,(o_ c 9 (mC d)),(o_ 0 1 (List.map y5 [b]))]
theorem a9Y (p lost:Int) (g:Nat) (l:l9C) :AC 26 [(j3 0)] (fH lost p g l) ((d9 4 0 1 1),(d8a lost p g l)) :=
 x9 (fn:=Tryz.f26) (ann:=b3o) (Has.o Tryz.func26) (.r (.s (.ch 4 (d8a lost p g l) (j5.iC (args:=[(a1v p)]) (args':=[(d9 1 0 1 1)]) (H:=(fH lost p g l)) (c5i p ) (gW (fun _=>rfl) _) (show Brs (fH lost p g l) [(d9 1 0 1 1)] [(a1v p)] from ⟨Br.osl (G5 (room:=none) kr uG) (aB _ _),trivial⟩)) (.q 5 (d9 4 0 1 1)))))
def c2m:Ann:={ gha:=[(5,.frzf 18 2 1)],fin:=some 12 }
@[simp] abbrev fG :Ob:=(o_ 0 2 [[(iI (r9 32)),(d9 1 0 10 ([]:l9E).length)]])
@[simp] abbrev fF :Ob:=(o_ 0 10 (mE ([]:l9E)))
@[simp] abbrev fE :Ob:=(o_ 0 2 [[(iN (([]:l9K).length)),(d9 4 0 2 (l7 ([]:l9K)).length)]])
@[simp] abbrev fD :Ob:=(o_ 0 2 (mK (l7 ([]:l9K))))
abbrev a2z (a:Int):Ob:=(o_ 0 7 (a1z a))
abbrev a0r (a:Int):Heap:=[fG,fF,tO,fE,fD,a2z a]
abbrev b9f :=[[(d9 7 0 1 1),(d9 8 0 1 1),z_]]
abbrev d3k :Ob:=(o_ 0 3 b9f)
abbrev c6i :Ob:=(o_ 0 1 [[(d9 9 0 9 ([]:l9C).length)]])
abbrev yT :Ob:=(o_ 0 9 (mC ([]:l9C)))
abbrev d1A (a:Int) (b:Int):Heap:=[fG,fF,tO,fE,fD,a2z a,d3k,(o_ 0 1 (List.map y5 [b])),c6i,yT]
abbrev d7Z (a:Int) (b:Int):Heap:=[fG,fF,tO,fE,fD,a2z a,d3k,(o_ 0 1 (List.map y5 [b])),c6i,yT,(o_ 0 1 (List.map y5 [b]))]
@[simp] abbrev b9e (a:Int):=[[(iI a),(iI (y9.mk 0 a 0).t),(iI (y9.mk 0 a 0).node),(iI (y9.mk 0 a 0).n),(j3 0),(j3 2),(j3 3)]]
theorem b5y (nd p:Int) (h1:0<=nd) (h2:nd < 6):AC 8 [(iI nd),(sA 1 [[(iI p)]])] [] ((j3 11),[(o_ 0 2 [[(iI (r9 32)),(d9 1 0 10 ([]:l9E).length)]]),(o_ 0 10 (mE ([]:l9E))),(o_ 0 3 [[z_,z_,z_]]),(o_ 0 2 [[(iN (([]:l9K).length)),(d9 4 0 2 (l7 ([]:l9K)).length)]]),(o_ 0 2 (mK (l7 ([]:l9K)))),(o_ 0 7 (b9e nd)),(o_ 0 3 b9f),(o_ 0 1 (List.map y5 [p])),(o_ 0 1 [[(d9 9 0 9 0)]]),(o_ 0 9 (mC ([]:l9C))),(o_ 1 1 []),(o_ 0 6 [[z_,z_,(sA 1 [[(iI p)]]),z_,(j3 5),(j3 6)]])]) :=
 x9 (fn:=Tryz.f8) (ann:=c2m) (Has.o Tryz.func8) (.r (.s (.ch 1 (a0r nd) (j5.put2 [] [] (j3 5) (a0r nd) (a1l nd 0 oa oa wM) trivial rlA) (.s (.rn (.ch 1 (d1A nd p) (j5.put2 [] (a0r nd) (j3 6) (d1A nd p) (b6r p ) trivial rlC) (.s (.ch 1 (d7Z nd p) (j5.put2 [6,7,8,9] (d1A nd p) (d9 10 0 1 1) (d7Z nd p) (a9Y p 0 0 ([]:l9C) ) rlC (⟨rfl,⟨Ob.ren0 (aB 0 _),⟨rfl,⟨Ob.ren0 (j4.z8 0 _),⟨Ob.ren0 (aB 0 _),trivial⟩⟩⟩⟩⟩)) (.w' 18 (List.map y5 [p]) (And.intro rfl (And.intro (G5 (room:=none) kr om) (aB _ _)):0=0/\I5 [(o_ 0 2 [[(iI (r9 32)),(d9 1 0 10 ([]:l9E).length)]]),(o_ 0 10 (mE ([]:l9E))),(o_ 0 3 [[z_,z_,z_]]),(o_ 0 2 [[(iN (([]:l9K).length)),(d9 4 0 2 (l7 ([]:l9K)).length)]]),(o_ 0 2 (mK (l7 ([]:l9K)))),(o_ 0 7 (a1z nd)),(o_ 0 3 b9f),(o_ 0 1 (List.map y5 [p])),(o_ 0 1 [[(d9 9 0 9 ([]:l9C).length)]]),(o_ 0 9 (mC ([]:l9C))),(o_ 0 1 (List.map y5 [p])),(o_ 0 6 [[z_,z_,(d9 10 0 1 1),z_,(j3 5),(j3 6)]])] 1 (d9 10 0 1 1)=some (List.map y5 [p])/\AV.F3 0 (List.map y5 [p])=true) (.g (.h' [(o_ 0 2 [[(iI (r9 32)),(d9 1 0 10 ([]:l9E).length)]]),(o_ 0 10 (mE ([]:l9E))),(o_ 0 3 [[z_,z_,z_]]),(o_ 0 2 [[(iN (([]:l9K).length)),(d9 4 0 2 (l7 ([]:l9K)).length)]]),(o_ 0 2 (mK (l7 ([]:l9K)))),(o_ 0 7 (a1z nd)),(o_ 0 3 b9f),(o_ 0 1 (List.map y5 [p])),(o_ 0 1 [[(d9 9 0 9 ([]:l9C).length)]]),(o_ 0 9 (mC ([]:l9C))),(o_ 1 1 []),(o_ 0 6 [[z_,z_,(a1v p),z_,(j3 5),(j3 6)]])] (.q 12 (j3 11)))))))))))))
abbrev kL (a:Int):Ob:=(o_ 0 3 [[(d9 7 0 1 1),(d9 8 0 1 1),(iI a)]])
abbrev a1J (a:Nat) (b:l9C):Ob:=(o_ 0 1 [[(d9 9 a 9 b.length)]])
abbrev d7X (a:Int) (b:Int) (c:Int):Ob:=(o_ 0 6 [[(iI a),(iI b),(sA 1 [[(iI c)]]),z_,(j3 5),(j3 6)]])
abbrev d7Y (a:Nat) (b:l9E) (c:Int) (d:Int) (e:Int) (f:l9K) (g:Nat) (h:Int) (i:y9) (j:Int) (k:Int) (l:Nat) (m:l9C) (n:Int) (o:Int):Heap:=[W9 a b,(o_ a 10 (mE b)),M0 c d e,Q8 f g,(o_ g 2 (mK (l7 f))),V4 h i,kL j,(o_ 0 1 (List.map y5 [k])),a1J l m,(o_ l 9 (mC m)),(o_ 1 1 []),d7X n o k]
structure U5 where
 kind:Int
 op:Int
 status:Int
 code:Int
 tag:Int
 n:Int
 seq:Int
 key:Key
 full:Bool
 sum:Int
 cards:List j4
 deriving Inhabited
def U5.row (x:U5):List AV:=[(iI x.kind),(iI x.op),(iI x.status),(iI x.code),(iI x.tag),(iI x.n),(iI x.seq),(AV.str x.key.app),(AV.str x.key.id),(bB x.full),(AV.int .u32 x.sum),(sA 9 (mC x.cards)),(AV.sl .nil 0 [])]
@[simp] theorem U5.U9 (n:Nat) (x:U5):AV.bdds n x.row=true:=by simp [U5.row,AV.bdds,AV.bdd]
@[simp] theorem U5.z8 (n:Nat) (l:List U5):AV.F3 n (l.map U5.row)=true:=by induction l with | nil=>rfl | cons x l ih=>simp [AV.F3,U5.U9,ih]
structure u7 where
 to:Int
 m:U5
 deriving Inhabited
def u7.row (x:u7):List AV:=[(iI x.to),(iI x.m.kind),(iI x.m.op),(iI x.m.status),(iI x.m.code),(iI x.m.tag),(iI x.m.n),(iI x.m.seq),(AV.str x.m.key.app),(AV.str x.m.key.id),(bB x.m.full),(AV.int .u32 x.m.sum),(sA 9 (mC x.m.cards)),(AV.sl .nil 0 [])]
@[simp] theorem u7.U9 (n:Nat) (x:u7):AV.bdds n x.row=true:=by simp [u7.row,AV.bdds,AV.bdd]
@[simp] theorem u7.z8 (n:Nat) (l:List u7):AV.F3 n (l.map u7.row)=true:=by induction l with | nil=>rfl | cons x l ih=>simp [AV.F3,u7.U9,ih]
def a4I (cs:List j4):U5:=⟨3,0,0,0,0,0,0,⟨⟨#[]⟩,⟨#[]⟩⟩,false,0,cs⟩
def xJ (cs:List j4):U5:=⟨4,0,0,0,0,0,0,⟨⟨#[]⟩,⟨#[]⟩⟩,false,0,cs⟩
def D9 (p:Int) (cs:List j4):List u7:=if cs.length=0 then [] else [⟨p,a4I cs⟩]
def c3d:Ann:={ fin:=some 0 }
theorem a4G (p:Int) (cs:l9C) (h:cs.length=0):AC 35 [(iI p),(sA 9 (mC cs))] [] (w9,[]) :=
 x9 (fn:=Tryz.f35) (ann:=c3d) (Has.o Tryz.func35) (.r (.s (.y 1 (.int .i64 ((List.length (mC cs):Nat):Int)) (iN cs.length) (Yes.len _ _ _) (.y 2 (bB ((cs.length:Int) == 0)) bT (Yes.b (by simp [h])) (.g (.u (.qr 0 w9)))))))
def c3e:Ann:={ fin:=some 0 }
theorem a4H (p:Int) (cs:l9C) (h:¬ cs.length=0):AC 35 [(iI p),(sA 9 (mC cs))] [] ((AV.sl .clip 14 (List.map u7.row [u7.mk p (a4I cs)])),[]) :=
 x9 (fn:=Tryz.f35) (ann:=c3e) (Has.o Tryz.func35) (.r (.s (.y 1 (.int .i64 ((List.length (mC cs):Nat):Int)) (iN cs.length) (Yes.len _ _ _) (.y 2 (bB ((cs.length:Int) == 0)) bF (Yes.b yj_) (.g (.n (.qr 0 (AV.sl .clip 14 [[(iI p),(iI 3),z_,z_,z_,z_,z_,z_,e_,e_,bF,H9,(sA 9 (mC cs)),w9]]))))))))
theorem bK (p:Int) (cs:l9C) :AC 35 [(iI p),(sA 9 (mC cs))] [] ((sA 14 (List.map u7.row (D9 p cs))),[]):=by
 unfold D9
 by_cases h:cs.length=0
 · rw [if_pos h]; exact (a4G p cs h).post ⟨rfl,rfl,.inr rfl⟩
 · rw [if_neg h]; exact (a4H p cs h).post ⟨rfl,rfl,.inl rfl⟩
theorem Z4 (p:Int) (cs:l9C):(D9 p cs).length<=1:=by unfold D9; split <;> simp
attribute [local irreducible] D9 E8 M7
def b5h:Ann:={ own:=[136,103],gh:=[(16,.frz 3)],gha:=[(7,.vir 3 14)],base:=12,fin:=some 12 }
abbrev qW (a:Int) (b:Int) (c:Int) (d:Int):Ob:=(o_ 0 3 [[(iI (tkF a (b+1))),(iI (tkL a c d (b+1))),(iI (tkT a d (b+1)))]])
abbrev a1I (a:Nat) (b:l9C):Ob:=(o_ 0 1 [[(d9 9 a 9 (M7 b).length)]])
abbrev nK (a:Int) (b:Int) (c:Int):Ob:=(o_ 0 6 [[(iI (a+1)),(iI b),(sA 1 [[(iI c)]]),z_,(j3 5),(j3 6)]])
abbrev a8M (a:Nat) (b:l9E) (c:Int) (d:Int) (e:Int) (f:Int) (g:l9K) (h:Nat) (i:Int) (j:y9) (k:Int) (l:Int) (m:Nat) (n:l9C) (o:Int):Heap:=[W9 a b,(o_ a 10 (mE b)),qW c d e f,Q8 g h,(o_ h 2 (mK (l7 g))),V4 i j,kL k,(o_ 0 1 (List.map y5 [l])),a1I m n,(o_ m 9 (mC (M7 n))),(o_ 1 1 []),nK d o l]
abbrev wH (a:Nat) (b:l9E) (c:Int) (d:Int) (e:Int) (f:l9K) (g:Nat) (h:Int) (i:y9) (j:Int) (k:Int) (l:Nat) (m:l9C) (n:Int) (o:Int):Heap:=[W9 a b,(o_ a 10 (mE b)),M0 c d e,Q8 f g,(o_ g 2 (mK (l7 f))),V4 h i,kL j,(o_ 0 1 (List.map y5 [k])),a1J l m,(o_ l 9 (mC m)),(o_ 1 1 []),nK n o k]
abbrev a8L (a:Nat) (b:l9E) (c:Int) (d:Int) (e:Int) (f:Int) (g:l9K) (h:Nat) (i:Int) (j:y9) (k:Int) (l:Int) (m:Nat) (n:l9C) (o:Int):Heap:=[W9 a b,(o_ a 10 (mE b)),qW c d e f,Q8 g h,(o_ h 2 (mK (l7 g))),V4 i j,kL k,(o_ 0 1 (List.map y5 [l])),a1J m n,(o_ m 9 (mC n)),(o_ 1 1 []),nK d o l]
abbrev jA (a:Nat) (b:l9E) (c:Int) (d:Int) (e:Int) (f:Int) (g:l9K) (h:Nat) (i:Int) (j:y9) (k:Int) (l:Int) (m:Nat) (n:l9C) (o:Int):Heap:=[W9 a b,(o_ a 10 (mE b)),qW c d e f,Q8 g h,(o_ h 2 (mK (l7 g))),V4 i j,kL k,(o_ 0 1 (List.map y5 [l])),a1J m n,(o_ m 9 (mC n)),(o_ 1 1 []),nK d o l,(o_ 0 14 (List.map u7.row []))]
abbrev c0l (a:Nat) (b:l9E) (c:Int) (d:Int) (e:Int) (f:Int) (g:l9K) (h:Nat) (i:Int) (j:y9) (k:Int) (l:Int) (m:Nat) (n:l9C) (o:Int):Heap:=[W9 a b,(o_ a 10 (mE b)),qW c d e f,Q8 g h,(o_ h 2 (mK (l7 g))),V4 i j,kL k,(o_ 0 1 (List.map y5 [l])),a1I m n,(o_ m 9 (mC (M7 n))),(o_ 1 1 []),nK d o l,(o_ 0 14 (List.map u7.row []))]
abbrev d3n (a:Nat) (b:l9E) (c:Int) (d:Int) (e:Int) (f:Int) (g:l9K) (h:Nat) (i:Int) (j:y9) (k:Int) (l:Int) (m:Nat) (n:l9C) (o:Int):Heap:=[W9 a b,(o_ a 10 (mE b)),qW c d e f,Q8 g h,(o_ h 2 (mK (l7 g))),V4 i j,kL k,(o_ 0 1 (List.map y5 [l])),a1I m n,(o_ m 9 (mC (M7 n))),(o_ 1 1 []),nK d o l,(o_ 1 14 (([]++(D9 l (E8 n))).map u7.row))]
theorem iP {p:Prop} (h:p:=by first | omega | (show _ * 152<=_; omega) | (simp; done) | (simp; omega)):p:=h
@[reducible] def iQ:TI:={ d:=.struct [(3,0),(33,1)],size:=14,bytes:=152,zero:=[.int .i64 0,.int .i64 0,.int .i64 0,.int .i64 0,.int .i64 0,.int .i64 0,.int .i64 0,.int .i64 0,.str ⟨#[]⟩,.str ⟨#[]⟩,.bool false,.int .u32 0,.sl .nil 0 [],.sl .nil 0 []] }
theorem b2L (l:l9E) (g:Nat) (al:l9K) (ga:Nat) (gf gl gt nd:Int) (st:y9) (p lost:Int) (qg:Nat) (ql:l9C) (now swept nxt:Int) (hn:0<=now) (hn2:now < 1099511627776) (hq:ql.length<=16) (h1:(Int.tmod (now+1) 20 == 0)=false) (h2:(Int.tmod (now+1) 15 == 0)=false):AC 37 [(j3 11)] (d7Y g l gf gl gt al ga nd st lost p qg ql now swept) ((sA 14 (([]++(D9 p (E8 ql))).map u7.row)),(a8M g l gf now gl gt al ga nd st lost p qg ql swept)):=by
 have hpl:=Z4 p (E8 ql)
 exact x9 (fn:=Tryz.f37) (ann:=b5h) (Has.o Tryz.func37) (.r (.s (.y 4 (.int .i64 (a6D now)) (iI (now+1)) Yes.o (.s (.c 4 (j5.put2 [0,1,2,3,4,5] (wH g l gf gl gt al ga nd st lost p qg ql now swept) (j3 2) (wH g l gf gl gt al ga nd st lost p qg ql now swept) (fU l g al ga gf gl gt nd st ) rlA rlA) (.ch 9 (a8L g l gf now gl gt al ga nd st lost p qg ql swept) (j5.put2 [2] (wH g l gf gl gt al ga nd st lost p qg ql now swept) F4 (a8L g l gf now gl gt al ga nd st lost p qg ql swept) (gZ gf gl gt (now+1) ) D5 D5) (.rd (iI (now+1)) (wH g l gf gl gt al ga nd st lost p qg ql now swept) (.s (.y 5 (bB ((Int.tmod (now+1) 20) == 0)) bF (Yes.b h1) (.rn (.s (.h' (jA g l gf now gl gt al ga nd st lost p qg ql swept) (.y 5 (bB ((Int.tmod (now+1) 15) == 0)) bF (Yes.b h2) (.n6 (.rn (.g (.roll 2 (.r (.ru (.s (.ch 7 (c0l g l gf now gl gt al ga nd st lost p qg ql swept) (j5.put2 [6,7,8,9] (jA g l gf now gl gt al ga nd st lost p qg ql swept) (sA 9 (mC (E8 ql))) (c0l g l gf now gl gt al ga nd st lost p qg ql swept) (a4C p lost qg ql oa) rlC rlC) (.c 8 ((bK p (E8 ql)).lift kr kr (c0l g l gf now gl gt al ga nd st lost p qg ql swept)) (.ao 9 36 (d9 12 0 14 0) (sA 14 ((D9 p (E8 ql)).map u7.row)) (d9 12 1 14 (0+(D9 p (E8 ql)).length)) (d3n g l gf now gl gt al ga nd st lost p qg ql swept) (I8 (T:=tt) (e:=56) (te:=iQ) (z:=1) (b:=24) (y:=[.sl .nil 0 []]) (row:=u7.row) (l:=[]) kr kr rfl D8 D8 kr Y3 om rfl rfl iP) (.s (.s (.rn (.w 3 (([]++(D9 p (E8 ql))).map u7.row) (And.intro (G5 (room:=none) kr om) (u7.z8 _ _):I5 (d3n g l gf now gl gt al ga nd st lost p qg ql swept) 14 (d9 12 1 14 (0+(D9 p (E8 ql)).length))=some (([]++(D9 p (E8 ql))).map u7.row)/\AV.F3 0 (([]++(D9 p (E8 ql))).map u7.row)=true) (.g (.h' (a8M g l gf now gl gt al ga nd st lost p qg ql swept) (.q 12 (sA 14 (([]++(D9 p (E8 ql))).map u7.row))))))))))))))))))))))))))))))))
attribute [local simp] u7.row
def b5g:Ann:={ own:=[136,103],gh:=[(16,.frz 3)],gha:=[(7,.vir 3 14)],base:=12,fin:=some 12 }
abbrev c6h (a:Int) (b:l9E):Ob:=(o_ 1 14 (List.map u7.row ([]++([(u7.mk a (U5.mk 4 0 0 0 0 0 0 R8 false 0 (P8 (b.map (·.card)))))]))))
abbrev d3m (a:Nat) (b:l9E) (c:Int) (d:Int) (e:Int) (f:Int) (g:l9K) (h:Nat) (i:Int) (j:y9) (k:Int) (l:Int) (m:Nat) (n:l9C) (o:Int):Heap:=[W9 a b,(o_ a 10 (mE b)),qW c d e f,Q8 g h,(o_ h 2 (mK (l7 g))),V4 i j,kL k,(o_ 0 1 (List.map y5 [l])),a1J m n,(o_ m 9 (mC n)),(o_ 1 1 []),nK d o l,c6h l b]
abbrev c0k (a:Nat) (b:l9E) (c:Int) (d:Int) (e:Int) (f:Int) (g:l9K) (h:Nat) (i:Int) (j:y9) (k:Int) (l:Int) (m:Nat) (n:l9C) (o:Int):Heap:=[W9 a b,(o_ a 10 (mE b)),qW c d e f,Q8 g h,(o_ h 2 (mK (l7 g))),V4 i j,kL k,(o_ 0 1 (List.map y5 [l])),a1I m n,(o_ m 9 (mC (M7 n))),(o_ 1 1 []),nK d o l,c6h l b]
abbrev d3l (a:Nat) (b:l9E) (c:Int) (d:Int) (e:Int) (f:Int) (g:l9K) (h:Nat) (i:Int) (j:y9) (k:Int) (l:Int) (m:Nat) (n:l9C) (o:Int):Heap:=[W9 a b,(o_ a 10 (mE b)),qW c d e f,Q8 g h,(o_ h 2 (mK (l7 g))),V4 i j,kL k,(o_ 0 1 (List.map y5 [l])),a1I m n,(o_ m 9 (mC (M7 n))),(o_ 1 1 []),nK d o l,(o_ 2 14 (List.map u7.row (([]++([(u7.mk l (U5.mk 4 0 0 0 0 0 0 R8 false 0 (P8 (b.map (·.card)))))]))++(D9 l (E8 n)))))]
theorem b2K (l:l9E) (g:Nat) (al:l9K) (ga:Nat) (gf gl gt nd:Int) (st:y9) (p lost:Int) (qg:Nat) (ql:l9C) (now swept nxt:Int) (hn:0<=now) (hn2:now < 1099511627776) (hq:ql.length<=16) (hl:l.length<=32) (h1:(Int.tmod (now+1) 20 == 0)=false) (h2:(Int.tmod (now+1) 15 == 0)=true):AC 37 [(j3 11)] (d7Y g l gf gl gt al ga nd st lost p qg ql now swept) ((sA 14 (([(u7.mk p (xJ (P8 (l.map Entry.card))))]++(D9 p (E8 ql))).map u7.row)),(a8M g l gf now gl gt al ga nd st lost p qg ql swept)):=by
 have hpl:=Z4 p (E8 ql)
 exact x9 (fn:=Tryz.f37) (ann:=b5g) (Has.o Tryz.func37) (.r (.s (.y 4 (.int .i64 (a6D now)) (iI (now+1)) Yes.o (.s (.c 4 (j5.put2 [0,1,2,3,4,5] (wH g l gf gl gt al ga nd st lost p qg ql now swept) (j3 2) (wH g l gf gl gt al ga nd st lost p qg ql now swept) (fU l g al ga gf gl gt nd st ) rlA rlA) (.ch 9 (a8L g l gf now gl gt al ga nd st lost p qg ql swept) (j5.put2 [2] (wH g l gf gl gt al ga nd st lost p qg ql now swept) F4 (a8L g l gf now gl gt al ga nd st lost p qg ql swept) (gZ gf gl gt (now+1) ) D5 D5) (.rd (iI (now+1)) (wH g l gf gl gt al ga nd st lost p qg ql now swept) (.s (.y 5 (bB ((Int.tmod (now+1) 20) == 0)) bF (Yes.b h1) (.rn (.s (.h' (jA g l gf now gl gt al ga nd st lost p qg ql swept) (.y 5 (bB ((Int.tmod (now+1) 15) == 0)) bT (Yes.b h2) (.u6 (.ru (.c 15 (j5.put2 [0,1,2,3,4,5] (jA g l gf now gl gt al ga nd st lost p qg ql swept) (j3 0) (jA g l gf now gl gt al ga nd st lost p qg ql swept) (bX l g al ga (tkF gf (now+1)) (tkL gf gl gt (now+1)) (tkT gf gt (now+1)) nd st.t st.node st.n ) rlA rlA) (.c 16 (j5.put2 [0,1] (jA g l gf now gl gt al ga nd st lost p qg ql swept) (sA 9 (mC (l.map (·.card)))) (jA g l gf now gl gt al ga nd st lost p qg ql swept) (bS (r9 32) l g l.length oa oa) rlF rlF) (.c 17 ((vD (l.map (·.card)) oa).lift kr kr (jA g l gf now gl gt al ga nd st lost p qg ql swept)) (.ao 20 36 (d9 12 0 14 0) (AV.sl .clip 14 [[(iI p),(iI 4),z_,z_,z_,z_,z_,z_,e_,e_,bF,H9,(sA 9 (mC (P8 (l.map (·.card))))),w9]]) (d9 12 1 14 1) (d3m g l gf now gl gt al ga nd st lost p qg ql swept) (I8 (T:=tt) (e:=56) (te:=iQ) (z:=1) (b:=24) (y:=[.sl .nil 0 []]) (row:=u7.row) (l:=[]) kr kr rfl D8 D8 kr Y3 om rfl rfl iP) (.rd z_ (jA g l gf now gl gt al ga nd st lost p qg ql swept) (.rd z_ (jA g l gf now gl gt al ga nd st lost p qg ql swept) (.rd z_ (jA g l gf now gl gt al ga nd st lost p qg ql swept) (.rd (sA 1 [[(iI p)]]) (jA g l gf now gl gt al ga nd st lost p qg ql swept) (.rd (sA 1 [[(iI p)]]) (jA g l gf now gl gt al ga nd st lost p qg ql swept) (.rd (sA 1 [[(iI p)]]) (jA g l gf now gl gt al ga nd st lost p qg ql swept) (.s (.s (.g (.roll 2 (.r (.ru (.s (.ch 7 (c0k g l gf now gl gt al ga nd st lost p qg ql swept) (j5.put2 [6,7,8,9] (d3m g l gf now gl gt al ga nd st lost p qg ql swept) (sA 9 (mC (E8 ql))) (c0k g l gf now gl gt al ga nd st lost p qg ql swept) (a4C p lost qg ql oa) rlC rlC) (.c 8 ((bK p (E8 ql)).lift kr kr (c0k g l gf now gl gt al ga nd st lost p qg ql swept)) (.ao 9 36 (d9 12 1 14 1) (sA 14 ((D9 p (E8 ql)).map u7.row)) (d9 12 2 14 (1+(D9 p (E8 ql)).length)) (d3l g l gf now gl gt al ga nd st lost p qg ql swept) (I8 (T:=tt) (e:=56) (te:=iQ) (z:=1) (b:=24) (y:=[.sl .nil 0 []]) (row:=u7.row) (l:=[]++([(u7.mk p (U5.mk 4 0 0 0 0 0 0 R8 false 0 (P8 (l.map (·.card)))))])) kr kr rfl D8 D8 kr Y3 om rfl rfl iP) (.s (.s (.rn (.w 3 (List.map u7.row (([]++([(u7.mk p (U5.mk 4 0 0 0 0 0 0 R8 false 0 (P8 (l.map (·.card)))))]))++(D9 p (E8 ql)))) (And.intro (G5 (room:=none) kr om) (u7.z8 _ _):I5 (d3l g l gf now gl gt al ga nd st lost p qg ql swept) 14 (d9 12 2 14 (1+(D9 p (E8 ql)).length))=some (List.map u7.row (([]++([(u7.mk p (U5.mk 4 0 0 0 0 0 0 R8 false 0 (P8 (l.map (·.card)))))]))++(D9 p (E8 ql))))/\AV.F3 0 (List.map u7.row (([]++([(u7.mk p (U5.mk 4 0 0 0 0 0 0 R8 false 0 (P8 (l.map (·.card)))))]))++(D9 p (E8 ql))))=true) (.g (.h' (a8M g l gf now gl gt al ga nd st lost p qg ql swept) (.q 12 (sA 14 (List.map u7.row (([]++([(u7.mk p (U5.mk 4 0 0 0 0 0 0 R8 false 0 (P8 (l.map (·.card)))))]))++(D9 p (E8 ql)))))))))))))))))))))))))))))))))))))))))))))))
def stT (now:Int) (s:DS):DS:=⟨s.l,s.g,s.al,s.ga,tkF s.gf (now+1),tkL s.gf s.gl s.gt (now+1),tkT s.gf s.gt (now+1),s.st⟩
def stK (now swept:Int) (s:DS):List Key:=X9 (stT now s) (l8 (now+1)) (now+1 - swept - 20)
def stW (nd now swept:Int) (s:DS):DS:=swF nd (l8 (now+1)) (stK now swept s) (stT now s)
def stC (nd now swept:Int) (s:DS):List j4:=swC nd (l8 (now+1)) (stK now swept s) (stT now s)
def stP (nd now swept:Int) (s:DS):DS:=⟨List.foldl X6 (stW nd now swept s).l (Y9 (stW nd now swept s).l (l8 (now+1))),(stW nd now swept s).g,(stW nd now swept s).al,(stW nd now swept s).ga,(stW nd now swept s).gf,(stW nd now swept s).gl,(stW nd now swept s).gt,(stW nd now swept s).st⟩
structure SS where
 d:DS
 ql:List j4
 qg:Nat
 lost:Int
 now:Int
 swept:Int
structure e1v (nd:Int) (s:SS):Prop where
 hn:0<=s.now
 hn2:s.now < 1099511627776
 hq:s.ql.length<=16
 hs0:0<=s.swept
 hs1:s.swept<=s.now
 hs:bP s.d.l
 hl:s.d.l.length<=32
 ha:s.d.al.length < 60000
 hgt:0<=tkT s.d.gf s.d.gt (s.now+1)/\tkT s.d.gf s.d.gt (s.now+1)<=1048576
 hc1:(stC nd s.now s.swept s.d).length < 100
 hw:(stW nd s.now s.swept s.d).l.length < 1000
attribute [local irreducible] D7 F9 G9 J2 J9 K3 K6 K9 O1 Q9 R9 U2 X6 X9 Y9 bQ jX lJ opM q9 sS tuR
theorem c1N (gf:Int) (w:Int) {gt:Int} (h:0<=gt/\gt<=1048576):0<=tkT gf gt w/\tkT gf gt w<=1048576:=by
 with_unfolding_all
  unfold tkT
  split
  · exact h
  · exact ⟨Int.le_refl _,by decide⟩
end Go.Proofs.YtmghjcbabebanaaGreat.AM
namespace Go.Proofs.YtmghjcbabebanaaGreat.AM
open Go Go.Proofs.YtmghjcbabebanaaGreat
attribute [local irreducible] E9 H6 K5 j5 l6
structure SSI (n:Nat) (b:Int) (s:SS):Prop where
 d:aP n s.d
 hn:0<=s.now
 hn2:s.now<=b
 hq:s.ql.length<=16
 hs0:0<=s.swept
 hs1:s.swept<=s.now
theorem c1S {s:DS} (h:s.l.length<=32) (now late:Int):(X9 s now late).length<=32:=by
 with_unfolding_all unfold X9
 split
 · simp
 · exact a4K h now late
theorem d0f (l:l9E) (k:Key):List.Sublist (X6 l k) l:=by
 unfold X6
 split
 · have h1:List.Sublist (l.drop (G6 l k+1)) (l.drop (G6 l k)):=by
    rw [<- List.drop_drop]; exact List.drop_sublist _ _
   have h2:=List.Sublist.append (List.Sublist.refl (l.take (G6 l k))) h1
   rwa [List.take_append_drop] at h2
 · exact List.Sublist.refl _
theorem d0g (ks:l9K):∀ (l:l9E),List.Sublist (ks.foldl X6 l) l:=by
 induction ks with
 | nil=>intro l; exact List.Sublist.refl _
 | cons k ks ih=>intro l; rw [List.foldl_cons]; exact (ih _).trans (d0f l k)
theorem a4c {n:Nat} {s:DS} (h:aP n s) (now:Int):aP n (stT now s) :=
 have ht:=c1N s.gf (now+1) (gt:=s.gt) ⟨h.g0,h.g1⟩
 ⟨h.srt,h.len,h.al,ht.1,ht.2⟩
theorem c2a {n:Nat} {s:DS} (h:aP n s) (now swept:Int):(stK now swept s).length<=32:=c1S (a4c h now).len _ _
theorem c1Z {n:Nat} {s:DS} (h:aP n s) (nd now swept:Int):aP (n+32) (stW nd now swept s) :=
 (c1V nd (l8 (now+1)) _ (a4c h now)).mono (by have:=c2a h now swept; omega)
theorem d6x {n:Nat} {s:DS} (h:aP n s) (nd now swept:Int):(stC nd now swept s).length<=32:=by
 unfold stC
 rw [a6i]
 exact c2a h now swept
theorem d6w {n:Nat} {s:DS} (h:aP n s) (nd now swept:Int):aP (n+32) (stP nd now swept s):=by
 have hw:=c1Z h nd now swept
 have hs:=d0g (Y9 (stW nd now swept s).l (l8 (now+1))) (stW nd now swept s).l
 exact ⟨List.Pairwise.sublist (hs.map kE) hw.srt,Nat.le_trans hs.length_le hw.len,hw.al,hw.g0,hw.g1⟩
theorem uR (l:l9C):(M7 l).length<=l.length:=by
 with_unfolding_all unfold M7
 have:=qP (min l.length 4) l
 omega
attribute [local irreducible] stP stW stC
attribute [local irreducible] A9 F5 F6 F8 F9 G9 J4 K4 K6 M8 O1 Q5 Q6 R4 R7 R9 Tp.J5 Tp.K8 Tp.card Tp.cards Tp.key Tp.keyT Tp.next Tp.step U2 U6 U7 V3 aH cmpL inC isKey ixI opM sink
def tY:Ann:={ fin:=some 0,live:=[(2,[0,1,7,8])],out:=[(2,[4])] }
theorem zZ (p:Key->Bool) (f:Nat) (xs:List AV) (l:l9K) (i:Nat) (hc:∀ (x:Key) (H:Heap),AC f ([AV.agg (Key.row x)]++xs) H (bB (p x),H)) (hl:l.length < 1099511627776) (hi:i<=l.length) {eX:Ex} {FX:Fr} {HX:Heap} (k1:(l9 i l.length)=true->(p (nth l i))=true->((.ret:Ex),(mkF 19 [(4,(iN i))]),[])=(eX,FX,HX)) (k2:(l9 i l.length)=true->(p (nth l i))=false->l6 (C8 tY Tryz.f108 0) (some [0,1,7,8]) (some [4]) (mkF 19 [(0,(sA 2 (mK l))),(1,(A8 f xs)),(7,(iN l.length)),(8,(iN (i+1)))]) [] eX FX HX) (k3:(l9 i l.length)=false->((.exit 0:Ex),(mkF 19 []),[])=(eX,FX,HX)):l6 (C8 tY Tryz.f108 0) (some [0,1,7,8]) (some [4]) (mkF 19 [(0,(sA 2 (mK l))),(1,(A8 f xs)),(7,(iN l.length)),(8,(iN i))]) [] eX FX HX :=
 J7 (.r (.g (.two (l9 i l.length) (fun h1 h1'=>(.r (.s (.is 3 2 2 (mK l) (i:Int) (Key.row (nth l i)) (N7.mk _ ow ow) (.c 5 (hc (nth l i) []) (.g (.two (p (nth l i)) (fun h2 h2'=>(.r (.g (.l (k1 h1 h2))))) (fun h2 h2'=>(.r (.y 0 (.int .i64 (cb_ i)) (iN (i+1)) Yes.o (.g (.l (k2 h1 h2))))))))))))) (fun h1 h1'=>(.l (k3 h1))))))
theorem c9J (p:Key->Bool) (f:Nat) (xs:List AV) (l:l9K) (hc:∀ (x:Key) (H:Heap),AC f ([AV.agg (Key.row x)]++xs) H (bB (p x),H)) (hl:l.length < 1099511627776) (n:Nat) (hn:n < l.length) (hp:p (nth l n)=true) (r:Nat):∀ (i:Nat),i+r=n->(∀ j,i<=j->j < n->p (nth l j)=false) ->
 l6 (C8 tY Tryz.f108 0) (some [0,1,7,8]) (some [4]) (mkF 19 [(0,(sA 2 (mK l))),(1,(A8 f xs)),(7,(iN l.length)),(8,(iN i))]) [] (.ret) (mkF 19 [(4,(iN n))]) []:=by
 induction r with
 | zero =>
  intro i hi h
  obtain rfl:i=n:=by omega
  refine zZ p f xs l i hc hl ow (fun _ _=>rfl) (fun _ h2=>?_) (fun h1=>?_)
  · rw [hp] at h2; simp at h2
  · simp at h1; omega
 | succ r ih =>
  intro i hi h
  refine zZ p f xs l i hc hl ow (fun _ h2=>?_) (fun _ h2=>?_) (fun h1=>?_)
  · rw [h i J8 ow] at h2; simp at h2
  · exact ih (i+1) ow (fun j h3 h4=>h j ow h4)
  · simp at h1; omega
theorem c9K (p:Key->Bool) (f:Nat) (xs:List AV) (l:l9K) (hc:∀ (x:Key) (H:Heap),AC f ([AV.agg (Key.row x)]++xs) H (bB (p x),H)) (hl:l.length < 1099511627776) (r:Nat):∀ (i:Nat),i+r=l.length->(∀ j,i<=j->j < l.length->p (nth l j)=false) ->
 l6 (C8 tY Tryz.f108 0) (some [0,1,7,8]) (some [4]) (mkF 19 [(0,(sA 2 (mK l))),(1,(A8 f xs)),(7,(iN l.length)),(8,(iN i))]) [] (.exit 0) (mkF 19 []) []:=by
 induction r with
 | zero =>
  intro i hi h
  refine zZ p f xs l i hc hl ow (fun h1 _=>?_) (fun h1 h2=>?_) (fun h1=>rfl)
  · simp at h1; omega
  · simp at h1; omega
 | succ r ih =>
  intro i hi h
  refine zZ p f xs l i hc hl ow (fun _ h2=>?_) (fun _ h2=>?_) (fun h1=>?_)
  · rw [h i J8 ow] at h2; simp at h2
  · exact ih (i+1) ow (fun j h3 h4=>h j ow h4)
  · simp at h1; omega
abbrev e1s (a:l9K) (b:Nat) (c:List AV):Fr:=(mkF 19 [(0,(sA 2 (mK a))),(1,(A8 b c)),(7,(iN a.length)),(8,z_)])
theorem c3O (p:Key->Bool) (f:Nat) (xs:List AV) (l:l9K) (n:Nat) (hc:∀ (x:Key) (H:Heap),AC f ([AV.agg (Key.row x)]++xs) H (bB (p x),H)) (hxs:AV.bdds 0 xs=true) (hl:l.length < 1099511627776) (hn:n < l.length) (hp:p (nth l n)=true) (h:∀ j,0<=j->j < n->p (nth l j)=false):AC 108 [(sA 2 (mK l)),(A8 f xs)] [] ((iN n),[]) :=
 x9 (fn:=Tryz.f108) (ann:=tY) (Has.o Tryz.func108) (.r (.s (.y 1 (.int .i64 ((List.length (mK l):Nat):Int)) (iN l.length) (Yes.len _ _ _) (.g (.loop (mkF 19 [(4,(iN n))]) (c9J p f xs l hc hl n hn hp n 0 ow h) (.q 0 (iN n)))))))
theorem c3P (p:Key->Bool) (f:Nat) (xs:List AV) (l:l9K) (hc:∀ (x:Key) (H:Heap),AC f ([AV.agg (Key.row x)]++xs) H (bB (p x),H)) (hxs:AV.bdds 0 xs=true) (hl:l.length < 1099511627776) (h:∀ j,0<=j->j < l.length->p (nth l j)=false):AC 108 [(sA 2 (mK l)),(A8 f xs)] [] ((iI (-1)),[]) :=
 x9 (fn:=Tryz.f108) (ann:=tY) (Has.o Tryz.func108) (.r (.s (.y 1 (.int .i64 ((List.length (mK l):Nat):Int)) (iN l.length) (Yes.len _ _ _) (.g (.loop (mkF 19 []) (c9K p f xs l hc hl l.length 0 ow h) (.qr 0 (iI (-1))))))))
theorem c9I (p:Key->Bool) (f:Nat) (xs:List AV) (l:l9K) (hc:∀ (x:Key) (H:Heap),AC f ([AV.agg (Key.row x)]++xs) H (bB (p x),H)) (hxs:AV.bdds 0 xs=true) (hl:l.length < 1099511627776):AC 108 [(sA 2 (mK l)),(A8 f xs)] [] ((iI (ixI p l)),[]):=by
 unfold ixI
 cases h:mQ p l 0 with
 | none=>exact c3P p f xs l hc hxs hl (fun j _ hj=>qM l 0 h j hj)
 | some n =>
  obtain ⟨_,h2,h3,h4⟩:=qL l 0 n h
  exact c3O p f xs l n hc hxs hl ow h3 (fun j _ hj=>h4 j hj)
theorem d6K (p:Key->Bool) (f:Nat) (xs:List AV) (l:l9K) (hc:∀ (x:Key) (H:Heap),AC f ([AV.agg (Key.row x)]++xs) H (bB (p x),H)) (hxs:AV.bdds 0 xs=true) (hl:l.length < 1099511627776) (H:Heap):AC 108 [(sA 2 (mK l)),(A8 f xs)] H ((iI (ixI p l)),H):=(c9I p f xs l hc hxs hl).lift lZ kr H
def d1p:Ann:={ fin:=some 0 }
theorem a8m (l:l9C) (hl:l.length < 1048576):AC 57 [(sA 9 (mC l)),(A8 58 [])] [] ((bB (decide (ixI (fun c:j4=>!(Q6 c)) l >= 0))),[]) :=
 x9 (fn:=Tryz.f57) (ann:=d1p) (Has.o Tryz.func57) (.r (.s (.c 2 (c3U (fun c:j4=>!(Q6 c)) 58 [] l (fun x H=>b0v x H) (rfl) oa []) (.q 0 (bB (decide ((ixI (fun c:j4=>!(Q6 c)) l) >= 0)))))))
def d1o:Ann:={ fin:=some 0 }
theorem c5r (l:l9K) (hl:l.length < 1048576):AC 60 [(sA 2 (mK l)),(A8 61 [])] [] ((bB (decide (ixI (fun k:Key=>!(U2 k)) l >= 0))),[]) :=
 x9 (fn:=Tryz.f60) (ann:=d1o) (Has.o Tryz.func60) (.r (.s (.c 2 (d6K (fun k:Key=>!(U2 k)) 61 [] l (fun x H=>b0u x H) (rfl) oa []) (.q 0 (bB (decide ((ixI (fun k:Key=>!(U2 k)) l) >= 0)))))))
def c9q:Ann:={ refs:=[1],fin:=some 0 }
abbrev b9d :=(AV.ref [(AV.str (ByteArray.mk #[107,105,110,100])),(AV.iface 109 (iI 12))] 0)
theorem c3C (q:Msg) (h:q.kind < 1):AC 30 [(p9 (Msg.row q))] [] ((AV.iface 166 b9d),[]) :=
 x9 (fn:=Tryz.f30) (ann:=c9q) (Has.o Tryz.func30) (.r (.s (.y 2 (jY q) bT (Yes.b (decide_eq_true h)) (.u3 (.ru (.c 0 ((Z5 (ByteArray.mk #[107,105,110,100]) 12 oa).lift kr kr []) (.q 0 (AV.iface 166 b9d))))))))
def c9p:Ann:={ refs:=[1],fin:=some 0 }
theorem c3B (q:Msg) (k1:1<=q.kind) (h:5 < q.kind):AC 30 [(p9 (Msg.row q))] [] ((AV.iface 166 b9d),[]) :=
 x9 (fn:=Tryz.f30) (ann:=c9p) (Has.o Tryz.func30) (.r (.s (.y 2 (jY q) bF (Yes.b yg_) (.n3 (.y 6 (lK q) bT (Yes.b (decide_eq_true h)) (.ru (.c 0 ((Z5 (ByteArray.mk #[107,105,110,100]) 12 oa).lift kr kr []) (.q 0 (AV.iface 166 b9d)))))))))
def d6c:Ann:={ refs:=[1],fin:=some 0 }
theorem c9i (q:Msg) (k1:1<=q.kind) (k2:q.kind<=5) (hz:O1 q=false):AC 30 [(p9 (Msg.row q))] [] ((AV.iface 166 b9l),[]) :=
 x9 (fn:=Tryz.f30) (ann:=d6c) (Has.o Tryz.func30) (.r (.s (.y 2 (jY q) bF (Yes.b yg_) (.n3 (.y 6 (lK q) bF (Yes.b yg_) (.rn (.c 1 (bD q  ([]:Heap)) (.y 2 (bB (!(O1 q))) bT (Yes.b nO) (.ru (.c 0 ((Z5 (ByteArray.mk #[122,101,114,111]) 12 oa).lift kr kr []) (.q 0 (AV.iface 166 b9l))))))))))))
def d6d:Ann:={ refs:=[1],fin:=some 0 }
theorem c9j (q:Msg) (k1:1<=q.kind) (k2:q.kind<=5) (hz:O1 q=true) (ho:opM q=false):AC 30 [(p9 (Msg.row q))] [] ((AV.iface 166 b9k),[]) :=
 x9 (fn:=Tryz.f30) (ann:=d6d) (Has.o Tryz.func30) (.r (.s (.y 2 (jY q) bF (Yes.b yg_) (.n3 (.y 6 (lK q) bF (Yes.b yg_) (.rn (.c 1 (bD q  ([]:Heap)) (.y 2 (bB (!(O1 q))) bF (Yes.b nO) (.rn (.c 1 (iG q  ([]:Heap)) (.y 2 (bB (!(opM q))) bT (Yes.b aZ) (.ru (.c 0 ((Z5 (ByteArray.mk #[111,112]) 12 oa).lift kr kr []) (.q 0 (AV.iface 166 b9k)))))))))))))))
def c9m:Ann:={ refs:=[1],fin:=some 0 }
theorem c3y (q:Msg) (k1:1<=q.kind) (k2:q.kind<=5) (hz:O1 q=true) (ho:opM q=true) (hn:K6 q.code=false):AC 30 [(p9 (Msg.row q))] [] ((AV.iface 166 xL),[]) :=
 x9 (fn:=Tryz.f30) (ann:=c9m) (Has.o Tryz.func30) (.r (.s (.y 2 (jY q) bF (Yes.b yg_) (.n3 (.y 6 (lK q) bF (Yes.b yg_) (.rn (.c 1 (bD q  ([]:Heap)) (.y 2 (bB (!(O1 q))) bF (Yes.b nO) (.rn (.c 1 (iG q  ([]:Heap)) (.y 2 (bB (!(opM q))) bF (Yes.b aZ) (.rn (.c 2 (R3 q.code  ([]:Heap)) (.y 3 (bB (!(K6 q.code))) bT (Yes.b (by rw [hn]; rfl)) (.u6 (.u (.ru (.c 0 ((Z5 (ByteArray.mk #[110,117,109,98,101,114]) 1 oa).lift kr kr []) (.q 0 (AV.iface 166 xL))))))))))))))))))))
def c9l:Ann:={ refs:=[1],fin:=some 0 }
theorem a6b {p:Prop} (h:p:=by rw [hc]; rfl):p:=h
theorem c3x (q:Msg) (k1:1<=q.kind) (k2:q.kind<=5) (hz:O1 q=true) (ho:opM q=true) (hc:K6 q.code=true) (hn:K6 q.status=false):AC 30 [(p9 (Msg.row q))] [] ((AV.iface 166 xL),[]) :=
 x9 (fn:=Tryz.f30) (ann:=c9l) (Has.o Tryz.func30) (.r (.s (.y 2 (jY q) bF (Yes.b yg_) (.n3 (.y 6 (lK q) bF (Yes.b yg_) (.rn (.c 1 (bD q  ([]:Heap)) (.y 2 (bB (!(O1 q))) bF (Yes.b nO) (.rn (.c 1 (iG q  ([]:Heap)) (.y 2 (bB (!(opM q))) bF (Yes.b aZ) (.rn (.c 2 (R3 q.code  ([]:Heap)) (.y 3 (bB (!(K6 q.code))) bF (Yes.b a6b) (.n3 (.c 7 (R3 q.status  ([]:Heap)) (.n (.y 8 (bB (!(K6 q.status))) bT (Yes.b (by rw [hn]; rfl)) (.u3 (.ru (.c 0 ((Z5 (ByteArray.mk #[110,117,109,98,101,114]) 1 oa).lift kr kr []) (.q 0 (AV.iface 166 xL)))))))))))))))))))))))
def c9k:Ann:={ refs:=[1],fin:=some 0 }
theorem c3w (q:Msg) (k1:1<=q.kind) (k2:q.kind<=5) (hz:O1 q=true) (ho:opM q=true) (hc:K6 q.code=true) (hs:K6 q.status=true) (hn:q.seq < -1):AC 30 [(p9 (Msg.row q))] [] ((AV.iface 166 xL),[]) :=
 x9 (fn:=Tryz.f30) (ann:=c9k) (Has.o Tryz.func30) (.r (.s (.y 2 (jY q) bF (Yes.b yg_) (.n3 (.y 6 (lK q) bF (Yes.b yg_) (.rn (.c 1 (bD q  ([]:Heap)) (.y 2 (bB (!(O1 q))) bF (Yes.b nO) (.rn (.c 1 (iG q  ([]:Heap)) (.y 2 (bB (!(opM q))) bF (Yes.b aZ) (.rn (.c 2 (R3 q.code  ([]:Heap)) (.y 3 (bB (!(K6 q.code))) bF (Yes.b a6b) (.n3 (.c 7 (R3 q.status  ([]:Heap)) (.n (.y 8 (bB (!(K6 q.status))) bF (Yes.b a6d) (.n3 (.y 13 (a3O q) bT (Yes.b (decide_eq_true hn)) (.ru (.c 0 ((Z5 (ByteArray.mk #[110,117,109,98,101,114]) 1 oa).lift kr kr []) (.q 0 (AV.iface 166 xL))))))))))))))))))))))))
def c9o:Ann:={ refs:=[1],fin:=some 0 }
abbrev b9c :=(AV.ref [(AV.str (ByteArray.mk #[99,97,114,100,115])),(AV.iface 109 (iI 3))] 0)
theorem c3A (q:Msg) (k1:1<=q.kind) (k2:q.kind<=5) (hz:O1 q=true) (ho:opM q=true) (hc:K6 q.code=true) (hs:K6 q.status=true) (hq:-1<=q.seq) (hn:64 < q.cards.length):AC 30 [(p9 (Msg.row q))] [] ((AV.iface 166 b9c),[]) :=
 x9 (fn:=Tryz.f30) (ann:=c9o) (Has.o Tryz.func30) (.r (.s (.y 2 (jY q) bF (Yes.b yg_) (.n3 (.y 6 (lK q) bF (Yes.b yg_) (.rn (.c 1 (bD q  ([]:Heap)) (.y 2 (bB (!(O1 q))) bF (Yes.b nO) (.rn (.c 1 (iG q  ([]:Heap)) (.y 2 (bB (!(opM q))) bF (Yes.b aZ) (.rn (.c 2 (R3 q.code  ([]:Heap)) (.y 3 (bB (!(K6 q.code))) bF (Yes.b a6b) (.n3 (.c 7 (R3 q.status  ([]:Heap)) (.n (.y 8 (bB (!(K6 q.status))) bF (Yes.b a6d) (.n3 (.y 13 (a3O q) bF (Yes.b yg_) (.rn (.y 2 (.int .i64 ((List.length (mC q.cards):Nat):Int)) (iN q.cards.length) (Yes.len _ _ _) (.y 3 (b1s q) bT (Yes.b yg_) (.u4 (.ru (.c 0 ((Z5 (ByteArray.mk #[99,97,114,100,115]) 3 oa).lift kr kr []) (.q 0 (AV.iface 166 b9c))))))))))))))))))))))))))))
def c9n:Ann:={ refs:=[1],fin:=some 0 }
theorem c3z (q:Msg) (k1:1<=q.kind) (k2:q.kind<=5) (hz:O1 q=true) (ho:opM q=true) (hc:K6 q.code=true) (hs:K6 q.status=true) (hq:-1<=q.seq) (l1:q.cards.length<=64) (hn:64 < q.keys.length):AC 30 [(p9 (Msg.row q))] [] ((AV.iface 166 b9c),[]) :=
 x9 (fn:=Tryz.f30) (ann:=c9n) (Has.o Tryz.func30) (.r (.s (.y 2 (jY q) bF (Yes.b yg_) (.n3 (.y 6 (lK q) bF (Yes.b yg_) (.rn (.c 1 (bD q  ([]:Heap)) (.y 2 (bB (!(O1 q))) bF (Yes.b nO) (.rn (.c 1 (iG q  ([]:Heap)) (.y 2 (bB (!(opM q))) bF (Yes.b aZ) (.rn (.c 2 (R3 q.code  ([]:Heap)) (.y 3 (bB (!(K6 q.code))) bF (Yes.b a6b) (.n3 (.c 7 (R3 q.status  ([]:Heap)) (.n (.y 8 (bB (!(K6 q.status))) bF (Yes.b a6d) (.n3 (.y 13 (a3O q) bF (Yes.b yg_) (.rn (.y 2 (.int .i64 ((List.length (mC q.cards):Nat):Int)) (iN q.cards.length) (Yes.len _ _ _) (.y 3 (b1s q) bF (Yes.b yg_) (.n3 (.y 7 (.int .i64 ((List.length (mK q.keys):Nat):Int)) (iN q.keys.length) (Yes.len _ _ _) (.n (.y 8 (b9n q) bT (Yes.b yg_) (.ru (.c 0 ((Z5 (ByteArray.mk #[99,97,114,100,115]) 3 oa).lift kr kr []) (.q 0 (AV.iface 166 b9c)))))))))))))))))))))))))))))))
theorem b9J (l:l9C) (hl:l.length < 1048576) (h:(ixI (fun c:j4=>!(Q6 c)) l >= 0)):AC 57 [(sA 9 (mC l)),(A8 58 [])] [] (bT,[]):=by
 have e:=a8m l hl
 rw [decide_eq_true h] at e
 exact e
theorem b9K (l:l9C) (hl:l.length < 1048576) (h:¬ (ixI (fun c:j4=>!(Q6 c)) l >= 0)):AC 57 [(sA 9 (mC l)),(A8 58 [])] [] (bF,[]):=by
 have e:=a8m l hl
 rw [decide_eq_false h] at e
 exact e
theorem b9I (l:l9K) (hl:l.length < 1048576) (h:(ixI (fun k:Key=>!(U2 k)) l >= 0)):AC 60 [(sA 2 (mK l)),(A8 61 [])] [] (bT,[]):=by
 have e:=c5r l hl
 rw [decide_eq_true h] at e
 exact e
def c9s:Ann:={ refs:=[1],fin:=some 0 }
abbrev b9b :=(AV.ref [(AV.str (ByteArray.mk #[99,97,114,100])),(AV.iface 109 (iI 1))] 0)
theorem c3E (q:Msg) (k1:1<=q.kind) (k2:q.kind<=5) (hz:O1 q=true) (ho:opM q=true) (hc:K6 q.code=true) (hs:K6 q.status=true) (hq:-1<=q.seq) (l1:q.cards.length<=64) (l2:q.keys.length<=64) (h:(ixI (fun c:j4=>!(Q6 c)) q.cards >= 0)):AC 30 [(p9 (Msg.row q))] [] ((AV.iface 166 b9b),[]) :=
 x9 (fn:=Tryz.f30) (ann:=c9s) (Has.o Tryz.func30) (.r (.s (.y 2 (jY q) bF (Yes.b yg_) (.n3 (.y 6 (lK q) bF (Yes.b yg_) (.rn (.c 1 (bD q  ([]:Heap)) (.y 2 (bB (!(O1 q))) bF (Yes.b nO) (.rn (.c 1 (iG q  ([]:Heap)) (.y 2 (bB (!(opM q))) bF (Yes.b aZ) (.rn (.c 2 (R3 q.code  ([]:Heap)) (.y 3 (bB (!(K6 q.code))) bF (Yes.b a6b) (.n3 (.c 7 (R3 q.status  ([]:Heap)) (.n (.y 8 (bB (!(K6 q.status))) bF (Yes.b a6d) (.n3 (.y 13 (a3O q) bF (Yes.b yg_) (.rn (.y 2 (.int .i64 ((List.length (mC q.cards):Nat):Int)) (iN q.cards.length) (Yes.len _ _ _) (.y 3 (b1s q) bF (Yes.b yg_) (.n3 (.y 7 (.int .i64 ((List.length (mK q.keys):Nat):Int)) (iN q.keys.length) (Yes.len _ _ _) (.n (.y 8 (b9n q) bF (Yes.b yg_) (.rn (.c 2 ((b9J q.cards oa h).lift kr kr []) (.s (.u3 (.ru (.c 0 ((Z5 (ByteArray.mk #[99,97,114,100]) 1 oa).lift kr kr []) (.q 0 (AV.iface 166 b9b)))))))))))))))))))))))))))))))))))
def c9r:Ann:={ refs:=[1],fin:=some 0 }
theorem c3D (q:Msg) (k1:1<=q.kind) (k2:q.kind<=5) (hz:O1 q=true) (ho:opM q=true) (hc:K6 q.code=true) (hs:K6 q.status=true) (hq:-1<=q.seq) (l1:q.cards.length<=64) (l2:q.keys.length<=64) (h0:¬ (ixI (fun c:j4=>!(Q6 c)) q.cards >= 0)) (h:(ixI (fun k:Key=>!(U2 k)) q.keys >= 0)):AC 30 [(p9 (Msg.row q))] [] ((AV.iface 166 b9b),[]) :=
 x9 (fn:=Tryz.f30) (ann:=c9r) (Has.o Tryz.func30) (.r (.s (.y 2 (jY q) bF (Yes.b yg_) (.n3 (.y 6 (lK q) bF (Yes.b yg_) (.rn (.c 1 (bD q  ([]:Heap)) (.y 2 (bB (!(O1 q))) bF (Yes.b nO) (.rn (.c 1 (iG q  ([]:Heap)) (.y 2 (bB (!(opM q))) bF (Yes.b aZ) (.rn (.c 2 (R3 q.code  ([]:Heap)) (.y 3 (bB (!(K6 q.code))) bF (Yes.b a6b) (.n3 (.c 7 (R3 q.status  ([]:Heap)) (.n (.y 8 (bB (!(K6 q.status))) bF (Yes.b a6d) (.n3 (.y 13 (a3O q) bF (Yes.b yg_) (.rn (.y 2 (.int .i64 ((List.length (mC q.cards):Nat):Int)) (iN q.cards.length) (Yes.len _ _ _) (.y 3 (b1s q) bF (Yes.b yg_) (.n3 (.y 7 (.int .i64 ((List.length (mK q.keys):Nat):Int)) (iN q.keys.length) (Yes.len _ _ _) (.n (.y 8 (b9n q) bF (Yes.b yg_) (.rn (.c 2 ((b9K q.cards oa h0).lift kr kr []) (.s (.n3 (.c 4 ((b9I q.keys oa h).lift kr kr []) (.ru (.c 0 ((Z5 (ByteArray.mk #[99,97,114,100]) 1 oa).lift kr kr []) (.q 0 (AV.iface 166 b9b))))))))))))))))))))))))))))))))))))
theorem b4C {α:Type} [Inhabited α] {p:α->Bool} {l:List α} (h:¬ ixI p l >= 0):∀ x∈l,p x=false:=by
 intro x hx
 obtain ⟨j,hj,rfl⟩:=dF hx
 cases h1:mQ p l 0 with
 | none=>exact qM l 0 h1 j hj
 | some n=>exact absurd (show ixI p l >= 0 by with_unfolding_all (unfold ixI; rw [h1]; exact Int.natCast_nonneg n)) h
def rW (q:Msg):AV:=if q.kind < 1\/5 < q.kind then mR [107,105,110,100] 12 else if O1 q=false then mR [122,101,114,111] 12 else if opM q=false then mR [111,112] 12 else if K6 q.code=false\/K6 q.status=false\/q.seq < -1 then mR [110,117,109,98,101,114] 1 else if 64 < q.cards.length\/64 < q.keys.length then mR [99,97,114,100,115] 3 else mR [99,97,114,100] 1
@[simp] theorem e0B (n:Nat) (q:Msg):AV.bdd n (rW q)=true:=by
 unfold rW mR
 repeat' split
 all_goals simp [AV.bdd,AV.bdds]
theorem c9c (q:Msg) (hr:R4 q=false):AC 30 [(p9 (Msg.row q))] [] ((AV.iface 166 (rW q)),[]):=by
 unfold rW
 by_cases k1:q.kind < 1
 · rw [if_pos (Or.inl k1)]; exact c3C q k1
 by_cases k2:5 < q.kind
 · rw [if_pos (Or.inr k2)]; exact c3B q ow k2
 rw [if_neg ow]
 have a1:1<=q.kind:=by omega
 have a2:q.kind<=5:=by omega
 by_cases hz:O1 q=false
 · rw [if_pos hz]; exact c9i q a1 a2 hz
 rw [if_neg hz]
 have hz:O1 q=true:=by simpa using hz
 by_cases ho:opM q=false
 · rw [if_pos ho]; exact c9j q a1 a2 hz ho
 rw [if_neg ho]
 have ho:opM q=true:=by simpa using ho
 by_cases hc:K6 q.code=false
 · rw [if_pos (Or.inl hc)]; exact c3y q a1 a2 hz ho hc
 by_cases hs:K6 q.status=false
 · rw [if_pos (Or.inr (Or.inl hs))]; exact c3x q a1 a2 hz ho (by simpa using hc) hs
 by_cases hq:q.seq < -1
 · rw [if_pos (Or.inr (Or.inr hq))]; exact c3w q a1 a2 hz ho (by simpa using hc) (by simpa using hs) hq
 rw [if_neg (by rintro (h | h | h); exact hc h; exact hs h; exact hq h)]
 have hc:K6 q.code=true:=by simpa using hc
 have hs:K6 q.status=true:=by simpa using hs
 by_cases l1:64 < q.cards.length
 · rw [if_pos (Or.inl l1)]; exact c3A q a1 a2 hz ho hc hs ow l1
 by_cases l2:64 < q.keys.length
 · rw [if_pos (Or.inr l2)]; exact c3z q a1 a2 hz ho hc hs ow ow l2
 rw [if_neg ow]
 by_cases g1:ixI (fun c:j4=>!(Q6 c)) q.cards >= 0
 · exact c3E q a1 a2 hz ho hc hs ow ow ow g1
 by_cases g2:ixI (fun k:Key=>!(U2 k)) q.keys >= 0
 · exact c3D q a1 a2 hz ho hc hs ow ow ow g1 g2
 have e1:q.cards.all Q6=true:=List.all_eq_true.2 fun x hx=>by simpa using b4C g1 x hx
 have e2:q.keys.all U2=true:=List.all_eq_true.2 fun x hx=>by simpa using b4C g2 x hx
 have:R4 q=true:=by
  with_unfolding_all unfold R4
  rw [hz,ho,hc,hs,e1,e2,decide_eq_true a1,decide_eq_true a2,decide_eq_true (show -1<=q.seq by omega),decide_eq_true (show q.cards.length<=64 by omega),decide_eq_true (show q.keys.length<=64 by omega)]
  rfl
 rw [this] at hr
 simp at hr
theorem d6H (q:Msg) (hr:R4 q=false) (H:Heap):AC 30 [(p9 (Msg.row q))] H ((AV.iface 166 (rW q)),H):=(c9c q hr).lift kr (by simp [AV.bdd,AV.bdds]) H
attribute [local irreducible] D9 P8 U1 Y7 Z8 gT hdD qA rW
@[simp] abbrev a8K (a:SS):Ob:=(o_ 0 2 [[(iI (r9 32)),(d9 1 a.d.g 10 a.d.l.length)]])
@[simp] abbrev a8J (a:SS):Ob:=(o_ 0 3 [[(iI a.d.gf),(iI a.d.gl),(iI a.d.gt)]])
@[simp] abbrev a8I (a:SS):Ob:=(o_ 0 2 [[(iN (a.d.al.length)),(d9 4 a.d.ga 2 (l7 a.d.al).length)]])
@[simp] abbrev a8H (a:SS):Ob:=(o_ a.d.ga 2 (mK (l7 a.d.al)))
@[simp] abbrev d0G (a:Int) (b:SS):=[[(iI a),(iI b.d.st.t),(iI b.d.st.node),(iI b.d.st.n),(j3 0),(j3 2),(j3 3)]]
@[simp] abbrev c0j (a:Int) (b:SS):Ob:=(o_ 0 7 (d0G a b))
@[simp] abbrev d0F (a:SS):=[[(d9 7 0 1 1),(d9 8 0 1 1),(iI a.lost)]]
@[simp] abbrev a5s (a:SS):Ob:=(o_ 0 3 (d0F a))
@[simp] abbrev a5r (a:SS):Ob:=(o_ 0 1 [[(d9 9 a.qg 9 a.ql.length)]])
@[simp] abbrev b9a (a:SS) (b:Int):=[[(iI a.now),(iI a.swept),(sA 1 [[(iI b)]]),z_,(j3 5),(j3 6)]]
@[simp] abbrev a2y (a:SS) (b:Int):Ob:=(o_ 0 6 (b9a a b))
abbrev b1Q (a:SS) (b:Int) (c:Int):Heap:=[a8K a,(o_ a.d.g 10 (mE a.d.l)),a8J a,a8I a,a8H a,c0j b a,a5s a,(o_ 0 1 (List.map y5 [c])),a5r a,(o_ a.qg 9 (mC a.ql)),(o_ 1 1 []),a2y a c]
structure U4 where
 to:Int
 m:Msg
 deriving Inhabited
def U4.row (x:U4):List AV:=[(iI x.to),(iI x.m.kind),(iI x.m.op),(iI x.m.status),(iI x.m.code),(iI x.m.tag),(iI x.m.n),(iI x.m.seq),(AV.str x.m.key.app),(AV.str x.m.key.id),(bB x.m.full),(AV.int .u32 x.m.sum),(sA 9 (mC x.m.cards)),(sA 2 (mK x.m.keys))]
@[simp] theorem U4.U9 (n:Nat) (x:U4):AV.bdds n x.row=true:=by simp [U4.row,AV.bdds,AV.bdd]
@[simp] theorem U4.z8 (n:Nat) (l:List U4):AV.F3 n (l.map U4.row)=true:=by induction l with | nil=>rfl | cons x l ih=>simp [AV.F3,U4.U9,ih]
attribute [local simp] U4.row
def c2M:Ann:={ refs:=[5],base:=12,fin:=some 12 }
abbrev c0i (a:Int) (b:SS) (c:Msg):Ob:=(o_ 0 2 [[(iI (r9 32)),(d9 1 (hdD a b.d c b.now).s.g 10 (List.length (hdD a b.d c b.now).s.l))]])
abbrev b1P (a:Int) (b:SS) (c:Msg):Ob:=(o_ ((hdD a b.d c b.now).s.g) 10 (mE (hdD a b.d c b.now).s.l))
abbrev b1O (a:Int) (b:SS) (c:Msg):Ob:=(o_ 0 3 [[(iI (hdD a b.d c b.now).s.gf),(iI (hdD a b.d c b.now).s.gl),(iI (hdD a b.d c b.now).s.gt)]])
abbrev d7g (a:Int) (b:SS) (c:Msg):=[[(iN ((List.length (hdD a b.d c b.now).s.al))),(d9 4 (hdD a b.d c b.now).s.ga 2 (l7 (hdD a b.d c b.now).s.al).length)]]
abbrev b1N (a:Int) (b:SS) (c:Msg):Ob:=(o_ 0 2 (d7g a b c))
abbrev b1M (a:Int) (b:SS) (c:Msg):Ob:=(o_ ((hdD a b.d c b.now).s.ga) 2 (mK (l7 (hdD a b.d c b.now).s.al)))
abbrev d7f (a:Int) (b:SS) (c:Msg):=[[(iI a),(iI (hdD a b.d c b.now).s.st.t),(iI (hdD a b.d c b.now).s.st.node),(iI (hdD a b.d c b.now).s.st.n),(j3 0),(j3 2),(j3 3)]]
abbrev b1L (a:Int) (b:SS) (c:Msg):Ob:=(o_ 0 7 (d7f a b c))
abbrev c6g (a:Int) (b:Int) (e:SS) (f:Msg):Ob:=(o_ 0 3 [[(d9 7 0 1 1),(d9 8 0 1 1),(iI (qA a (hdD b e.d f e.now).c e.ql e.qg e.lost).2.2)]])
abbrev c6f (a:Int) (b:Int) (e:SS) (f:Msg):Ob:=(o_ 0 1 [[(d9 9 (qA a (hdD b e.d f e.now).c e.ql e.qg e.lost).2.1 9 (List.length (qA a (hdD b e.d f e.now).c e.ql e.qg e.lost).1))]])
abbrev c6e (a:Int) (b:Int) (e:SS) (f:Msg):Ob:=(o_ ((qA a (hdD b e.d f e.now).c e.ql e.qg e.lost).2.1) 9 (mC (qA a (hdD b e.d f e.now).c e.ql e.qg e.lost).1))
abbrev d7W (a:Int) (b:SS) (c:Msg) (d:Int):Heap:=[c0i a b c,b1P a b c,b1O a b c,b1N a b c,b1M a b c,b1L a b c,c6g d a b c,(o_ 0 1 (List.map y5 [d])),c6f d a b c,c6e d a b c,(o_ 1 1 []),a2y b d]
abbrev d7V (a:Int) (b:SS) (c:Msg) (d:Int):Heap:=[c0i a b c,b1P a b c,b1O a b c,b1N a b c,b1M a b c,b1L a b c,a5s b,(o_ 0 1 (List.map y5 [d])),a5r b,(o_ b.qg 9 (mC b.ql)),(o_ 1 1 []),a2y b d,(o_ 0 13 [[z_,z_,z_,z_,z_,z_,z_,e_,e_,bF,H9,w9,w9]])]
abbrev d7U (a:Int) (b:SS) (c:Msg) (e:Int):Heap:=[c0i a b c,b1P a b c,b1O a b c,b1N a b c,b1M a b c,b1L a b c,c6g e a b c,(o_ 0 1 (List.map y5 [e])),c6f e a b c,c6e e a b c,(o_ 1 1 []),a2y b e,(o_ 0 13 [(Msg.row (hdD a b.d c b.now).m)])]
abbrev e0O (a b:Int) (c:SS) (e:Msg):=(AV.sl .clip 14 [[(iI a),(iI (hdD b c.d e c.now).m.kind),(iI (hdD b c.d e c.now).m.op),(iI (hdD b c.d e c.now).m.status),(iI (hdD b c.d e c.now).m.code),(iI (hdD b c.d e c.now).m.tag),(iI (hdD b c.d e c.now).m.n),(iI (hdD b c.d e c.now).m.seq),(AV.str (hdD b c.d e c.now).m.key.app),(AV.str (hdD b c.d e c.now).m.key.id),(bB (hdD b c.d e c.now).m.full),(AV.int .u32 (hdD b c.d e c.now).m.sum),(sA 9 (mC (hdD b c.d e c.now).m.cards)),(sA 2 (mK (hdD b c.d e c.now).m.keys))]])
theorem b6g (nd p:Int) (s:SS) (f:Int) (q:Msg) (hr:R4 q=true) (hk:q.kind=1) (hl:s.d.l.length < 1000) (ha:s.d.al.length < 100000) (hgt:0<=s.d.gt/\s.d.gt < 4611686018427387904) (hq:s.ql.length<=16) (hc:(hdD nd s.d q s.now).c.length < 100):AC 10 [(j3 11),(iI f),(p9 (Msg.row q))] (b1Q s nd p) ((AV.sl .clip 14 (List.map U4.row [U4.mk f (hdD nd s.d q s.now).m])),(d7W nd s q p)) :=
 x9 (fn:=Tryz.f10) (ann:=c2M) (Has.o Tryz.func10) (.r (.s (.c 1 ((cK q oa).lift kr kr (b1Q s nd p)) (.rn (.s (.y 0 (bB (q.kind == 1)) bT (Yes.b bY) (.ru (.ch 9 (d7V nd s q p) (j5.put2 [0,1,2,3,4,5] [(o_ 0 2 [[(iI (r9 32)),(d9 1 s.d.g 10 s.d.l.length)]]),(o_ s.d.g 10 (mE s.d.l)),(o_ 0 3 [[(iI s.d.gf),(iI s.d.gl),(iI s.d.gt)]]),(o_ 0 2 [[(iN (s.d.al.length)),(d9 4 s.d.ga 2 (l7 s.d.al).length)]]),(o_ s.d.ga 2 (mK (l7 s.d.al))),(o_ 0 7 (d0G nd s)),(o_ 0 3 (d0F s)),(o_ 0 1 (List.map y5 [p])),(o_ 0 1 [[(d9 9 s.qg 9 s.ql.length)]]),(o_ s.qg 9 (mC s.ql)),(o_ 1 1 []),(o_ 0 6 (b9a s p)),(o_ 0 13 [[z_,z_,z_,z_,z_,z_,z_,e_,e_,bF,H9,w9,w9]])] (AV.tup [(p9 (Msg.row (hdD nd s.d q s.now).m)),(sA 9 (mC (hdD nd s.d q s.now).c))]) (d7V nd s q p) (b4F s.d.l s.d.g s.d.al s.d.ga s.d.gf s.d.gl s.d.gt nd s.d.st q s.now hl ha hgt) rlA rlA) (.s (.ch 5 (d7U nd s q p) (j5.pre (args:=[(j3 6),(sA 9 (mC (hdD nd s.d q s.now).c))]) (args':=[(j3 6),(sA 9 (mC (hdD nd s.d q s.now).c))]) (j5.put2 [6,7,8,9] [(o_ 0 2 [[(iI (r9 32)),(d9 1 (hdD nd s.d q s.now).s.g 10 (List.length (hdD nd s.d q s.now).s.l))]]),(o_ ((hdD nd s.d q s.now).s.g) 10 (mE (hdD nd s.d q s.now).s.l)),(o_ 0 3 [[(iI (hdD nd s.d q s.now).s.gf),(iI (hdD nd s.d q s.now).s.gl),(iI (hdD nd s.d q s.now).s.gt)]]),(o_ 0 2 (d7g nd s q)),(o_ ((hdD nd s.d q s.now).s.ga) 2 (mK (l7 (hdD nd s.d q s.now).s.al))),(o_ 0 7 (d7f nd s q)),(o_ 0 3 (d0F s)),(o_ 0 1 (List.map y5 [p])),(o_ 0 1 [[(d9 9 s.qg 9 s.ql.length)]]),(o_ s.qg 9 (mC s.ql)),(o_ 1 1 []),(o_ 0 6 (b9a s p)),(o_ 0 13 [(Msg.row (hdD nd s.d q s.now).m)])] F4 (d7U nd s q p) (b6t (hdD nd s.d q s.now).c p s.lost s.qg s.ql hq hc) rlC rlC) ⟨AV.l5 _,⟨rfl,rfl,.inl rfl⟩,trivial⟩) (.s (.g (.h' (d7W nd s q p) (.q 12 (e0O f nd s q)))))))))))))))
attribute [local irreducible] N9 fZ gB
def c8h:Ann:={ base:=12,fin:=some 12 }
theorem c2g (nd p:Int) (s:SS) :AC 13 [(j3 11)] (b1Q s nd p) ((iI s.now),(b1Q s nd p)) :=
 x9 (fn:=Tryz.f13) (ann:=c8h) (Has.o Tryz.func13) (.r (.g (.qr 12 (iI s.now))))
theorem b6E (p:Int) (cs:l9C) (h:¬ cs.length=0):AC 35 [(iI p),(sA 9 (mC cs))] [] ((AV.sl .clip 14 [(u7.row (u7.mk p (a4I cs)))]),[]):=a4H p cs h
theorem b6D (p:Int) (cs:l9C) (h:cs.length=0):AC 35 [(iI p),(sA 9 (mC cs))] [] (w9,[]):=a4G p cs h
def G7 (nd p:Int) (s:SS) (q:Msg):SS :=
 if R4 q=true then
  if q.kind=1 then ⟨(hdD nd s.d q s.now).s,(qA p (hdD nd s.d q s.now).c s.ql s.qg s.lost).1,(qA p (hdD nd s.d q s.now).c s.ql s.qg s.lost).2.1,(qA p (hdD nd s.d q s.now).c s.ql s.qg s.lost).2.2,s.now,s.swept⟩
  else if q.kind=3 then ⟨⟨(N9 s.now q.cards s.d.l s.d.al).1,fZ s.now q.cards s.d.l s.d.g s.d.al s.d.ga,(N9 s.now q.cards s.d.l s.d.al).2.1,gB s.now q.cards s.d.l s.d.g s.d.al s.d.ga,s.d.gf,s.d.gl,s.d.gt,s.d.st⟩,s.ql,s.qg,s.lost,s.now,s.swept⟩
  else s
 else s
structure d9K (s:SS):Prop where
 l:s.d.l.length<=32
 al:s.d.al.length < 90000
 g0:0<=s.d.gt
 g1:s.d.gt<=1048576
 q:s.ql.length<=16
theorem b0m {q:Msg} (h:R4 q=true):1<=q.kind/\q.kind<=5/\q.cards.length<=64/\q.keys.length<=64:=by
 with_unfolding_all obtain ⟨⟨a1,a2⟩,a3,a4,a5,a6,a7,a8,a9,a10,a11⟩:=a3t h
 exact ⟨by omega,by omega,by omega,by omega⟩
theorem c4m (nd:Int) (s:DS) (q:Msg) (now:Int) (hs:bP s.l) (hl:s.l.length<=32) (h0:0<=s.gt) (h1:s.gt<=1048576):(hdD nd s q now).c.length<=1:=by
 rcases d6N (n:=s.al.length) ⟨hs,hl,Nat.le_refl _,h0,h1⟩ nd q now with ⟨h,_⟩ | ⟨c,h,_⟩ <;> rw [h] <;> simp
attribute [local irreducible] E8 G7 M7 l8
def P6 (s:SS):SS:=⟨stT s.now s.d,M7 s.ql,s.qg,s.lost,s.now+1,s.swept⟩
def gJ (p:Int) (s:SS):List u7:=(if (Int.tmod (s.now+1) 15 == 0)=true then [u7.mk p (xJ (P8 (List.map Entry.card s.d.l)))] else [])++D9 p (E8 s.ql)
theorem a3f (p:Int) (s:SS):(gJ p s).length<=2:=by
 unfold gJ
 rw [List.length_append]
 have h1:=Z4 p (E8 s.ql)
 have h2:(if (Int.tmod (s.now+1) 15 == 0)=true then [u7.mk p (xJ (P8 (List.map Entry.card s.d.l)))] else []).length<=1:=by split <;> simp
 omega
theorem b2N (nd p:Int) (s:SS) (hn:0<=s.now) (hn2:s.now < 19) (hq:s.ql.length<=16) (hl:s.d.l.length<=32):AC 37 [(j3 11)] [(o_ 0 2 [[(iI (r9 32)),(d9 1 s.d.g 10 s.d.l.length)]]),(o_ s.d.g 10 (mE s.d.l)),(o_ 0 3 [[(iI s.d.gf),(iI s.d.gl),(iI s.d.gt)]]),(o_ 0 2 [[(iN (s.d.al.length)),(d9 4 s.d.ga 2 (l7 s.d.al).length)]]),(o_ s.d.ga 2 (mK (l7 s.d.al))),(o_ 0 7 [[(iI nd),(iI s.d.st.t),(iI s.d.st.node),(iI s.d.st.n),(j3 0),(j3 2),(j3 3)]]),(o_ 0 3 [[(d9 7 0 1 1),(d9 8 0 1 1),(iI s.lost)]]),(o_ 0 1 (List.map y5 [p])),(o_ 0 1 [[(d9 9 s.qg 9 s.ql.length)]]),(o_ s.qg 9 (mC s.ql)),(o_ 1 1 []),(o_ 0 6 [[(iI s.now),(iI s.swept),(sA 1 [[(iI p)]]),z_,(j3 5),(j3 6)]])] ((sA 14 (List.map u7.row (gJ p s))),[(o_ 0 2 [[(iI (r9 32)),(d9 1 (P6 s).d.g 10 (List.length (P6 s).d.l))]]),(o_ ((P6 s).d.g) 10 (mE (P6 s).d.l)),(o_ 0 3 [[(iI (P6 s).d.gf),(iI (P6 s).d.gl),(iI (P6 s).d.gt)]]),(o_ 0 2 [[(iN ((List.length (P6 s).d.al))),(d9 4 (P6 s).d.ga 2 (l7 (P6 s).d.al).length)]]),(o_ ((P6 s).d.ga) 2 (mK (l7 (P6 s).d.al))),(o_ 0 7 [[(iI nd),(iI (P6 s).d.st.t),(iI (P6 s).d.st.node),(iI (P6 s).d.st.n),(j3 0),(j3 2),(j3 3)]]),(o_ 0 3 [[(d9 7 0 1 1),(d9 8 0 1 1),(iI (P6 s).lost)]]),(o_ 0 1 (List.map y5 [p])),(o_ 0 1 [[(d9 9 (P6 s).qg 9 (List.length (P6 s).ql))]]),(o_ ((P6 s).qg) 9 (mC (P6 s).ql)),(o_ 1 1 []),(o_ 0 6 [[(iI (P6 s).now),(iI (P6 s).swept),(sA 1 [[(iI p)]]),z_,(j3 5),(j3 6)]])]):=by
 have _:0+0=0:=by rw [Nat.add_zero]
 obtain ⟨⟨l,g,al,ga,gf,gl,gt,st⟩,ql,qg,lost,now,swept⟩:=s
 simp only at hn hn2 hq hl
 have h1:(Int.tmod (now+1) 20 == 0)=false:=beq_eq_false_iff_ne.2 (fun e=>by have h:=Int.tmod_eq_of_lt (show 0<=now+1 by omega) (show now+1 < 20 by omega); omega)
 have hn3:now < 1099511627776:=by omega
 unfold gJ P6
 simp only
 cases h2:(Int.tmod (now+1) 15 == 0) <;> simp only [if_true,Bool.false_eq_true,if_false]
 · exact b2L l g al ga gf gl gt nd st p lost qg ql now swept 0 hn hn3 hq h1 h2
 · exact b2K l g al ga gf gl gt nd st p lost qg ql now swept 0 hn hn3 hq hl h1 h2
attribute [local irreducible] gJ P6
theorem uL (s:SS):(P6 s).now=s.now+1:=by with_unfolding_all rfl
theorem c1W (s:SS):(P6 s).d.l=s.d.l:=by with_unfolding_all rfl
theorem a9u (s:SS):(P6 s).ql.length<=s.ql.length:=by with_unfolding_all exact uR s.ql
def a2c:Ann:={ own:=[14],gh:=[(6,.frz 5)],gha:=[(1,.vir 5 14)],base:=12,fin:=some 12,live:=[(3,[0,5,8,9])],out:=[(3,[5])] }
@[simp] abbrev d2P (a:SS):Ob:=(o_ 0 2 [[(iI (r9 32)),(d9 1 (P6 a).d.g 10 (List.length (P6 a).d.l))]])
@[simp] abbrev c5Y (a:SS):Ob:=(o_ ((P6 a).d.g) 10 (mE (P6 a).d.l))
@[simp] abbrev c5X (a:SS):Ob:=(o_ 0 3 [[(iI (P6 a).d.gf),(iI (P6 a).d.gl),(iI (P6 a).d.gt)]])
@[simp] abbrev c5W (a:SS):Ob:=(o_ 0 2 [[(iN ((List.length (P6 a).d.al))),(d9 4 (P6 a).d.ga 2 (l7 (P6 a).d.al).length)]])
@[simp] abbrev c5V (a:SS):Ob:=(o_ ((P6 a).d.ga) 2 (mK (l7 (P6 a).d.al)))
@[simp] abbrev c5U (a:Int) (b:SS):Ob:=(o_ 0 7 [[(iI a),(iI (P6 b).d.st.t),(iI (P6 b).d.st.node),(iI (P6 b).d.st.n),(j3 0),(j3 2),(j3 3)]])
@[simp] abbrev c5T (a:SS):Ob:=(o_ 0 3 [[(d9 7 0 1 1),(d9 8 0 1 1),(iI (P6 a).lost)]])
@[simp] abbrev c5S (a:SS):Ob:=(o_ 0 1 [[(d9 9 (P6 a).qg 9 (List.length (P6 a).ql))]])
@[simp] abbrev c5R (a:SS):Ob:=(o_ ((P6 a).qg) 9 (mC (P6 a).ql))
@[simp] abbrev c5Q (a:SS) (b:Int):Ob:=(o_ 0 6 [[(iI (P6 a).now),(iI (P6 a).swept),(sA 1 [[(iI b)]]),z_,(j3 5),(j3 6)]])
@[simp] abbrev d7N (a:SS) (b:Int) (c:Int) (d:Nat) (e:List u7):Heap:=[d2P a,c5Y a,c5X a,c5W a,c5V a,c5U b a,c5T a,(o_ 0 1 (List.map y5 [c])),c5S a,c5R a,(o_ 1 1 []),c5Q a c,(o_ (d+1) 14 ((e++(gJ c a)).map u7.row))]
@[simp] abbrev b9S (a:SS) (b:Int) (c:Int) (e:Nat) (f:List u7):Heap:=[a8K a,(o_ a.d.g 10 (mE a.d.l)),a8J a,a8I a,a8H a,c0j b a,a5s a,(o_ 0 1 (List.map y5 [c])),a5r a,(o_ a.qg 9 (mC a.ql)),(o_ 1 1 []),a2y a c,(o_ e 14 (f.map u7.row))]
@[simp] abbrev d7M (a:SS) (b:Int) (c:Int) (d:Nat) (e:List u7):Heap:=[d2P a,c5Y a,c5X a,c5W a,c5V a,c5U b a,c5T a,(o_ 0 1 (List.map y5 [c])),c5S a,c5R a,(o_ 1 1 []),c5Q a c,(o_ d 14 (e.map u7.row))]
theorem a9p (nd:Int) (p:Int) (m:Nat) (b0:Int) (s:SS) (out:List u7) (k:Nat) (g:Nat) (i:Nat) (hm:m<=19) (hmx:(max 0 (min m 1024))=m) (hb:0<=b0) (hb0:b0+(m:Int)<=19) (hn:s.now=b0+(i:Int)) (hq:s.ql.length<=16) (hl:s.d.l.length<=32) (hk:k=out.length) (hki:k<=2 * i) (hle_:i<=(max 0 (min m 1024))) {eX:Ex} {FX:Fr} {HX:Heap} (k1:(l9 i (max 0 (min m 1024)))=true->l6 (C8 a2c Tryz.f11 0) (some [0,5,8,9]) (some [5]) (mkF 17 [(0,(j3 11)),(5,(d9 12 (g+1) 14 (k+(gJ p s).length))),(8,(iN ((max 0 (min m 1024))))),(9,(iN (i+1)))]) (d7N s nd p g out) eX FX HX) (k2:(l9 i (max 0 (min m 1024)))=false->((.exit 0:Ex),(mkF 17 [(5,(d9 12 g 14 k))]),(b9S s nd p g out))=(eX,FX,HX)):l6 (C8 a2c Tryz.f11 0) (some [0,5,8,9]) (some [5]) (mkF 17 [(0,(j3 11)),(5,(d9 12 g 14 k)),(8,(iN ((max 0 (min m 1024))))),(9,(iN i))]) (b9S s nd p g out) eX FX HX:=by
 have hsl:=a3f p s
 exact J7 (.r (.g (.two (l9 i (max 0 (min m 1024))) (fun h1 h1'=>(.r (.ch 2 (d7M s nd p g out) (j5.put2 [0,1,2,3,4,5,6,7,8,9,10,11] (b9S s nd p g out) (sA 14 ((gJ p s).map u7.row)) (d7M s nd p g out) (b2N nd p s oa oa oa oa) rlB rlB) (.ao 3 36 (d9 12 g 14 k) (sA 14 ((gJ p s).map u7.row)) (d9 12 (g+1) 14 (k+(gJ p s).length)) (d7N s nd p g out) (I8 (T:=tt) (e:=56) (te:=iQ) (z:=1) (b:=24) (y:=[.sl .nil 0 []]) (row:=u7.row) (l:=out) kr kr rfl D8 D8 kr Y3 om rfl rfl iP) (.s (.y 0 (iW ((i:Int)+1)) (iN (i+1)) Yes.o (.g (.l (k1 h1))))))))) (fun h1 h1'=>(.l (k2 h1))))))
def yZ (nd:Int) (p:Int) (m:Nat) (b0:Int) (i:Nat) (s:SS × (List u7) × Nat × Nat):SS × (List u7) × Nat × Nat:=(P6 s.1,s.2.1++(gJ p s.1),(s.2.2.1+(gJ p s.1).length),(s.2.2.2+1))
theorem a9h {p:Prop} (h:p:=by have hsl:=a3f p s; have q1:=uL s; have q2:=a9u s; have q3:=c1W s; (try rw [q3]); first | omega | assumption | (simp; done) | (simp; omega) | (simp [*]; done) | (simp [*]; omega)):p:=h
theorem c7T (nd:Int) (p:Int) (m:Nat) (b0:Int) (hm:m<=19) (hmx:(max 0 (min m 1024))=m) (hb:0<=b0) (hb0:b0+(m:Int)<=19)  (r_:Nat):∀ (s:SS) (out:List u7) (k:Nat) (g:Nat) (i:Nat) (sF:SS × (List u7) × Nat × Nat),i+r_=(max 0 (min m 1024))->s.now=b0+(i:Int)->s.ql.length<=16->s.d.l.length<=32->k=out.length->k<=2 * i->sF=iter (yZ nd p m b0) r_ i (s,out,k,g) ->
 l6 (C8 a2c Tryz.f11 0) (some [0,5,8,9]) (some [5]) (mkF 17 [(0,(j3 11)),(5,(d9 12 g 14 k)),(8,(iN ((max 0 (min m 1024))))),(9,(iN i))]) (b9S s nd p g out) (.exit 0) (mkF 17 [(5,(d9 12 sF.2.2.2 14 sF.2.2.1))]) [(o_ 0 2 [[(iI (r9 32)),(d9 1 sF.1.d.g 10 sF.1.d.l.length)]]),(o_ sF.1.d.g 10 (mE sF.1.d.l)),(o_ 0 3 [[(iI sF.1.d.gf),(iI sF.1.d.gl),(iI sF.1.d.gt)]]),(o_ 0 2 [[(iN (sF.1.d.al.length)),(d9 4 sF.1.d.ga 2 (l7 sF.1.d.al).length)]]),(o_ sF.1.d.ga 2 (mK (l7 sF.1.d.al))),(o_ 0 7 [[(iI nd),(iI sF.1.d.st.t),(iI sF.1.d.st.node),(iI sF.1.d.st.n),(j3 0),(j3 2),(j3 3)]]),(o_ 0 3 [[(d9 7 0 1 1),(d9 8 0 1 1),(iI sF.1.lost)]]),(o_ 0 1 (List.map y5 [p])),(o_ 0 1 [[(d9 9 sF.1.qg 9 sF.1.ql.length)]]),(o_ sF.1.qg 9 (mC sF.1.ql)),(o_ 1 1 []),(o_ 0 6 [[(iI sF.1.now),(iI sF.1.swept),(sA 1 [[(iI p)]]),z_,(j3 5),(j3 6)]]),(o_ sF.2.2.2 14 (List.map u7.row sF.2.1))]:=by
 induction r_ with
 | zero =>
  intro s out k g i sF hi_ hn hq hl hk hki  hF
  obtain rfl:(max 0 (min m 1024))=i:=by omega
  have e_:sF=(s,out,k,g):=hF
  refine a9p nd p m b0 s out k g (max 0 (min m 1024)) hm hmx hb hb0 hn hq hl hk hki J8 (fun h=>by simp at h <;> omega) (fun _=>?_)
  first | done | rfl | (rw [e_]; done) | (rw [e_]; rfl)
 | succ r_ ih =>
  intro s out k g i sF hi_ hn hq hl hk hki  hF
  refine a9p nd p m b0 s out k g i hm hmx hb hb0 hn hq hl hk hki ow (fun h1=>?_) (fun h=>by simp at h <;> omega)
  · exact ih (P6 s) (out++(gJ p s)) (k+(gJ p s).length) (g+1) (i+1) sF ow a9h a9h a9h a9h a9h  (by rw [hF] <;> simp only [iter,yZ,if_true,Bool.false_eq_true,if_false])
def tkM (nd p:Int) (m:Nat) (b0:Int) (s:SS):SS × List u7 × Nat × Nat:=iter (yZ nd p m b0) m 0 (s,[],0,0)
theorem d5C (nd p:Int) (m:Nat) (b0:Int) (s:SS) (hn:s.now=b0) (hq:s.ql.length<=16) (hl:s.d.l.length<=32):(tkM nd p m b0 s).2.2.1=(tkM nd p m b0 s).2.1.length/\(tkM nd p m b0 s).2.2.1<=2 * m:=by
 have h:=oD (yZ nd p m b0) (fun i t=>t.2.2.1=t.2.1.length/\t.2.2.1<=2 * i) m (fun i t _ ht=>by
  have hs:=a3f p t.1
  refine ⟨?_,?_⟩
  · show t.2.2.1+(gJ p t.1).length=(t.2.1++gJ p t.1).length
    rw [List.length_append,ht.1]
  · show t.2.2.1+(gJ p t.1).length<=2 * (i+1)
    have:=ht.2
    omega) m 0 (s,[],0,0) ow ⟨rfl,Nat.le_refl _⟩
 simp only [Nat.zero_add] at h
 exact h
attribute [local irreducible] tkM
abbrev e0X (a:SS) (b:Int) (c:Int):Heap:=[a8K a,(o_ a.d.g 10 (mE a.d.l)),a8J a,a8I a,a8H a,c0j b a,a5s a,(o_ 0 1 (List.map y5 [c])),a5r a,(o_ a.qg 9 (mC a.ql)),(o_ 1 1 []),a2y a c,(o_ 0 14 (List.map u7.row []))]
theorem a2L (nd p:Int) (m:Nat) (b0:Int) (s:SS) (hm:m<=19) (hmx:(max 0 (min m 1024))=m) (hb:0<=b0) (hb0:b0+(m:Int)<=19) (hn:s.now=b0) (hq:s.ql.length<=16) (hl:s.d.l.length<=32):AC 11 [(j3 11),(iN m)] (b1Q s nd p) ((sA 14 (List.map u7.row (tkM nd p m b0 s).2.1)),[(o_ 0 2 [[(iI (r9 32)),(d9 1 (tkM nd p m b0 s).1.d.g 10 (List.length (tkM nd p m b0 s).1.d.l))]]),(o_ ((tkM nd p m b0 s).1.d.g) 10 (mE (tkM nd p m b0 s).1.d.l)),(o_ 0 3 [[(iI (tkM nd p m b0 s).1.d.gf),(iI (tkM nd p m b0 s).1.d.gl),(iI (tkM nd p m b0 s).1.d.gt)]]),(o_ 0 2 [[(iN ((List.length (tkM nd p m b0 s).1.d.al))),(d9 4 (tkM nd p m b0 s).1.d.ga 2 (l7 (tkM nd p m b0 s).1.d.al).length)]]),(o_ ((tkM nd p m b0 s).1.d.ga) 2 (mK (l7 (tkM nd p m b0 s).1.d.al))),(o_ 0 7 [[(iI nd),(iI (tkM nd p m b0 s).1.d.st.t),(iI (tkM nd p m b0 s).1.d.st.node),(iI (tkM nd p m b0 s).1.d.st.n),(j3 0),(j3 2),(j3 3)]]),(o_ 0 3 [[(d9 7 0 1 1),(d9 8 0 1 1),(iI (tkM nd p m b0 s).1.lost)]]),(o_ 0 1 (List.map y5 [p])),(o_ 0 1 [[(d9 9 (tkM nd p m b0 s).1.qg 9 (List.length (tkM nd p m b0 s).1.ql))]]),(o_ ((tkM nd p m b0 s).1.qg) 9 (mC (tkM nd p m b0 s).1.ql)),(o_ 1 1 []),(o_ 0 6 [[(iI (tkM nd p m b0 s).1.now),(iI (tkM nd p m b0 s).1.swept),(sA 1 [[(iI p)]]),z_,(j3 5),(j3 6)]])]):=by
 have ht:=d5C nd p m b0 s hn hq hl
 have ht1:=ht.1
 have ht2:=ht.2
 exact x9 (fn:=Tryz.f11) (ann:=a2c) (Has.o Tryz.func11) (.r (.s (.s (.h' (e0X s nd p) (.y 1 (.int .i64 (if 1024 < (m:Int) then 1024 else (m:Int))) (iN (min m 1024)) (Yes.int yv_) (.y 2 (.int .i64 (if ((min m 1024:Nat):Int) > 0 then ((min m 1024:Nat):Int) else 0)) (iN (max 0 (min m 1024))) (Yes.int yv_) (.g (.loop (mkF 17 [(5,(d9 12 (tkM nd p m b0 s).2.2.2 14 (tkM nd p m b0 s).2.2.1))]) (c7T nd p m b0 hm hmx hb hb0 m s [] 0 0 0 (tkM nd p m b0 s) ow (by rw [hn]; simp) hq hl rfl ow wM) (.r (.w 5 (List.map u7.row (tkM nd p m b0 s).2.1) (And.intro (G5 (room:=none) kr om) (u7.z8 _ _):I5 [(o_ 0 2 [[(iI (r9 32)),(d9 1 (tkM nd p m b0 s).1.d.g 10 (List.length (tkM nd p m b0 s).1.d.l))]]),(o_ ((tkM nd p m b0 s).1.d.g) 10 (mE (tkM nd p m b0 s).1.d.l)),(o_ 0 3 [[(iI (tkM nd p m b0 s).1.d.gf),(iI (tkM nd p m b0 s).1.d.gl),(iI (tkM nd p m b0 s).1.d.gt)]]),(o_ 0 2 [[(iN ((List.length (tkM nd p m b0 s).1.d.al))),(d9 4 (tkM nd p m b0 s).1.d.ga 2 (l7 (tkM nd p m b0 s).1.d.al).length)]]),(o_ ((tkM nd p m b0 s).1.d.ga) 2 (mK (l7 (tkM nd p m b0 s).1.d.al))),(o_ 0 7 [[(iI nd),(iI (tkM nd p m b0 s).1.d.st.t),(iI (tkM nd p m b0 s).1.d.st.node),(iI (tkM nd p m b0 s).1.d.st.n),(j3 0),(j3 2),(j3 3)]]),(o_ 0 3 [[(d9 7 0 1 1),(d9 8 0 1 1),(iI (tkM nd p m b0 s).1.lost)]]),(o_ 0 1 (List.map y5 [p])),(o_ 0 1 [[(d9 9 (tkM nd p m b0 s).1.qg 9 (List.length (tkM nd p m b0 s).1.ql))]]),(o_ ((tkM nd p m b0 s).1.qg) 9 (mC (tkM nd p m b0 s).1.ql)),(o_ 1 1 []),(o_ 0 6 [[(iI (tkM nd p m b0 s).1.now),(iI (tkM nd p m b0 s).1.swept),(sA 1 [[(iI p)]]),z_,(j3 5),(j3 6)]]),(o_ ((tkM nd p m b0 s).2.2.2) 14 (List.map u7.row (tkM nd p m b0 s).2.1))] 14 (d9 12 (tkM nd p m b0 s).2.2.2 14 (tkM nd p m b0 s).2.2.1)=some (List.map u7.row (tkM nd p m b0 s).2.1)/\AV.F3 0 (List.map u7.row (tkM nd p m b0 s).2.1)=true) (.g (.h' [(o_ 0 2 [[(iI (r9 32)),(d9 1 (tkM nd p m b0 s).1.d.g 10 (List.length (tkM nd p m b0 s).1.d.l))]]),(o_ ((tkM nd p m b0 s).1.d.g) 10 (mE (tkM nd p m b0 s).1.d.l)),(o_ 0 3 [[(iI (tkM nd p m b0 s).1.d.gf),(iI (tkM nd p m b0 s).1.d.gl),(iI (tkM nd p m b0 s).1.d.gt)]]),(o_ 0 2 [[(iN ((List.length (tkM nd p m b0 s).1.d.al))),(d9 4 (tkM nd p m b0 s).1.d.ga 2 (l7 (tkM nd p m b0 s).1.d.al).length)]]),(o_ ((tkM nd p m b0 s).1.d.ga) 2 (mK (l7 (tkM nd p m b0 s).1.d.al))),(o_ 0 7 [[(iI nd),(iI (tkM nd p m b0 s).1.d.st.t),(iI (tkM nd p m b0 s).1.d.st.node),(iI (tkM nd p m b0 s).1.d.st.n),(j3 0),(j3 2),(j3 3)]]),(o_ 0 3 [[(d9 7 0 1 1),(d9 8 0 1 1),(iI (tkM nd p m b0 s).1.lost)]]),(o_ 0 1 (List.map y5 [p])),(o_ 0 1 [[(d9 9 (tkM nd p m b0 s).1.qg 9 (List.length (tkM nd p m b0 s).1.ql))]]),(o_ ((tkM nd p m b0 s).1.qg) 9 (mC (tkM nd p m b0 s).1.ql)),(o_ 1 1 []),(o_ 0 6 [[(iI (tkM nd p m b0 s).1.now),(iI (tkM nd p m b0 s).1.swept),(sA 1 [[(iI p)]]),z_,(j3 5),(j3 6)]])] (.q 12 (sA 14 (List.map u7.row (tkM nd p m b0 s).2.1)))))))))))))))
end Go.Proofs.YtmghjcbabebanaaGreat.AM
