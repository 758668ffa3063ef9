/-
  Texts of this claim, part 5 of 8: an abstract machine over the model; what functions come to; plain laws.
-/
import Derived.Test.YtfjedpipdnlkfaaGreatMZ44
set_option linter.unusedSectionVars false
set_option maxRecDepth 100000
set_option linter.unusedVariables false
set_option linter.unusedSimpArgs false
namespace Go.Proofs.YtfjedpipdnlkfaaGreat.AM
open Go Go.Proofs.YtfjedpipdnlkfaaGreat
attribute [local irreducible] A8 E8 G6 I6 I9 J4 L9 Q9 S9 Tp.G5 Tp.card Tp.key Tp.keyT Tp.next Tp.step U8 V8 Y7 cmpL j6 l6 l9 sink w9 x9 y5 y9
theorem eD {n h:Nat} (hn:n < 4611686018427387904) (hh:h=n / 2):IntKind.i64.wrap (Int.fdiv (IntKind.u64.wrap (n:Int)) (2 ^ (min (Int.toNat 1) 64)))=(h:Int):=by
 have h1:IntKind.u64.wrap (n:Int)=(n:Int):=by simp [IntKind.wrap,IntKind.signed,IntKind.bits]; omega
 have h2:(2:Int) ^ (min (Int.toNat 1) 64)=2:=rfl
 rw [h1,h2,Int.fdiv_eq_ediv_of_nonneg _ ow,IntKind.wrap_i64]
 omega
section
variable {α:Type} [Inhabited α]
def ltF (cmp:α->α->Int) (x y:α):Bool:=decide (cmp x y < 0)
def mAt (lt:α->α->Bool) (a m b:Nat) (l:List α):List α:=l.take a++(mg lt ((l.drop a).take (m - a)) ((l.drop m).take (b - m))++l.drop b)
def shU (r k:Nat) (l:List α):List α:=iter (fun k l=>(l.set k (nth l (k+1))).set (k+1) (nth l k)) r k l
def shD:Nat->Nat->List α->List α
 | 0,_,l=>l
 | r+1,k,l=>shD r (k - 1) ((l.set k (nth l (k - 1))).set (k - 1) (nth l k))
end
def zO:Ann:={ base:=1,fin:=some 1,live:=[(1,[0,1,2,3,10])],out:=[(1,[0,1,2,3,10])] }
@[simp] abbrev d1t (a:Nat) (b:l9E) (c:Nat) (d:Nat) (e:Nat):Heap:=[(o_ a 10 (mE ((b.set (c+d) (nth b (e+d))).set (e+d) (nth b (c+d)))))]
@[simp] abbrev c5W (a:Nat) (b:Nat) (c:Nat) (d:Nat) (e:Nat) (f:Nat):Fr:=(mkF 38 [(0,(AV.osl 0 a 10 0 b)),(1,(iN c)),(2,(iN d)),(3,(iN e)),(10,(iN f))])
@[simp] abbrev gP (a b:Nat):=(IntKind.i64.wrap ((a:Int)+(b:Int)))
@[simp] abbrev a3B (a:l9E) (b c:Nat):=(AV.agg (Entry.row (nth a (b+c))))
theorem a7t (a:Nat) (b:Nat) (k:Nat) (n:Nat) (g:Nat) (l:l9E) (i:Nat) (hab:a+k<=b) (hb:b+k<=n) (hnb:n < 1048576) (hn:n=l.length) (hle_:i<=k) {eX:Ex} {FX:Fr} {HX:Heap} (k1:(decide ((i:Int) < (k:Int)))=true->j6 (l9 Tryz.prog (X zO) (p9 Tryz.f239 0)) (some [0,1,2,3,10]) (some [0,1,2,3,10]) (mkF 38 [(0,(AV.osl 0 g 10 0 n)),(1,(iN a)),(2,(iN b)),(3,(iN k)),(10,(iN (i+1)))]) (d1t g l a i b) eX FX HX) (k2:(decide ((i:Int) < (k:Int)))=false->((.exit 0:Ex),(c5W g n a b k i),[(o_ g 10 (mE l))])=(eX,FX,HX)):j6 (l9 Tryz.prog (X zO) (p9 Tryz.f239 0)) (some [0,1,2,3,10]) (some [0,1,2,3,10]) (c5W g n a b k i) [(o_ g 10 (mE l))] eX FX HX :=
 F7 (.r (.g (.two (decide ((i:Int) < (k:Int))) (fun h1 h1'=>(.r (.y 3 (.int .i64 (gP a i)) (iN (a+i)) Yes.o (.y 7 (.int .i64 (gP b i)) (iN (b+i)) Yes.o (.y 11 (.int .i64 (gP b i)) (iN (b+i)) Yes.o (.io 12 0 g 10 10 0 n ((b+i:Nat):Int) (b+i) (E9.mk _ ow ow) (.t 13 (a3B l b i) [(o_ g 10 (mE l))] (G9 (C8 (row:=Entry.row) (l:=l) (k:=10) (room:=none) kr om) kr:K3 tt 45 0 [(o_ g 10 (mE l))] (rowAt [(o_ g 10 (mE l))] 0 g (b+i))=some ((a3B l b i),([(o_ g 10 (mE l))]:Heap))) (.y 17 (.int .i64 (gP a i)) (iN (a+i)) Yes.o (.io 18 0 g 10 10 0 n ((a+i:Nat):Int) (a+i) (E9.mk _ ow ow) (.t 19 (a3B l a i) [(o_ g 10 (mE l))] (G9 (C8 (row:=Entry.row) (l:=l) (k:=10) (room:=none) kr om) kr:K3 tt 45 0 [(o_ g 10 (mE l))] (rowAt [(o_ g 10 (mE l))] 0 g (a+i))=some ((a3B l a i),([(o_ g 10 (mE l))]:Heap))) (.io 20 0 g 10 10 0 n ((a+i:Nat):Int) (a+i) (E9.mk _ ow ow) (.st 21 0 g (a+i) 10 0 (a3B l b i) [(o_ g 10 (mE (l.set (a+i) (nth l (b+i)))))] (Q5 (us:=(Entry.row (nth l (b+i)))) (C8 (row:=Entry.row) (l:=l) (k:=10) (room:=none) kr om) kr rZ rY) (.io 22 0 g 10 10 0 n ((b+i:Nat):Int) (b+i) (E9.mk _ ow ow) (.st 23 0 g (b+i) 10 0 (a3B l a i) (d1t g l a i b) (Q5 (us:=(Entry.row (nth l (a+i)))) (C8 (row:=Entry.row) (l:=l.set (a+i) (nth l (b+i))) (k:=10) (room:=none) kr om) kr rZ rY) (.s (.y 1 (.int .i64 (cb_ i)) (iN (i+1)) Yes.o (.g (.l (k1 h1))))))))))))))))))) (fun h1 h1'=>(.l (k2 h1))))))
def c6g (a:Nat) (b:Nat) (k:Nat) (n:Nat) (g:Nat) (i:Nat) (s:(List Entry)):(List Entry):=((s.set (a+i) (nth s (b+i))).set (b+i) (nth s (a+i)))
@[simp] abbrev d1s (a:Nat) (b:Nat) (c:Nat) (d:Nat) (e:Nat):Fr:=(mkF 38 [(0,(AV.osl 0 a 10 0 b)),(1,(iN c)),(2,(iN d)),(3,(iN e)),(10,(iN e))])
theorem c3i (a:Nat) (b:Nat) (k:Nat) (n:Nat) (g:Nat) (hab:a+k<=b) (hb:b+k<=n) (hnb:n < 1048576)  (r_:Nat):∀ (l:l9E) (i:Nat) (sF:(l9E)),i+r_=k->n=l.length->sF=iter (c6g a b k n g) r_ i (l) ->
 j6 (l9 Tryz.prog (X zO) (p9 Tryz.f239 0)) (some [0,1,2,3,10]) (some [0,1,2,3,10]) (c5W g n a b k i) [(o_ g 10 (mE l))] (.exit 0) (d1s g n a b k) [(o_ g 10 (mE sF))]:=by
 induction r_ with
 | zero =>
  intro l i sF hi_ hn  hF
  obtain rfl:k=i:=by omega
  have e_:sF=(l):=hF
  refine a7t a b k n g l k hab hb hnb hn (Nat.le_refl _) (fun h=>by simp at h <;> omega) (fun _=>?_)
  first | done | rfl | (rw [e_]; done) | (rw [e_]; rfl)
 | succ r_ ih =>
  intro l i sF hi_ hn  hF
  refine a7t a b k n g l i hab hb hnb hn ow (fun h1=>?_) (fun h=>by simp at h <;> omega)
  · exact ih ((l.set (a+i) (nth l (b+i))).set (b+i) (nth l (a+i))) (i+1) sF ow N9  (by rw [hF] <;> simp only [iter,c6g,if_true,Bool.false_eq_true,if_false])
theorem c3h (f:Nat) (xs:List AV) (a b k n g:Nat) (l:l9E) (hxs:AV.bdds 1 xs=true) (hn:n=l.length) (hnb:n < 1048576) (hab:a+k<=b) (hb:b+k<=n):AC 239 [(AV.osl 0 g 10 0 n),(iN a),(iN b),(iN k),(AV.func f xs)] [(o_ g 10 (mE l))] ((AV.tup []),[(o_ g 10 (mE (R5 a b k l)))]) :=
 o9 (fn:=Tryz.f239) (ann:=zO) (Has.o Tryz.func239) (.r (.g (.loop (d1s g n a b k) (c3i a b k n g hab hb hnb k l 0 (R5 a b k l) ow hn rfl) (.q 1 (AV.tup [])))))
theorem a7u (f:Nat) (xs:List AV) (a b k n g:Nat) (l:l9E) (hxs:AV.bdds 1 xs=true) (hn:n=l.length) (hnb:n < 1048576) (hab:a+k<=b) (hb:b+k<=n) (H:Heap):AC 239 [(AV.osl 0 g 10 0 n),(iN a),(iN b),(iN k),(AV.func f xs)] (([(o_ g 10 (mE l))]:Heap)++H) ((AV.tup []),([(o_ g 10 (mE (R5 a b k l)))]:Heap)++H):=(c3h f xs a b k n g l hxs hn hnb hab hb).ext nP kr ob ob kr H
def a3h:Ann:={ base:=1,fin:=some 1,live:=[(2,[0,2,4,10,11])],out:=[(2,[0,2,4,10,11])] }
@[simp] abbrev d1r (a:Nat) (b:Nat) (c:Nat) (d:Nat) (e:l9E):Heap:=[(o_ a 10 (mE (R5 (b - c) (b+d - c) c e)))]
@[simp] abbrev d1q (a:Nat) (b:Nat) (c:Nat) (d:Nat) (e:List AV) (f:Nat) (g:Nat):Fr:=(mkF 58 [(0,(AV.osl 0 a 10 0 b)),(2,(iN c)),(4,(AV.func d e)),(10,(iN f)),(11,(iN g))])
theorem Z4 {p:Prop} (h:p:=by first | exact hxs | omega):p:=h
@[simp] abbrev c4R :=(l9 Tryz.prog (X a3h) (p9 Tryz.f229 0))
@[simp] abbrev oG (a b:Nat):=(IntKind.i64.wrap ((a:Int) - (b:Int)))
theorem c3j (f:Nat) (xs:List AV) (p n g:Nat) (i j:Nat) (l:l9E) (hxs:AV.bdds 1 xs=true) (hn:n=l.length) (hnb:n < 1048576) (hi:0 < i) (hj:0 < j) (hip:i<=p) (hjp:p+j<=n) {eX:Ex} {FX:Fr} {HX:Heap} (k1:((i:Int) != (j:Int))=true->(decide ((i:Int) > (j:Int)))=true->j6 c4R (some [0,2,4,10,11]) (some [0,2,4,10,11]) (mkF 58 [(0,(AV.osl 0 g 10 0 n)),(2,(iN p)),(4,(AV.func f xs)),(10,(iN (i - j))),(11,(iN j))]) [(o_ g 10 (mE (R5 (p - i) p j l)))] eX FX HX) (k2:((i:Int) != (j:Int))=true->(decide ((i:Int) > (j:Int)))=false->j6 c4R (some [0,2,4,10,11]) (some [0,2,4,10,11]) (mkF 58 [(0,(AV.osl 0 g 10 0 n)),(2,(iN p)),(4,(AV.func f xs)),(10,(iN i)),(11,(iN (j - i)))]) (d1r g p i j l) eX FX HX) (k3:((i:Int) != (j:Int))=false->((.exit 0:Ex),(d1q g n p f xs i j),[(o_ g 10 (mE l))])=(eX,FX,HX)):j6 c4R (some [0,2,4,10,11]) (some [0,2,4,10,11]) (d1q g n p f xs i j) [(o_ g 10 (mE l))] eX FX HX :=
 F7 (.r (.g (.two ((i:Int) != (j:Int)) (fun h1 h1'=>(.r (.g (.two (decide ((i:Int) > (j:Int))) (fun h2 h2'=>(.r (.y 3 (.int .i64 (oG p i)) (iN (p - i)) Yes.o (.ch 7 [(o_ g 10 (mE (R5 (p - i) p j l)))] (a7u f xs (p - i) p j n g l Z4 Z4 Z4 Z4 Z4 []) (.s (.y 2 (.int .i64 (oG i j)) (iN (i - j)) Yes.o (.g (.l (k1 h1 h2))))))))) (fun h2 h2'=>(.r (.y 3 (.int .i64 (oG p i)) (iN (p - i)) Yes.o (.y 6 (.int .i64 (gP p j)) (iN (p+j)) Yes.o (.y 8 (iW (((p+j:Nat):Int) - (i:Int))) (iN (p+j - i)) Yes.o (.ch 11 (d1r g p i j l) (a7u f xs (p - i) (p+j - i) i n g l Z4 Z4 Z4 Z4 Z4 []) (.s (.y 2 (.int .i64 (oG j i)) (iN (j - i)) Yes.o (.g (.l (k2 h1 h2))))))))))))))) (fun h1 h1'=>(.l (k3 h1))))))
theorem b2a {p:Prop} (h:p:=by rw [b7J ow ow]; exact hn):p:=h
theorem c3l (f:Nat) (xs:List AV) (p n g:Nat) (hxs:AV.bdds 1 xs=true) (r:Nat):∀ (i j:Nat) (l:l9E),i+j<=r+1->n=l.length->n < 1048576->0 < i->0 < j->i<=p->p+j<=n ->
 j6 (l9 Tryz.prog (X a3h) (p9 Tryz.f229 0)) (some [0,2,4,10,11]) (some [0,2,4,10,11]) (mkF 58 [(0,(AV.osl 0 g 10 0 n)),(2,(iN p)),(4,(AV.func f xs)),(10,(iN i)),(11,(iN j))]) [(o_ g 10 (mE l))] (.exit 0) (mkF 58 [(0,(AV.osl 0 g 10 0 n)),(2,(iN p)),(4,(AV.func f xs)),(10,(iN ((J3 p r i j l).2))),(11,(iN ((J3 p r i j l).2)))]) [(o_ g 10 (mE (J3 p r i j l).1))]:=by
 induction r with
 | zero=>intro i j l h1 hn hnb hi hj; omega
 | succ r ih =>
  intro i j l h1 hn hnb hi hj hip hjp
  refine c3j f xs p n g i j l hxs hn hnb hi hj hip hjp (fun h2 h3=>?_) (fun h2 h3=>?_) (fun h2=>?_)
  · have h2':i≠j:=by simp at h2; omega
    have h3':j < i:=by simp at h3; omega
    simp only [J3,if_neg h2',if_pos h3']
    exact ih (i - j) j _ ow b2a hnb ow hj ow hjp
  · have h2':i≠j:=by simp at h2; omega
    have h3':¬ j < i:=by simp at h3; omega
    simp only [J3,if_neg h2',if_neg h3']
    exact ih i (j - i) _ ow b2a hnb hi ow hip ow
  · have h2':i=j:=by simp at h2; omega
    simp only [J3,if_pos h2']
    subst h2'
    rfl
@[simp] abbrev d3h (a:Nat) (b:Nat) (c:Nat) (d:Nat) (e:List AV) (f:Nat) (g:Nat) (h:l9E):Fr:=(mkF 58 [(0,(AV.osl 0 a 10 0 b)),(2,(iN c)),(4,(AV.func d e)),(10,(iN ((J3 c (c - f+(g - c)) (c - f) (g - c) h).2))),(11,(iN ((J3 c (c - f+(g - c)) (c - f) (g - c) h).2)))])
theorem c3k (f:Nat) (xs:List AV) (a p b n g:Nat) (l:l9E) (hxs:AV.bdds 1 xs=true) (hn:n=l.length) (hnb:n < 1048576) (hap:a < p) (hpb:p < b) (hbn:b<=n) (hl2:(J3 p (p - a+(b - p)) (p - a) (b - p) l).1.length=l.length) (hk:(J3 p (p - a+(b - p)) (p - a) (b - p) l).2<=p - a) (hk2:(J3 p (p - a+(b - p)) (p - a) (b - p) l).2<=b - p):AC 229 [(AV.osl 0 g 10 0 n),(iN a),(iN p),(iN b),(AV.func f xs)] [(o_ g 10 (mE l))] ((AV.tup []),[(o_ g 10 (mE (O8 a p b l)))]) :=
 o9 (fn:=Tryz.f229) (ann:=a3h) (Has.o Tryz.func229) (.r (.y 2 (.int .i64 (oG p a)) (iN (p - a)) Yes.o (.s (.y 2 (.int .i64 (oG b p)) (iN (b - p)) Yes.o (.g (.loop (d3h g n p f xs a b l) (c3l f xs p n g hxs (p - a+(b - p)) (p - a) (b - p) l ow hn hnb ow ow ow ow) (.r (.y 3 (iW ((p:Int) - (((J3 p (p - a+(b - p)) (p - a) (b - p) l).2:Nat):Int))) (iN (p - (J3 p (p - a+(b - p)) (p - a) (b - p) l).2)) Yes.o (.ch 7 [(o_ g 10 (mE (R5 (p - (J3 p (p - a+(b - p)) (p - a) (b - p) l).2) p (J3 p (p - a+(b - p)) (p - a) (b - p) l).2 (J3 p (p - a+(b - p)) (p - a) (b - p) l).1)))] (a7u f xs (p - (J3 p (p - a+(b - p)) (p - a) (b - p) l).2) p (J3 p (p - a+(b - p)) (p - a) (b - p) l).2 n g (J3 p (p - a+(b - p)) (p - a) (b - p) l).1 Z4 Z4 Z4 Z4 Z4 []) (.q 1 (AV.tup [])))))))))))
theorem b9v (f:Nat) (xs:List AV) (a p b n g:Nat) (l:l9E) (hxs:AV.bdds 1 xs=true) (hn:n=l.length) (hnb:n < 1048576) (hap:a < p) (hpb:p < b) (hbn:b<=n) (hl2:(J3 p (p - a+(b - p)) (p - a) (b - p) l).1.length=l.length) (hk:(J3 p (p - a+(b - p)) (p - a) (b - p) l).2<=p - a) (hk2:(J3 p (p - a+(b - p)) (p - a) (b - p) l).2<=b - p) (H:Heap):AC 229 [(AV.osl 0 g 10 0 n),(iN a),(iN p),(iN b),(AV.func f xs)] (([(o_ g 10 (mE l))]:Heap)++H) ((AV.tup []),([(o_ g 10 (mE (O8 a p b l)))]:Heap)++H):=(c3k f xs a p b n g l hxs hn hnb hap hpb hbn hl2 hk hk2).ext nP kr ob ob kr H
def Y0:Ann:={ base:=1,fin:=some 1,live:=[(3,[0,1,4,10,11]),(9,[0,10,13]),(15,[0,2,4,14,15]),(21,[0,14,17]),(33,[0,1,2,3,4,18,19,20,21,22])],out:=[(3,[0,1,10]),(9,[0,10,13]),(15,[0,2,14]),(21,[0,14,17]),(33,[0,1,2,3,4,18,19,20])] }
@[simp] abbrev c4Q :=(l9 Tryz.prog (X Y0) (p9 Tryz.f213 0))
@[simp] abbrev oF (a b:Nat):=(iN (((a+b) / 2)+1))
@[simp] abbrev a3A (a b:Nat):=(iI (IntKind.i64.wrap (Int.fdiv (IntKind.u64.wrap ((a+b:Nat):Int)) (2 ^ (min (Int.toNat 1) 64)))))
@[simp] abbrev a3z (a:l9E) (b c:Nat):=(AV.agg (Entry.row (nth a ((b+c) / 2))))
@[simp] abbrev a3y (a b:Nat):=(IntKind.i64.wrap (((((a+b) / 2):Nat):Int)+1))
theorem a6E (cmp:Entry->Entry->Int) (f:Nat) (xs:List AV) (hc:h9E cmp f xs) (a n g:Nat) (l:l9E) (lo hi:Nat) (hn:n=l.length) (hnb:n < 1048576) (ha:a < n) (hlh:lo<=hi) (hhi:hi<=n) {eX:Ex} {FX:Fr} {HX:Heap} (k1:(decide ((lo:Int) < (hi:Int)))=true->(decide ((cmp (nth l ((lo+hi) / 2)) (nth l a)) < 0))=true->j6 c4Q (some [0,1,4,10,11]) (some [0,1,10]) (mkF 220 [(0,(AV.osl 0 g 10 0 n)),(1,(iN a)),(4,(AV.func f xs)),(10,(oF lo hi)),(11,(iN hi))]) [(o_ g 10 (mE l))] eX FX HX) (k2:(decide ((lo:Int) < (hi:Int)))=true->(decide ((cmp (nth l ((lo+hi) / 2)) (nth l a)) < 0))=false->j6 c4Q (some [0,1,4,10,11]) (some [0,1,10]) (mkF 220 [(0,(AV.osl 0 g 10 0 n)),(1,(iN a)),(4,(AV.func f xs)),(10,(iN lo)),(11,(iN (((lo+hi) / 2))))]) [(o_ g 10 (mE l))] eX FX HX) (k3:(decide ((lo:Int) < (hi:Int)))=false->((.exit 0:Ex),(mkF 220 [(0,(AV.osl 0 g 10 0 n)),(1,(iN a)),(10,(iN lo))]),[(o_ g 10 (mE l))])=(eX,FX,HX)):j6 c4Q (some [0,1,4,10,11]) (some [0,1,10]) (mkF 220 [(0,(AV.osl 0 g 10 0 n)),(1,(iN a)),(4,(AV.func f xs)),(10,(iN lo)),(11,(iN hi))]) [(o_ g 10 (mE l))] eX FX HX :=
 F7 (.r (.g (.two (decide ((lo:Int) < (hi:Int))) (fun h1 h1'=>(.r (.y 2 (.int .i64 (gP lo hi)) (iN (lo+hi)) Yes.o (.y 5 (a3A lo hi) (iN (((lo+hi) / 2))) (Yes.int (eD ow (rfl))) (.s (.io 3 0 g 10 10 0 n ((((lo+hi) / 2):Nat):Int) ((lo+hi) / 2) (E9.mk _ ow ow) (.t 4 (a3z l lo hi) [(o_ g 10 (mE l))] (G9 (C8 (row:=Entry.row) (l:=l) (k:=10) (room:=none) kr om) kr:K3 tt 45 0 [(o_ g 10 (mE l))] (rowAt [(o_ g 10 (mE l))] 0 g ((lo+hi) / 2))=some ((a3z l lo hi),([(o_ g 10 (mE l))]:Heap))) (.io 7 0 g 10 10 0 n (a:Int) a (E9.mk _ ow ow) (.t 8 (cj_ l a) [(o_ g 10 (mE l))] (G9 (C8 (row:=Entry.row) (l:=l) (k:=10) (room:=none) kr om) kr:K3 tt 45 0 [(o_ g 10 (mE l))] (rowAt [(o_ g 10 (mE l))] 0 g a)=some ((cj_ l a),([(o_ g 10 (mE l))]:Heap))) (.c 9 (hc (nth l ((lo+hi) / 2)) (nth l a) [(o_ g 10 (mE l))]) (.g (.two (decide ((cmp (nth l ((lo+hi) / 2)) (nth l a)) < 0)) (fun h2 h2'=>(.r (.y 1 (.int .i64 (a3y lo hi)) (oF lo hi) Yes.o (.g (.l (k1 h1 h2)))))) (fun h2 h2'=>(.r (.g (.l (k2 h1 h2))))))))))))))))) (fun h1 h1'=>(.l (k3 h1))))))
theorem X9 {p:Prop} (h:p:=by simpa using h5):p:=h
theorem c1T (cmp:Entry->Entry->Int) (f:Nat) (xs:List AV) (hc:h9E cmp f xs) (a n g:Nat) (l:l9E) (hn:n=l.length) (hnb:n < 1048576) (ha:a < n) (r:Nat):∀ (lo hi:Nat),hi - lo<=r->lo<=hi->hi<=n ->
 j6 (l9 Tryz.prog (X Y0) (p9 Tryz.f213 0)) (some [0,1,4,10,11]) (some [0,1,10]) (mkF 220 [(0,(AV.osl 0 g 10 0 n)),(1,(iN a)),(4,(AV.func f xs)),(10,(iN lo)),(11,(iN hi))]) [(o_ g 10 (mE l))] (.exit 0) (mkF 220 [(0,(AV.osl 0 g 10 0 n)),(1,(iN a)),(10,(iN ((bsr (fun c=>decide (cmp (nth l c) (nth l a) < 0)) r lo hi))))]) [(o_ g 10 (mE l))]:=by
 induction r with
 | zero =>
  intro lo hi h1 h2 h3
  obtain rfl:lo=hi:=by omega
  refine a6E cmp f xs hc a n g l lo lo hn hnb ha h2 h3 (fun h _=>by simp at h) (fun h _=>by simp at h) (fun _=>?_)
  simp only [bsr]
 | succ r ih =>
  intro lo hi h1 h2 h3
  refine a6E cmp f xs hc a n g l lo hi hn hnb ha h2 h3 (fun h4 h5=>?_) (fun h4 h5=>?_) (fun h4=>?_)
  · have h4':lo < hi:=by simp at h4; omega
    simp only [bsr,if_pos h4']
    rw [if_pos X9]
    exact ih ((lo+hi) / 2+1) hi ow ow ow
  · have h4':lo < hi:=by simp at h4; omega
    simp only [bsr,if_pos h4']
    rw [if_neg X9]
    exact ih lo ((lo+hi) / 2) ow ow ow
  · have h4':¬ lo < hi:=by simp at h4; omega
    simp only [bsr,if_neg h4']
@[simp] abbrev c4P :=(l9 Tryz.prog (X Y0) (p9 Tryz.f213 2))
theorem a6D (cmp:Entry->Entry->Int) (f:Nat) (xs:List AV) (hc:h9E cmp f xs) (p n g:Nat) (l:l9E) (lo hi:Nat) (hn:n=l.length) (hnb:n < 1048576) (ha:p < n) (hlh:lo<=hi) (hhi:hi<=n) {eX:Ex} {FX:Fr} {HX:Heap} (k1:(decide ((lo:Int) < (hi:Int)))=true->(!(decide ((cmp (nth l p) (nth l ((lo+hi) / 2))) < 0)))=true->j6 c4P (some [0,2,4,14,15]) (some [0,2,14]) (mkF 220 [(0,(AV.osl 0 g 10 0 n)),(2,(iN p)),(4,(AV.func f xs)),(14,(oF lo hi)),(15,(iN hi))]) [(o_ g 10 (mE l))] eX FX HX) (k2:(decide ((lo:Int) < (hi:Int)))=true->(!(decide ((cmp (nth l p) (nth l ((lo+hi) / 2))) < 0)))=false->j6 c4P (some [0,2,4,14,15]) (some [0,2,14]) (mkF 220 [(0,(AV.osl 0 g 10 0 n)),(2,(iN p)),(4,(AV.func f xs)),(14,(iN lo)),(15,(iN (((lo+hi) / 2))))]) [(o_ g 10 (mE l))] eX FX HX) (k3:(decide ((lo:Int) < (hi:Int)))=false->((.exit 4:Ex),(mkF 220 [(0,(AV.osl 0 g 10 0 n)),(2,(iN p)),(14,(iN lo))]),[(o_ g 10 (mE l))])=(eX,FX,HX)):j6 c4P (some [0,2,4,14,15]) (some [0,2,14]) (mkF 220 [(0,(AV.osl 0 g 10 0 n)),(2,(iN p)),(4,(AV.func f xs)),(14,(iN lo)),(15,(iN hi))]) [(o_ g 10 (mE l))] eX FX HX :=
 F7 (.r (.g (.two (decide ((lo:Int) < (hi:Int))) (fun h1 h1'=>(.r (.y 2 (.int .i64 (gP lo hi)) (iN (lo+hi)) Yes.o (.y 5 (a3A lo hi) (iN (((lo+hi) / 2))) (Yes.int (eD ow (rfl))) (.s (.io 3 0 g 10 10 0 n (p:Int) p (E9.mk _ ow ow) (.t 4 (cj_ l p) [(o_ g 10 (mE l))] (G9 (C8 (row:=Entry.row) (l:=l) (k:=10) (room:=none) kr om) kr:K3 tt 45 0 [(o_ g 10 (mE l))] (rowAt [(o_ g 10 (mE l))] 0 g p)=some ((cj_ l p),([(o_ g 10 (mE l))]:Heap))) (.io 7 0 g 10 10 0 n ((((lo+hi) / 2):Nat):Int) ((lo+hi) / 2) (E9.mk _ ow ow) (.t 8 (a3z l lo hi) [(o_ g 10 (mE l))] (G9 (C8 (row:=Entry.row) (l:=l) (k:=10) (room:=none) kr om) kr:K3 tt 45 0 [(o_ g 10 (mE l))] (rowAt [(o_ g 10 (mE l))] 0 g ((lo+hi) / 2))=some ((a3z l lo hi),([(o_ g 10 (mE l))]:Heap))) (.c 9 (hc (nth l p) (nth l ((lo+hi) / 2)) [(o_ g 10 (mE l))]) (.g (.two (!(decide ((cmp (nth l p) (nth l ((lo+hi) / 2))) < 0))) (fun h2 h2'=>(.r (.y 1 (.int .i64 (a3y lo hi)) (oF lo hi) Yes.o (.g (.l (k1 h1 h2)))))) (fun h2 h2'=>(.r (.g (.l (k2 h1 h2))))))))))))))))) (fun h1 h1'=>(.l (k3 h1))))))
theorem c1S (cmp:Entry->Entry->Int) (f:Nat) (xs:List AV) (hc:h9E cmp f xs) (p n g:Nat) (l:l9E) (hn:n=l.length) (hnb:n < 1048576) (ha:p < n) (r:Nat):∀ (lo hi:Nat),hi - lo<=r->lo<=hi->hi<=n ->
 j6 (l9 Tryz.prog (X Y0) (p9 Tryz.f213 2)) (some [0,2,4,14,15]) (some [0,2,14]) (mkF 220 [(0,(AV.osl 0 g 10 0 n)),(2,(iN p)),(4,(AV.func f xs)),(14,(iN lo)),(15,(iN hi))]) [(o_ g 10 (mE l))] (.exit 4) (mkF 220 [(0,(AV.osl 0 g 10 0 n)),(2,(iN p)),(14,(iN ((bsr (fun c=>!decide (cmp (nth l p) (nth l c) < 0)) r lo hi))))]) [(o_ g 10 (mE l))]:=by
 induction r with
 | zero =>
  intro lo hi h1 h2 h3
  obtain rfl:lo=hi:=by omega
  refine a6D cmp f xs hc p n g l lo lo hn hnb ha h2 h3 (fun h _=>by simp at h) (fun h _=>by simp at h) (fun _=>?_)
  simp only [bsr]
 | succ r ih =>
  intro lo hi h1 h2 h3
  refine a6D cmp f xs hc p n g l lo hi hn hnb ha h2 h3 (fun h4 h5=>?_) (fun h4 h5=>?_) (fun h4=>?_)
  · have h4':lo < hi:=by simp at h4; omega
    simp only [bsr,if_pos h4']
    rw [if_pos X9]
    exact ih ((lo+hi) / 2+1) hi ow ow ow
  · have h4':lo < hi:=by simp at h4; omega
    simp only [bsr,if_pos h4']
    rw [if_neg X9]
    exact ih lo ((lo+hi) / 2) ow ow ow
  · have h4':¬ lo < hi:=by simp at h4; omega
    simp only [bsr,if_neg h4']
@[simp] abbrev c4O :=(l9 Tryz.prog (X Y0) (p9 Tryz.f213 4))
theorem a6B (cmp:Entry->Entry->Int) (f:Nat) (xs:List AV) (hc:h9E cmp f xs) (a p b mid nn q n g:Nat) (l:l9E) (lo hi:Nat) (hn:n=l.length) (hnb:n < 1048576) (hlh:lo<=hi) (hhi:hi<=n/\hi<=q+1/\q < n+lo) {eX:Ex} {FX:Fr} {HX:Heap} (k1:(decide ((lo:Int) < (hi:Int)))=true->(!(decide ((cmp (nth l (q - ((lo+hi) / 2))) (nth l ((lo+hi) / 2))) < 0)))=true->j6 c4O (some [0,1,2,3,4,18,19,20,21,22]) (some [0,1,2,3,4,18,19,20]) (mkF 220 [(0,(AV.osl 0 g 10 0 n)),(1,(iN a)),(2,(iN p)),(3,(iN b)),(4,(AV.func f xs)),(18,(iN mid)),(19,(iN nn)),(20,(oF lo hi)),(21,(iN hi)),(22,(iN q))]) [(o_ g 10 (mE l))] eX FX HX) (k2:(decide ((lo:Int) < (hi:Int)))=true->(!(decide ((cmp (nth l (q - ((lo+hi) / 2))) (nth l ((lo+hi) / 2))) < 0)))=false->j6 c4O (some [0,1,2,3,4,18,19,20,21,22]) (some [0,1,2,3,4,18,19,20]) (mkF 220 [(0,(AV.osl 0 g 10 0 n)),(1,(iN a)),(2,(iN p)),(3,(iN b)),(4,(AV.func f xs)),(18,(iN mid)),(19,(iN nn)),(20,(iN lo)),(21,(iN (((lo+hi) / 2)))),(22,(iN q))]) [(o_ g 10 (mE l))] eX FX HX) (k3:(decide ((lo:Int) < (hi:Int)))=false->((.exit 8:Ex),(mkF 220 [(0,(AV.osl 0 g 10 0 n)),(1,(iN a)),(2,(iN p)),(3,(iN b)),(4,(AV.func f xs)),(18,(iN mid)),(19,(iN nn)),(20,(iN lo))]),[(o_ g 10 (mE l))])=(eX,FX,HX)):j6 c4O (some [0,1,2,3,4,18,19,20,21,22]) (some [0,1,2,3,4,18,19,20]) (mkF 220 [(0,(AV.osl 0 g 10 0 n)),(1,(iN a)),(2,(iN p)),(3,(iN b)),(4,(AV.func f xs)),(18,(iN mid)),(19,(iN nn)),(20,(iN lo)),(21,(iN hi)),(22,(iN q))]) [(o_ g 10 (mE l))] eX FX HX :=
 F7 (.r (.g (.two (decide ((lo:Int) < (hi:Int))) (fun h1 h1'=>(.r (.y 2 (.int .i64 (gP lo hi)) (iN (lo+hi)) Yes.o (.y 5 (a3A lo hi) (iN (((lo+hi) / 2))) (Yes.int (eD ow (rfl))) (.s (.y 4 (iW ((q:Int) - ((((lo+hi) / 2):Nat):Int))) (iN (q - ((lo+hi) / 2))) Yes.o (.io 5 0 g 10 10 0 n ((q - ((lo+hi) / 2):Nat):Int) (q - ((lo+hi) / 2)) (E9.mk _ ow ow) (.t 6 (AV.agg (Entry.row (nth l (q - ((lo+hi) / 2))))) [(o_ g 10 (mE l))] (G9 (C8 (row:=Entry.row) (l:=l) (k:=10) (room:=none) kr om) kr:K3 tt 45 0 [(o_ g 10 (mE l))] (rowAt [(o_ g 10 (mE l))] 0 g (q - ((lo+hi) / 2)))=some ((AV.agg (Entry.row (nth l (q - ((lo+hi) / 2))))),([(o_ g 10 (mE l))]:Heap))) (.io 9 0 g 10 10 0 n ((((lo+hi) / 2):Nat):Int) ((lo+hi) / 2) (E9.mk _ ow ow) (.t 10 (a3z l lo hi) [(o_ g 10 (mE l))] (G9 (C8 (row:=Entry.row) (l:=l) (k:=10) (room:=none) kr om) kr:K3 tt 45 0 [(o_ g 10 (mE l))] (rowAt [(o_ g 10 (mE l))] 0 g ((lo+hi) / 2))=some ((a3z l lo hi),([(o_ g 10 (mE l))]:Heap))) (.c 11 (hc (nth l (q - ((lo+hi) / 2))) (nth l ((lo+hi) / 2)) [(o_ g 10 (mE l))]) (.g (.two (!(decide ((cmp (nth l (q - ((lo+hi) / 2))) (nth l ((lo+hi) / 2))) < 0))) (fun h2 h2'=>(.r (.y 1 (.int .i64 (a3y lo hi)) (oF lo hi) Yes.o (.g (.l (k1 h1 h2)))))) (fun h2 h2'=>(.r (.g (.l (k2 h1 h2)))))))))))))))))) (fun h1 h1'=>(.l (k3 h1))))))
theorem a6C (cmp:Entry->Entry->Int) (f:Nat) (xs:List AV) (hc:h9E cmp f xs) (a p b mid nn q n g:Nat) (l:l9E) (hn:n=l.length) (hnb:n < 1048576) (r:Nat):∀ (lo hi:Nat),hi - lo<=r->lo<=hi->hi<=n/\hi<=q+1/\q < n+lo ->
 j6 (l9 Tryz.prog (X Y0) (p9 Tryz.f213 4)) (some [0,1,2,3,4,18,19,20,21,22]) (some [0,1,2,3,4,18,19,20]) (mkF 220 [(0,(AV.osl 0 g 10 0 n)),(1,(iN a)),(2,(iN p)),(3,(iN b)),(4,(AV.func f xs)),(18,(iN mid)),(19,(iN nn)),(20,(iN lo)),(21,(iN hi)),(22,(iN q))]) [(o_ g 10 (mE l))] (.exit 8) (mkF 220 [(0,(AV.osl 0 g 10 0 n)),(1,(iN a)),(2,(iN p)),(3,(iN b)),(4,(AV.func f xs)),(18,(iN mid)),(19,(iN nn)),(20,(iN ((bsr (fun c=>!decide (cmp (nth l (q - c)) (nth l c) < 0)) r lo hi))))]) [(o_ g 10 (mE l))]:=by
 induction r with
 | zero =>
  intro lo hi h1 h2 h3
  obtain rfl:lo=hi:=by omega
  refine a6B cmp f xs hc a p b mid nn q n g l lo lo hn hnb h2 h3 (fun h _=>by simp at h) (fun h _=>by simp at h) (fun _=>?_)
  simp only [bsr]
 | succ r ih =>
  intro lo hi h1 h2 h3
  refine a6B cmp f xs hc a p b mid nn q n g l lo hi hn hnb h2 h3 (fun h4 h5=>?_) (fun h4 h5=>?_) (fun h4=>?_)
  · have h4':lo < hi:=by simp at h4; omega
    simp only [bsr,if_pos h4']
    rw [if_pos X9]
    exact ih ((lo+hi) / 2+1) hi ow ow ow
  · have h4':lo < hi:=by simp at h4; omega
    simp only [bsr,if_pos h4']
    rw [if_neg X9]
    exact ih lo ((lo+hi) / 2) ow ow ow
  · have h4':¬ lo < hi:=by simp at h4; omega
    simp only [bsr,if_neg h4']
@[simp] abbrev d1p (a:Nat) (b:l9E) (c:Nat):Heap:=[(o_ a 10 (mE ((b.set c (nth b (c+1))).set (c+1) (nth b c))))]
@[simp] abbrev c5V (a:Nat) (b:Nat) (c:Nat) (d:Nat):Fr:=(mkF 220 [(0,(AV.osl 0 a 10 0 b)),(10,(iN c)),(13,(iN d))])
theorem a6z (i:Nat) (n:Nat) (g:Nat) (l:l9E) (kk:Nat) (hi1:1<=i) (hin:i<=n) (hnb:n < 1048576) (hn:n=l.length) (hle_:kk<=(i - 1)) {eX:Ex} {FX:Fr} {HX:Heap} (k1:(decide ((kk:Int) < ((i - 1:Nat):Int)))=true->j6 (l9 Tryz.prog (X Y0) (p9 Tryz.f213 1)) (some [0,10,13]) (some [0,10,13]) (mkF 220 [(0,(AV.osl 0 g 10 0 n)),(10,(iN i)),(13,(iN (kk+1)))]) (d1p g l kk) eX FX HX) (k2:(decide ((kk:Int) < ((i - 1:Nat):Int)))=false->((.exit 2:Ex),(c5V g n i kk),[(o_ g 10 (mE l))])=(eX,FX,HX)):j6 (l9 Tryz.prog (X Y0) (p9 Tryz.f213 1)) (some [0,10,13]) (some [0,10,13]) (c5V g n i kk) [(o_ g 10 (mE l))] eX FX HX :=
 F7 (.r (.y 2 (.int .i64 (ck_ i)) (iN (i - 1)) Yes.o (.g (.two (decide ((kk:Int) < ((i - 1:Nat):Int))) (fun h1 h1'=>(.r (.y 4 (.int .i64 (cb_ kk)) (iN (kk+1)) Yes.o (.y 7 (.int .i64 (cb_ kk)) (iN (kk+1)) Yes.o (.io 8 0 g 10 10 0 n ((kk+1:Nat):Int) (kk+1) (E9.mk _ ow ow) (.t 9 (AV.agg (Entry.row (nth l (kk+1)))) [(o_ g 10 (mE l))] (G9 (C8 (row:=Entry.row) (l:=l) (k:=10) (room:=none) kr om) kr:K3 tt 45 0 [(o_ g 10 (mE l))] (rowAt [(o_ g 10 (mE l))] 0 g (kk+1))=some ((AV.agg (Entry.row (nth l (kk+1)))),([(o_ g 10 (mE l))]:Heap))) (.io 12 0 g 10 10 0 n (kk:Int) kk (E9.mk _ ow ow) (.t 13 (cj_ l kk) [(o_ g 10 (mE l))] (G9 (C8 (row:=Entry.row) (l:=l) (k:=10) (room:=none) kr om) kr:K3 tt 45 0 [(o_ g 10 (mE l))] (rowAt [(o_ g 10 (mE l))] 0 g kk)=some ((cj_ l kk),([(o_ g 10 (mE l))]:Heap))) (.io 14 0 g 10 10 0 n (kk:Int) kk (E9.mk _ ow ow) (.st 15 0 g kk 10 0 (AV.agg (Entry.row (nth l (kk+1)))) [(o_ g 10 (mE (l.set kk (nth l (kk+1)))))] (Q5 (us:=(Entry.row (nth l (kk+1)))) (C8 (row:=Entry.row) (l:=l) (k:=10) (room:=none) kr om) kr rZ rY) (.io 16 0 g 10 10 0 n ((kk+1:Nat):Int) (kk+1) (E9.mk _ ow ow) (.st 17 0 g (kk+1) 10 0 (cj_ l kk) (d1p g l kk) (Q5 (us:=(Entry.row (nth l kk))) (C8 (row:=Entry.row) (l:=l.set kk (nth l (kk+1))) (k:=10) (room:=none) kr om) kr rZ rY) (.s (.y 1 (.int .i64 (cb_ kk)) (iN (kk+1)) Yes.o (.g (.l (k1 h1))))))))))))))))) (fun h1 h1'=>(.l (k2 h1)))))))
def b2L (i:Nat) (n:Nat) (g:Nat) (kk:Nat) (s:(List Entry)):(List Entry):=((s.set kk (nth s (kk+1))).set (kk+1) (nth s kk))
theorem c1O (i:Nat) (n:Nat) (g:Nat) (hi1:1<=i) (hin:i<=n) (hnb:n < 1048576)  (r_:Nat):∀ (l:l9E) (kk:Nat) (sF:(l9E)),kk+r_=(i - 1)->n=l.length->sF=iter (b2L i n g) r_ kk (l) ->
 j6 (l9 Tryz.prog (X Y0) (p9 Tryz.f213 1)) (some [0,10,13]) (some [0,10,13]) (c5V g n i kk) [(o_ g 10 (mE l))] (.exit 2) (mkF 220 [(0,(AV.osl 0 g 10 0 n)),(10,(iN i)),(13,(iN ((i - 1))))]) [(o_ g 10 (mE sF))]:=by
 induction r_ with
 | zero =>
  intro l kk sF hi_ hn  hF
  obtain rfl:(i - 1)=kk:=by omega
  have e_:sF=(l):=hF
  refine a6z i n g l (i - 1) hi1 hin hnb hn (Nat.le_refl _) (fun h=>by simp at h <;> omega) (fun _=>?_)
  first | done | rfl | (rw [e_]; done) | (rw [e_]; rfl)
 | succ r_ ih =>
  intro l kk sF hi_ hn  hF
  refine a6z i n g l kk hi1 hin hnb hn ow (fun h1=>?_) (fun h=>by simp at h <;> omega)
  · exact ih ((l.set kk (nth l (kk+1))).set (kk+1) (nth l kk)) (kk+1) sF ow N9  (by rw [hF] <;> simp only [iter,b2L,if_true,Bool.false_eq_true,if_false])
theorem c1P (i n g r k:Nat) (l:l9E):shU r k l=iter (b2L i n g) r k l:=rfl
@[simp] abbrev c7v (a:Nat) (b:Nat) (c:Nat) (d:Nat):Fr:=(mkF 220 [(0,(AV.osl 0 a 10 0 b)),(14,(iN c)),(17,(iN d))])
theorem a6A (i kk n g:Nat) (l:l9E) (hn:n=l.length) (hnb:n < 1048576) (hk:kk < n) {eX:Ex} {FX:Fr} {HX:Heap} (k1:(decide ((kk:Int) > (i:Int)))=true->j6 (l9 Tryz.prog (X Y0) (p9 Tryz.f213 3)) (some [0,14,17]) (some [0,14,17]) (mkF 220 [(0,(AV.osl 0 g 10 0 n)),(14,(iN i)),(17,(iN (kk - 1)))]) (b7t g l kk) eX FX HX) (k2:(decide ((kk:Int) > (i:Int)))=false->((.exit 6:Ex),(c7v g n i kk),[(o_ g 10 (mE l))])=(eX,FX,HX)):j6 (l9 Tryz.prog (X Y0) (p9 Tryz.f213 3)) (some [0,14,17]) (some [0,14,17]) (c7v g n i kk) [(o_ g 10 (mE l))] eX FX HX :=
 F7 (.r (.g (.two (decide ((kk:Int) > (i:Int))) (fun h1 h1'=>(.r (.y 4 (.int .i64 (ck_ kk)) (iN (kk - 1)) Yes.o (.y 7 (.int .i64 (ck_ kk)) (iN (kk - 1)) Yes.o (.io 8 0 g 10 10 0 n ((kk - 1:Nat):Int) (kk - 1) (E9.mk _ ow ow) (.t 9 (cl_ l kk) [(o_ g 10 (mE l))] (G9 (C8 (row:=Entry.row) (l:=l) (k:=10) (room:=none) kr om) kr:K3 tt 45 0 [(o_ g 10 (mE l))] (rowAt [(o_ g 10 (mE l))] 0 g (kk - 1))=some ((cl_ l kk),([(o_ g 10 (mE l))]:Heap))) (.io 12 0 g 10 10 0 n (kk:Int) kk (E9.mk _ ow ow) (.t 13 (cj_ l kk) [(o_ g 10 (mE l))] (G9 (C8 (row:=Entry.row) (l:=l) (k:=10) (room:=none) kr om) kr:K3 tt 45 0 [(o_ g 10 (mE l))] (rowAt [(o_ g 10 (mE l))] 0 g kk)=some ((cj_ l kk),([(o_ g 10 (mE l))]:Heap))) (.io 14 0 g 10 10 0 n (kk:Int) kk (E9.mk _ ow ow) (.st 15 0 g kk 10 0 (cl_ l kk) [(o_ g 10 (mE (l.set kk (nth l (kk - 1)))))] (Q5 (us:=(Entry.row (nth l (kk - 1)))) (C8 (row:=Entry.row) (l:=l) (k:=10) (room:=none) kr om) kr rZ rY) (.io 16 0 g 10 10 0 n ((kk - 1:Nat):Int) (kk - 1) (E9.mk _ ow ow) (.st 17 0 g (kk - 1) 10 0 (cj_ l kk) (b7t g l kk) (Q5 (us:=(Entry.row (nth l kk))) (C8 (row:=Entry.row) (l:=l.set kk (nth l (kk - 1))) (k:=10) (room:=none) kr om) kr rZ rY) (.s (.y 1 (.int .i64 (ck_ kk)) (iN (kk - 1)) Yes.o (.g (.l (k1 h1))))))))))))))))) (fun h1 h1'=>(.l (k2 h1))))))
theorem c1R (i n g:Nat) (hnb:n < 1048576) (r:Nat):∀ (kk:Nat) (l:l9E),kk=i+r->n=l.length->kk < n ->
 j6 (l9 Tryz.prog (X Y0) (p9 Tryz.f213 3)) (some [0,14,17]) (some [0,14,17]) (mkF 220 [(0,(AV.osl 0 g 10 0 n)),(14,(iN i)),(17,(iN kk))]) [(o_ g 10 (mE l))] (.exit 6) (mkF 220 [(0,(AV.osl 0 g 10 0 n)),(14,(iN i)),(17,(iN i))]) [(o_ g 10 (mE (shD r kk l)))]:=by
 induction r with
 | zero =>
  intro kk l h1 hn hk
  obtain rfl:kk=i:=by omega
  exact a6A kk kk n g l hn hnb hk (fun h=>by simp at h) (fun _=>rfl)
 | succ r ih =>
  intro kk l h1 hn hk
  refine a6A i kk n g l hn hnb hk (fun _=>?_) (fun h=>by simp at h; omega)
  simp only [shD]
  exact ih (kk - 1) _ ow (by simpa using hn) ow
set_option linter.unusedSectionVars false
section
variable {α:Type} [Inhabited α]
theorem c6f (X:List α) (x y:α) (Z:List α) {k:Nat} (hk:k=X.length):((X++x :: y :: Z).set k (nth (X++x :: y :: Z) (k+1))).set (k+1) (nth (X++x :: y :: Z) k)=X++y :: x :: Z:=by
 have:=lY X [x] [] [y] Z (a:=k) (b:=k+1) (n:=1) hk rfl rfl yh_
 simpa [R5,iter] using this
theorem a4b (x:α) (R:List α):∀ (X Y:List α) (k:Nat),k=X.length->shU R.length k (X++x :: (R++Y))=X++(R++x :: Y):=by
 induction R with
 | nil=>intro X Y k hk; rfl
 | cons y R ih =>
  intro X Y k hk
  have h1:shU (y :: R).length k (X++x :: ((y :: R)++Y))=shU R.length (k+1) (((X++x :: y :: (R++Y)).set k (nth (X++x :: y :: (R++Y)) (k+1))).set (k+1) (nth (X++x :: y :: (R++Y)) k)):=rfl
  rw [h1,c6f X x y (R++Y) hk]
  have:=ih (X++[y]) Y (k+1) uW
  simpa using this
theorem a4c (y:α) (r:Nat):∀ (X L Y:List α) (k:Nat),L.length=r->k=X.length+r->shD r k (X++(L++y :: Y))=X++y :: (L++Y):=by
 induction r with
 | zero =>
  intro X L Y k hL hk
  obtain rfl:L=[]:=List.eq_nil_of_length_eq_zero hL
  rfl
 | succ r ih =>
  intro X L Y k hL hk
  rcases List.eq_nil_or_concat L with rfl | ⟨L',z,rfl⟩
  · simp at hL
  · rw [List.concat_eq_append] at *
    have hL':L'.length=r:=by simpa using hL
    simp only [shD]
    have e0:X++((L'++[z])++y :: Y)=(X++L')++z :: y :: Y:=by simp
    obtain ⟨k',rfl⟩:∃ k',k=k'+1:=⟨k - 1,by omega⟩
    rw [e0,Nat.add_sub_cancel,List.set_comm _ _ ya_,c6f (X++L') z y Y (k:=k') yh_]
    have:=ih X L' (z :: Y) k' hL' ya_
    simpa using this
theorem piece (A L Z:List α) {a k:Nat} (ha:a=A.length) (hk:k=L.length):((A++(L++Z)).drop a).take k=L:=by
 subst ha hk
 rw [List.drop_append_of_le_length (Nat.le_refl _),List.drop_length,List.nil_append,List.take_append_of_le_length (Nat.le_refl _),List.take_length]
theorem yC (lt:α->α->Bool) (A L R B:List α) {a m b:Nat} (ha:a=A.length) (hm:m=A.length+L.length) (hb:b=A.length+L.length+R.length):mAt lt a m b (A++(L++(R++B)))=A++(mg lt L R++B):=by
 unfold mAt
 have h1:(A++(L++(R++B))).take a=A:=by subst ha; rw [List.take_append_of_le_length (Nat.le_refl _),List.take_length]
 have h2:((A++(L++(R++B))).drop a).take (m - a)=L:=piece A L (R++B) ha ya_
 have h3:((A++(L++(R++B))).drop m).take (b - m)=R:=by
  have:=piece (A++L) R B (a:=m) (k:=b - m) yh_ ya_
  simpa using this
 have h4:(A++(L++(R++B))).drop b=B:=by
  have e:A++(L++(R++B))=(A++(L++R))++B:=by simp
  rw [e,List.drop_append_of_le_length yh_,List.drop_of_length_le yh_,List.nil_append]
 rw [h1,h2,h3,h4]
theorem sm1 (A L1 L2 R1 R2 B:List α) {l:List α} (hl:l=A++(L1++(L2++(R1++(R2++B))))) {s m e:Nat} (hs:s=A.length+L1.length) (hm:m=s+L2.length) (he:e=m+R1.length) :
 (if s < m/\m < e then O8 s m e l else l)=A++(L1++(R1++(L2++(R2++B)))):=by
 subst hl
 split
 · rename_i h
   have:=b3o (A++L1) L2 R1 (R2++B) (a:=s) (m:=m) (b:=e) yh_ yh_ yh_ ya_ ya_
   simpa using this
 · rename_i h
   rcases Nat.eq_zero_or_pos L2.length with h1 | h1
   · obtain rfl:L2=[]:=List.eq_nil_of_length_eq_zero h1
     rfl
   · obtain rfl:R1=[]:=List.eq_nil_of_length_eq_zero ya_
     rfl
theorem sm2 (lt:α->α->Bool) (A L1 R1 Z:List α) {a s mid:Nat} (ha:a=A.length) (hs:s=a+L1.length) (hmid:mid=s+R1.length) :
 (if a < s/\s < mid then mAt lt a s mid (A++(L1++(R1++Z))) else A++(L1++(R1++Z)))=A++(mg lt L1 R1++Z):=by
 split
 · exact yC lt A L1 R1 Z ha ya_ ya_
 · rename_i h
   rcases Nat.eq_zero_or_pos L1.length with h1 | h1
   · obtain rfl:L1=[]:=List.eq_nil_of_length_eq_zero h1
     rw [aA]; rfl
   · obtain rfl:R1=[]:=List.eq_nil_of_length_eq_zero ya_
     rw [eB]; rfl
theorem sm3 (lt:α->α->Bool) (A M L2 R2 B:List α) {mid e b:Nat} (hm:mid=A.length+M.length) (he:e=mid+L2.length) (hb:b=e+R2.length) :
 (if mid < e/\e < b then mAt lt mid e b (A++(M++(L2++(R2++B)))) else A++(M++(L2++(R2++B))))=A++(M++(mg lt L2 R2++B)):=by
 have:=sm2 lt (A++M) L2 R2 B (a:=mid) (s:=e) (mid:=b) yh_ he hb
 simpa using this
theorem rA (X U V Y:List α) {l:List α} (hl:l=X++(U++(V++Y))) {a m b:Nat} (ha:a=X.length) (hm:m=a+U.length) (hb:b=m+V.length) (h1:0 < U.length) (h2:0 < V.length) :
 (J3 m (m - a+(b - m)) (m - a) (b - m) l).1.length=l.length/\(J3 m (m - a+(b - m)) (m - a) (b - m) l).2<=m - a/\(J3 m (m - a+(b - m)) (m - a) (b - m) l).2<=b - m:=by
 have e1:m - a=U.length:=by omega
 have e2:b - m=V.length:=by omega
 rw [e1,e2,hl]
 obtain ⟨_,k2,k3,k4,_⟩:=a2a m _ (U.length+V.length) X U V Y U.length V.length ya_ h1 h2 rfl rfl ya_ rfl
 exact ⟨by rw [k4]; simp; omega,k2,k3⟩
end
def zP:Ann:={ base:=1,fin:=some 1,live:=[(1,[0,1,2,3,10])],out:=[(1,[0,1,2,3,10])] }
@[simp] abbrev c7u (a:Nat) (b:l9C) (c:Nat) (d:Nat) (e:Nat):Heap:=[(o_ a 9 (mC ((b.set (c+d) (nth b (e+d))).set (e+d) (nth b (c+d)))))]
@[simp] abbrev b6X (a:Nat) (b:Nat) (c:Nat) (d:Nat) (e:Nat) (f:Nat):Fr:=(mkF 38 [(0,(AV.osl 0 a 9 0 b)),(1,(iN c)),(2,(iN d)),(3,(iN e)),(10,(iN f))])
@[simp] abbrev a3x (a:l9C) (b c:Nat):=(AV.agg (j5.row (nth a (b+c))))
theorem a7v (a:Nat) (b:Nat) (k:Nat) (n:Nat) (g:Nat) (l:l9C) (i:Nat) (hab:a+k<=b) (hb:b+k<=n) (hnb:n < 1048576) (hn:n=l.length) (hle_:i<=k) {eX:Ex} {FX:Fr} {HX:Heap} (k1:(decide ((i:Int) < (k:Int)))=true->j6 (l9 Tryz.prog (X zP) (p9 Tryz.f245 0)) (some [0,1,2,3,10]) (some [0,1,2,3,10]) (mkF 38 [(0,(AV.osl 0 g 9 0 n)),(1,(iN a)),(2,(iN b)),(3,(iN k)),(10,(iN (i+1)))]) (c7u g l a i b) eX FX HX) (k2:(decide ((i:Int) < (k:Int)))=false->((.exit 0:Ex),(b6X g n a b k i),[(o_ g 9 (mC l))])=(eX,FX,HX)):j6 (l9 Tryz.prog (X zP) (p9 Tryz.f245 0)) (some [0,1,2,3,10]) (some [0,1,2,3,10]) (b6X g n a b k i) [(o_ g 9 (mC l))] eX FX HX :=
 F7 (.r (.g (.two (decide ((i:Int) < (k:Int))) (fun h1 h1'=>(.r (.y 3 (.int .i64 (gP a i)) (iN (a+i)) Yes.o (.y 7 (.int .i64 (gP b i)) (iN (b+i)) Yes.o (.y 11 (.int .i64 (gP b i)) (iN (b+i)) Yes.o (.io 12 0 g 9 9 0 n ((b+i:Nat):Int) (b+i) (E9.mk _ ow ow) (.t 13 (a3x l b i) [(o_ g 9 (mC l))] (G9 (C8 (row:=j5.row) (l:=l) (k:=9) (room:=none) kr om) kr:K3 tt 39 0 [(o_ g 9 (mC l))] (rowAt [(o_ g 9 (mC l))] 0 g (b+i))=some ((a3x l b i),([(o_ g 9 (mC l))]:Heap))) (.y 17 (.int .i64 (gP a i)) (iN (a+i)) Yes.o (.io 18 0 g 9 9 0 n ((a+i:Nat):Int) (a+i) (E9.mk _ ow ow) (.t 19 (a3x l a i) [(o_ g 9 (mC l))] (G9 (C8 (row:=j5.row) (l:=l) (k:=9) (room:=none) kr om) kr:K3 tt 39 0 [(o_ g 9 (mC l))] (rowAt [(o_ g 9 (mC l))] 0 g (a+i))=some ((a3x l a i),([(o_ g 9 (mC l))]:Heap))) (.io 20 0 g 9 9 0 n ((a+i:Nat):Int) (a+i) (E9.mk _ ow ow) (.st 21 0 g (a+i) 9 0 (a3x l b i) [(o_ g 9 (mC (l.set (a+i) (nth l (b+i)))))] (Q5 (us:=(j5.row (nth l (b+i)))) (C8 (row:=j5.row) (l:=l) (k:=9) (room:=none) kr om) kr xI xH) (.io 22 0 g 9 9 0 n ((b+i:Nat):Int) (b+i) (E9.mk _ ow ow) (.st 23 0 g (b+i) 9 0 (a3x l a i) (c7u g l a i b) (Q5 (us:=(j5.row (nth l (a+i)))) (C8 (row:=j5.row) (l:=l.set (a+i) (nth l (b+i))) (k:=9) (room:=none) kr om) kr xI xH) (.s (.y 1 (.int .i64 (cb_ i)) (iN (i+1)) Yes.o (.g (.l (k1 h1))))))))))))))))))) (fun h1 h1'=>(.l (k2 h1))))))
def c6h (a:Nat) (b:Nat) (k:Nat) (n:Nat) (g:Nat) (i:Nat) (s:(List j5)):(List j5):=((s.set (a+i) (nth s (b+i))).set (b+i) (nth s (a+i)))
@[simp] abbrev c7t (a:Nat) (b:Nat) (c:Nat) (d:Nat) (e:Nat):Fr:=(mkF 38 [(0,(AV.osl 0 a 9 0 b)),(1,(iN c)),(2,(iN d)),(3,(iN e)),(10,(iN e))])
theorem c3n (a:Nat) (b:Nat) (k:Nat) (n:Nat) (g:Nat) (hab:a+k<=b) (hb:b+k<=n) (hnb:n < 1048576)  (r_:Nat):∀ (l:l9C) (i:Nat) (sF:(l9C)),i+r_=k->n=l.length->sF=iter (c6h a b k n g) r_ i (l) ->
 j6 (l9 Tryz.prog (X zP) (p9 Tryz.f245 0)) (some [0,1,2,3,10]) (some [0,1,2,3,10]) (b6X g n a b k i) [(o_ g 9 (mC l))] (.exit 0) (c7t g n a b k) [(o_ g 9 (mC sF))]:=by
 induction r_ with
 | zero =>
  intro l i sF hi_ hn  hF
  obtain rfl:k=i:=by omega
  have e_:sF=(l):=hF
  refine a7v a b k n g l k hab hb hnb hn (Nat.le_refl _) (fun h=>by simp at h <;> omega) (fun _=>?_)
  first | done | rfl | (rw [e_]; done) | (rw [e_]; rfl)
 | succ r_ ih =>
  intro l i sF hi_ hn  hF
  refine a7v a b k n g l i hab hb hnb hn ow (fun h1=>?_) (fun h=>by simp at h <;> omega)
  · exact ih ((l.set (a+i) (nth l (b+i))).set (b+i) (nth l (a+i))) (i+1) sF ow N9  (by rw [hF] <;> simp only [iter,c6h,if_true,Bool.false_eq_true,if_false])
theorem c3m (f:Nat) (xs:List AV) (a b k n g:Nat) (l:l9C) (hxs:AV.bdds 1 xs=true) (hn:n=l.length) (hnb:n < 1048576) (hab:a+k<=b) (hb:b+k<=n):AC 245 [(AV.osl 0 g 9 0 n),(iN a),(iN b),(iN k),(AV.func f xs)] [(o_ g 9 (mC l))] ((AV.tup []),[(o_ g 9 (mC (R5 a b k l)))]) :=
 o9 (fn:=Tryz.f245) (ann:=zP) (Has.o Tryz.func245) (.r (.g (.loop (c7t g n a b k) (c3n a b k n g hab hb hnb k l 0 (R5 a b k l) ow hn rfl) (.q 1 (AV.tup [])))))
theorem a7w (f:Nat) (xs:List AV) (a b k n g:Nat) (l:l9C) (hxs:AV.bdds 1 xs=true) (hn:n=l.length) (hnb:n < 1048576) (hab:a+k<=b) (hb:b+k<=n) (H:Heap):AC 245 [(AV.osl 0 g 9 0 n),(iN a),(iN b),(iN k),(AV.func f xs)] (([(o_ g 9 (mC l))]:Heap)++H) ((AV.tup []),([(o_ g 9 (mC (R5 a b k l)))]:Heap)++H):=(c3m f xs a b k n g l hxs hn hnb hab hb).ext nP kr ob ob kr H
def a3i:Ann:={ base:=1,fin:=some 1,live:=[(2,[0,2,4,10,11])],out:=[(2,[0,2,4,10,11])] }
@[simp] abbrev c7s (a:Nat) (b:Nat) (c:Nat) (d:Nat) (e:l9C):Heap:=[(o_ a 9 (mC (R5 (b - c) (b+d - c) c e)))]
@[simp] abbrev c7r (a:Nat) (b:Nat) (c:Nat) (d:Nat) (e:List AV) (f:Nat) (g:Nat):Fr:=(mkF 58 [(0,(AV.osl 0 a 9 0 b)),(2,(iN c)),(4,(AV.func d e)),(10,(iN f)),(11,(iN g))])
@[simp] abbrev c4N :=(l9 Tryz.prog (X a3i) (p9 Tryz.f244 0))
theorem c3o (f:Nat) (xs:List AV) (p n g:Nat) (i j:Nat) (l:l9C) (hxs:AV.bdds 1 xs=true) (hn:n=l.length) (hnb:n < 1048576) (hi:0 < i) (hj:0 < j) (hip:i<=p) (hjp:p+j<=n) {eX:Ex} {FX:Fr} {HX:Heap} (k1:((i:Int) != (j:Int))=true->(decide ((i:Int) > (j:Int)))=true->j6 c4N (some [0,2,4,10,11]) (some [0,2,4,10,11]) (mkF 58 [(0,(AV.osl 0 g 9 0 n)),(2,(iN p)),(4,(AV.func f xs)),(10,(iN (i - j))),(11,(iN j))]) [(o_ g 9 (mC (R5 (p - i) p j l)))] eX FX HX) (k2:((i:Int) != (j:Int))=true->(decide ((i:Int) > (j:Int)))=false->j6 c4N (some [0,2,4,10,11]) (some [0,2,4,10,11]) (mkF 58 [(0,(AV.osl 0 g 9 0 n)),(2,(iN p)),(4,(AV.func f xs)),(10,(iN i)),(11,(iN (j - i)))]) (c7s g p i j l) eX FX HX) (k3:((i:Int) != (j:Int))=false->((.exit 0:Ex),(c7r g n p f xs i j),[(o_ g 9 (mC l))])=(eX,FX,HX)):j6 c4N (some [0,2,4,10,11]) (some [0,2,4,10,11]) (c7r g n p f xs i j) [(o_ g 9 (mC l))] eX FX HX :=
 F7 (.r (.g (.two ((i:Int) != (j:Int)) (fun h1 h1'=>(.r (.g (.two (decide ((i:Int) > (j:Int))) (fun h2 h2'=>(.r (.y 3 (.int .i64 (oG p i)) (iN (p - i)) Yes.o (.ch 7 [(o_ g 9 (mC (R5 (p - i) p j l)))] (a7w f xs (p - i) p j n g l Z4 Z4 Z4 Z4 Z4 []) (.s (.y 2 (.int .i64 (oG i j)) (iN (i - j)) Yes.o (.g (.l (k1 h1 h2))))))))) (fun h2 h2'=>(.r (.y 3 (.int .i64 (oG p i)) (iN (p - i)) Yes.o (.y 6 (.int .i64 (gP p j)) (iN (p+j)) Yes.o (.y 8 (iW (((p+j:Nat):Int) - (i:Int))) (iN (p+j - i)) Yes.o (.ch 11 (c7s g p i j l) (a7w f xs (p - i) (p+j - i) i n g l Z4 Z4 Z4 Z4 Z4 []) (.s (.y 2 (.int .i64 (oG j i)) (iN (j - i)) Yes.o (.g (.l (k2 h1 h2))))))))))))))) (fun h1 h1'=>(.l (k3 h1))))))
theorem c3q (f:Nat) (xs:List AV) (p n g:Nat) (hxs:AV.bdds 1 xs=true) (r:Nat):∀ (i j:Nat) (l:l9C),i+j<=r+1->n=l.length->n < 1048576->0 < i->0 < j->i<=p->p+j<=n ->
 j6 (l9 Tryz.prog (X a3i) (p9 Tryz.f244 0)) (some [0,2,4,10,11]) (some [0,2,4,10,11]) (mkF 58 [(0,(AV.osl 0 g 9 0 n)),(2,(iN p)),(4,(AV.func f xs)),(10,(iN i)),(11,(iN j))]) [(o_ g 9 (mC l))] (.exit 0) (mkF 58 [(0,(AV.osl 0 g 9 0 n)),(2,(iN p)),(4,(AV.func f xs)),(10,(iN ((J3 p r i j l).2))),(11,(iN ((J3 p r i j l).2)))]) [(o_ g 9 (mC (J3 p r i j l).1))]:=by
 induction r with
 | zero=>intro i j l h1 hn hnb hi hj; omega
 | succ r ih =>
  intro i j l h1 hn hnb hi hj hip hjp
  refine c3o f xs p n g i j l hxs hn hnb hi hj hip hjp (fun h2 h3=>?_) (fun h2 h3=>?_) (fun h2=>?_)
  · have h2':i≠j:=by simp at h2; omega
    have h3':j < i:=by simp at h3; omega
    simp only [J3,if_neg h2',if_pos h3']
    exact ih (i - j) j _ ow b2a hnb ow hj ow hjp
  · have h2':i≠j:=by simp at h2; omega
    have h3':¬ j < i:=by simp at h3; omega
    simp only [J3,if_neg h2',if_neg h3']
    exact ih i (j - i) _ ow b2a hnb hi ow hip ow
  · have h2':i=j:=by simp at h2; omega
    simp only [J3,if_pos h2']
    subst h2'
    rfl
@[simp] abbrev d2s (a:Nat) (b:Nat) (c:Nat) (d:Nat) (e:List AV) (f:Nat) (g:Nat) (h:l9C):Fr:=(mkF 58 [(0,(AV.osl 0 a 9 0 b)),(2,(iN c)),(4,(AV.func d e)),(10,(iN ((J3 c (c - f+(g - c)) (c - f) (g - c) h).2))),(11,(iN ((J3 c (c - f+(g - c)) (c - f) (g - c) h).2)))])
theorem c3p (f:Nat) (xs:List AV) (a p b n g:Nat) (l:l9C) (hxs:AV.bdds 1 xs=true) (hn:n=l.length) (hnb:n < 1048576) (hap:a < p) (hpb:p < b) (hbn:b<=n) (hl2:(J3 p (p - a+(b - p)) (p - a) (b - p) l).1.length=l.length) (hk:(J3 p (p - a+(b - p)) (p - a) (b - p) l).2<=p - a) (hk2:(J3 p (p - a+(b - p)) (p - a) (b - p) l).2<=b - p):AC 244 [(AV.osl 0 g 9 0 n),(iN a),(iN p),(iN b),(AV.func f xs)] [(o_ g 9 (mC l))] ((AV.tup []),[(o_ g 9 (mC (O8 a p b l)))]) :=
 o9 (fn:=Tryz.f244) (ann:=a3i) (Has.o Tryz.func244) (.r (.y 2 (.int .i64 (oG p a)) (iN (p - a)) Yes.o (.s (.y 2 (.int .i64 (oG b p)) (iN (b - p)) Yes.o (.g (.loop (d2s g n p f xs a b l) (c3q f xs p n g hxs (p - a+(b - p)) (p - a) (b - p) l ow hn hnb ow ow ow ow) (.r (.y 3 (iW ((p:Int) - (((J3 p (p - a+(b - p)) (p - a) (b - p) l).2:Nat):Int))) (iN (p - (J3 p (p - a+(b - p)) (p - a) (b - p) l).2)) Yes.o (.ch 7 [(o_ g 9 (mC (R5 (p - (J3 p (p - a+(b - p)) (p - a) (b - p) l).2) p (J3 p (p - a+(b - p)) (p - a) (b - p) l).2 (J3 p (p - a+(b - p)) (p - a) (b - p) l).1)))] (a7w f xs (p - (J3 p (p - a+(b - p)) (p - a) (b - p) l).2) p (J3 p (p - a+(b - p)) (p - a) (b - p) l).2 n g (J3 p (p - a+(b - p)) (p - a) (b - p) l).1 Z4 Z4 Z4 Z4 Z4 []) (.q 1 (AV.tup [])))))))))))
theorem b9w (f:Nat) (xs:List AV) (a p b n g:Nat) (l:l9C) (hxs:AV.bdds 1 xs=true) (hn:n=l.length) (hnb:n < 1048576) (hap:a < p) (hpb:p < b) (hbn:b<=n) (hl2:(J3 p (p - a+(b - p)) (p - a) (b - p) l).1.length=l.length) (hk:(J3 p (p - a+(b - p)) (p - a) (b - p) l).2<=p - a) (hk2:(J3 p (p - a+(b - p)) (p - a) (b - p) l).2<=b - p) (H:Heap):AC 244 [(AV.osl 0 g 9 0 n),(iN a),(iN p),(iN b),(AV.func f xs)] (([(o_ g 9 (mC l))]:Heap)++H) ((AV.tup []),([(o_ g 9 (mC (O8 a p b l)))]:Heap)++H):=(c3p f xs a p b n g l hxs hn hnb hap hpb hbn hl2 hk hk2).ext nP kr ob ob kr H
def Y1:Ann:={ base:=1,fin:=some 1,live:=[(3,[0,1,4,10,11]),(9,[0,10,13]),(15,[0,2,4,14,15]),(21,[0,14,17]),(33,[0,1,2,3,4,18,19,20,21,22])],out:=[(3,[0,1,10]),(9,[0,10,13]),(15,[0,2,14]),(21,[0,14,17]),(33,[0,1,2,3,4,18,19,20])] }
@[simp] abbrev c4M :=(l9 Tryz.prog (X Y1) (p9 Tryz.f241 0))
@[simp] abbrev a3w (a:l9C) (b c:Nat):=(AV.agg (j5.row (nth a ((b+c) / 2))))
theorem a6K (cmp:j5->j5->Int) (f:Nat) (xs:List AV) (hc:h9C cmp f xs) (a n g:Nat) (l:l9C) (lo hi:Nat) (hn:n=l.length) (hnb:n < 1048576) (ha:a < n) (hlh:lo<=hi) (hhi:hi<=n) {eX:Ex} {FX:Fr} {HX:Heap} (k1:(decide ((lo:Int) < (hi:Int)))=true->(decide ((cmp (nth l ((lo+hi) / 2)) (nth l a)) < 0))=true->j6 c4M (some [0,1,4,10,11]) (some [0,1,10]) (mkF 220 [(0,(AV.osl 0 g 9 0 n)),(1,(iN a)),(4,(AV.func f xs)),(10,(oF lo hi)),(11,(iN hi))]) [(o_ g 9 (mC l))] eX FX HX) (k2:(decide ((lo:Int) < (hi:Int)))=true->(decide ((cmp (nth l ((lo+hi) / 2)) (nth l a)) < 0))=false->j6 c4M (some [0,1,4,10,11]) (some [0,1,10]) (mkF 220 [(0,(AV.osl 0 g 9 0 n)),(1,(iN a)),(4,(AV.func f xs)),(10,(iN lo)),(11,(iN (((lo+hi) / 2))))]) [(o_ g 9 (mC l))] eX FX HX) (k3:(decide ((lo:Int) < (hi:Int)))=false->((.exit 0:Ex),(mkF 220 [(0,(AV.osl 0 g 9 0 n)),(1,(iN a)),(10,(iN lo))]),[(o_ g 9 (mC l))])=(eX,FX,HX)):j6 c4M (some [0,1,4,10,11]) (some [0,1,10]) (mkF 220 [(0,(AV.osl 0 g 9 0 n)),(1,(iN a)),(4,(AV.func f xs)),(10,(iN lo)),(11,(iN hi))]) [(o_ g 9 (mC l))] eX FX HX :=
 F7 (.r (.g (.two (decide ((lo:Int) < (hi:Int))) (fun h1 h1'=>(.r (.y 2 (.int .i64 (gP lo hi)) (iN (lo+hi)) Yes.o (.y 5 (a3A lo hi) (iN (((lo+hi) / 2))) (Yes.int (eD ow (rfl))) (.s (.io 3 0 g 9 9 0 n ((((lo+hi) / 2):Nat):Int) ((lo+hi) / 2) (E9.mk _ ow ow) (.t 4 (a3w l lo hi) [(o_ g 9 (mC l))] (G9 (C8 (row:=j5.row) (l:=l) (k:=9) (room:=none) kr om) kr:K3 tt 39 0 [(o_ g 9 (mC l))] (rowAt [(o_ g 9 (mC l))] 0 g ((lo+hi) / 2))=some ((a3w l lo hi),([(o_ g 9 (mC l))]:Heap))) (.io 7 0 g 9 9 0 n (a:Int) a (E9.mk _ ow ow) (.t 8 (co_ l a) [(o_ g 9 (mC l))] (G9 (C8 (row:=j5.row) (l:=l) (k:=9) (room:=none) kr om) kr:K3 tt 39 0 [(o_ g 9 (mC l))] (rowAt [(o_ g 9 (mC l))] 0 g a)=some ((co_ l a),([(o_ g 9 (mC l))]:Heap))) (.c 9 (hc (nth l ((lo+hi) / 2)) (nth l a) [(o_ g 9 (mC l))]) (.g (.two (decide ((cmp (nth l ((lo+hi) / 2)) (nth l a)) < 0)) (fun h2 h2'=>(.r (.y 1 (.int .i64 (a3y lo hi)) (oF lo hi) Yes.o (.g (.l (k1 h1 h2)))))) (fun h2 h2'=>(.r (.g (.l (k2 h1 h2))))))))))))))))) (fun h1 h1'=>(.l (k3 h1))))))
theorem c2d (cmp:j5->j5->Int) (f:Nat) (xs:List AV) (hc:h9C cmp f xs) (a n g:Nat) (l:l9C) (hn:n=l.length) (hnb:n < 1048576) (ha:a < n) (r:Nat):∀ (lo hi:Nat),hi - lo<=r->lo<=hi->hi<=n ->
 j6 (l9 Tryz.prog (X Y1) (p9 Tryz.f241 0)) (some [0,1,4,10,11]) (some [0,1,10]) (mkF 220 [(0,(AV.osl 0 g 9 0 n)),(1,(iN a)),(4,(AV.func f xs)),(10,(iN lo)),(11,(iN hi))]) [(o_ g 9 (mC l))] (.exit 0) (mkF 220 [(0,(AV.osl 0 g 9 0 n)),(1,(iN a)),(10,(iN ((bsr (fun c=>decide (cmp (nth l c) (nth l a) < 0)) r lo hi))))]) [(o_ g 9 (mC l))]:=by
 induction r with
 | zero =>
  intro lo hi h1 h2 h3
  obtain rfl:lo=hi:=by omega
  refine a6K cmp f xs hc a n g l lo lo hn hnb ha h2 h3 (fun h _=>by simp at h) (fun h _=>by simp at h) (fun _=>?_)
  simp only [bsr]
 | succ r ih =>
  intro lo hi h1 h2 h3
  refine a6K cmp f xs hc a n g l lo hi hn hnb ha h2 h3 (fun h4 h5=>?_) (fun h4 h5=>?_) (fun h4=>?_)
  · have h4':lo < hi:=by simp at h4; omega
    simp only [bsr,if_pos h4']
    rw [if_pos X9]
    exact ih ((lo+hi) / 2+1) hi ow ow ow
  · have h4':lo < hi:=by simp at h4; omega
    simp only [bsr,if_pos h4']
    rw [if_neg X9]
    exact ih lo ((lo+hi) / 2) ow ow ow
  · have h4':¬ lo < hi:=by simp at h4; omega
    simp only [bsr,if_neg h4']
@[simp] abbrev c4L :=(l9 Tryz.prog (X Y1) (p9 Tryz.f241 2))
theorem a6J (cmp:j5->j5->Int) (f:Nat) (xs:List AV) (hc:h9C cmp f xs) (p n g:Nat) (l:l9C) (lo hi:Nat) (hn:n=l.length) (hnb:n < 1048576) (ha:p < n) (hlh:lo<=hi) (hhi:hi<=n) {eX:Ex} {FX:Fr} {HX:Heap} (k1:(decide ((lo:Int) < (hi:Int)))=true->(!(decide ((cmp (nth l p) (nth l ((lo+hi) / 2))) < 0)))=true->j6 c4L (some [0,2,4,14,15]) (some [0,2,14]) (mkF 220 [(0,(AV.osl 0 g 9 0 n)),(2,(iN p)),(4,(AV.func f xs)),(14,(oF lo hi)),(15,(iN hi))]) [(o_ g 9 (mC l))] eX FX HX) (k2:(decide ((lo:Int) < (hi:Int)))=true->(!(decide ((cmp (nth l p) (nth l ((lo+hi) / 2))) < 0)))=false->j6 c4L (some [0,2,4,14,15]) (some [0,2,14]) (mkF 220 [(0,(AV.osl 0 g 9 0 n)),(2,(iN p)),(4,(AV.func f xs)),(14,(iN lo)),(15,(iN (((lo+hi) / 2))))]) [(o_ g 9 (mC l))] eX FX HX) (k3:(decide ((lo:Int) < (hi:Int)))=false->((.exit 4:Ex),(mkF 220 [(0,(AV.osl 0 g 9 0 n)),(2,(iN p)),(14,(iN lo))]),[(o_ g 9 (mC l))])=(eX,FX,HX)):j6 c4L (some [0,2,4,14,15]) (some [0,2,14]) (mkF 220 [(0,(AV.osl 0 g 9 0 n)),(2,(iN p)),(4,(AV.func f xs)),(14,(iN lo)),(15,(iN hi))]) [(o_ g 9 (mC l))] eX FX HX :=
 F7 (.r (.g (.two (decide ((lo:Int) < (hi:Int))) (fun h1 h1'=>(.r (.y 2 (.int .i64 (gP lo hi)) (iN (lo+hi)) Yes.o (.y 5 (a3A lo hi) (iN (((lo+hi) / 2))) (Yes.int (eD ow (rfl))) (.s (.io 3 0 g 9 9 0 n (p:Int) p (E9.mk _ ow ow) (.t 4 (co_ l p) [(o_ g 9 (mC l))] (G9 (C8 (row:=j5.row) (l:=l) (k:=9) (room:=none) kr om) kr:K3 tt 39 0 [(o_ g 9 (mC l))] (rowAt [(o_ g 9 (mC l))] 0 g p)=some ((co_ l p),([(o_ g 9 (mC l))]:Heap))) (.io 7 0 g 9 9 0 n ((((lo+hi) / 2):Nat):Int) ((lo+hi) / 2) (E9.mk _ ow ow) (.t 8 (a3w l lo hi) [(o_ g 9 (mC l))] (G9 (C8 (row:=j5.row) (l:=l) (k:=9) (room:=none) kr om) kr:K3 tt 39 0 [(o_ g 9 (mC l))] (rowAt [(o_ g 9 (mC l))] 0 g ((lo+hi) / 2))=some ((a3w l lo hi),([(o_ g 9 (mC l))]:Heap))) (.c 9 (hc (nth l p) (nth l ((lo+hi) / 2)) [(o_ g 9 (mC l))]) (.g (.two (!(decide ((cmp (nth l p) (nth l ((lo+hi) / 2))) < 0))) (fun h2 h2'=>(.r (.y 1 (.int .i64 (a3y lo hi)) (oF lo hi) Yes.o (.g (.l (k1 h1 h2)))))) (fun h2 h2'=>(.r (.g (.l (k2 h1 h2))))))))))))))))) (fun h1 h1'=>(.l (k3 h1))))))
theorem c2c (cmp:j5->j5->Int) (f:Nat) (xs:List AV) (hc:h9C cmp f xs) (p n g:Nat) (l:l9C) (hn:n=l.length) (hnb:n < 1048576) (ha:p < n) (r:Nat):∀ (lo hi:Nat),hi - lo<=r->lo<=hi->hi<=n ->
 j6 (l9 Tryz.prog (X Y1) (p9 Tryz.f241 2)) (some [0,2,4,14,15]) (some [0,2,14]) (mkF 220 [(0,(AV.osl 0 g 9 0 n)),(2,(iN p)),(4,(AV.func f xs)),(14,(iN lo)),(15,(iN hi))]) [(o_ g 9 (mC l))] (.exit 4) (mkF 220 [(0,(AV.osl 0 g 9 0 n)),(2,(iN p)),(14,(iN ((bsr (fun c=>!decide (cmp (nth l p) (nth l c) < 0)) r lo hi))))]) [(o_ g 9 (mC l))]:=by
 induction r with
 | zero =>
  intro lo hi h1 h2 h3
  obtain rfl:lo=hi:=by omega
  refine a6J cmp f xs hc p n g l lo lo hn hnb ha h2 h3 (fun h _=>by simp at h) (fun h _=>by simp at h) (fun _=>?_)
  simp only [bsr]
 | succ r ih =>
  intro lo hi h1 h2 h3
  refine a6J cmp f xs hc p n g l lo hi hn hnb ha h2 h3 (fun h4 h5=>?_) (fun h4 h5=>?_) (fun h4=>?_)
  · have h4':lo < hi:=by simp at h4; omega
    simp only [bsr,if_pos h4']
    rw [if_pos X9]
    exact ih ((lo+hi) / 2+1) hi ow ow ow
  · have h4':lo < hi:=by simp at h4; omega
    simp only [bsr,if_pos h4']
    rw [if_neg X9]
    exact ih lo ((lo+hi) / 2) ow ow ow
  · have h4':¬ lo < hi:=by simp at h4; omega
    simp only [bsr,if_neg h4']
@[simp] abbrev c4K :=(l9 Tryz.prog (X Y1) (p9 Tryz.f241 4))
theorem a6H (cmp:j5->j5->Int) (f:Nat) (xs:List AV) (hc:h9C cmp f xs) (a p b mid nn q n g:Nat) (l:l9C) (lo hi:Nat) (hn:n=l.length) (hnb:n < 1048576) (hlh:lo<=hi) (hhi:hi<=n/\hi<=q+1/\q < n+lo) {eX:Ex} {FX:Fr} {HX:Heap} (k1:(decide ((lo:Int) < (hi:Int)))=true->(!(decide ((cmp (nth l (q - ((lo+hi) / 2))) (nth l ((lo+hi) / 2))) < 0)))=true->j6 c4K (some [0,1,2,3,4,18,19,20,21,22]) (some [0,1,2,3,4,18,19,20]) (mkF 220 [(0,(AV.osl 0 g 9 0 n)),(1,(iN a)),(2,(iN p)),(3,(iN b)),(4,(AV.func f xs)),(18,(iN mid)),(19,(iN nn)),(20,(oF lo hi)),(21,(iN hi)),(22,(iN q))]) [(o_ g 9 (mC l))] eX FX HX) (k2:(decide ((lo:Int) < (hi:Int)))=true->(!(decide ((cmp (nth l (q - ((lo+hi) / 2))) (nth l ((lo+hi) / 2))) < 0)))=false->j6 c4K (some [0,1,2,3,4,18,19,20,21,22]) (some [0,1,2,3,4,18,19,20]) (mkF 220 [(0,(AV.osl 0 g 9 0 n)),(1,(iN a)),(2,(iN p)),(3,(iN b)),(4,(AV.func f xs)),(18,(iN mid)),(19,(iN nn)),(20,(iN lo)),(21,(iN (((lo+hi) / 2)))),(22,(iN q))]) [(o_ g 9 (mC l))] eX FX HX) (k3:(decide ((lo:Int) < (hi:Int)))=false->((.exit 8:Ex),(mkF 220 [(0,(AV.osl 0 g 9 0 n)),(1,(iN a)),(2,(iN p)),(3,(iN b)),(4,(AV.func f xs)),(18,(iN mid)),(19,(iN nn)),(20,(iN lo))]),[(o_ g 9 (mC l))])=(eX,FX,HX)):j6 c4K (some [0,1,2,3,4,18,19,20,21,22]) (some [0,1,2,3,4,18,19,20]) (mkF 220 [(0,(AV.osl 0 g 9 0 n)),(1,(iN a)),(2,(iN p)),(3,(iN b)),(4,(AV.func f xs)),(18,(iN mid)),(19,(iN nn)),(20,(iN lo)),(21,(iN hi)),(22,(iN q))]) [(o_ g 9 (mC l))] eX FX HX :=
 F7 (.r (.g (.two (decide ((lo:Int) < (hi:Int))) (fun h1 h1'=>(.r (.y 2 (.int .i64 (gP lo hi)) (iN (lo+hi)) Yes.o (.y 5 (a3A lo hi) (iN (((lo+hi) / 2))) (Yes.int (eD ow (rfl))) (.s (.y 4 (iW ((q:Int) - ((((lo+hi) / 2):Nat):Int))) (iN (q - ((lo+hi) / 2))) Yes.o (.io 5 0 g 9 9 0 n ((q - ((lo+hi) / 2):Nat):Int) (q - ((lo+hi) / 2)) (E9.mk _ ow ow) (.t 6 (AV.agg (j5.row (nth l (q - ((lo+hi) / 2))))) [(o_ g 9 (mC l))] (G9 (C8 (row:=j5.row) (l:=l) (k:=9) (room:=none) kr om) kr:K3 tt 39 0 [(o_ g 9 (mC l))] (rowAt [(o_ g 9 (mC l))] 0 g (q - ((lo+hi) / 2)))=some ((AV.agg (j5.row (nth l (q - ((lo+hi) / 2))))),([(o_ g 9 (mC l))]:Heap))) (.io 9 0 g 9 9 0 n ((((lo+hi) / 2):Nat):Int) ((lo+hi) / 2) (E9.mk _ ow ow) (.t 10 (a3w l lo hi) [(o_ g 9 (mC l))] (G9 (C8 (row:=j5.row) (l:=l) (k:=9) (room:=none) kr om) kr:K3 tt 39 0 [(o_ g 9 (mC l))] (rowAt [(o_ g 9 (mC l))] 0 g ((lo+hi) / 2))=some ((a3w l lo hi),([(o_ g 9 (mC l))]:Heap))) (.c 11 (hc (nth l (q - ((lo+hi) / 2))) (nth l ((lo+hi) / 2)) [(o_ g 9 (mC l))]) (.g (.two (!(decide ((cmp (nth l (q - ((lo+hi) / 2))) (nth l ((lo+hi) / 2))) < 0))) (fun h2 h2'=>(.r (.y 1 (.int .i64 (a3y lo hi)) (oF lo hi) Yes.o (.g (.l (k1 h1 h2)))))) (fun h2 h2'=>(.r (.g (.l (k2 h1 h2)))))))))))))))))) (fun h1 h1'=>(.l (k3 h1))))))
theorem a6I (cmp:j5->j5->Int) (f:Nat) (xs:List AV) (hc:h9C cmp f xs) (a p b mid nn q n g:Nat) (l:l9C) (hn:n=l.length) (hnb:n < 1048576) (r:Nat):∀ (lo hi:Nat),hi - lo<=r->lo<=hi->hi<=n/\hi<=q+1/\q < n+lo ->
 j6 (l9 Tryz.prog (X Y1) (p9 Tryz.f241 4)) (some [0,1,2,3,4,18,19,20,21,22]) (some [0,1,2,3,4,18,19,20]) (mkF 220 [(0,(AV.osl 0 g 9 0 n)),(1,(iN a)),(2,(iN p)),(3,(iN b)),(4,(AV.func f xs)),(18,(iN mid)),(19,(iN nn)),(20,(iN lo)),(21,(iN hi)),(22,(iN q))]) [(o_ g 9 (mC l))] (.exit 8) (mkF 220 [(0,(AV.osl 0 g 9 0 n)),(1,(iN a)),(2,(iN p)),(3,(iN b)),(4,(AV.func f xs)),(18,(iN mid)),(19,(iN nn)),(20,(iN ((bsr (fun c=>!decide (cmp (nth l (q - c)) (nth l c) < 0)) r lo hi))))]) [(o_ g 9 (mC l))]:=by
 induction r with
 | zero =>
  intro lo hi h1 h2 h3
  obtain rfl:lo=hi:=by omega
  refine a6H cmp f xs hc a p b mid nn q n g l lo lo hn hnb h2 h3 (fun h _=>by simp at h) (fun h _=>by simp at h) (fun _=>?_)
  simp only [bsr]
 | succ r ih =>
  intro lo hi h1 h2 h3
  refine a6H cmp f xs hc a p b mid nn q n g l lo hi hn hnb h2 h3 (fun h4 h5=>?_) (fun h4 h5=>?_) (fun h4=>?_)
  · have h4':lo < hi:=by simp at h4; omega
    simp only [bsr,if_pos h4']
    rw [if_pos X9]
    exact ih ((lo+hi) / 2+1) hi ow ow ow
  · have h4':lo < hi:=by simp at h4; omega
    simp only [bsr,if_pos h4']
    rw [if_neg X9]
    exact ih lo ((lo+hi) / 2) ow ow ow
  · have h4':¬ lo < hi:=by simp at h4; omega
    simp only [bsr,if_neg h4']
@[simp] abbrev c7q (a:Nat) (b:l9C) (c:Nat):Heap:=[(o_ a 9 (mC ((b.set c (nth b (c+1))).set (c+1) (nth b c))))]
@[simp] abbrev b6W (a:Nat) (b:Nat) (c:Nat) (d:Nat):Fr:=(mkF 220 [(0,(AV.osl 0 a 9 0 b)),(10,(iN c)),(13,(iN d))])
theorem a6F (i:Nat) (n:Nat) (g:Nat) (l:l9C) (kk:Nat) (hi1:1<=i) (hin:i<=n) (hnb:n < 1048576) (hn:n=l.length) (hle_:kk<=(i - 1)) {eX:Ex} {FX:Fr} {HX:Heap} (k1:(decide ((kk:Int) < ((i - 1:Nat):Int)))=true->j6 (l9 Tryz.prog (X Y1) (p9 Tryz.f241 1)) (some [0,10,13]) (some [0,10,13]) (mkF 220 [(0,(AV.osl 0 g 9 0 n)),(10,(iN i)),(13,(iN (kk+1)))]) (c7q g l kk) eX FX HX) (k2:(decide ((kk:Int) < ((i - 1:Nat):Int)))=false->((.exit 2:Ex),(b6W g n i kk),[(o_ g 9 (mC l))])=(eX,FX,HX)):j6 (l9 Tryz.prog (X Y1) (p9 Tryz.f241 1)) (some [0,10,13]) (some [0,10,13]) (b6W g n i kk) [(o_ g 9 (mC l))] eX FX HX :=
 F7 (.r (.y 2 (.int .i64 (ck_ i)) (iN (i - 1)) Yes.o (.g (.two (decide ((kk:Int) < ((i - 1:Nat):Int))) (fun h1 h1'=>(.r (.y 4 (.int .i64 (cb_ kk)) (iN (kk+1)) Yes.o (.y 7 (.int .i64 (cb_ kk)) (iN (kk+1)) Yes.o (.io 8 0 g 9 9 0 n ((kk+1:Nat):Int) (kk+1) (E9.mk _ ow ow) (.t 9 (AV.agg (j5.row (nth l (kk+1)))) [(o_ g 9 (mC l))] (G9 (C8 (row:=j5.row) (l:=l) (k:=9) (room:=none) kr om) kr:K3 tt 39 0 [(o_ g 9 (mC l))] (rowAt [(o_ g 9 (mC l))] 0 g (kk+1))=some ((AV.agg (j5.row (nth l (kk+1)))),([(o_ g 9 (mC l))]:Heap))) (.io 12 0 g 9 9 0 n (kk:Int) kk (E9.mk _ ow ow) (.t 13 (co_ l kk) [(o_ g 9 (mC l))] (G9 (C8 (row:=j5.row) (l:=l) (k:=9) (room:=none) kr om) kr:K3 tt 39 0 [(o_ g 9 (mC l))] (rowAt [(o_ g 9 (mC l))] 0 g kk)=some ((co_ l kk),([(o_ g 9 (mC l))]:Heap))) (.io 14 0 g 9 9 0 n (kk:Int) kk (E9.mk _ ow ow) (.st 15 0 g kk 9 0 (AV.agg (j5.row (nth l (kk+1)))) [(o_ g 9 (mC (l.set kk (nth l (kk+1)))))] (Q5 (us:=(j5.row (nth l (kk+1)))) (C8 (row:=j5.row) (l:=l) (k:=9) (room:=none) kr om) kr xI xH) (.io 16 0 g 9 9 0 n ((kk+1:Nat):Int) (kk+1) (E9.mk _ ow ow) (.st 17 0 g (kk+1) 9 0 (co_ l kk) (c7q g l kk) (Q5 (us:=(j5.row (nth l kk))) (C8 (row:=j5.row) (l:=l.set kk (nth l (kk+1))) (k:=9) (room:=none) kr om) kr xI xH) (.s (.y 1 (.int .i64 (cb_ kk)) (iN (kk+1)) Yes.o (.g (.l (k1 h1))))))))))))))))) (fun h1 h1'=>(.l (k2 h1)))))))
def b2P (i:Nat) (n:Nat) (g:Nat) (kk:Nat) (s:(List j5)):(List j5):=((s.set kk (nth s (kk+1))).set (kk+1) (nth s kk))
theorem c1Y (i:Nat) (n:Nat) (g:Nat) (hi1:1<=i) (hin:i<=n) (hnb:n < 1048576)  (r_:Nat):∀ (l:l9C) (kk:Nat) (sF:(l9C)),kk+r_=(i - 1)->n=l.length->sF=iter (b2P i n g) r_ kk (l) ->
 j6 (l9 Tryz.prog (X Y1) (p9 Tryz.f241 1)) (some [0,10,13]) (some [0,10,13]) (b6W g n i kk) [(o_ g 9 (mC l))] (.exit 2) (mkF 220 [(0,(AV.osl 0 g 9 0 n)),(10,(iN i)),(13,(iN ((i - 1))))]) [(o_ g 9 (mC sF))]:=by
 induction r_ with
 | zero =>
  intro l kk sF hi_ hn  hF
  obtain rfl:(i - 1)=kk:=by omega
  have e_:sF=(l):=hF
  refine a6F i n g l (i - 1) hi1 hin hnb hn (Nat.le_refl _) (fun h=>by simp at h <;> omega) (fun _=>?_)
  first | done | rfl | (rw [e_]; done) | (rw [e_]; rfl)
 | succ r_ ih =>
  intro l kk sF hi_ hn  hF
  refine a6F i n g l kk hi1 hin hnb hn ow (fun h1=>?_) (fun h=>by simp at h <;> omega)
  · exact ih ((l.set kk (nth l (kk+1))).set (kk+1) (nth l kk)) (kk+1) sF ow N9  (by rw [hF] <;> simp only [iter,b2P,if_true,Bool.false_eq_true,if_false])
theorem c1Z (i n g r k:Nat) (l:l9C):shU r k l=iter (b2P i n g) r k l:=rfl
@[simp] abbrev c1f (a:Nat) (b:Nat) (c:Nat) (d:Nat):Fr:=(mkF 220 [(0,(AV.osl 0 a 9 0 b)),(14,(iN c)),(17,(iN d))])
theorem a6G (i kk n g:Nat) (l:l9C) (hn:n=l.length) (hnb:n < 1048576) (hk:kk < n) {eX:Ex} {FX:Fr} {HX:Heap} (k1:(decide ((kk:Int) > (i:Int)))=true->j6 (l9 Tryz.prog (X Y1) (p9 Tryz.f241 3)) (some [0,14,17]) (some [0,14,17]) (mkF 220 [(0,(AV.osl 0 g 9 0 n)),(14,(iN i)),(17,(iN (kk - 1)))]) (b7s g l kk) eX FX HX) (k2:(decide ((kk:Int) > (i:Int)))=false->((.exit 6:Ex),(c1f g n i kk),[(o_ g 9 (mC l))])=(eX,FX,HX)):j6 (l9 Tryz.prog (X Y1) (p9 Tryz.f241 3)) (some [0,14,17]) (some [0,14,17]) (c1f g n i kk) [(o_ g 9 (mC l))] eX FX HX :=
 F7 (.r (.g (.two (decide ((kk:Int) > (i:Int))) (fun h1 h1'=>(.r (.y 4 (.int .i64 (ck_ kk)) (iN (kk - 1)) Yes.o (.y 7 (.int .i64 (ck_ kk)) (iN (kk - 1)) Yes.o (.io 8 0 g 9 9 0 n ((kk - 1:Nat):Int) (kk - 1) (E9.mk _ ow ow) (.t 9 (cp_ l kk) [(o_ g 9 (mC l))] (G9 (C8 (row:=j5.row) (l:=l) (k:=9) (room:=none) kr om) kr:K3 tt 39 0 [(o_ g 9 (mC l))] (rowAt [(o_ g 9 (mC l))] 0 g (kk - 1))=some ((cp_ l kk),([(o_ g 9 (mC l))]:Heap))) (.io 12 0 g 9 9 0 n (kk:Int) kk (E9.mk _ ow ow) (.t 13 (co_ l kk) [(o_ g 9 (mC l))] (G9 (C8 (row:=j5.row) (l:=l) (k:=9) (room:=none) kr om) kr:K3 tt 39 0 [(o_ g 9 (mC l))] (rowAt [(o_ g 9 (mC l))] 0 g kk)=some ((co_ l kk),([(o_ g 9 (mC l))]:Heap))) (.io 14 0 g 9 9 0 n (kk:Int) kk (E9.mk _ ow ow) (.st 15 0 g kk 9 0 (cp_ l kk) [(o_ g 9 (mC (l.set kk (nth l (kk - 1)))))] (Q5 (us:=(j5.row (nth l (kk - 1)))) (C8 (row:=j5.row) (l:=l) (k:=9) (room:=none) kr om) kr xI xH) (.io 16 0 g 9 9 0 n ((kk - 1:Nat):Int) (kk - 1) (E9.mk _ ow ow) (.st 17 0 g (kk - 1) 9 0 (co_ l kk) (b7s g l kk) (Q5 (us:=(j5.row (nth l kk))) (C8 (row:=j5.row) (l:=l.set kk (nth l (kk - 1))) (k:=9) (room:=none) kr om) kr xI xH) (.s (.y 1 (.int .i64 (ck_ kk)) (iN (kk - 1)) Yes.o (.g (.l (k1 h1))))))))))))))))) (fun h1 h1'=>(.l (k2 h1))))))
theorem c2b (i n g:Nat) (hnb:n < 1048576) (r:Nat):∀ (kk:Nat) (l:l9C),kk=i+r->n=l.length->kk < n ->
 j6 (l9 Tryz.prog (X Y1) (p9 Tryz.f241 3)) (some [0,14,17]) (some [0,14,17]) (mkF 220 [(0,(AV.osl 0 g 9 0 n)),(14,(iN i)),(17,(iN kk))]) [(o_ g 9 (mC l))] (.exit 6) (mkF 220 [(0,(AV.osl 0 g 9 0 n)),(14,(iN i)),(17,(iN i))]) [(o_ g 9 (mC (shD r kk l)))]:=by
 induction r with
 | zero =>
  intro kk l h1 hn hk
  obtain rfl:kk=i:=by omega
  exact a6G kk kk n g l hn hnb hk (fun h=>by simp at h) (fun _=>rfl)
 | succ r ih =>
  intro kk l h1 hn hk
  refine a6G i kk n g l hn hnb hk (fun _=>?_) (fun h=>by simp at h; omega)
  simp only [shD]
  exact ih (kk - 1) _ ow (by simpa using hn) ow
attribute [local irreducible] J3 O8 R5 bsr mAt mg mgL shD shU
@[simp] abbrev a5P (a:Nat) (b:l9C) (c:l9C) (d:j5) (e:l9C) (f:l9C):Heap:=[(o_ a 9 (mC (b++(c++(d :: (e++f))))))]
@[simp] abbrev c7p (a:Nat) (b:Nat) (c:Nat) (d:Nat):Fr:=(mkF 220 [(0,(AV.osl 0 a 9 0 b)),(1,(iN c)),(10,(iN d))])
@[simp] abbrev c7o (a:Nat) (b:Nat) (c:Nat):Fr:=(mkF 220 [(0,(AV.osl 0 a 9 0 b)),(10,(iN c)),(13,(iN ((c - 1))))])
theorem b1Z {p:Prop} (h:p:=by exact beq_iff_eq.2 ow):p:=h
theorem c2h (cmp:j5->j5->Int) (f:Nat) (xs:List AV) (A R1 R2 B:l9C) (x:j5) (a p b n g i:Nat) (l:l9C) (hc:h9C cmp f xs) (hxs:AV.bdds 1 xs=true) (hn:n=l.length) (hnb:n < 1048576) (hl:l=A++(x :: (R1++(R2++B)))) (hA:a=A.length) (hp:p=a+1) (hpb:p<=b) (hbn:b<=n) (hi:i=p+R1.length) (hib:i<=b) (hs:i=bsr (fun c=>decide (cmp (nth l c) (nth l a) < 0)) (b - p) p b):AC 241 [(AV.osl 0 g 9 0 n),(AV.int .i64 (a:Int)),(AV.int .i64 (p:Int)),(AV.int .i64 (b:Int)),(AV.func f xs)] [(o_ g 9 (List.map j5.row l))] ((AV.tup []),(a5P g A R1 x R2 B)):=by
 have hfin:shU (i - 1 - a) a l=A++(R1++(x :: (R2++B))):=by rw [hl,show i - 1 - a=R1.length by omega]; exact a4b x R1 A (R2++B) a hA
 exact o9 (fn:=Tryz.f241) (ann:=Y1) (Has.o Tryz.func241) (.r (.y 2 (iW ((p:Int) - (a:Int))) (AV.int .i64 ((p - a:Nat):Int)) Yes.o (.y 3 (AV.bool (((p - a:Nat):Int) == 1)) (AV.bool true) (Yes.b b1Z) (.ru (.s (.g (.loop (c7p g n a i) (show j6 (l9 Tryz.prog (X Y1) (p9 Tryz.f241 0)) (some [0,1,4,10,11]) (some [0,1,10]) (mkF 220 [(0,(AV.osl 0 g 9 0 n)),(1,(AV.int .i64 (a:Int))),(4,(AV.func f xs)),(10,(AV.int .i64 (p:Int))),(11,(AV.int .i64 (b:Int)))]) [(o_ g 9 (List.map j5.row l))] (.exit 0) (c7p g n a i) [(o_ g 9 (List.map j5.row l))] from (by rw [hs]; exact c2d cmp f xs hc a n g l hn hnb ow (b - p) p b ow ow ow)) (.r (.g (.loop (c7o g n i) (show j6 (l9 Tryz.prog (X Y1) (p9 Tryz.f241 1)) (some [0,10,13]) (some [0,10,13]) (mkF 220 [(0,(AV.osl 0 g 9 0 n)),(10,(AV.int .i64 (i:Int))),(13,(AV.int .i64 (a:Int)))]) [(o_ g 9 (List.map j5.row l))] (.exit 2) (c7o g n i) [(o_ g 9 (List.map j5.row (shU (i - 1 - a) a l)))] from (c1Y i n g ow ow hnb (i - 1 - a) l a _ ow hn (c1Z _ _ _ _ _ _))) (.q 1 (AV.tup []) (by (try delta a5P); rw [hfin]))))))))))))
@[simp] abbrev c7n (a:Nat) (b:Nat) (c:Nat) (d:Nat):Fr:=(mkF 220 [(0,(AV.osl 0 a 9 0 b)),(2,(iN c)),(14,(iN d))])
@[simp] abbrev d2r (a:Nat) (b:Nat) (c:Nat):Fr:=(mkF 220 [(0,(AV.osl 0 a 9 0 b)),(14,(iN c)),(17,(iN c))])
theorem rX {p:Prop} (h:p:=by exact beq_eq_false_iff_ne.2 ow):p:=h
theorem c2g (cmp:j5->j5->Int) (f:Nat) (xs:List AV) (A L1 L2 B:l9C) (y:j5) (a p b n g i:Nat) (l:l9C) (hc:h9C cmp f xs) (hxs:AV.bdds 1 xs=true) (hn:n=l.length) (hnb:n < 1048576) (hl:l=A++(L1++(L2++(y :: B)))) (hA:a=A.length) (hi:i=a+L1.length) (hp:p=i+L2.length) (h1:p≠a+1) (hb:b=p+1) (hbn:b<=n) (hs:i=bsr (fun c=>!decide (cmp (nth l p) (nth l c) < 0)) (p - a) a p):AC 241 [(AV.osl 0 g 9 0 n),(AV.int .i64 (a:Int)),(AV.int .i64 (p:Int)),(AV.int .i64 (b:Int)),(AV.func f xs)] [(o_ g 9 (List.map j5.row l))] ((AV.tup []),(a5P g A L1 y L2 B)):=by
 have hfin:shD (p - i) p l=A++(L1++(y :: (L2++B))):=by rw [hl,show p - i=L2.length by omega,show A++(L1++(L2++(y :: B)))=(A++L1)++(L2++(y :: B)) by simp,a4c y L2.length (A++L1) L2 B p rfl yh_]; simp
 exact o9 (fn:=Tryz.f241) (ann:=Y1) (Has.o Tryz.func241) (.r (.y 2 (iW ((p:Int) - (a:Int))) (AV.int .i64 ((p - a:Nat):Int)) Yes.o (.y 3 (AV.bool (((p - a:Nat):Int) == 1)) (AV.bool false) (Yes.b rX) (.rn (.y 2 (iW ((b:Int) - (p:Int))) (AV.int .i64 ((b - p:Nat):Int)) Yes.o (.y 3 (AV.bool (((b - p:Nat):Int) == 1)) (AV.bool true) (Yes.b b1Z) (.ru (.s (.g (.loop (c7n g n p i) (show j6 (l9 Tryz.prog (X Y1) (p9 Tryz.f241 2)) (some [0,2,4,14,15]) (some [0,2,14]) (mkF 220 [(0,(AV.osl 0 g 9 0 n)),(2,(AV.int .i64 (p:Int))),(4,(AV.func f xs)),(14,(AV.int .i64 (a:Int))),(15,(AV.int .i64 (p:Int)))]) [(o_ g 9 (List.map j5.row l))] (.exit 4) (c7n g n p i) [(o_ g 9 (List.map j5.row l))] from (by rw [hs]; exact c2c cmp f xs hc p n g l hn hnb ow (p - a) a p ow ow ow)) (.r (.g (.loop (d2r g n i) (c2b i n g hnb (p - i) p l ow hn ow) (.q 1 (AV.tup []) (by (try delta a5P); rw [hfin])))))))))))))))
@[simp] abbrev a5O (a:Nat) (b:Nat) (c:Nat) (d:Nat) (e:Nat) (f:Nat) (g:List AV) (h:Nat) (i:Nat):Fr:=(mkF 220 [(0,(AV.osl 0 a 9 0 b)),(1,(iN c)),(2,(iN d)),(3,(iN e)),(4,(AV.func f g)),(18,(iN h)),(19,(iN ((h+d)))),(20,(iN i))])
@[simp] abbrev b6T (a:Nat) (b:Nat) (c:Nat) (d:Nat) (e:l9C):Heap:=[(o_ a 9 (mC (O8 b c ((d+c) - b) e)))]
theorem b1Y {p:Prop} (h:p:=by rw [qG]; omega):p:=h
theorem q9 {p:Prop} (h:p:=by first | exact hc | exact hxs | omega | (simp; omega)):p:=h
theorem nN {p:Prop} (h:p:=by first | (exfalso; omega) | ((first | rw [if_pos ow] at e1 | rw [if_neg ow] at e1); rw [e1]; exact hlen1.symm)):p:=h
theorem nM {p:Prop} (h:p:=by first | (exfalso; omega) | ((first | rw [if_pos ow] at e1 | rw [if_neg ow] at e1); rw [e1]; rw [piece A L1 _ hA ow]; exact q1)):p:=h
theorem nL {p:Prop} (h:p:=by first | (exfalso; omega) | ((first | rw [if_pos ow] at e1 | rw [if_neg ow] at e1); rw [e1]; rw [show A++(L1++(R1++(L2++(R2++B))))=(A++L1)++(R1++(L2++(R2++B))) by simp,piece (A++L1) R1 _ (by simp; omega) ow]; exact q3)):p:=h
theorem U6 {p:Prop} (h:p:=by first | (exfalso; omega) | ((first | rw [if_pos ow] at e1 | rw [if_neg ow] at e1); (first | rw [if_pos ow] at e2 | rw [if_neg ow] at e2); rw [e1,e2]; exact hlen2.symm)):p:=h
theorem U5 {p:Prop} (h:p:=by first | (exfalso; omega) | ((first | rw [if_pos ow] at e1 | rw [if_neg ow] at e1); (first | rw [if_pos ow] at e2 | rw [if_neg ow] at e2); rw [e1,e2]; rw [show A++(mg (ltF cmp) L1 R1++(L2++(R2++B)))=(A++mg (ltF cmp) L1 R1)++(L2++(R2++B)) by simp,piece (A++mg (ltF cmp) L1 R1) L2 _ (by simp [qG]; omega) ow]; exact q2)):p:=h
theorem U4 {p:Prop} (h:p:=by first | (exfalso; omega) | ((first | rw [if_pos ow] at e1 | rw [if_neg ow] at e1); (first | rw [if_pos ow] at e2 | rw [if_neg ow] at e2); rw [e1,e2]; rw [show A++(mg (ltF cmp) L1 R1++(L2++(R2++B)))=((A++mg (ltF cmp) L1 R1)++L2)++(R2++B) by simp,piece ((A++mg (ltF cmp) L1 R1)++L2) R2 _ (by simp [qG]; omega) ow]; exact q4)):p:=h
theorem M4 {p:Prop} (h:p:=by (try delta b6T); first | (exfalso; omega) | ((first | rw [if_pos ow] at e1 | rw [if_neg ow] at e1); (first | rw [if_pos ow] at e2 | rw [if_neg ow] at e2); (first | rw [if_pos ow] at e3 | rw [if_neg ow] at e3); rw [e1,e2,e3])):p:=h
set_option maxHeartbeats 4000000 in
theorem c2f (cmp:j5->j5->Int) (f:Nat) (xs:List AV) (A L1 L2 R1 R2 B:l9C) (a p b n g i mid Nz:Nat) (l:l9C) (hc:h9C cmp f xs) (hxs:AV.bdds 1 xs=true) (hn:n=l.length) (hnb:n < 1048576) (ih_at:∀ (a p b n g:Nat) (l:l9C),n=l.length->n < 1048576->a < p->p < b->b<=n->b - a < Nz->Srt (ltF cmp) ((l.drop a).take (p - a))->Srt (ltF cmp) ((l.drop p).take (b - p))->∀ H:Heap,AC 241 [(AV.osl 0 g 9 0 n),(AV.int .i64 (a:Int)),(AV.int .i64 (p:Int)),(AV.int .i64 (b:Int)),(AV.func f xs)] (([(o_ g 9 (List.map j5.row l))]:Heap)++H) (.tup [],([(o_ g 9 (List.map j5.row (mAt (ltF cmp) a p b l)))]:Heap)++H)) (hl:l=A++(L1++(L2++(R1++(R2++B))))) (hA:a=A.length) (hi:i=a+L1.length) (hp:p=i+L2.length) (hR1:mid=i+R1.length) (hb:b=p+R1.length+R2.length) (hbn:b<=n) (hap:a < p) (hpb:p < b) (h1:p≠a+1) (h2:b≠p+1) (hmid:mid=(a+b) / 2) (hNz:b - a<=Nz) (hgt:mid < p) (hs:i=bsr (fun c=>!decide (cmp (nth l (mid+p - 1 - c)) (nth l c) < 0)) (mid - (mid+p - b)) (mid+p - b) mid) (hlo:mid+p - b<=i) (hhi:i<=mid) (q1:Srt (ltF cmp) L1) (q2:Srt (ltF cmp) L2) (q3:Srt (ltF cmp) R1) (q4:Srt (ltF cmp) R2):AC 241 [(AV.osl 0 g 9 0 n),(AV.int .i64 (a:Int)),(AV.int .i64 (p:Int)),(AV.int .i64 (b:Int)),(AV.func f xs)] [(o_ g 9 (List.map j5.row l))] ((AV.tup []),[(o_ g 9 (List.map j5.row (A++(mg (ltF cmp) L1 R1++(mg (ltF cmp) L2 R2++B)))))]):=by
 have hll:n=A.length+L1.length+L2.length+R1.length+R2.length+B.length:=by rw [hn,hl]; simp; omega
 have e1:=sm1 A L1 L2 R1 R2 B hl (s:=i) (m:=p) (e:=mid+p - i) ow hp ow
 have e2:=sm2 (ltF cmp) A L1 R1 (L2++(R2++B)) (a:=a) (s:=i) (mid:=mid) hA hi hR1
 have e3:=sm3 (ltF cmp) A (mg (ltF cmp) L1 R1) L2 R2 B (mid:=mid) (e:=mid+p - i) (b:=b) b1Y ow ow
 have hrot:0 < L2.length->0 < R1.length->_:=rA (A++L1) L2 R1 (R2++B) (l:=l) (by rw [hl]; simp) (a:=i) (m:=p) (b:=mid+p - i) yh_ hp ow
 have hlen2:(A++(mg (ltF cmp) L1 R1++(L2++(R2++B)))).length=n:=by rw [hll]; simp [qG]; omega
 have hlen1:(A++(L1++(R1++(L2++(R2++B))))).length=n:=by rw [hll]; simp; omega
 exact o9 (fn:=Tryz.f241) (ann:=Y1) (Has.o Tryz.func241) (.r (.y 2 (iW ((p:Int) - (a:Int))) (AV.int .i64 ((p - a:Nat):Int)) Yes.o (.y 3 (AV.bool (((p - a:Nat):Int) == 1)) (AV.bool false) (Yes.b rX) (.rn (.y 2 (iW ((b:Int) - (p:Int))) (AV.int .i64 ((b - p:Nat):Int)) Yes.o (.y 3 (AV.bool (((b - p:Nat):Int) == 1)) (AV.bool false) (Yes.b rX) (.rn (.y 2 (iW ((a:Int)+(b:Int))) (AV.int .i64 ((a+b:Nat):Int)) Yes.o (.y 5 (iW (Int.fdiv (IntKind.u64.wrap ((a+b:Nat):Int)) (2 ^ (min (Int.toNat 1) 64)))) (AV.int .i64 (mid:Int)) (Yes.int (eD ow ow)) (.s (.y 2 (iW ((mid:Int)+(p:Int))) (AV.int .i64 ((mid+p:Nat):Int)) Yes.o (.s (.s (.y 2 (AV.bool (decide ((p:Int) > (mid:Int)))) (AV.bool true) (Yes.b (by exact decide_eq_true ow)) (.ru (.y 2 (iW (((mid+p:Nat):Int) - (b:Int))) (AV.int .i64 ((mid+p - b:Nat):Int)) Yes.o (.s (.s (.y 1 (iW (((mid+p:Nat):Int) - 1)) (AV.int .i64 ((mid+p - 1:Nat):Int)) Yes.o (.g (.loop (a5O g n a p b f xs mid i) (show j6 (l9 Tryz.prog (X Y1) (p9 Tryz.f241 4)) (some [0,1,2,3,4,18,19,20,21,22]) (some [0,1,2,3,4,18,19,20]) (mkF 220 [(0,(AV.osl 0 g 9 0 n)),(1,(AV.int .i64 (a:Int))),(2,(AV.int .i64 (p:Int))),(3,(AV.int .i64 (b:Int))),(4,(AV.func f xs)),(18,(AV.int .i64 (mid:Int))),(19,(AV.int .i64 ((mid+p:Nat):Int))),(20,(AV.int .i64 ((mid+p - b:Nat):Int))),(21,(AV.int .i64 (mid:Int))),(22,(AV.int .i64 ((mid+p - 1:Nat):Int)))]) [(o_ g 9 (List.map j5.row l))] (.exit 8) (a5O g n a p b f xs mid i) [(o_ g 9 (List.map j5.row l))] from (by rw [hs]; exact a6I cmp f xs hc a p b mid (mid+p) (mid+p - 1) n g l hn hnb (mid - ((mid+p - b))) (mid+p - b) mid ow ow ow)) (.r (.y 2 (iW ((((mid+p):Nat):Int) - (i:Int))) (AV.int .i64 (((mid+p) - i:Nat):Int)) Yes.o (.s (.two (decide ((i:Int) < (p:Int))) (fun h1 h1'=>(.u2 (.g (.two (decide ((p:Int) < (((mid+p) - i:Nat):Int))) (fun h2 h2'=>(.r (.ch 5 (b6T g i p mid l) (b9w f xs i p ((mid+p) - i) n g l q9 q9 q9 q9 q9 q9 ((hrot ow ow).1) ((hrot ow ow).2.1) ((hrot ow ow).2.2) []) (.s (.two (decide ((a:Int) < (i:Int))) (fun h3 h3'=>(.u2 (.g (.two (decide ((i:Int) < (mid:Int))) (fun h4 h4'=>(.r (.ch 5 [(o_ g 9 (List.map j5.row (mAt (ltF cmp) a i mid (O8 i p ((mid+p) - i) l))))] (ih_at a i mid n g (O8 i p ((mid+p) - i) l) nN q9 q9 q9 q9 q9 nM nL []) (.s (.two (decide ((mid:Int) < (((mid+p) - i:Nat):Int))) (fun h5 h5'=>(.u2 (.g (.two (decide ((((mid+p) - i:Nat):Int) < (b:Int))) (fun h6 h6'=>(.r (.ch 5 [(o_ g 9 (List.map j5.row (mAt (ltF cmp) mid ((mid+p) - i) b (mAt (ltF cmp) a i mid (O8 i p ((mid+p) - i) l)))))] (ih_at mid ((mid+p) - i) b n g (mAt (ltF cmp) a i mid (O8 i p ((mid+p) - i) l)) U6 q9 q9 q9 q9 q9 U5 U4 []) (.q 1 (AV.tup []) M4)))) (fun h6 h6'=>(.q 1 (AV.tup []) M4)))))) (fun h5 h5'=>(.n2 (.g (.n (.q 1 (AV.tup []) M4)))))))))) (fun h4 h4'=>(.r (.two (decide ((mid:Int) < (((mid+p) - i:Nat):Int))) (fun h5 h5'=>(.u2 (.g (.two (decide ((((mid+p) - i:Nat):Int) < (b:Int))) (fun h6 h6'=>(.r (.ch 5 [(o_ g 9 (List.map j5.row (mAt (ltF cmp) mid ((mid+p) - i) b (O8 i p ((mid+p) - i) l))))] (ih_at mid ((mid+p) - i) b n g (O8 i p ((mid+p) - i) l) U6 q9 q9 q9 q9 q9 U5 U4 []) (.q 1 (AV.tup []) M4)))) (fun h6 h6'=>(.q 1 (AV.tup []) M4)))))) (fun h5 h5'=>(.n2 (.g (.n (.q 1 (AV.tup []) M4)))))))))))) (fun h3 h3'=>(.n2 (.rn (.two (decide ((mid:Int) < (((mid+p) - i:Nat):Int))) (fun h4 h4'=>(.u2 (.g (.two (decide ((((mid+p) - i:Nat):Int) < (b:Int))) (fun h5 h5'=>(.r (.ch 5 [(o_ g 9 (List.map j5.row (mAt (ltF cmp) mid ((mid+p) - i) b (O8 i p ((mid+p) - i) l))))] (ih_at mid ((mid+p) - i) b n g (O8 i p ((mid+p) - i) l) U6 q9 q9 q9 q9 q9 U5 U4 []) (.q 1 (AV.tup []) M4)))) (fun h5 h5'=>(.q 1 (AV.tup []) M4)))))) (fun h4 h4'=>(.n2 (.g (.n (.q 1 (AV.tup []) M4)))))))))))))) (fun h2 h2'=>(.r (.two (decide ((a:Int) < (i:Int))) (fun h3 h3'=>(.u2 (.g (.two (decide ((i:Int) < (mid:Int))) (fun h4 h4'=>(.r (.ch 5 [(o_ g 9 (List.map j5.row (mAt (ltF cmp) a i mid l)))] (ih_at a i mid n g l nN q9 q9 q9 q9 q9 nM nL []) (.s (.two (decide ((mid:Int) < (((mid+p) - i:Nat):Int))) (fun h5 h5'=>(.u2 (.g (.two (decide ((((mid+p) - i:Nat):Int) < (b:Int))) (fun h6 h6'=>(.r (.ch 5 [(o_ g 9 (List.map j5.row (mAt (ltF cmp) mid ((mid+p) - i) b (mAt (ltF cmp) a i mid l))))] (ih_at mid ((mid+p) - i) b n g (mAt (ltF cmp) a i mid l) U6 q9 q9 q9 q9 q9 U5 U4 []) (.q 1 (AV.tup []) M4)))) (fun h6 h6'=>(.q 1 (AV.tup []) M4)))))) (fun h5 h5'=>(.n2 (.g (.n (.q 1 (AV.tup []) M4)))))))))) (fun h4 h4'=>(.r (.two (decide ((mid:Int) < (((mid+p) - i:Nat):Int))) (fun h5 h5'=>(.u2 (.g (.two (decide ((((mid+p) - i:Nat):Int) < (b:Int))) (fun h6 h6'=>(.r (.ch 5 [(o_ g 9 (List.map j5.row (mAt (ltF cmp) mid ((mid+p) - i) b l)))] (ih_at mid ((mid+p) - i) b n g l U6 q9 q9 q9 q9 q9 U5 U4 []) (.q 1 (AV.tup []) M4)))) (fun h6 h6'=>(.q 1 (AV.tup []) M4)))))) (fun h5 h5'=>(.n2 (.g (.n (.q 1 (AV.tup []) M4)))))))))))) (fun h3 h3'=>(.n2 (.rn (.two (decide ((mid:Int) < (((mid+p) - i:Nat):Int))) (fun h4 h4'=>(.u2 (.g (.two (decide ((((mid+p) - i:Nat):Int) < (b:Int))) (fun h5 h5'=>(.r (.ch 5 [(o_ g 9 (List.map j5.row (mAt (ltF cmp) mid ((mid+p) - i) b l)))] (ih_at mid ((mid+p) - i) b n g l U6 q9 q9 q9 q9 q9 U5 U4 []) (.q 1 (AV.tup []) M4)))) (fun h5 h5'=>(.q 1 (AV.tup []) M4)))))) (fun h4 h4'=>(.n2 (.g (.n (.q 1 (AV.tup []) M4)))))))))))))))) (fun h1 h1'=>(.n2 (.rn (.two (decide ((a:Int) < (i:Int))) (fun h2 h2'=>(.u2 (.g (.two (decide ((i:Int) < (mid:Int))) (fun h3 h3'=>(.r (.ch 5 [(o_ g 9 (List.map j5.row (mAt (ltF cmp) a i mid l)))] (ih_at a i mid n g l nN q9 q9 q9 q9 q9 nM nL []) (.s (.two (decide ((mid:Int) < (((mid+p) - i:Nat):Int))) (fun h4 h4'=>(.u2 (.g (.two (decide ((((mid+p) - i:Nat):Int) < (b:Int))) (fun h5 h5'=>(.r (.ch 5 [(o_ g 9 (List.map j5.row (mAt (ltF cmp) mid ((mid+p) - i) b (mAt (ltF cmp) a i mid l))))] (ih_at mid ((mid+p) - i) b n g (mAt (ltF cmp) a i mid l) U6 q9 q9 q9 q9 q9 U5 U4 []) (.q 1 (AV.tup []) M4)))) (fun h5 h5'=>(.q 1 (AV.tup []) M4)))))) (fun h4 h4'=>(.n2 (.g (.n (.q 1 (AV.tup []) M4)))))))))) (fun h3 h3'=>(.r (.two (decide ((mid:Int) < (((mid+p) - i:Nat):Int))) (fun h4 h4'=>(.u2 (.g (.two (decide ((((mid+p) - i:Nat):Int) < (b:Int))) (fun h5 h5'=>(.r (.ch 5 [(o_ g 9 (List.map j5.row (mAt (ltF cmp) mid ((mid+p) - i) b l)))] (ih_at mid ((mid+p) - i) b n g l U6 q9 q9 q9 q9 q9 U5 U4 []) (.q 1 (AV.tup []) M4)))) (fun h5 h5'=>(.q 1 (AV.tup []) M4)))))) (fun h4 h4'=>(.n2 (.g (.n (.q 1 (AV.tup []) M4)))))))))))) (fun h2 h2'=>(.n2 (.rn (.two (decide ((mid:Int) < (((mid+p) - i:Nat):Int))) (fun h3 h3'=>(.u2 (.g (.two (decide ((((mid+p) - i:Nat):Int) < (b:Int))) (fun h4 h4'=>(.r (.ch 5 [(o_ g 9 (List.map j5.row (mAt (ltF cmp) mid ((mid+p) - i) b l)))] (ih_at mid ((mid+p) - i) b n g l U6 q9 q9 q9 q9 q9 U5 U4 []) (.q 1 (AV.tup []) M4)))) (fun h4 h4'=>(.q 1 (AV.tup []) M4)))))) (fun h3 h3'=>(.n2 (.g (.n (.q 1 (AV.tup []) M4))))))))))))))))))))))))))))))))))))))
set_option maxHeartbeats 4000000 in
theorem c2e (cmp:j5->j5->Int) (f:Nat) (xs:List AV) (A L1 L2 R1 R2 B:l9C) (a p b n g i mid Nz:Nat) (l:l9C) (hc:h9C cmp f xs) (hxs:AV.bdds 1 xs=true) (hn:n=l.length) (hnb:n < 1048576) (ih_at:∀ (a p b n g:Nat) (l:l9C),n=l.length->n < 1048576->a < p->p < b->b<=n->b - a < Nz->Srt (ltF cmp) ((l.drop a).take (p - a))->Srt (ltF cmp) ((l.drop p).take (b - p))->∀ H:Heap,AC 241 [(AV.osl 0 g 9 0 n),(AV.int .i64 (a:Int)),(AV.int .i64 (p:Int)),(AV.int .i64 (b:Int)),(AV.func f xs)] (([(o_ g 9 (List.map j5.row l))]:Heap)++H) (.tup [],([(o_ g 9 (List.map j5.row (mAt (ltF cmp) a p b l)))]:Heap)++H)) (hl:l=A++(L1++(L2++(R1++(R2++B))))) (hA:a=A.length) (hi:i=a+L1.length) (hp:p=i+L2.length) (hR1:mid=i+R1.length) (hb:b=p+R1.length+R2.length) (hbn:b<=n) (hap:a < p) (hpb:p < b) (h1:p≠a+1) (h2:b≠p+1) (hmid:mid=(a+b) / 2) (hNz:b - a<=Nz) (hgt:p<=mid) (hs:i=bsr (fun c=>!decide (cmp (nth l (mid+p - 1 - c)) (nth l c) < 0)) (p - (a)) (a) p) (hlo:a<=i) (hhi:i<=p) (q1:Srt (ltF cmp) L1) (q2:Srt (ltF cmp) L2) (q3:Srt (ltF cmp) R1) (q4:Srt (ltF cmp) R2):AC 241 [(AV.osl 0 g 9 0 n),(AV.int .i64 (a:Int)),(AV.int .i64 (p:Int)),(AV.int .i64 (b:Int)),(AV.func f xs)] [(o_ g 9 (List.map j5.row l))] ((AV.tup []),[(o_ g 9 (List.map j5.row (A++(mg (ltF cmp) L1 R1++(mg (ltF cmp) L2 R2++B)))))]):=by
 have hll:n=A.length+L1.length+L2.length+R1.length+R2.length+B.length:=by rw [hn,hl]; simp; omega
 have e1:=sm1 A L1 L2 R1 R2 B hl (s:=i) (m:=p) (e:=mid+p - i) ow hp ow
 have e2:=sm2 (ltF cmp) A L1 R1 (L2++(R2++B)) (a:=a) (s:=i) (mid:=mid) hA hi hR1
 have e3:=sm3 (ltF cmp) A (mg (ltF cmp) L1 R1) L2 R2 B (mid:=mid) (e:=mid+p - i) (b:=b) b1Y ow ow
 have hrot:0 < L2.length->0 < R1.length->_:=rA (A++L1) L2 R1 (R2++B) (l:=l) (by rw [hl]; simp) (a:=i) (m:=p) (b:=mid+p - i) yh_ hp ow
 have hlen2:(A++(mg (ltF cmp) L1 R1++(L2++(R2++B)))).length=n:=by rw [hll]; simp [qG]; omega
 have hlen1:(A++(L1++(R1++(L2++(R2++B))))).length=n:=by rw [hll]; simp; omega
 exact o9 (fn:=Tryz.f241) (ann:=Y1) (Has.o Tryz.func241) (.r (.y 2 (iW ((p:Int) - (a:Int))) (AV.int .i64 ((p - a:Nat):Int)) Yes.o (.y 3 (AV.bool (((p - a:Nat):Int) == 1)) (AV.bool false) (Yes.b rX) (.rn (.y 2 (iW ((b:Int) - (p:Int))) (AV.int .i64 ((b - p:Nat):Int)) Yes.o (.y 3 (AV.bool (((b - p:Nat):Int) == 1)) (AV.bool false) (Yes.b rX) (.rn (.y 2 (iW ((a:Int)+(b:Int))) (AV.int .i64 ((a+b:Nat):Int)) Yes.o (.y 5 (iW (Int.fdiv (IntKind.u64.wrap ((a+b:Nat):Int)) (2 ^ (min (Int.toNat 1) 64)))) (AV.int .i64 (mid:Int)) (Yes.int (eD ow ow)) (.s (.y 2 (iW ((mid:Int)+(p:Int))) (AV.int .i64 ((mid+p:Nat):Int)) Yes.o (.s (.s (.y 2 (AV.bool (decide ((p:Int) > (mid:Int)))) (AV.bool false) (Yes.b (by exact decide_eq_false ow)) (.rn (.s (.s (.y 1 (iW (((mid+p:Nat):Int) - 1)) (AV.int .i64 ((mid+p - 1:Nat):Int)) Yes.o (.g (.loop (a5O g n a p b f xs mid i) (show j6 (l9 Tryz.prog (X Y1) (p9 Tryz.f241 4)) (some [0,1,2,3,4,18,19,20,21,22]) (some [0,1,2,3,4,18,19,20]) (mkF 220 [(0,(AV.osl 0 g 9 0 n)),(1,(AV.int .i64 (a:Int))),(2,(AV.int .i64 (p:Int))),(3,(AV.int .i64 (b:Int))),(4,(AV.func f xs)),(18,(AV.int .i64 (mid:Int))),(19,(AV.int .i64 ((mid+p:Nat):Int))),(20,(AV.int .i64 (a:Int))),(21,(AV.int .i64 (p:Int))),(22,(AV.int .i64 ((mid+p - 1:Nat):Int)))]) [(o_ g 9 (List.map j5.row l))] (.exit 8) (a5O g n a p b f xs mid i) [(o_ g 9 (List.map j5.row l))] from (by rw [hs]; exact a6I cmp f xs hc a p b mid (mid+p) (mid+p - 1) n g l hn hnb (p - (a)) a p ow ow ow)) (.r (.y 2 (iW ((((mid+p):Nat):Int) - (i:Int))) (AV.int .i64 (((mid+p) - i:Nat):Int)) Yes.o (.s (.two (decide ((i:Int) < (p:Int))) (fun h1 h1'=>(.u2 (.g (.two (decide ((p:Int) < (((mid+p) - i:Nat):Int))) (fun h2 h2'=>(.r (.ch 5 (b6T g i p mid l) (b9w f xs i p ((mid+p) - i) n g l q9 q9 q9 q9 q9 q9 ((hrot ow ow).1) ((hrot ow ow).2.1) ((hrot ow ow).2.2) []) (.s (.two (decide ((a:Int) < (i:Int))) (fun h3 h3'=>(.u2 (.g (.two (decide ((i:Int) < (mid:Int))) (fun h4 h4'=>(.r (.ch 5 [(o_ g 9 (List.map j5.row (mAt (ltF cmp) a i mid (O8 i p ((mid+p) - i) l))))] (ih_at a i mid n g (O8 i p ((mid+p) - i) l) nN q9 q9 q9 q9 q9 nM nL []) (.s (.two (decide ((mid:Int) < (((mid+p) - i:Nat):Int))) (fun h5 h5'=>(.u2 (.g (.two (decide ((((mid+p) - i:Nat):Int) < (b:Int))) (fun h6 h6'=>(.r (.ch 5 [(o_ g 9 (List.map j5.row (mAt (ltF cmp) mid ((mid+p) - i) b (mAt (ltF cmp) a i mid (O8 i p ((mid+p) - i) l)))))] (ih_at mid ((mid+p) - i) b n g (mAt (ltF cmp) a i mid (O8 i p ((mid+p) - i) l)) U6 q9 q9 q9 q9 q9 U5 U4 []) (.q 1 (AV.tup []) M4)))) (fun h6 h6'=>(.q 1 (AV.tup []) M4)))))) (fun h5 h5'=>(.n2 (.g (.n (.q 1 (AV.tup []) M4)))))))))) (fun h4 h4'=>(.r (.two (decide ((mid:Int) < (((mid+p) - i:Nat):Int))) (fun h5 h5'=>(.u2 (.g (.two (decide ((((mid+p) - i:Nat):Int) < (b:Int))) (fun h6 h6'=>(.r (.ch 5 [(o_ g 9 (List.map j5.row (mAt (ltF cmp) mid ((mid+p) - i) b (O8 i p ((mid+p) - i) l))))] (ih_at mid ((mid+p) - i) b n g (O8 i p ((mid+p) - i) l) U6 q9 q9 q9 q9 q9 U5 U4 []) (.q 1 (AV.tup []) M4)))) (fun h6 h6'=>(.q 1 (AV.tup []) M4)))))) (fun h5 h5'=>(.n2 (.g (.n (.q 1 (AV.tup []) M4)))))))))))) (fun h3 h3'=>(.n2 (.rn (.two (decide ((mid:Int) < (((mid+p) - i:Nat):Int))) (fun h4 h4'=>(.u2 (.g (.two (decide ((((mid+p) - i:Nat):Int) < (b:Int))) (fun h5 h5'=>(.r (.ch 5 [(o_ g 9 (List.map j5.row (mAt (ltF cmp) mid ((mid+p) - i) b (O8 i p ((mid+p) - i) l))))] (ih_at mid ((mid+p) - i) b n g (O8 i p ((mid+p) - i) l) U6 q9 q9 q9 q9 q9 U5 U4 []) (.q 1 (AV.tup []) M4)))) (fun h5 h5'=>(.q 1 (AV.tup []) M4)))))) (fun h4 h4'=>(.n2 (.g (.n (.q 1 (AV.tup []) M4)))))))))))))) (fun h2 h2'=>(.r (.two (decide ((a:Int) < (i:Int))) (fun h3 h3'=>(.u2 (.g (.two (decide ((i:Int) < (mid:Int))) (fun h4 h4'=>(.r (.ch 5 [(o_ g 9 (List.map j5.row (mAt (ltF cmp) a i mid l)))] (ih_at a i mid n g l nN q9 q9 q9 q9 q9 nM nL []) (.s (.two (decide ((mid:Int) < (((mid+p) - i:Nat):Int))) (fun h5 h5'=>(.u2 (.g (.two (decide ((((mid+p) - i:Nat):Int) < (b:Int))) (fun h6 h6'=>(.r (.ch 5 [(o_ g 9 (List.map j5.row (mAt (ltF cmp) mid ((mid+p) - i) b (mAt (ltF cmp) a i mid l))))] (ih_at mid ((mid+p) - i) b n g (mAt (ltF cmp) a i mid l) U6 q9 q9 q9 q9 q9 U5 U4 []) (.q 1 (AV.tup []) M4)))) (fun h6 h6'=>(.q 1 (AV.tup []) M4)))))) (fun h5 h5'=>(.n2 (.g (.n (.q 1 (AV.tup []) M4)))))))))) (fun h4 h4'=>(.r (.two (decide ((mid:Int) < (((mid+p) - i:Nat):Int))) (fun h5 h5'=>(.u2 (.g (.two (decide ((((mid+p) - i:Nat):Int) < (b:Int))) (fun h6 h6'=>(.r (.ch 5 [(o_ g 9 (List.map j5.row (mAt (ltF cmp) mid ((mid+p) - i) b l)))] (ih_at mid ((mid+p) - i) b n g l U6 q9 q9 q9 q9 q9 U5 U4 []) (.q 1 (AV.tup []) M4)))) (fun h6 h6'=>(.q 1 (AV.tup []) M4)))))) (fun h5 h5'=>(.n2 (.g (.n (.q 1 (AV.tup []) M4)))))))))))) (fun h3 h3'=>(.n2 (.rn (.two (decide ((mid:Int) < (((mid+p) - i:Nat):Int))) (fun h4 h4'=>(.u2 (.g (.two (decide ((((mid+p) - i:Nat):Int) < (b:Int))) (fun h5 h5'=>(.r (.ch 5 [(o_ g 9 (List.map j5.row (mAt (ltF cmp) mid ((mid+p) - i) b l)))] (ih_at mid ((mid+p) - i) b n g l U6 q9 q9 q9 q9 q9 U5 U4 []) (.q 1 (AV.tup []) M4)))) (fun h5 h5'=>(.q 1 (AV.tup []) M4)))))) (fun h4 h4'=>(.n2 (.g (.n (.q 1 (AV.tup []) M4)))))))))))))))) (fun h1 h1'=>(.n2 (.rn (.two (decide ((a:Int) < (i:Int))) (fun h2 h2'=>(.u2 (.g (.two (decide ((i:Int) < (mid:Int))) (fun h3 h3'=>(.r (.ch 5 [(o_ g 9 (List.map j5.row (mAt (ltF cmp) a i mid l)))] (ih_at a i mid n g l nN q9 q9 q9 q9 q9 nM nL []) (.s (.two (decide ((mid:Int) < (((mid+p) - i:Nat):Int))) (fun h4 h4'=>(.u2 (.g (.two (decide ((((mid+p) - i:Nat):Int) < (b:Int))) (fun h5 h5'=>(.r (.ch 5 [(o_ g 9 (List.map j5.row (mAt (ltF cmp) mid ((mid+p) - i) b (mAt (ltF cmp) a i mid l))))] (ih_at mid ((mid+p) - i) b n g (mAt (ltF cmp) a i mid l) U6 q9 q9 q9 q9 q9 U5 U4 []) (.q 1 (AV.tup []) M4)))) (fun h5 h5'=>(.q 1 (AV.tup []) M4)))))) (fun h4 h4'=>(.n2 (.g (.n (.q 1 (AV.tup []) M4)))))))))) (fun h3 h3'=>(.r (.two (decide ((mid:Int) < (((mid+p) - i:Nat):Int))) (fun h4 h4'=>(.u2 (.g (.two (decide ((((mid+p) - i:Nat):Int) < (b:Int))) (fun h5 h5'=>(.r (.ch 5 [(o_ g 9 (List.map j5.row (mAt (ltF cmp) mid ((mid+p) - i) b l)))] (ih_at mid ((mid+p) - i) b n g l U6 q9 q9 q9 q9 q9 U5 U4 []) (.q 1 (AV.tup []) M4)))) (fun h5 h5'=>(.q 1 (AV.tup []) M4)))))) (fun h4 h4'=>(.n2 (.g (.n (.q 1 (AV.tup []) M4)))))))))))) (fun h2 h2'=>(.n2 (.rn (.two (decide ((mid:Int) < (((mid+p) - i:Nat):Int))) (fun h3 h3'=>(.u2 (.g (.two (decide ((((mid+p) - i:Nat):Int) < (b:Int))) (fun h4 h4'=>(.r (.ch 5 [(o_ g 9 (List.map j5.row (mAt (ltF cmp) mid ((mid+p) - i) b l)))] (ih_at mid ((mid+p) - i) b n g l U6 q9 q9 q9 q9 q9 U5 U4 []) (.q 1 (AV.tup []) M4)))) (fun h4 h4'=>(.q 1 (AV.tup []) M4)))))) (fun h3 h3'=>(.n2 (.g (.n (.q 1 (AV.tup []) M4)))))))))))))))))))))))))))))))))))))
end Go.Proofs.YtfjedpipdnlkfaaGreat.AM
namespace Go.Proofs.YtfjedpipdnlkfaaGreat.AM
open Go
section
variable {α:Type} [Inhabited α] {lt:α->α->Bool}
theorem O9.irr (W:O9 lt) (a:α):lt a a=false:=by
 cases h:lt a a with
 | false=>rfl
 | true=>have:=W.asymm a a h; rw [h] at this; exact this
theorem four {l:List α} {a m b:Nat} (ham:a<=m) (hmb:m<=b):l=l.take a++((l.drop a).take (m - a)++((l.drop m).take (b - m)++l.drop b)):=by
 have h1:(l.drop m).take (b - m)++l.drop b=l.drop m:=by
  have:=List.take_append_drop (b - m) (l.drop m)
  rw [List.drop_drop,show m+(b - m)=b by omega] at this
  exact this
 have h2:(l.drop a).take (m - a)++l.drop m=l.drop a:=by
  have:=List.take_append_drop (m - a) (l.drop a)
  rw [List.drop_drop,show a+(m - a)=m by omega] at this
  exact this
 rw [h1,h2,List.take_append_drop]
theorem a0T {l:List α} {a k i:Nat} (hi:i < k):nth ((l.drop a).take k) i=nth l (a+i):=by rw [dZ hi,jL]
theorem jJ {l:List α} {a k:Nat} (h:a+k<=l.length):((l.drop a).take k).length=k:=by simp; omega
theorem vN {l:List α} {a k:Nat} {x:α} (h:a+k<=l.length) (hx:x∈(l.drop a).take k):∃ i,a<=i/\i < a+k/\nth l i=x:=by
 obtain ⟨i,hi,rfl⟩:=aS hx
 rw [jJ h] at hi
 exact ⟨a+i,by omega,by omega,(a0T hi).symm⟩
theorem a1C {l:List α} {a k:Nat} (W:O9 lt) (h:a+k<=l.length) (hs:Srt lt ((l.drop a).take k)) {i j:Nat} (h1:a<=i) (h2:i<=j) (h3:j < a+k):lt (nth l j) (nth l i)=false:=by
 rcases Nat.lt_or_ge i j with h4 | h4
 · have:=xY.1 hs (i - a) (j - a) ya_ (by rw [jJ h]; omega)
   rw [a0T ya_,a0T ya_] at this
   rwa [show a+(i - a)=i by omega,show a+(j - a)=j by omega] at this
 · obtain rfl:i=j:=by omega
   exact W.irr _
theorem bV {l:List α} {a k s:Nat} (hs:s<=k):(l.drop a).take k=(l.drop a).take s++(l.drop (a+s)).take (k - s):=by
 have:=List.take_append_drop s ((l.drop a).take k)
 rw [List.take_take,Nat.min_eq_left hs,List.drop_take,List.drop_drop] at this
 exact this.symm
theorem zH {l:List α} {a k s:Nat} (hs:s<=k) (h:Srt lt ((l.drop a).take k)):Srt lt ((l.drop a).take s)/\Srt lt ((l.drop (a+s)).take (k - s)):=by
 rw [bV hs] at h
 have:=List.pairwise_append.1 h
 exact ⟨this.1,this.2.1⟩
theorem a1b (W:O9 lt) {x y u v:α} (h1:lt u y=false) (h2:lt u v=true) (h3:lt x v=false):lt y x=true:=by
 cases h:lt y x with
 | true=>rfl
 | false =>
  have h4:=W.trans v x y h3 h
  have h5:=W.trans v y u h4 h1
  rw [h2] at h5; simp at h5
theorem lC (W:O9 lt) {l:List α} {a p b s e:Nat} (ham:a<=p) (hpb:p<=b) (hbl:b<=l.length) (h7:Srt lt ((l.drop a).take (p - a))) (h8:Srt lt ((l.drop p).take (b - p))) (has:a<=s) (hsp:s<=p) (hpe:p<=e) (heb:e<=b)
 (k1:s < p->p < e->lt (nth l (e - 1)) (nth l s)=true) (k2:a < s->e < b->lt (nth l e) (nth l (s - 1))=false) :
 mAt lt a p b l=l.take a++(mg lt ((l.drop a).take (s - a)) ((l.drop p).take (e - p))++(mg lt ((l.drop s).take (p - s)) ((l.drop e).take (b - e))++l.drop b)):=by
 unfold mAt
 have c1:=bV (l:=l) (a:=a) (k:=p - a) (s:=s - a) ya_
 have c2:=bV (l:=l) (a:=p) (k:=b - p) (s:=e - p) ya_
 rw [show a+(s - a)=s by omega,show p - a - (s - a)=p - s by omega] at c1
 rw [show p+(e - p)=e by omega,show b - p - (e - p)=b - e by omega] at c2
 rw [c1,c2,a0X lt _ _ _ (Nat.le_refl _) (fun x hx y hy=>?_) (fun x hx y hy=>?_),List.append_assoc]
 · obtain ⟨i,i1,i2,rfl⟩:=vN ya_ hx
   obtain ⟨j,j1,j2,rfl⟩:=vN ya_ hy
   exact a1b W (a1C W ya_ h8 (i:=j) (j:=e - 1) ya_ ya_ ya_) (k1 ya_ ya_) (a1C W ya_ h7 (i:=s) (j:=i) ya_ ya_ ya_)
 · obtain ⟨i,i1,i2,rfl⟩:=vN ya_ hx
   obtain ⟨j,j1,j2,rfl⟩:=vN ya_ hy
   have q1:=a1C W ya_ h7 (i:=i) (j:=s - 1) ya_ ya_ ya_
   have q2:=a1C W ya_ h8 (i:=e) (j:=j) ya_ ya_ ya_
   exact W.trans _ _ _ (W.trans _ _ _ q1 (k2 ya_ ya_)) q2
theorem a7o {x:α} {R:List α} (h:∀ y,R.head?=some y->lt y x=false):mg lt [x] R=x :: R:=by
 cases R with
 | nil=>rw [eB]
 | cons y R=>rw [jR,if_neg (by rw [h y rfl]; simp),aA]
theorem a7n {y:α} {L:List α} (h:∀ x,L.head?=some x->lt y x=true):mg lt L [y]=y :: L:=by
 cases L with
 | nil=>rw [aA]
 | cons x L=>rw [jR,if_pos (h x rfl),eB]
theorem vR {l:List α} {a:Nat} (h:a < l.length):(l.drop a).take 1=[nth l a]:=by rw [Y8 h]; rfl
theorem rO {l:List α} {a k:Nat} {x:α} (h:((l.drop a).take k).head?=some x) (hl:a+k<=l.length):0 < k/\x=nth l a:=by
 cases k with
 | zero=>simp at h
 | succ k =>
  rw [Y8 ya_] at h
  simp at h
  exact ⟨by omega,h.symm⟩
theorem c8x (W:O9 lt) {S T:List α} (hS:Srt lt S) (hT:Srt lt T) (y:α):mg lt S (U2 lt T y)=U2 lt (mg lt S T) y:=by
 have fS:S=S.filter (fun z=>!lt y z)++S.filter (fun z=>lt y z):=by
  clear hT
  induction S with
  | nil=>rfl
  | cons z S ih =>
   have h:=List.pairwise_cons.1 hS
   have ih':=ih h.2
   by_cases c:lt y z=true
   · have hall:∀ w∈S,lt y w=true:=fun w hw=>a1b W (W.irr y) c (h.1 w hw)
     have e1:S.filter (fun z=>!lt y z)=[]:=List.filter_eq_nil_iff.2 fun w hw=>by simp [hall w hw]
     have e2:S.filter (fun z=>lt y z)=S:=List.filter_eq_self.2 fun w hw=>hall w hw
     simp [List.filter_cons,c,e1,e2]
   · simp only [Bool.not_eq_true] at c
     conv=>lhs; rw [ih']
     simp [List.filter_cons,c]
 have fT:T=T.filter (fun z=>!lt y z)++T.filter (fun z=>lt y z):=by
  clear hS fS
  induction T with
  | nil=>rfl
  | cons z T ih =>
   have h:=List.pairwise_cons.1 hT
   have ih':=ih h.2
   by_cases c:lt y z=true
   · have hall:∀ w∈T,lt y w=true:=fun w hw=>a1b W (W.irr y) c (h.1 w hw)
     have e1:T.filter (fun z=>!lt y z)=[]:=List.filter_eq_nil_iff.2 fun w hw=>by simp [hall w hw]
     have e2:T.filter (fun z=>lt y z)=T:=List.filter_eq_self.2 fun w hw=>hall w hw
     simp [List.filter_cons,c,e1,e2]
   · simp only [Bool.not_eq_true] at c
     conv=>lhs; rw [ih']
     simp [List.filter_cons,c]
 have m1:∀ z∈S.filter (fun z=>!lt y z),lt y z=false:=fun z hz=>by simpa using (List.mem_filter.1 hz).2
 have m2:∀ z∈S.filter (fun z=>lt y z),lt y z=true:=fun z hz=>(List.mem_filter.1 hz).2
 have m3:∀ z∈T.filter (fun z=>!lt y z),lt y z=false:=fun z hz=>by simpa using (List.mem_filter.1 hz).2
 have m4:∀ z∈T.filter (fun z=>lt y z),lt y z=true:=fun z hz=>(List.mem_filter.1 hz).2
 rw [oW W hT y]
 generalize hS1:S.filter (fun z=>!lt y z)=S1 at fS m1
 generalize hS2:S.filter (fun z=>lt y z)=S2 at fS m2
 generalize hT1:T.filter (fun z=>!lt y z)=T1 at fT m3
 generalize hT2:T.filter (fun z=>lt y z)=T2 at fT m4
 have cross:∀ x∈S2,∀ z∈T1,lt z x=true:=fun x hx z hz=>by
  cases h:lt z x with
  | true=>rfl
  | false=>have:=W.trans x z y h (m3 z hz); rw [m2 x hx] at this; simp at this
 have cross2:∀ x∈S1,∀ z∈T2,lt z x=false:=fun x hx z hz=>by
  have h1:=W.asymm _ _ (m4 z hz)
  exact W.trans x y z (m1 x hx) h1
 have e1:mg lt S T=mg lt S1 T1++mg lt S2 T2:=by
  rw [fS,fT]; exact a0X lt _ _ _ (Nat.le_refl _) cross cross2
 have e2:mg lt S (T1++y :: T2)=mg lt S1 T1++mg lt S2 (y :: T2):=by
  rw [fS]; exact a0X lt _ _ _ (Nat.le_refl _) cross fun x hx z hz=>by
   rcases List.mem_cons.1 hz with rfl | hz
   · exact m1 x hx
   · exact cross2 x hx z hz
 have e3:mg lt S2 (y :: T2)=y :: mg lt S2 T2:=by
  cases S2 with
  | nil=>rw [aA,aA]
  | cons x S2=>rw [jR,if_pos (m2 x yf_)]
 have p1:∀ z∈mg lt S1 T1,lt y z=false:=fun z hz=>by
  have:=(a3g lt _ S1 T1 (Nat.le_refl _)).mem_iff.1 hz
  rcases List.mem_append.1 this with h | h
  · exact m1 z h
  · exact m3 z h
 have p2:∀ z∈mg lt S2 T2,lt y z=true:=fun z hz=>by
  have:=(a3g lt _ S2 T2 (Nat.le_refl _)).mem_iff.1 hz
  rcases List.mem_append.1 this with h | h
  · exact m2 z h
  · exact m4 z h
 have ins:∀ (P Q:List α),(∀ z∈P,lt y z=false)->(∀ z∈Q,lt y z=true)->U2 lt (P++Q) y=P++y :: Q:=fun P Q hP hQ=>by
  have hpos:R7 lt y (P++Q) (P++Q).length=P.length:=by
   obtain ⟨s1,s2⟩:=rG lt y (P++Q) (P++Q).length
   have s3:=tZ lt y (P++Q) (P++Q).length
   have hlen:(P++Q).length=P.length+Q.length:=List.length_append
   rcases Nat.lt_trichotomy (R7 lt y (P++Q) (P++Q).length) P.length with h | h | h
   · have:=s1 _ (Nat.le_refl _) ya_
     rw [lI,if_pos h] at this
     rw [hP _ (lH h)] at this; simp at this
   · exact h
   · have:=s2 ya_
     rw [lI,if_neg ya_] at this
     rw [hQ _ (lH ya_)] at this; simp at this
  unfold U2
  rw [hpos]
  simp
 rw [e2,e3,e1,ins _ _ p1 p2]
theorem a3Y (W:O9 lt) (Y:List α):∀ (X:List α),K9 lt (X++Y)=mg lt (K9 lt X) (K9 lt Y):=by
 intro X
 have key:∀ (Z T:List α),Srt lt T->mg lt (K9 lt X) (Z.foldl (U2 lt) T)=Z.foldl (U2 lt) (mg lt (K9 lt X) T):=by
  intro Z
  induction Z with
  | nil=>intro T _; rfl
  | cons z Z ih =>
   intro T hT
   simp only [List.foldl_cons]
   rw [ih _ (sO W hT z),c8x W (gW W X) hT]
 have:=key Y [] List.Pairwise.nil
 rw [eB] at this
 have e:K9 lt (X++Y)=Y.foldl (U2 lt) (K9 lt X):=by unfold K9; rw [List.foldl_append]
 rw [e,<- this]
 rfl
end
open Go.Proofs.YtfjedpipdnlkfaaGreat
attribute [local irreducible] A8 E8 G6 I6 I9 J3 J4 L9 O8 Q9 R5 S9 Tp.G5 Tp.card Tp.key Tp.keyT Tp.next Tp.step U8 V8 Y7 bsr cmpL j6 l6 l9 mg mgL shD shU sink w9 x9 y5 y9
theorem nK {p:Prop} (h:p:=by rw [jJ ow]; omega):p:=h
theorem c8T (cmp:j5->j5->Int) (f:Nat) (xs:List AV) (hc:h9C cmp f xs) (hxs:AV.bdds 1 xs=true) (W:O9 (ltF cmp)) (Nz:Nat):∀ (a p b n g:Nat) (l:l9C),n=l.length->n < 1048576->a < p->p < b->b<=n->b - a < Nz ->
 Srt (ltF cmp) ((l.drop a).take (p - a))->Srt (ltF cmp) ((l.drop p).take (b - p))->AC 241 [(AV.osl 0 g 9 0 n),(iN a),(iN p),(iN b),(AV.func f xs)] [(o_ g 9 (mC l))] (.tup [],[(o_ g 9 (mC (mAt (ltF cmp) a p b l)))]):=by
 induction Nz with
 | zero=>intro a p b n g l _ _ _ _ _ h; omega
 | succ Nz ih =>
  intro a p b n g l hn hnb hap hpb hbn hN h7 h8
  by_cases c1:p=a+1
  · obtain ⟨s1,s2,s3,s4⟩:=lV (fun c=>decide (cmp (nth l c) (nth l a) < 0)) (b - p) p b (Nat.le_refl _) ow
    generalize hs:bsr (fun c=>decide (cmp (nth l c) (nth l a) < 0)) (b - p) p b=s at s1 s2 s3 s4
    have hlaw:=lC W (l:=l) (a:=a) (p:=p) (b:=b) (s:=a) (e:=s) ow ow ow h7 h8 ow ow s1 s2 (fun _ h=>s3 h) (fun h=>by omega)
    have hx:(l.drop a).take (p - a)=[nth l a]:=by rw [show p - a=1 by omega]; exact vR ow
    rw [Nat.sub_self,List.take_zero,aA,hx,a7o (fun y hy=>by
     obtain ⟨q1,q2⟩:=rO hy ow
     rw [q2]; exact s4 ow)] at hlaw
    rw [hlaw]
    have hl:=four (l:=l) (a:=a) (m:=p) (b:=b) ow ow
    rw [hx,bV (l:=l) (a:=p) (k:=b - p) (s:=s - p) ow,show p+(s - p)=s by omega,show b - p - (s - p)=b - s by omega,List.append_assoc] at hl
    exact c2h cmp f xs (l.take a) ((l.drop p).take (s - p)) ((l.drop s).take (b - s)) (l.drop b) (nth l a) a p b n g s l hc hxs hn hnb hl yh_ c1 ow hbn nK s2 hs.symm
  by_cases c2:b=p+1
  · obtain ⟨s1,s2,s3,s4⟩:=lV (fun c=>!decide (cmp (nth l p) (nth l c) < 0)) (p - a) a p (Nat.le_refl _) ow
    generalize hs:bsr (fun c=>!decide (cmp (nth l p) (nth l c) < 0)) (p - a) a p=s at s1 s2 s3 s4
    have hlaw:=lC W (l:=l) (a:=a) (p:=p) (b:=b) (s:=s) (e:=p) ow ow ow h7 h8 s1 s2 ow ow (fun _ h=>by omega) (fun h _=>by have:=s3 h; simp only [Bool.not_eq_true'] at this; exact this)
    have hx:(l.drop p).take (b - p)=[nth l p]:=by rw [show b - p=1 by omega]; exact vR ow
    rw [Nat.sub_self,List.take_zero,eB,hx,a7n (fun y hy=>by
     obtain ⟨q1,q2⟩:=rO hy ow
     rw [q2]; simpa [ltF] using s4 ow)] at hlaw
    rw [hlaw]
    have hl:=four (l:=l) (a:=a) (m:=p) (b:=b) ow ow
    rw [hx,bV (l:=l) (a:=a) (k:=p - a) (s:=s - a) ow,show a+(s - a)=s by omega,show p - a - (s - a)=p - s by omega,List.append_assoc] at hl
    exact c2g cmp f xs (l.take a) ((l.drop a).take (s - a)) ((l.drop s).take (p - s)) (l.drop b) (nth l p) a p b n g s l hc hxs hn hnb hl yh_ nK nK c1 c2 hbn hs.symm
  have ih_at:∀ (a p b n g:Nat) (l:l9C),n=l.length->n < 1048576->a < p->p < b->b<=n->b - a < Nz->Srt (ltF cmp) ((l.drop a).take (p - a))->Srt (ltF cmp) ((l.drop p).take (b - p))->∀ H:Heap,AC 241 [(AV.osl 0 g 9 0 n),(iN a),(iN p),(iN b),(AV.func f xs)] (([(o_ g 9 (mC l))]:Heap)++H) (.tup [],([(o_ g 9 (mC (mAt (ltF cmp) a p b l)))]:Heap)++H) :=
   fun a p b n g l q1 q2 q3 q4 q5 q6 q7 q8 H=>(ih a p b n g l q1 q2 q3 q4 q5 q6 q7 q8).ext (by simp [AV.bdds,AV.bdd,hxs]) kr ob ob kr H
  obtain ⟨mid,hmid⟩:∃ mid,mid=(a+b) / 2:=⟨_,rfl⟩
  have go:∀ lo hi,lo<=hi->(∀ s,lo<=s->s<=hi->a<=s/\s<=p/\p<=mid+p - s/\mid+p - s<=b/\(s < p->p < mid+p - s->s < hi)/\(a < s->mid+p - s < b->lo < s)) ->
   (∀ s,s=bsr (fun c=>!decide (cmp (nth l (mid+p - 1 - c)) (nth l c) < 0)) (hi - lo) lo hi->lo<=s->s<=hi->∀ (L1 L2 R1 R2:l9C),l=l.take a++(L1++(L2++(R1++(R2++l.drop b))))->s=a+L1.length->p=s+L2.length->mid=s+R1.length->b=p+R1.length+R2.length->Srt (ltF cmp) L1->Srt (ltF cmp) L2->Srt (ltF cmp) R1->Srt (ltF cmp) R2 ->
    AC 241 [(AV.osl 0 g 9 0 n),(iN a),(iN p),(iN b),(AV.func f xs)] [(o_ g 9 (mC l))] (.tup [],([(o_ g 9 (mC (l.take a++(mg (ltF cmp) L1 R1++(mg (ltF cmp) L2 R2++l.drop b)))))]:Heap))) ->
   AC 241 [(AV.osl 0 g 9 0 n),(iN a),(iN p),(iN b),(AV.func f xs)] [(o_ g 9 (mC l))] (.tup [],([(o_ g 9 (mC (mAt (ltF cmp) a p b l)))]:Heap)):=by
   intro lo hi hlh hb walk
   obtain ⟨s1,s2,s3,s4⟩:=lV (fun c=>!decide (cmp (nth l (mid+p - 1 - c)) (nth l c) < 0)) (hi - lo) lo hi (Nat.le_refl _) hlh
   generalize hs:bsr (fun c=>!decide (cmp (nth l (mid+p - 1 - c)) (nth l c) < 0)) (hi - lo) lo hi=s at s1 s2 s3 s4
   obtain ⟨b1,b2,b3,b4,b5,b6⟩:=hb s s1 s2
   have hlaw:=lC W (l:=l) (a:=a) (p:=p) (b:=b) (s:=s) (e:=mid+p - s) ow ow ow h7 h8 b1 b2 b3 b4 (fun h1 h2=>by
    have:=s4 (b5 h1 h2)
    simp only [Bool.not_eq_false'] at this
    rwa [show mid+p - 1 - s=mid+p - s - 1 by omega] at this) (fun h1 h2=>by
    have:=s3 (b6 h1 h2)
    simp only [Bool.not_eq_true'] at this
    rwa [show mid+p - 1 - (s - 1)=mid+p - s by omega] at this)
   rw [hlaw]
   have hl:=four (l:=l) (a:=a) (m:=p) (b:=b) ow ow
   rw [bV (l:=l) (a:=a) (k:=p - a) (s:=s - a) ow,show a+(s - a)=s by omega,show p - a - (s - a)=p - s by omega,
    bV (l:=l) (a:=p) (k:=b - p) (s:=mid+p - s - p) ow,show p+(mid+p - s - p)=mid+p - s by omega,show b - p - (mid+p - s - p)=b - (mid+p - s) by omega,List.append_assoc,List.append_assoc] at hl
   have q1:=zH (l:=l) (a:=a) (k:=p - a) (s:=s - a) ow h7
   have q2:=zH (l:=l) (a:=p) (k:=b - p) (s:=mid+p - s - p) ow h8
   rw [show a+(s - a)=s by omega,show p - a - (s - a)=p - s by omega] at q1
   rw [show p+(mid+p - s - p)=mid+p - s by omega,show b - p - (mid+p - s - p)=b - (mid+p - s) by omega] at q2
   exact walk s hs.symm s1 s2 _ _ _ _ hl nK nK nK (by rw [jJ ow,jJ ow]; omega) q1.1 q1.2 q2.1 q2.2
  have hA:a=(l.take a).length:=by simp; omega
  by_cases hgt:mid < p
  · refine go (mid+p - b) mid ow (fun s h1 h2=>⟨by omega,by omega,by omega,by omega,fun _ _=>by omega,fun _ _=>by omega⟩) fun s hs h1 h2 L1 L2 R1 R2 hl e1 e2 e3 e4 q1 q2 q3 q4=>?_
    exact c2f cmp f xs (l.take a) L1 L2 R1 R2 (l.drop b) a p b n g s mid Nz l hc hxs hn hnb ih_at hl hA e1 e2 e3 e4 hbn hap hpb c1 c2 hmid ow hgt hs h1 h2 q1 q2 q3 q4
  · refine go a p ow (fun s h1 h2=>⟨by omega,by omega,by omega,by omega,fun _ _=>by omega,fun _ _=>by omega⟩) fun s hs h1 h2 L1 L2 R1 R2 hl e1 e2 e3 e4 q1 q2 q3 q4=>?_
    exact c2e cmp f xs (l.take a) L1 L2 R1 R2 (l.drop b) a p b n g s mid Nz l hc hxs hn hnb ih_at hl hA e1 e2 e3 e4 hbn hap hpb c1 c2 hmid ow ow hs h1 h2 q1 q2 q3 q4
end Go.Proofs.YtfjedpipdnlkfaaGreat.AM
namespace Go.Proofs.YtfjedpipdnlkfaaGreat.AM
open Go
section
variable {α:Type} [Inhabited α]
theorem b2x (cmp:α->α->Int) (X:List α) (j:Nat):∀ (l:List α),j < l.length->sink cmp X.length (X.length+j) (X++l)=X++sink cmp 0 j l:=by
 induction j with
 | zero =>
  intro l hl
  have h1:sink cmp X.length X.length (X++l)=X++l:=by
   cases h:X.length with
   | zero=>simp only [sink]
   | succ q=>simp only [sink]; rw [if_neg]; simp
  simpa [sink] using h1
 | succ j ih =>
  intro l hl
  have e1:nth (X++l) (X.length+j+1)=nth l (j+1):=by rw [lI,if_neg ya_]; congr 1; omega
  have e2:nth (X++l) (X.length+j)=nth l j:=by rw [lI,if_neg ya_]; congr 1; omega
  have L:sink cmp X.length (X.length+(j+1)) (X++l)=if decide (cmp (nth (X++l) (X.length+j+1)) (nth (X++l) (X.length+j)) < 0)=true then sink cmp X.length (X.length+j) (((X++l).set (X.length+j+1) (nth (X++l) (X.length+j))).set (X.length+j) (nth (X++l) (X.length+j+1))) else X++l:=by
   rw [<- Nat.add_assoc]; simp only [sink]; rw [if_pos yh_]
  have R:sink cmp 0 (j+1) l=if decide (cmp (nth l (j+1)) (nth l j) < 0)=true then sink cmp 0 j ((l.set (j+1) (nth l j)).set j (nth l (j+1))) else l:=by
   simp only [sink]; rw [if_pos yf_]
  rw [L,R,e1,e2]
  split
  · have e3:((X++l).set (X.length+j+1) (nth l j)).set (X.length+j) (nth l (j+1))=X++(l.set (j+1) (nth l j)).set j (nth l (j+1)):=by
     rw [List.set_append_right _ _ ya_,List.set_append_right _ _ ya_]
     congr 2
     · congr 1; omega
     · omega
    rw [e3]
    exact ih _ (by simpa using (by omega:j < l.length))
  · rfl
theorem a5n (cmp:α->α->Int) (X:List α) (k:Nat):∀ (i:Nat) (l:List α),i+k<=l.length->w9 cmp X.length k (X.length+i) (X++l)=X++w9 cmp 0 k i l:=by
 induction k with
 | zero=>intro i l _; simp only [w9]
 | succ k ih =>
  intro i l h
  simp only [w9]
  rw [b2x cmp X i l ya_]
  exact ih (i+1) _ (by rw [qA]; omega)
theorem b0x (cmp:α->α->Int) (Y:List α) (rest:List α):∀ (S:List α),w9 cmp 0 rest.length S.length (S++(rest++Y))=rest.foldl (U2 fun a b=>decide (cmp a b < 0)) S++Y:=by
 induction rest with
 | nil=>intro S; simp only [List.length_nil,w9,List.nil_append,List.foldl_nil]
 | cons x rest ih =>
  intro S
  simp only [List.length_cons,w9,List.foldl_cons]
  have h1:=a6r cmp S.length (S++(x :: rest++Y)) yf_
  have e1:(S++(x :: rest++Y)).take S.length=S:=by rw [List.take_append_of_le_length (Nat.le_refl _),List.take_length]
  have e2:nth (S++(x :: rest++Y)) S.length=x:=by rw [lI,if_neg ya_,Nat.sub_self]; rfl
  have e3:(S++(x :: rest++Y)).drop (S.length+1)=rest++Y:=by
   rw [<- List.drop_drop,List.drop_append_of_le_length (Nat.le_refl _),List.drop_length]; rfl
  rw [e1,e2,e3] at h1
  rw [h1]
  have:=ih (U2 (fun a b=>decide (cmp a b < 0)) S x)
  rw [a7C] at this
  exact this
theorem yF (cmp:α->α->Int) (X M Y:List α) {a b:Nat} (ha:a=X.length) (hb:b=a+M.length):w9 cmp a (b - (a+1)) (a+1) (X++(M++Y))=X++(K9 (fun a b=>decide (cmp a b < 0)) M++Y):=by
 subst ha hb
 cases M with
 | nil=>rw [show X.length+([]:List α).length - (X.length+1)=0 by simp]; simp only [w9]; rfl
 | cons x M =>
  rw [show X.length+(x :: M).length - (X.length+1)=M.length by simp; omega,a5n cmp X M.length 1 (x :: M++Y) yh_]
  have:=b0x cmp Y M [x]
  simp only [List.length_singleton,List.singleton_append] at this
  rw [show x :: M++Y=x :: (M++Y) from rfl,this]
  have e:K9 (fun a b=>decide (cmp a b < 0)) (x :: M)=M.foldl (U2 fun a b=>decide (cmp a b < 0)) [x]:=by
   unfold K9
   rw [List.foldl_cons]
   congr 1
  rw [e]
def blk (lt:α->α->Bool) (bs:Nat):Nat->List α->List α
 | 0,l=>l
 | K+1,l=>K9 lt (l.take bs)++blk lt bs K (l.drop bs)
theorem fI (lt:α->α->Bool) (l:List α):(K9 lt l).length=l.length:=(b2r lt l).length_eq
theorem b1M (lt:α->α->Bool) (bs K:Nat):blk lt bs K ([]:List α)=[]:=by
 induction K with
 | zero=>rfl
 | succ K ih=>simp only [blk,List.take_nil,List.drop_nil]; rw [ih]; rfl
theorem uP (lt:α->α->Bool) (bs K:Nat):∀ (l:List α),(blk lt bs K l).length=l.length:=by
 induction K with
 | zero=>intro l; rfl
 | succ K ih=>intro l; simp only [blk,List.length_append]; rw [fI,ih,List.length_take,List.length_drop]; omega
theorem a8C (lt:α->α->Bool) (bs K:Nat):∀ (l:List α),K * bs<=l.length->∃ X,X.length=K * bs/\blk lt bs K l=X++l.drop (K * bs)/\∀ (D:Nat),blk lt bs (K+D) l=X++blk lt bs D (l.drop (K * bs)):=by
 induction K with
 | zero=>intro l h; exact ⟨[],by simp,by simp [blk],fun D=>by simp⟩
 | succ K ih =>
  intro l h
  rw [Nat.succ_mul] at h
  obtain ⟨X,h1,h2,h3⟩:=ih (l.drop bs) yh_
  refine ⟨K9 lt (l.take bs)++X,by rw [List.length_append,fI,h1,Nat.succ_mul]; simp; omega,?_,fun D=>?_⟩
  · simp only [blk]
    rw [h2,List.drop_drop,List.append_assoc,Nat.succ_mul,Nat.add_comm bs]
  · rw [show K+1+D=(K+D)+1 by omega]
    simp only [blk]
    rw [h3,List.drop_drop,List.append_assoc,Nat.succ_mul,Nat.add_comm bs]
theorem a8D (lt:α->α->Bool) (bs D:Nat) (K:Nat):∀ (l:List α),l.length<=K * bs->blk lt bs (K+D) l=blk lt bs K l:=by
 induction K with
 | zero=>intro l h; obtain rfl:l=[]:=List.eq_nil_of_length_eq_zero ya_; rw [b1M,b1M]
 | succ K ih =>
  intro l h
  rw [Nat.succ_mul] at h
  rw [show K+1+D=(K+D)+1 by omega]
  simp only [blk]
  rw [ih _ yh_]
def fU (lt:α->α->Bool) (bs:Nat) (l:List α):List α:=blk lt bs (l.length+1) l
theorem uR (lt:α->α->Bool) {bs K:Nat} (hb:0 < bs) {l:List α} (h:l.length<=K * bs):blk lt bs K l=fU lt bs l:=by
 unfold fU
 have h2:l.length<=(l.length+1) * bs:=Nat.le_trans (Nat.le_succ _) (Nat.le_mul_of_pos_right _ hb)
 rcases Nat.le_total K (l.length+1) with h1 | h1
 · obtain ⟨D,hD⟩:=Nat.le.dest h1
   rw [<- hD,a8D lt bs D K l h]
 · obtain ⟨D,hD⟩:=Nat.le.dest h1
   rw [<- hD,a8D lt bs D _ l h2]
theorem lX (lt:α->α->Bool) {bs:Nat} {l:List α} (h:l.length<=bs) (hb:0 < bs):fU lt bs l=K9 lt l:=by
 rw [<- uR lt (K:=1) hb ya_]
 simp only [blk]
 rw [List.take_of_length_le h,List.drop_of_length_le h,List.append_nil]
theorem zB (lt:α->α->Bool) {bs:Nat} (hb:0 < bs) (l:List α):fU lt bs l=K9 lt (l.take bs)++fU lt bs (l.drop bs):=by
 have h2:∀ q:Nat,q<=(q+1) * bs:=fun q=>Nat.le_trans (Nat.le_succ _) (Nat.le_mul_of_pos_right _ hb)
 rw [<- uR lt (K:=(l.length+1)+1) hb (Nat.le_trans (h2 _) (Nat.mul_le_mul_right _ (Nat.le_succ _)))]
 have e:blk lt bs (l.length+1+1) l=K9 lt (l.take bs)++blk lt bs (l.length+1) (l.drop bs):=rfl
 rw [e,uR lt hb (Nat.le_trans yf_ (h2 l.length))]
theorem c5k (lt:α->α->Bool) (bs:Nat) (l:List α):(fU lt bs l).length=l.length:=uP lt bs _ l
def mix (lt:α->α->Bool) (bs:Nat):Nat->List α->List α
 | 0,l=>fU lt bs l
 | J+1,l=>K9 lt (l.take (2 * bs))++mix lt bs J (l.drop (2 * bs))
theorem a7l (lt:α->α->Bool) {bs:Nat} (hb:0 < bs) (J:Nat):∀ (l:List α),J * (2 * bs)<=l.length->∃ X,X.length=J * (2 * bs)/\mix lt bs J l=X++fU lt bs (l.drop (J * (2 * bs)))/\mix lt bs (J+1) l=X++(K9 lt ((l.drop (J * (2 * bs))).take (2 * bs))++fU lt bs ((l.drop (J * (2 * bs))).drop (2 * bs)))/\∀ D,blk lt (2 * bs) (J+D) l=X++blk lt (2 * bs) D (l.drop (J * (2 * bs))):=by
 induction J with
 | zero=>intro l h; exact ⟨[],by simp,by simp [mix],by simp [mix],fun D=>by simp⟩
 | succ J ih =>
  intro l h
  rw [Nat.succ_mul] at h
  obtain ⟨X,h1,h2,h3,h4⟩:=ih (l.drop (2 * bs)) yh_
  have hmul:(J+1) * (2 * bs)=J * (2 * bs)+2 * bs:=Nat.succ_mul _ _
  have hd0:(l.drop (2 * bs)).drop (J * (2 * bs))=l.drop ((J+1) * (2 * bs)):=by rw [List.drop_drop,hmul,Nat.add_comm]
  refine ⟨K9 lt (l.take (2 * bs))++X,by rw [List.length_append,fI,h1,hmul,List.length_take]; omega,?_,?_,fun D=>?_⟩
  · rw [mix,h2,hd0,List.append_assoc]
  · rw [mix,h3,hd0,List.append_assoc]
  · rw [show J+1+D=(J+D)+1 by omega]
    simp only [blk]
    rw [h4,hd0,List.append_assoc]
theorem b1D (lt:α->α->Bool) (bs J:Nat):∀ (l:List α),(mix lt bs J l).length=l.length:=by
 induction J with
 | zero=>intro l; exact c5k lt bs l
 | succ J ih=>intro l; simp only [mix,List.length_append]; rw [fI,ih,List.length_take,List.length_drop]; omega
variable {lt:α->α->Bool}
theorem a4s (W:O9 lt) {bs J:Nat} (hb:0 < bs) {l:List α} {a b:Nat} (ha:a=J * (2 * bs)) (hbe:b=a+2 * bs) (hn:b<=l.length) :
 mAt lt a (a+bs) b (mix lt bs J l)=mix lt bs (J+1) l/\Srt lt (((mix lt bs J l).drop a).take (a+bs - a))/\Srt lt (((mix lt bs J l).drop (a+bs)).take (b - (a+bs))):=by
 obtain ⟨X,h1,h2,h3,_⟩:=a7l lt hb J l ya_
 rw [<- ha] at h1 h2 h3
 rw [h2,h3,zB lt hb,zB lt hb ((l.drop a).drop bs)]
 have l1:(K9 lt ((l.drop a).take bs)).length=bs:=by rw [fI]; simp; omega
 have l2:(K9 lt (((l.drop a).drop bs).take bs)).length=bs:=by rw [fI]; simp; omega
 refine ⟨?_,?_,?_⟩
 · rw [yC lt X _ _ _ h1.symm ya_ ya_,<- a3Y W]
   have e:(l.drop a).take bs++((l.drop a).drop bs).take bs=(l.drop a).take (2 * bs):=by
    rw [show 2 * bs=bs+bs by omega,List.take_add]
   rw [e,List.drop_drop,show bs+bs=2 * bs by omega]
 · rw [piece X _ _ h1.symm ya_]; exact gW W _
 · have:=piece (X++K9 lt ((l.drop a).take bs)) (K9 lt (((l.drop a).drop bs).take bs)) (fU lt bs (((l.drop a).drop bs).drop bs)) (a:=a+bs) (k:=b - (a+bs)) (by simp [l1,h1]) ya_
   rw [List.append_assoc] at this
   rw [this]; exact gW W _
theorem vT (W:O9 lt) {bs J:Nat} (hb:0 < bs) {l:List α} {a n:Nat} (ha:a=J * (2 * bs)) (hn:n=l.length) (han:a<=n) (hlt:n < a+2 * bs) :
 (a+bs < n->mAt lt a (a+bs) n (mix lt bs J l)=fU lt (2 * bs) l/\Srt lt (((mix lt bs J l).drop a).take (a+bs - a))/\Srt lt (((mix lt bs J l).drop (a+bs)).take (n - (a+bs))))/\(n<=a+bs->mix lt bs J l=fU lt (2 * bs) l):=by
 obtain ⟨X,h1,h2,_,h4⟩:=a7l lt hb J l ya_
 rw [<- ha] at h1 h2
 have h5:=h4 1
 rw [uR lt ya_ (by rw [Nat.succ_mul]; omega),<- ha] at h5
 simp only [blk] at h5
 rw [List.take_of_length_le yh_,List.drop_of_length_le (i:=2 * bs) yh_,List.append_nil] at h5
 rw [h2,h5]
 refine ⟨fun h=>?_,fun h=>?_⟩
 · rw [zB lt hb,lX lt (l:=(l.drop a).drop bs) yh_ hb]
   have l1:(K9 lt ((l.drop a).take bs)).length=bs:=by rw [fI]; simp; omega
   have l2:(K9 lt ((l.drop a).drop bs)).length=n - (a+bs):=by rw [fI]; simp; omega
   refine ⟨?_,?_,?_⟩
   · have:=yC lt X (K9 lt ((l.drop a).take bs)) (K9 lt ((l.drop a).drop bs)) [] (a:=a) (m:=a+bs) (b:=n) h1.symm ya_ ya_
     rw [List.append_nil,List.append_nil] at this
     rw [this,<- a3Y W,List.take_append_drop]
   · rw [piece X _ _ h1.symm ya_]; exact gW W _
   · have:=piece (X++K9 lt ((l.drop a).take bs)) (K9 lt ((l.drop a).drop bs)) [] (a:=a+bs) (k:=n - (a+bs)) (by simp [l1,h1]) ya_
     rw [List.append_assoc,List.append_nil] at this
     rw [this]; exact gW W _
 · rw [lX lt yh_ hb]
end
section
variable {α:Type} [Inhabited α]
theorem a6p (cmp:α->α->Int) {l:List α} {j a b:Nat} (ha:a=j * 20) (hb:b=a+20) (hn:b<=l.length):w9 cmp a (b - (a+1)) (a+1) (blk (ltF cmp) 20 j l)=blk (ltF cmp) 20 (j+1) l:=by
 obtain ⟨X,h1,h2,h3⟩:=a8C (ltF cmp) 20 j l ya_
 have h4:blk (ltF cmp) 20 1 (l.drop (j * 20))=K9 (ltF cmp) ((l.drop (j * 20)).take 20)++(l.drop (j * 20)).drop 20:=by simp only [blk]
 rw [h2,h3 1,h4,<- ha]
 have:=yF cmp X ((l.drop a).take 20) ((l.drop a).drop 20) (a:=a) (b:=b) ya_ yh_
 rw [List.take_append_drop] at this
 exact this
theorem b1s (cmp:α->α->Int) {l:List α} {j a n:Nat} (ha:a=j * 20) (hn:n=l.length) (han:a<=n) (hlt:n < a+20):w9 cmp a (n - (a+1)) (a+1) (blk (ltF cmp) 20 j l)=fU (ltF cmp) 20 l:=by
 obtain ⟨X,h1,h2,h3⟩:=a8C (ltF cmp) 20 j l ya_
 have h4:blk (ltF cmp) 20 1 (l.drop (j * 20))=K9 (ltF cmp) ((l.drop (j * 20)).take 20)++(l.drop (j * 20)).drop 20:=by simp only [blk]
 rw [<- uR (ltF cmp) (bs:=20) (K:=j+1) ya_ ya_,h2,h3 1,h4,<- ha]
 have:=yF cmp X (l.drop a) [] (a:=a) (b:=n) ya_ yh_
 rw [List.append_nil,List.append_nil] at this
 rw [this,List.take_of_length_le yh_,List.drop_of_length_le (i:=20) yh_,List.append_nil]
 rfl
end
open Go.Proofs.YtfjedpipdnlkfaaGreat
attribute [local irreducible] A8 E8 G6 I6 I9 J4 K9 L9 Q9 S9 Tp.G5 Tp.card Tp.key Tp.keyT Tp.next Tp.step U8 V8 Y7 blk cmpL fU j6 l6 l9 mAt mg mgL mix sink w9 x9 y5 y9
theorem c2a (cmp:j5->j5->Int) (f:Nat) (xs:List AV) (a p b n g:Nat) (l:l9C) (hc:h9C cmp f xs) (hxs:AV.bdds 1 xs=true) (W:O9 (ltF cmp)) (h1:n=l.length) (h2:n < 1048576) (h3:a < p) (h4:p < b) (h5:b<=n) (h7:Srt (ltF cmp) ((l.drop a).take (p - a))) (h8:Srt (ltF cmp) ((l.drop p).take (b - p))):AC 241 [(AV.osl 0 g 9 0 n),(iN a),(iN p),(iN b),(AV.func f xs)] [(o_ g 9 (mC l))] ((AV.tup []),[(o_ g 9 (mC (mAt (ltF cmp) a p b l)))]):=c8T cmp f xs hc hxs W (b - a+1) a p b n g l h1 h2 h3 h4 h5 ow h7 h8
theorem b8e (cmp:j5->j5->Int) (f:Nat) (xs:List AV) (a p b n g:Nat) (l:l9C) (hc:h9C cmp f xs) (hxs:AV.bdds 1 xs=true) (W:O9 (ltF cmp)) (h1:n=l.length) (h2:n < 1048576) (h3:a < p) (h4:p < b) (h5:b<=n) (h7:Srt (ltF cmp) ((l.drop a).take (p - a))) (h8:Srt (ltF cmp) ((l.drop p).take (b - p))) (H:Heap):AC 241 [(AV.osl 0 g 9 0 n),(iN a),(iN p),(iN b),(AV.func f xs)] (([(o_ g 9 (mC l))]:Heap)++H) ((AV.tup []),([(o_ g 9 (mC (mAt (ltF cmp) a p b l)))]:Heap)++H):=(c2a cmp f xs a p b n g l hc hxs W h1 h2 h3 h4 h5 h7 h8).ext nP kr ob ob kr H
def fO:Ann:={ base:=1,fin:=some 1,live:=[(2,[0,1,2,6,7,8]),(7,[0,1,2,6]),(9,[0,1,2,6,7,8])],out:=[(2,[0,1,2,6,7]),(7,[]),(9,[0,1,2,6,7])] }
theorem aG {p:Prop} (h:p:=by first | exact hc | exact hxs | exact W | omega | (simp; omega)):p:=h
theorem a1U (cmp:j5->j5->Int) (f:Nat) (xs:List AV) (a b n g:Nat) (l:l9C) (hc:h9C cmp f xs) (hxs:AV.bdds 1 xs=true) (W:O9 (ltF cmp)) (hn:n=l.length) (hnb:n < 524288) (hb:b=a+20) (han:a<=n) {eX:Ex} {FX:Fr} {HX:Heap} (k1:(decide ((b:Int)<=(n:Int)))=true->j6 (l9 Tryz.prog (X fO) (p9 Tryz.f234 0)) (some [0,1,2,6,7,8]) (some [0,1,2,6,7]) (mkF 63 [(0,(AV.osl 0 g 9 0 n)),(1,(iN n)),(2,(AV.func f xs)),(6,(iI 20)),(7,(iN b)),(8,(iN (b+20)))]) [(o_ g 9 (mC (w9 cmp a (b - (a+1)) (a+1) l)))] eX FX HX) (k2:(decide ((b:Int)<=(n:Int)))=false->((.exit 0:Ex),(mkF 63 [(0,(AV.osl 0 g 9 0 n)),(1,(iN n)),(2,(AV.func f xs)),(6,(iI 20)),(7,(iN a))]),[(o_ g 9 (mC l))])=(eX,FX,HX)):j6 (l9 Tryz.prog (X fO) (p9 Tryz.f234 0)) (some [0,1,2,6,7,8]) (some [0,1,2,6,7]) (mkF 63 [(0,(AV.osl 0 g 9 0 n)),(1,(iN n)),(2,(AV.func f xs)),(6,(iI 20)),(7,(iN a)),(8,(iN b))]) [(o_ g 9 (mC l))] eX FX HX :=
 F7 (.r (.g (.two (decide ((b:Int)<=(n:Int))) (fun h1 h1'=>(.r (.t 4 (AV.tup []) [(o_ g 9 (mC (w9 cmp a (b - (a+1)) (a+1) l)))] (b1H _ f xs a b n g l aG aG aG aG aG aG []:AC 240 [(AV.osl 0 g 9 0 n),(iN a),(iN b),(AV.func f xs)] [(o_ g 9 (mC l))] ((AV.tup []),([(o_ g 9 (mC (w9 cmp a (b - (a+1)) (a+1) l)))]:Heap))) (.s (.s (.h' [(o_ g 9 (mC (w9 cmp a (b - (a+1)) (a+1) l)))] (.y 2 (iW ((b:Int)+20)) (iN (b+20)) Yes.o (.g (.l (k1 h1)))))))))) (fun h1 h1'=>(.l (k2 h1))))))
theorem b1X {p:Prop} (h:p:=by rw [uP]; exact hn):p:=h
theorem b2S (cmp:j5->j5->Int) (f:Nat) (xs:List AV) (hc:h9C cmp f xs) (hxs:AV.bdds 1 xs=true) (W:O9 (ltF cmp)) (n g:Nat) (l0:l9C) (hn:n=l0.length) (hnb:n < 524288) (r:Nat):∀ (j a b:Nat) (l:l9C),j+r=n / 20->a=j * 20->b=a+20->l=blk (ltF cmp) 20 j l0 ->
 j6 (l9 Tryz.prog (X fO) (p9 Tryz.f234 0)) (some [0,1,2,6,7,8]) (some [0,1,2,6,7]) (mkF 63 [(0,(AV.osl 0 g 9 0 n)),(1,(iN n)),(2,(AV.func f xs)),(6,(iI 20)),(7,(iN a)),(8,(iN b))]) [(o_ g 9 (mC l))] (.exit 0) (mkF 63 [(0,(AV.osl 0 g 9 0 n)),(1,(iN n)),(2,(AV.func f xs)),(6,(iI 20)),(7,(iN ((n / 20 * 20))))]) [(o_ g 9 (mC (blk (ltF cmp) 20 (n / 20) l0)))]:=by
 induction r with
 | zero =>
  intro j a b l hj ha hb hl
  subst hl
  refine a1U cmp f xs a b n g _ hc hxs W b1X hnb hb ow (fun h=>by simp at h; omega) (fun _=>?_)
  rw [show n / 20=j by omega,<- ha]
 | succ r ih =>
  intro j a b l hj ha hb hl
  subst hl
  refine a1U cmp f xs a b n g _ hc hxs W b1X hnb hb ow (fun h=>?_) (fun h=>by simp at h; omega)
  rw [a6p cmp ha hb ow]
  exact ih (j+1) b (b+20) _ ow ow rfl rfl
@[simp] abbrev b5O (a:Nat):=(IntKind.i64.wrap (2 * (a:Int)))
theorem a1T (cmp:j5->j5->Int) (f:Nat) (xs:List AV) (bs a b n g:Nat) (l:l9C) (hc:h9C cmp f xs) (hxs:AV.bdds 1 xs=true) (W:O9 (ltF cmp)) (hn:n=l.length) (hnb:n < 524288) (hb:b=a+2 * bs) (hbs:0 < bs) (hbn:bs < 524288) (han:a<=n) (hs7:b<=n->Srt (ltF cmp) ((l.drop a).take (a+bs - a))) (hs8:b<=n->Srt (ltF cmp) ((l.drop (a+bs)).take (b - (a+bs)))) {eX:Ex} {FX:Fr} {HX:Heap} (k1:(decide ((b:Int)<=(n:Int)))=true->j6 (l9 Tryz.prog (X fO) (p9 Tryz.f234 2)) (some [0,1,2,6,7,8]) (some [0,1,2,6,7]) (mkF 63 [(0,(AV.osl 0 g 9 0 n)),(1,(iN n)),(2,(AV.func f xs)),(6,(iN bs)),(7,(iN b)),(8,(iN (b+(2 * bs))))]) [(o_ g 9 (mC (mAt (ltF cmp) a (a+bs) b l)))] eX FX HX) (k2:(decide ((b:Int)<=(n:Int)))=false->((.exit 4:Ex),(mkF 63 [(0,(AV.osl 0 g 9 0 n)),(1,(iN n)),(2,(AV.func f xs)),(6,(iN bs)),(7,(iN a))]),[(o_ g 9 (mC l))])=(eX,FX,HX)):j6 (l9 Tryz.prog (X fO) (p9 Tryz.f234 2)) (some [0,1,2,6,7,8]) (some [0,1,2,6,7]) (mkF 63 [(0,(AV.osl 0 g 9 0 n)),(1,(iN n)),(2,(AV.func f xs)),(6,(iN bs)),(7,(iN a)),(8,(iN b))]) [(o_ g 9 (mC l))] eX FX HX :=
 F7 (.r (.g (.two (decide ((b:Int)<=(n:Int))) (fun h1 h1'=>(.r (.y 4 (.int .i64 (gP a bs)) (iN (a+bs)) Yes.o (.t 7 (AV.tup []) [(o_ g 9 (mC (mAt (ltF cmp) a (a+bs) b l)))] (b8e _ f xs a (a+bs) b n g l aG aG aG aG aG aG aG aG (hs7 a2K) (hs8 a2K) []:AC 241 [(AV.osl 0 g 9 0 n),(iN a),(iN (a+bs)),(iN b),(AV.func f xs)] [(o_ g 9 (mC l))] ((AV.tup []),([(o_ g 9 (mC (mAt (ltF cmp) a (a+bs) b l)))]:Heap))) (.s (.s (.h' [(o_ g 9 (mC (mAt (ltF cmp) a (a+bs) b l)))] (.y 2 (.int .i64 (b5O bs)) (iN (2 * bs)) Yes.o (.y 3 (iW ((b:Int)+((2 * bs:Nat):Int))) (iN (b+(2 * bs))) Yes.o (.g (.l (k1 h1)))))))))))) (fun h1 h1'=>(.l (k2 h1))))))
theorem b1W {p:Prop} (h:p:=by rw [b1D]; exact hn):p:=h
theorem b2R (cmp:j5->j5->Int) (f:Nat) (xs:List AV) (hc:h9C cmp f xs) (hxs:AV.bdds 1 xs=true) (W:O9 (ltF cmp)) (bs n g:Nat) (l0:l9C) (hn:n=l0.length) (hnb:n < 524288) (hbs:0 < bs) (hbn:bs < 524288) (J:Nat) (hJ:J=n / (2 * bs)) (r:Nat):∀ (j a b:Nat) (l:l9C),j+r=J->a=j * (2 * bs)->b=a+2 * bs->l=mix (ltF cmp) bs j l0 ->
 j6 (l9 Tryz.prog (X fO) (p9 Tryz.f234 2)) (some [0,1,2,6,7,8]) (some [0,1,2,6,7]) (mkF 63 [(0,(AV.osl 0 g 9 0 n)),(1,(iN n)),(2,(AV.func f xs)),(6,(iN bs)),(7,(iN a)),(8,(iN b))]) [(o_ g 9 (mC l))] (.exit 4) (mkF 63 [(0,(AV.osl 0 g 9 0 n)),(1,(iN n)),(2,(AV.func f xs)),(6,(iN bs)),(7,(iN ((J * (2 * bs)))))]) [(o_ g 9 (mC (mix (ltF cmp) bs J l0)))]:=by
 have hdm:=Nat.div_mul_le_self n (2 * bs)
 have hlt:=Nat.lt_div_mul_add (a:=n) (b:=2 * bs) ow
 rw [<- hJ] at hdm hlt
 induction r with
 | zero =>
  intro j a b l hj ha hb hl
  subst hl
  obtain rfl:j=J:=by omega
  refine a1T cmp f xs bs a b n g _ hc hxs W b1W hnb hb hbs hbn ow (fun h=>by omega) (fun h=>by omega) (fun h=>by simp at h; omega) (fun _=>?_)
  rw [<- ha]
 | succ r ih =>
  intro j a b l hj ha hb hl
  subst hl
  have hmul:(j+1) * (2 * bs)=j * (2 * bs)+2 * bs:=Nat.succ_mul _ _
  have hle:(j+1) * (2 * bs)<=J * (2 * bs):=Nat.mul_le_mul_right _ ow
  obtain ⟨q1,q2,q3⟩:=a4s W hbs (l:=l0) ha hb ow
  refine a1T cmp f xs bs a b n g _ hc hxs W b1W hnb hb hbs hbn ow (fun _=>q2) (fun _=>q3) (fun h=>?_) (fun h=>by simp at h; omega)
  rw [q1]
  exact ih (j+1) b (b+2 * bs) _ ow ow rfl rfl
@[simp] abbrev c7m (a:Nat) (b:Nat) (c:Nat) (d:List AV) (e:Nat):Fr:=(mkF 63 [(0,(AV.osl 0 a 9 0 b)),(1,(iN b)),(2,(AV.func c d)),(6,(iN (e * 2)))])
@[simp] abbrev d2q (a:Nat) (b:Nat) (c:Nat) (d:List AV) (e:Nat) (f:Nat):Fr:=(mkF 63 [(0,(AV.osl 0 a 9 0 b)),(1,(iN b)),(2,(AV.func c d)),(6,(iN e)),(7,(iN ((f * (2 * e)))))])
theorem nJ {p:Prop} (h:p:=by first | exact hc | exact hxs | exact W | omega | (rw [b1D]; exact hn) | (simp; omega)):p:=h
theorem xG {p:Prop} (h:p:=by have:=of_decide_eq_true h2; omega):p:=h
@[simp] abbrev c4J :=(l9 Tryz.prog (X fO) (p9 Tryz.f234 1))
@[simp] abbrev b5N (a:Nat):=(IntKind.i64.wrap ((a:Int) * 2))
theorem a1S (cmp:j5->j5->Int) (f:Nat) (xs:List AV) (bs J n g:Nat) (l l0:l9C) (hc:h9C cmp f xs) (hxs:AV.bdds 1 xs=true) (W:O9 (ltF cmp)) (hn:n=l0.length) (hnb:n < 524288) (hbs:0 < bs) (hbn:bs < 1048576) (hl:l=fU (ltF cmp) bs l0) (hJ:J=n / (2 * bs)) (hJn:J * (2 * bs)<=n) (hs7:J * (2 * bs)+bs < n->Srt (ltF cmp) (((mix (ltF cmp) bs J l0).drop (J * (2 * bs))).take (J * (2 * bs)+bs - J * (2 * bs)))) (hs8:J * (2 * bs)+bs < n->Srt (ltF cmp) (((mix (ltF cmp) bs J l0).drop (J * (2 * bs)+bs)).take (n - (J * (2 * bs)+bs)))) {eX:Ex} {FX:Fr} {HX:Heap} (k1:(decide ((bs:Int) < (n:Int)))=true->(decide ((((J * (2 * bs))+bs:Nat):Int) < (n:Int)))=true->j6 c4J (some [0,1,2,6]) (some []) (c7m g n f xs bs) [(o_ g 9 (mC (mAt (ltF cmp) (J * (2 * bs)) ((J * (2 * bs))+bs) n (mix (ltF cmp) bs J l0))))] eX FX HX) (k2:(decide ((bs:Int) < (n:Int)))=true->(decide ((((J * (2 * bs))+bs:Nat):Int) < (n:Int)))=false->j6 c4J (some [0,1,2,6]) (some []) (c7m g n f xs bs) [(o_ g 9 (mC (mix (ltF cmp) bs J l0)))] eX FX HX) (k3:(decide ((bs:Int) < (n:Int)))=false->((.exit 2:Ex),(mkF 63 []),[(o_ g 9 (mC l))])=(eX,FX,HX)):j6 c4J (some [0,1,2,6]) (some []) (mkF 63 [(0,(AV.osl 0 g 9 0 n)),(1,(iN n)),(2,(AV.func f xs)),(6,(iN bs))]) [(o_ g 9 (mC l))] eX FX HX :=
 F7 (.r (.g (.two (decide ((bs:Int) < (n:Int))) (fun h1 h1'=>(.r (.y 1 (.int .i64 (b5O bs)) (iN (2 * bs)) Yes.o (.g (.loop (d2q g n f xs bs J) (b2R cmp f xs hc hxs W bs n g l0 hn hnb hbs ow J hJ J 0 0 (2 * bs) l ow ow ow (by rw [hl]; simp only [mix])) (.r (.y 2 (iW ((((J * (2 * bs)):Nat):Int)+(bs:Int))) (iN ((J * (2 * bs))+bs)) Yes.o (.s (.g (.two (decide ((((J * (2 * bs))+bs:Nat):Int) < (n:Int))) (fun h2 h2'=>(.r (.t 5 (AV.tup []) [(o_ g 9 (mC (mAt (ltF cmp) (J * (2 * bs)) ((J * (2 * bs))+bs) n (mix (ltF cmp) bs J l0))))] (b8e _ f xs (J * (2 * bs)) ((J * (2 * bs))+bs) n n g (mix (ltF cmp) bs J l0) nJ nJ nJ nJ nJ nJ xG ow (hs7 xG) (hs8 xG) []:AC 241 [(AV.osl 0 g 9 0 n),(iN ((J * (2 * bs)))),(iN ((J * (2 * bs))+bs)),(iN n),(AV.func f xs)] [(o_ g 9 (mC (mix (ltF cmp) bs J l0)))] ((AV.tup []),([(o_ g 9 (mC (mAt (ltF cmp) (J * (2 * bs)) ((J * (2 * bs))+bs) n (mix (ltF cmp) bs J l0))))]:Heap))) (.s (.h' [(o_ g 9 (mC (mAt (ltF cmp) (J * (2 * bs)) ((J * (2 * bs))+bs) n (mix (ltF cmp) bs J l0))))] (.y 1 (.int .i64 (b5N bs)) (iN (bs * 2)) Yes.o (.g (.l (k1 h1 h2))))))))) (fun h2 h2'=>(.r (.y 1 (.int .i64 (b5N bs)) (iN (bs * 2)) Yes.o (.g (.l (k2 h1 h2)))))))))))))))) (fun h1 h1'=>(.l (k3 h1))))))
theorem b1V {p:Prop} (h:p:=by rw [Nat.mul_comm]):p:=h
theorem b2Q (cmp:j5->j5->Int) (f:Nat) (xs:List AV) (hc:h9C cmp f xs) (hxs:AV.bdds 1 xs=true) (W:O9 (ltF cmp)) (n g:Nat) (l0:l9C) (hn:n=l0.length) (hnb:n < 524288) (r:Nat):∀ (bs:Nat) (l:l9C),n - bs<=r->0 < bs->bs < 1048576->l=fU (ltF cmp) bs l0 ->
 j6 (l9 Tryz.prog (X fO) (p9 Tryz.f234 1)) (some [0,1,2,6]) (some []) (mkF 63 [(0,(AV.osl 0 g 9 0 n)),(1,(iN n)),(2,(AV.func f xs)),(6,(iN bs))]) [(o_ g 9 (mC l))] (.exit 2) (mkF 63 []) [(o_ g 9 (mC (K9 (ltF cmp) l0)))]:=by
 have key:∀ bs,0 < bs->(n / (2 * bs) * (2 * bs)<=n/\n < n / (2 * bs) * (2 * bs)+2 * bs):=fun bs hbs=>⟨Nat.div_mul_le_self n (2 * bs),Nat.lt_div_mul_add (a:=n) (b:=2 * bs) ow⟩
 induction r with
 | zero =>
  intro bs l h1 hbs hbn hl
  obtain ⟨k1,k2⟩:=key bs hbs
  obtain ⟨q1,q2⟩:=vT W hbs (l:=l0) (J:=n / (2 * bs)) rfl hn k1 k2
  refine a1S cmp f xs bs (n / (2 * bs)) n g l l0 hc hxs W hn hnb hbs hbn hl rfl k1 (fun h=>(q1 h).2.1) (fun h=>(q1 h).2.2) (fun h=>by simp at h; omega) (fun h=>by simp at h; omega) (fun _=>?_)
  rw [hl,lX (ltF cmp) ow hbs]
 | succ r ih =>
  intro bs l h1 hbs hbn hl
  obtain ⟨k1,k2⟩:=key bs hbs
  obtain ⟨q1,q2⟩:=vT W hbs (l:=l0) (J:=n / (2 * bs)) rfl hn k1 k2
  refine a1S cmp f xs bs (n / (2 * bs)) n g l l0 hc hxs W hn hnb hbs hbn hl rfl k1 (fun h=>(q1 h).2.1) (fun h=>(q1 h).2.2) (fun h h2=>?_) (fun h h2=>?_) (fun h=>?_)
  · rw [(q1 xG).1]
    exact ih (bs * 2) _ nQ ow nQ b1V
  · rw [q2 (by have:=of_decide_eq_false h2; omega)]
    exact ih (bs * 2) _ nQ ow nQ b1V
  · rw [hl,lX (ltF cmp) nQ hbs]
@[simp] abbrev d2p (a:Nat) (b:Nat) (c:Nat) (d:List AV):Fr:=(mkF 63 [(0,(AV.osl 0 a 9 0 b)),(1,(iN b)),(2,(AV.func c d)),(6,(iI 20)),(7,(iN ((b / 20 * 20))))])
theorem nI {p:Prop} (h:p:=by first | exact hc | exact hxs | omega | (rw [uP]; omega) | (simp; omega)):p:=h
theorem b8d (cmp:j5->j5->Int) (f:Nat) (xs:List AV) (n g:Nat) (l:l9C) (hc:h9C cmp f xs) (hxs:AV.bdds 1 xs=true) (W:O9 (ltF cmp)) (hn:n=l.length) (hb:n < 524288):AC 234 [(AV.osl 0 g 9 0 n),(AV.int .i64 (n:Int)),(AV.func f xs)] [(o_ g 9 (List.map j5.row l))] ((AV.tup []),[(o_ g 9 (List.map j5.row (w9 cmp 0 (n - 1) 1 l)))]):=by
 have hq:(blk (ltF cmp) 20 (n / 20) l).length=n:=by rw [uP]; exact hn.symm
 have ht:=b1s cmp (l:=l) (j:=n / 20) (a:=n / 20 * 20) rfl hn ow ow
 have hfin:K9 (ltF cmp) l=w9 cmp 0 (n - 1) 1 l:=by subst hn; exact (jG cmp l).symm
 exact o9 (fn:=Tryz.f234) (ann:=fO) (Has.o Tryz.func234) (.r (.s (.g (.loop (d2p g n f xs) (b2S cmp f xs hc hxs W n g l hn hb (n / 20) 0 0 20 l ow rfl ow (by simp only [blk])) (.r (.t 4 (AV.tup []) [(o_ g 9 (List.map j5.row (w9 cmp (n / 20 * 20) (n - ((n / 20 * 20)+1)) ((n / 20 * 20)+1) (blk (ltF cmp) 20 (n / 20) l))))] (b1H _ f xs (n / 20 * 20) n n g (blk (ltF cmp) 20 (n / 20) l) nI nI nI nI nI nI []:AC 240 [(AV.osl 0 g 9 0 n),(AV.int .i64 (((n / 20 * 20):Nat):Int)),(AV.int .i64 (n:Int)),(AV.func f xs)] [(o_ g 9 (List.map j5.row (blk (ltF cmp) 20 (n / 20) l)))] ((AV.tup []),([(o_ g 9 (List.map j5.row (w9 cmp (n / 20 * 20) (n - ((n / 20 * 20)+1)) ((n / 20 * 20)+1) (blk (ltF cmp) 20 (n / 20) l))))]:Heap))) (.g (.loop (mkF 63 []) (b2Q cmp f xs hc hxs W n g l hn hb n 20 (w9 cmp (n / 20 * 20) (n - ((n / 20 * 20)+1)) ((n / 20 * 20)+1) (blk (ltF cmp) 20 (n / 20) l)) ow ow ow ht) (.q 1 (AV.tup []) (by rw [hfin]))))))))))
theorem c8a (cmp:j5->j5->Int) (f:Nat) (xs:List AV) (n g:Nat) (l:l9C) (hc:h9C cmp f xs) (hxs:AV.bdds 1 xs=true) (W:O9 (ltF cmp)) (hn:n=l.length) (hb:n < 524288) (H:Heap):AC 234 [(AV.osl 0 g 9 0 n),(iN n),(AV.func f xs)] (([(o_ g 9 (mC l))]:Heap)++H) ((AV.tup []),([(o_ g 9 (mC (w9 cmp 0 (n - 1) 1 l)))]:Heap)++H):=(b8d cmp f xs n g l hc hxs W hn hb).ext nP kr ob ob kr H
def b2t:Ann:={ base:=1,fin:=some 1 }
theorem rW {p:Prop} (h:p:=by first | exact hc | exact hxs | exact W | omega):p:=h
theorem a9H (cmp:j5->j5->Int) (f:Nat) (xs:List AV) (n g:Nat) (l:l9C) (hc:h9C cmp f xs) (hxs:AV.bdds 1 xs=true) (W:O9 (ltF cmp)) (hn:n=l.length) (hb:n < 524288):AC 220 [(AV.osl 0 g 9 0 n),(AV.func f xs)] [(o_ g 9 (mC l))] ((AV.tup []),[(o_ g 9 (mC (w9 cmp 0 (n - 1) 1 l)))]) :=
 o9 (fn:=Tryz.f220) (ann:=b2t) (Has.o Tryz.func220) (.r (.t 4 (AV.tup []) [(o_ g 9 (mC (w9 cmp 0 (n - 1) 1 l)))] (c8a _ f xs n g l rW rW rW rW rW []:AC 234 [(AV.osl 0 g 9 0 n),(iN n),(AV.func f xs)] [(o_ g 9 (mC l))] ((AV.tup []),([(o_ g 9 (mC (w9 cmp 0 (n - 1) 1 l)))]:Heap))) (.g (.h' [(o_ g 9 (mC (w9 cmp 0 (n - 1) 1 l)))] (.q 1 (AV.tup []))))))
theorem b7P (cmp:j5->j5->Int) (f:Nat) (xs:List AV) (n g:Nat) (l:l9C) (hc:h9C cmp f xs) (hxs:AV.bdds 1 xs=true) (W:O9 (ltF cmp)) (hn:n=l.length) (hb:n < 524288) (H:Heap):AC 220 [(AV.osl 0 g 9 0 n),(AV.func f xs)] (([(o_ g 9 (mC l))]:Heap)++H) ((AV.tup []),([(o_ g 9 (mC (w9 cmp 0 (n - 1) 1 l)))]:Heap)++H):=(a9H cmp f xs n g l hc hxs W hn hb).ext nP kr ob ob kr H
end Go.Proofs.YtfjedpipdnlkfaaGreat.AM
namespace Go.Proofs.YtfjedpipdnlkfaaGreat.AM
open Go Go.Proofs.YtfjedpipdnlkfaaGreat
attribute [local irreducible] E8 J4 j6 l6 l9
structure pJ where
 l:List j5
 deriving Inhabited
def pJ.row (x:pJ):List AV:=[(sA 9 (mC x.l))]
@[simp] theorem pJ.V7 (n:Nat) (x:pJ):AV.bdds n x.row=true:=by simp [pJ.row,AV.bdds,AV.bdd]
@[simp] theorem pJ.p8 (n:Nat) (l:List pJ):AV.D5 n (l.map pJ.row)=true:=by induction l with | nil=>rfl | cons x l ih=>simp [AV.D5,pJ.V7,ih]
theorem d2e:O9 (ltF fun a b:j5=>U8 a.key b.key):=c6d
theorem b1U {p:Prop} (h:p:=by with_unfolding_all rfl):p:=h
theorem a1D (l:l9C) (hl:l.length < 1000):AC 198 [(sA 9 (mC l))] [] ((AV.sl .cn 9 (mC (S9 l))),[]):=by
 have hpl:=a3X l
 exact o9 (fn:=Tryz.f198) (ann:=a5c) (Has.o Tryz.func198) (.r (.s (.ch 1 [(o_ 0 9 (mC l))] (c0G l oa []) (.s (.ch 1 [(o_ 0 9 (mC (w9 (fun a b=>U8 a.key b.key) 0 (l.length - 1) 1 l)))] (b7P (fun a b=>U8 a.key b.key) 221 [] l.length 0 l (fun x y H=>b2q x y H) (rfl) (d2e) oa oa []) (.w' 3 (mC (w9 (fun a b=>U8 a.key b.key) 0 (l.length - 1) 1 l)) (And.intro (G7 (room:=none) kr (by first | omega | (simp [bQ]; done) | (simp [bQ]; omega))) (j5.p8 _ _):F5 [(o_ 0 9 (mC (w9 (fun a b=>U8 a.key b.key) 0 (l.length - 1) 1 l)))] 9 (AV.osl 0 0 9 0 l.length)=some (mC (w9 (fun a b=>U8 a.key b.key) 0 (l.length - 1) 1 l))/\AV.D5 0 (mC (w9 (fun a b=>U8 a.key b.key) 0 (l.length - 1) 1 l))=true) (.s (.c 1 ((b5w (w9 (fun a b=>U8 a.key b.key) 0 (l.length - 1) 1 l) (by rw [bQ]; omega)).lift kr kr [(o_ 1 9 [])]) (.g (.h' [] (.q 0 (AV.sl .cn 9 (mC (w9 (fun a b=>U8 a.key b.key) 0 (l.length - 1) 1 l))) b1U)))))))))))
theorem a2R (l:l9C) (hl:l.length < 1000):AC 198 [(sA 9 (mC l))] [] ((sA 9 (mC (S9 l))),[]):=(a1D l hl).post ⟨rfl,rfl,.inl rfl⟩
attribute [local irreducible] S9 G6
attribute [local irreducible] A8 D9 I6 I9 J2 J6 J7 K4 L9 Q9 Tp.G5 Tp.card Tp.key Tp.keyT Tp.next Tp.step U8 V8 Y7 Y9 cO cmpL dS fC gL gM kV ofB qM sink w9 x9 y5 y9
@[simp] abbrev c7l (a:l9C):Fr:=(mkF 22 [(3,(AV.osl 0 (J6 a).length 9 0 (J6 a).length)),(6,(sA 9 (mC a))),(7,(iN a.length)),(8,(iN a.length))])
theorem a1K (l:l9C) (hl:l.length < 1000):AC 173 [(sA 9 (mC l))] [] ((sA 9 (mC (K4 l))),[]):=by
 have hk:=yG l
 exact o9 (fn:=Tryz.f173) (ann:=a0M) (Has.o Tryz.func173) (.r (.s (.s (.h' [(o_ 0 9 (mC []))] (.y 1 (.int .i64 ((List.length (mC l):Nat):Int)) (iN l.length) (Yes.len _ _ _) (.g (.loop (c7l l) (show j6 b5X (some [3,6,7,8]) (some [3,6,7,8]) (mkF 22 [(3,(AV.osl 0 0 9 0 0)),(6,(sA 9 (mC l))),(7,(iN l.length)),(8,z_)]) [(o_ 0 9 (mC []))] (.exit 0) (c7l l) [(o_ ((J6 l).length) 9 (mC (J6 l)))] from (b7V l ow (List.length l) [] 0 0 0 (J6 l,(J6 l).length,(J6 l).length) ow rfl ow (b7W _))) (.r (.w 3 (mC (J6 l)) (And.intro (G7 (room:=none) kr om) (j5.p8 _ _):F5 [(o_ ((J6 l).length) 9 (mC (J6 l)))] 9 (AV.osl 0 (J6 l).length 9 0 (J6 l).length)=some (mC (J6 l))/\AV.D5 0 (mC (J6 l))=true) (.c 1 ((a2R (J6 l) oa).lift kr kr [(o_ ((J6 l).length+1) 9 [])]) (.g (.h' [] (.q 0 (sA 9 (mC (S9 (J6 l)))) b1U)))))))))))))
theorem a9L (l:l9C) (hl:l.length < 1000):AC 228 [(sA 9 (mC l))] [] ((sA 1 (List.map rU8 (cO l))),[]):=by
 have h1:=mP l
 exact o9 (fn:=Tryz.f228) (ann:=xO) (Has.o Tryz.func228) (.r (.s (.s (.c 1 ((a1K l oa).lift kr kr []) (.y 2 (.int .i64 ((List.length (mC (K4 l)):Nat):Int)) (iN ((K4 l).length)) (Yes.len _ _ _) (.g (.loop (b7m l) (show j6 c5f (some [3,7,8,9]) (some [3,7,8,9]) (mkF 31 [(3,(sA 1 [])),(7,(sA 9 (mC (K4 l)))),(8,(iN ((K4 l).length))),(9,z_)]) [] (.exit 0) (b7m l) [] from (b2B (K4 l) ow (List.length (K4 l)) [] 0 (List.foldl dS [] (K4 l)) ow yf_ (b2C _))) (.qr 0 (c5b l) b1U))))))))
def a9K:Ann:={ fin:=some 0 }
theorem a6x (l:l9C) (hl:l.length < 1000):AC 211 [(sA 9 (mC l))] [] ((AV.int .u32 (ofB l)),[]):=by
 have h1:=a4e l
 exact o9 (fn:=Tryz.f211) (ann:=a9K) (Has.o Tryz.func211) (.r (.s (.c 1 ((a9L l oa).lift kr kr []) (.c 2 ((c1D (cO l) oa).lift kr kr []) (.q 0 (AV.int .u32 (gL (cO l))) b1U)))))
end Go.Proofs.YtfjedpipdnlkfaaGreat.AM
namespace Go.Proofs.YtfjedpipdnlkfaaGreat.AM
open Go Go.Proofs.YtfjedpipdnlkfaaGreat
attribute [local irreducible] E8 G6 J4 P9 S9 T9 eP j6 l6 l9 stR
structure Msg where
 kind:Int
 op:Int
 status:Int
 code:Int
 tag:Int
 n:Int
 seq:Int
 key:Key
 full:Bool
 sum:Int
 cards:List j5
 keys:List Key
 deriving Inhabited
def Msg.row (x:Msg):List AV:=[(iI x.kind),(iI x.op),(iI x.status),(iI x.code),(iI x.tag),(iI x.n),(iI x.seq),(AV.str x.key.app),(AV.str x.key.id),(bB x.full),(AV.int .u32 x.sum),(sA 9 (mC x.cards)),(sA 2 (mK x.keys))]
@[simp] theorem Msg.V7 (n:Nat) (x:Msg):AV.bdds n x.row=true:=by simp [Msg.row,AV.bdds,AV.bdd]
@[simp] theorem Msg.p8 (n:Nat) (l:List Msg):AV.D5 n (l.map Msg.row)=true:=by induction l with | nil=>rfl | cons x l ih=>simp [AV.D5,Msg.V7,ih]
def c0k:Ann:={ fin:=some 0 }
theorem b5b (l:l9C) (h:¬ l.length=0):AC 209 [(sA 9 (mC l)),(AV.sl .nil 0 [])] [] ((bB (decide (l.length=0))),[]) :=
 o9 (fn:=Tryz.f209) (ann:=c0k) (Has.o Tryz.func209) (.r (.s (.y 1 (.int .i64 ((List.length (mC l):Nat):Int)) (iN l.length) (Yes.len _ _ _) (.y 4 (bB ((l.length:Int) != 0)) bT (Yes.b (by simp; intro q; subst q; exact h rfl)) (.g (.u (.qr 0 bF (by simp [h]))))))))
def c0j:Ann:={ fin:=some 0 }
theorem b5a  :AC 209 [(sA 9 []),(AV.sl .nil 0 [])] [] (bT,[]) :=
 o9 (fn:=Tryz.f209) (ann:=c0j) (Has.o Tryz.func209) (.r (.s (.rn (.g (.roll 1 (.r (.g (.n (.qr 0 bT)))))))))
theorem c0i (l:l9C) :AC 209 [(sA 9 (mC l)),(AV.sl .nil 0 [])] [] ((bB (decide (l.length=0))),[]):=by
 by_cases h:l.length=0
 · obtain rfl:l=[]:=List.eq_nil_of_length_eq_zero h
   exact b5a
 · exact b5b l h
def c0h:Ann:={ fin:=some 0 }
theorem b4Z (l:l9K) (h:¬ l.length=0):AC 210 [(sA 2 (mK l)),(AV.sl .nil 0 [])] [] ((bB (decide (l.length=0))),[]) :=
 o9 (fn:=Tryz.f210) (ann:=c0h) (Has.o Tryz.func210) (.r (.s (.y 1 (.int .i64 ((List.length (mK l):Nat):Int)) (iN l.length) (Yes.len _ _ _) (.y 4 (bB ((l.length:Int) != 0)) bT (Yes.b (by simp; intro q; subst q; exact h rfl)) (.g (.u (.qr 0 bF (by simp [h]))))))))
def c0g:Ann:={ fin:=some 0 }
theorem b4Y  :AC 210 [(sA 2 []),(AV.sl .nil 0 [])] [] (bT,[]) :=
 o9 (fn:=Tryz.f210) (ann:=c0g) (Has.o Tryz.func210) (.r (.s (.rn (.g (.roll 1 (.r (.g (.n (.qr 0 bT)))))))))
theorem c0f (l:l9K) :AC 210 [(sA 2 (mK l)),(AV.sl .nil 0 [])] [] ((bB (decide (l.length=0))),[]):=by
 by_cases h:l.length=0
 · obtain rfl:l=[]:=List.eq_nil_of_length_eq_zero h
   exact b4Y
 · exact b4Z l h
def b9u:Ann:={ refs:=[1],fin:=some 0 }
theorem b4i (c:j5) :AC 101 [(AV.agg (j5.row c))] [] ((bB (!(eP c))),[]) :=
 o9 (fn:=Tryz.f101) (ann:=b9u) (Has.o Tryz.func101) (.r (.s (.c 1 ((b0Y c).lift kr kr []) (.q 0 (bB (!(eP c)))))))
def a3f:Ann:={ fin:=some 0,live:=[(2,[0,1,7,8])],out:=[(2,[0,1,7,8])] }
@[simp] abbrev b6H (a:l9C) (b:Nat):Fr:=(mkF 19 [(0,(sA 9 (mC a))),(1,(AV.func 101 [])),(7,(iN a.length)),(8,(iN b))])
@[simp] abbrev c4I :=(l9 Tryz.prog (X a3f) (p9 Tryz.f168 0))
theorem a7k (l:l9C)  (i:Nat) (hl:l.length < 1099511627776) (hle_:i<=l.length) {eX:Ex} {FX:Fr} {HX:Heap} (k1:(decide ((i:Int) < (l.length:Int)))=true->(!(eP (nth l i)))=true->((.ret:Ex),(b6H l i),[])=(eX,FX,HX)) (k2:(decide ((i:Int) < (l.length:Int)))=true->(!(eP (nth l i)))=false->j6 c4I (some [0,1,7,8]) (some [0,1,7,8]) (mkF 19 [(0,(sA 9 (mC l))),(1,(AV.func 101 [])),(7,(iN l.length)),(8,(iN (i+1)))]) [] eX FX HX) (k3:(decide ((i:Int) < (l.length:Int)))=false->((.exit 0:Ex),(b6H l i),[])=(eX,FX,HX)):j6 c4I (some [0,1,7,8]) (some [0,1,7,8]) (b6H l i) [] eX FX HX :=
 F7 (.r (.g (.two (decide ((i:Int) < (l.length:Int))) (fun h1 h1'=>(.r (.s (.is 3 9 9 (mC l) (i:Int) (j5.row (nth l i)) (J8.mk _ ow ow) (.c 5 ((b4i (nth l i)).lift kr kr []) (.g (.two (!(eP (nth l i))) (fun h2 h2'=>(.r (.g (.l (k1 h1 h2))))) (fun h2 h2'=>(.r (.y 0 (.int .i64 (cb_ i)) (iN (i+1)) Yes.o (.g (.l (k2 h1 h2))))))))))))) (fun h1 h1'=>(.l (k3 h1))))))
def a5y (l:List j5) (i:Nat) (s:Unit):Unit:=()
def b1E (l:List j5)  (i:Nat):Prop:=(((decide ((i:Int) < (l.length:Int)))=true)/\((!(eP (nth l i)))=true))
@[simp] abbrev c5F (a:l9C):Fr:=(mkF 19 [(0,(sA 9 (mC a))),(1,(AV.func 101 [])),(7,(iN a.length)),(8,(iN a.length))])
theorem c3g (l:l9C) (hl:l.length < 1099511627776)  (hbad:∀ (i:Nat),i < l.length->¬ b1E l  i) (r_:Nat):∀  (i:Nat) (sF:Unit),i+r_=l.length->()=(iter (a5y l) i 0 ())->sF=iter (a5y l) r_ i () ->
 j6 (l9 Tryz.prog (X a3f) (p9 Tryz.f168 0)) (some [0,1,7,8]) (some [0,1,7,8]) (b6H l i) [] (.exit 0) (c5F l) []:=by
 induction r_ with
 | zero =>
  intro  i sF hi_  hs_ hF
  obtain rfl:l.length=i:=by omega
  have e_:sF=():=hF
  refine a7k l  l.length hl (Nat.le_refl _) (fun h _=>by simp at h <;> omega) (fun h _=>by simp at h <;> omega) (fun _=>?_)
  first | done | rfl | (rw [e_]; done) | (rw [e_]; rfl)
 | succ r_ ih =>
  intro  i sF hi_  hs_ hF
  refine a7k l  i hl ow (fun h1 h2=>?_) (fun h1 h2=>?_) (fun h=>by simp at h <;> omega)
  · exact False.elim b2e
  · exact ih  (i+1) sF ow  (by rw [mU,<- hs_] <;> simp only [a5y,h2,if_true,Bool.false_eq_true,if_false]) (by rw [hF] <;> simp only [iter,a5y,h2,if_true,Bool.false_eq_true,if_false])
theorem c3f (l:l9C) (hl:l.length < 1099511627776) (hr:∀ c∈l,eP c=true):AC 168 [(sA 9 (mC l)),(AV.func 101 [])] [] ((iI (-1)),[]) :=
 o9 (fn:=Tryz.f168) (ann:=a3f) (Has.o Tryz.func168) (.r (.s (.y 1 (.int .i64 ((List.length (mC l):Nat):Int)) (iN l.length) (Yes.len _ _ _) (.g (.loop (c5F l) (show j6 c4I (some [0,1,7,8]) (some [0,1,7,8]) (mkF 19 [(0,(sA 9 (mC l))),(1,(AV.func 101 [])),(7,(iN l.length)),(8,z_)]) [] (.exit 0) (c5F l) [] from (c3g l hl (fun i hi=>by simp only [b1E]; rw [hr _ (lH hi)]; simp) l.length 0 () ow rfl rfl)) (.qr 0 (iI (-1))))))))
def b9s:Ann:={ fin:=some 0 }
theorem b4f (l:l9C) (hl:l.length < 1099511627776) (hr:∀ c∈l,eP c=true):AC 100 [(sA 9 (mC l)),(AV.func 101 [])] [] (bF,[]) :=
 o9 (fn:=Tryz.f100) (ann:=b9s) (Has.o Tryz.func100) (.r (.s (.c 2 ((c3f l oa oa).lift kr kr []) (.q 0 bF))))
attribute [local irreducible] ofB
def fK (x:Msg):Bool:=decide (x.cards.length=0)&&(decide (x.keys.length=0)&&((x.kind == 0)&&((x.op == 0)&&((x.status == 0)&&((x.code == 0)&&((x.tag == 0)&&((x.n == 0)&&((x.seq == 0)&&(Key.eqb x.key ⟨⟨#[]⟩,⟨#[]⟩⟩&&((x.full == false)&&(x.sum == 0)))))))))))
def F9 (x:Msg):Bool :=
 if x.kind=1 then fK ⟨0,0,0,x.code,0,0,0,⟨⟨#[]⟩,⟨#[]⟩⟩,x.full,x.sum,x.cards,x.keys⟩
 else if x.kind=2 then fK ⟨0,0,x.status,0,0,x.n,0,⟨⟨#[]⟩,⟨#[]⟩⟩,false,0,[],x.keys⟩
 else if x.kind=3\/x.kind=4 then fK ⟨0,x.op,x.status,x.code,x.tag,x.n,x.seq,x.key,x.full,x.sum,[],x.keys⟩
 else if x.kind=5 then fK ⟨0,x.op,x.status,x.code,x.tag,x.n,x.seq,x.key,x.full,x.sum,x.cards,[]⟩
 else fK ⟨0,x.op,x.status,x.code,x.tag,x.n,x.seq,x.key,x.full,x.sum,x.cards,x.keys⟩
def I7 (k:Key):Bool:=T9 k.app&&T9 k.id
def opM (x:Msg):Bool:=if x.kind=1\/x.kind=2 then (if x.op=5 then Key.eqb x.key ⟨⟨#[]⟩,⟨#[]⟩⟩ else decide (1<=x.op)&&(decide (x.op < 5)&&I7 x.key)) else true
def Q8 (n:Int):Bool:=decide (0<=n)&&decide (n<=255)
def P7 (x:Msg):Bool:=(decide (1<=x.kind)&&decide (x.kind<=5))&&(F9 x&&(opM x&&((Q8 x.code&&(Q8 x.status&&decide (-1<=x.seq)))&&((decide (x.cards.length<=64)&&decide (x.keys.length<=64))&&(x.cards.all eP&&x.keys.all I7)))))
def b4d:Ann:={ refs:=[2,3],fin:=some 0 }
theorem nH {p:Prop} (h:p:=by simp only [fK]; simp_all):p:=h
theorem bP (x:Msg) :AC 166 [(AV.agg (Msg.row x)),(AV.agg [z_,z_,z_,z_,z_,z_,z_,e_,e_,bF,(AV.int .u32 0),(AV.sl .nil 0 []),(AV.sl .nil 0 [])])] [] ((bB (fK x)),[]) :=
 o9 (fn:=Tryz.f166) (ann:=b4d) (Has.o Tryz.func166) (.r (.s (.c 4 ((c0i x.cards).lift kr kr []) (.two (!(decide (x.cards.length=0))) (fun h1 h1'=>(.u5 (.g (.u (.qr 0 bF nH))))) (fun h1 h1'=>(.n4 (.c 11 ((c0f x.keys).lift kr kr []) (.n (.g (.two (!(decide (x.keys.length=0))) (fun h2 h2'=>(.qr 0 bF nH)) (fun h2 h2'=>(.r (.two (x.kind == 0) (fun h3 h3'=>(.u4 (.two (x.op == 0) (fun h4 h4'=>(.u4 (.two (x.status == 0) (fun h5 h5'=>(.u4 (.two (x.code == 0) (fun h6 h6'=>(.u4 (.two (x.tag == 0) (fun h7 h7'=>(.u4 (.two (x.n == 0) (fun h8 h8'=>(.u4 (.two (x.seq == 0) (fun h9 h9'=>(.u4 (.two (Key.eqb x.key (Key.mk (ByteArray.mk #[]) (ByteArray.mk #[]))) (fun h10 h10'=>(.u4 (.two (x.full == false) (fun h11 h11'=>(.u4 (.q 0 (bB (x.sum == 0)) nH))) (fun h11 h11'=>(.n4 (.q 0 bF nH)))))) (fun h10 h10'=>(.n6 (.n3 (.q 0 bF nH))))))) (fun h9 h9'=>(.n6 (.n6 (.n2 (.q 0 bF nH)))))))) (fun h8 h8'=>(.n6 (.n6 (.n6 (.n (.q 0 bF nH))))))))) (fun h7 h7'=>(.n6 (.n6 (.n6 (.n6 (.q 0 bF nH))))))))) (fun h6 h6'=>(.n6 (.n6 (.n6 (.n6 (.n5 (.q 0 bF nH)))))))))) (fun h5 h5'=>(.n6 (.n6 (.n6 (.n6 (.n6 (.n4 (.q 0 bF nH))))))))))) (fun h4 h4'=>(.n6 (.n6 (.n6 (.n6 (.n6 (.n6 (.n3 (.q 0 bF nH)))))))))))) (fun h3 h3'=>(.n6 (.n6 (.n6 (.n6 (.n6 (.n6 (.n6 (.n2 (.q 0 bF nH)))))))))))))))))))))))
attribute [local irreducible] fK
def b9m:Ann:={ fin:=some 0 }
@[simp] abbrev c9o (a:Msg):=[z_,(iI a.op),(iI a.status),(iI a.code),(iI a.tag),(iI a.n),(iI a.seq),(AV.str a.key.app),(AV.str a.key.id),(bB a.full),(AV.int .u32 a.sum),(AV.sl .nil 0 []),(sA 2 (mK a.keys))]
@[simp] abbrev c5E (a:Msg):Heap:=[(o_ 0 13 [(c9o a)])]
@[simp] abbrev c9n (a:Msg):=[z_,(iI a.op),(iI a.status),(iI a.code),(iI a.tag),(iI a.n),(iI a.seq),(AV.str a.key.app),(AV.str a.key.id),(bB a.full),(AV.int .u32 a.sum),(sA 9 (mC a.cards)),(AV.sl .nil 0 [])]
@[simp] abbrev c5D (a:Msg):Heap:=[(o_ 0 13 [(c9n a)])]
@[simp] abbrev c9m (a:Msg):=[z_,(iI a.op),(iI a.status),(iI a.code),(iI a.tag),(iI a.n),(iI a.seq),(AV.str a.key.app),(AV.str a.key.id),(bB a.full),(AV.int .u32 a.sum),(sA 9 (mC a.cards)),(sA 2 (mK a.keys))]
@[simp] abbrev c5C (a:Msg):Heap:=[(o_ 0 13 [(c9m a)])]
theorem xE {p:Prop} (h:p:=by (try delta c5E c5D c5C); simp only [F9]; simp_all):p:=h
@[simp] abbrev d2Y (a:Msg):=(bB (fK (Msg.mk 0 0 0 a.code 0 0 0 (Key.mk (ByteArray.mk #[]) (ByteArray.mk #[])) a.full a.sum a.cards a.keys)))
@[simp] abbrev d2X (a:Msg):=(bB (fK (Msg.mk 0 0 a.status 0 0 a.n 0 (Key.mk (ByteArray.mk #[]) (ByteArray.mk #[])) false 0 [] a.keys)))
@[simp] abbrev c9Z (a:Msg):=(AV.agg (Msg.row (Msg.mk 0 a.op a.status a.code a.tag a.n a.seq a.key a.full a.sum [] a.keys)))
@[simp] abbrev c9Y (a:Msg):=(AV.agg (c9o a))
@[simp] abbrev c9X (a:Msg):=(bB (fK (Msg.mk 0 a.op a.status a.code a.tag a.n a.seq a.key a.full a.sum [] a.keys)))
@[simp] abbrev c9W (a:Msg):=(AV.agg (Msg.row (Msg.mk 0 a.op a.status a.code a.tag a.n a.seq a.key a.full a.sum a.cards [])))
@[simp] abbrev c9V (a:Msg):=(AV.agg (c9n a))
@[simp] abbrev c9U (a:Msg):=(bB (fK (Msg.mk 0 a.op a.status a.code a.tag a.n a.seq a.key a.full a.sum a.cards [])))
@[simp] abbrev c9T (a:Msg):=(AV.agg (Msg.row (Msg.mk 0 a.op a.status a.code a.tag a.n a.seq a.key a.full a.sum a.cards a.keys)))
@[simp] abbrev c9S (a:Msg):=(AV.agg (c9m a))
@[simp] abbrev c9R (a:Msg):=(bB (fK (Msg.mk 0 a.op a.status a.code a.tag a.n a.seq a.key a.full a.sum a.cards a.keys)))
theorem kH (x:Msg) :AC 97 [(AV.agg (Msg.row x))] [] ((bB (F9 x)),[]) :=
 o9 (fn:=Tryz.f97) (ann:=b9m) (Has.o Tryz.func97) (.r (.s (.s (.g (.two (x.kind == 1) (fun h1 h1'=>(.r (.s (.s (.c 2 (l6.pre (args:=[(AV.agg (Msg.row (Msg.mk 0 0 0 x.code 0 0 0 (Key.mk (ByteArray.mk #[]) (ByteArray.mk #[])) x.full x.sum x.cards x.keys))),(AV.agg [z_,z_,z_,z_,z_,z_,z_,e_,e_,bF,(AV.int .u32 0),(AV.sl .nil 0 []),(AV.sl .nil 0 [])])]) (args':=[(AV.agg [z_,z_,z_,(iI x.code),z_,z_,z_,e_,e_,(bB x.full),(AV.int .u32 x.sum),(sA 9 (mC x.cards)),(sA 2 (mK x.keys))]),(AV.agg [z_,z_,z_,z_,z_,z_,z_,e_,e_,bF,(AV.int .u32 0),(AV.sl .nil 0 []),(AV.sl .nil 0 [])])]) ((bP (Msg.mk 0 0 0 x.code 0 0 0 (Key.mk (ByteArray.mk #[]) (ByteArray.mk #[])) x.full x.sum x.cards x.keys)).lift kr kr [(o_ 0 13 [[z_,z_,z_,(iI x.code),z_,z_,z_,e_,e_,(bB x.full),(AV.int .u32 x.sum),(sA 9 (mC x.cards)),(sA 2 (mK x.keys))]])]) ⟨⟨AV.j3 _,AV.j3 _,AV.j3 _,AV.j3 _,AV.j3 _,AV.j3 _,AV.j3 _,AV.j3 _,AV.j3 _,AV.j3 _,AV.j3 _,⟨rfl,rfl,.inl rfl⟩,⟨rfl,rfl,.inl rfl⟩,trivial⟩,⟨AV.j3 _,AV.j3 _,AV.j3 _,AV.j3 _,AV.j3 _,AV.j3 _,AV.j3 _,AV.j3 _,AV.j3 _,AV.j3 _,AV.j3 _,⟨rfl,rfl,.inl rfl⟩,⟨rfl,rfl,.inl rfl⟩,trivial⟩,trivial⟩) (.q 0 (d2Y x) xE)))))) (fun h1 h1'=>(.r (.g (.two (x.kind == 2) (fun h2 h2'=>(.r (.s (.s (.c 2 (l6.pre (args:=[(AV.agg (Msg.row (Msg.mk 0 0 x.status 0 0 x.n 0 (Key.mk (ByteArray.mk #[]) (ByteArray.mk #[])) false 0 [] x.keys))),(AV.agg [z_,z_,z_,z_,z_,z_,z_,e_,e_,bF,(AV.int .u32 0),(AV.sl .nil 0 []),(AV.sl .nil 0 [])])]) (args':=[(AV.agg [z_,z_,(iI x.status),z_,z_,(iI x.n),z_,e_,e_,bF,(AV.int .u32 0),(AV.sl .nil 0 []),(sA 2 (mK x.keys))]),(AV.agg [z_,z_,z_,z_,z_,z_,z_,e_,e_,bF,(AV.int .u32 0),(AV.sl .nil 0 []),(AV.sl .nil 0 [])])]) ((bP (Msg.mk 0 0 x.status 0 0 x.n 0 (Key.mk (ByteArray.mk #[]) (ByteArray.mk #[])) false 0 [] x.keys)).lift kr kr [(o_ 0 13 [[z_,z_,(iI x.status),z_,z_,(iI x.n),z_,e_,e_,bF,(AV.int .u32 0),(AV.sl .nil 0 []),(sA 2 (mK x.keys))]])]) ⟨⟨AV.j3 _,AV.j3 _,AV.j3 _,AV.j3 _,AV.j3 _,AV.j3 _,AV.j3 _,AV.j3 _,AV.j3 _,AV.j3 _,AV.j3 _,⟨rfl,rfl,.inr rfl⟩,⟨rfl,rfl,.inl rfl⟩,trivial⟩,⟨AV.j3 _,AV.j3 _,AV.j3 _,AV.j3 _,AV.j3 _,AV.j3 _,AV.j3 _,AV.j3 _,AV.j3 _,AV.j3 _,AV.j3 _,⟨rfl,rfl,.inl rfl⟩,⟨rfl,rfl,.inl rfl⟩,trivial⟩,trivial⟩) (.q 0 (d2X x) xE)))))) (fun h2 h2'=>(.r (.g (.two (x.kind == 3) (fun h3 h3'=>(.two (x.kind == 3) (fun h4 h4'=>(.r (.s (.s (.c 2 (l6.pre (args:=[(c9Z x),(AV.agg [z_,z_,z_,z_,z_,z_,z_,e_,e_,bF,(AV.int .u32 0),(AV.sl .nil 0 []),(AV.sl .nil 0 [])])]) (args':=[(c9Y x),(AV.agg [z_,z_,z_,z_,z_,z_,z_,e_,e_,bF,(AV.int .u32 0),(AV.sl .nil 0 []),(AV.sl .nil 0 [])])]) ((bP (Msg.mk 0 x.op x.status x.code x.tag x.n x.seq x.key x.full x.sum [] x.keys)).lift kr kr (c5E x)) ⟨⟨AV.j3 _,AV.j3 _,AV.j3 _,AV.j3 _,AV.j3 _,AV.j3 _,AV.j3 _,AV.j3 _,AV.j3 _,AV.j3 _,AV.j3 _,⟨rfl,rfl,.inr rfl⟩,⟨rfl,rfl,.inl rfl⟩,trivial⟩,⟨AV.j3 _,AV.j3 _,AV.j3 _,AV.j3 _,AV.j3 _,AV.j3 _,AV.j3 _,AV.j3 _,AV.j3 _,AV.j3 _,AV.j3 _,⟨rfl,rfl,.inl rfl⟩,⟨rfl,rfl,.inl rfl⟩,trivial⟩,trivial⟩) (.q 0 (c9X x) xE)))))) (fun h4 h4'=>(.r (.g (.two (x.kind == 5) (fun h5 h5'=>(.r (.s (.s (.c 2 (l6.pre (args:=[(c9W x),(AV.agg [z_,z_,z_,z_,z_,z_,z_,e_,e_,bF,(AV.int .u32 0),(AV.sl .nil 0 []),(AV.sl .nil 0 [])])]) (args':=[(c9V x),(AV.agg [z_,z_,z_,z_,z_,z_,z_,e_,e_,bF,(AV.int .u32 0),(AV.sl .nil 0 []),(AV.sl .nil 0 [])])]) ((bP (Msg.mk 0 x.op x.status x.code x.tag x.n x.seq x.key x.full x.sum x.cards [])).lift kr kr (c5D x)) ⟨⟨AV.j3 _,AV.j3 _,AV.j3 _,AV.j3 _,AV.j3 _,AV.j3 _,AV.j3 _,AV.j3 _,AV.j3 _,AV.j3 _,AV.j3 _,⟨rfl,rfl,.inl rfl⟩,⟨rfl,rfl,.inr rfl⟩,trivial⟩,⟨AV.j3 _,AV.j3 _,AV.j3 _,AV.j3 _,AV.j3 _,AV.j3 _,AV.j3 _,AV.j3 _,AV.j3 _,AV.j3 _,AV.j3 _,⟨rfl,rfl,.inl rfl⟩,⟨rfl,rfl,.inl rfl⟩,trivial⟩,trivial⟩) (.q 0 (c9U x) xE)))))) (fun h5 h5'=>(.r (.s (.c 2 (l6.pre (args:=[(c9T x),(AV.agg [z_,z_,z_,z_,z_,z_,z_,e_,e_,bF,(AV.int .u32 0),(AV.sl .nil 0 []),(AV.sl .nil 0 [])])]) (args':=[(c9S x),(AV.agg [z_,z_,z_,z_,z_,z_,z_,e_,e_,bF,(AV.int .u32 0),(AV.sl .nil 0 []),(AV.sl .nil 0 [])])]) ((bP (Msg.mk 0 x.op x.status x.code x.tag x.n x.seq x.key x.full x.sum x.cards x.keys)).lift kr kr (c5C x)) ⟨⟨AV.j3 _,AV.j3 _,AV.j3 _,AV.j3 _,AV.j3 _,AV.j3 _,AV.j3 _,AV.j3 _,AV.j3 _,AV.j3 _,AV.j3 _,⟨rfl,rfl,.inl rfl⟩,⟨rfl,rfl,.inl rfl⟩,trivial⟩,⟨AV.j3 _,AV.j3 _,AV.j3 _,AV.j3 _,AV.j3 _,AV.j3 _,AV.j3 _,AV.j3 _,AV.j3 _,AV.j3 _,AV.j3 _,⟨rfl,rfl,.inl rfl⟩,⟨rfl,rfl,.inl rfl⟩,trivial⟩,trivial⟩) (.q 0 (c9R x) xE))))))))))) (fun h3 h3'=>(.r (.g (.two (x.kind == 4) (fun h4 h4'=>(.r (.s (.s (.c 2 (l6.pre (args:=[(c9Z x),(AV.agg [z_,z_,z_,z_,z_,z_,z_,e_,e_,bF,(AV.int .u32 0),(AV.sl .nil 0 []),(AV.sl .nil 0 [])])]) (args':=[(c9Y x),(AV.agg [z_,z_,z_,z_,z_,z_,z_,e_,e_,bF,(AV.int .u32 0),(AV.sl .nil 0 []),(AV.sl .nil 0 [])])]) ((bP (Msg.mk 0 x.op x.status x.code x.tag x.n x.seq x.key x.full x.sum [] x.keys)).lift kr kr (c5E x)) ⟨⟨AV.j3 _,AV.j3 _,AV.j3 _,AV.j3 _,AV.j3 _,AV.j3 _,AV.j3 _,AV.j3 _,AV.j3 _,AV.j3 _,AV.j3 _,⟨rfl,rfl,.inr rfl⟩,⟨rfl,rfl,.inl rfl⟩,trivial⟩,⟨AV.j3 _,AV.j3 _,AV.j3 _,AV.j3 _,AV.j3 _,AV.j3 _,AV.j3 _,AV.j3 _,AV.j3 _,AV.j3 _,AV.j3 _,⟨rfl,rfl,.inl rfl⟩,⟨rfl,rfl,.inl rfl⟩,trivial⟩,trivial⟩) (.q 0 (c9X x) xE)))))) (fun h4 h4'=>(.r (.g (.two (x.kind == 5) (fun h5 h5'=>(.r (.s (.s (.c 2 (l6.pre (args:=[(c9W x),(AV.agg [z_,z_,z_,z_,z_,z_,z_,e_,e_,bF,(AV.int .u32 0),(AV.sl .nil 0 []),(AV.sl .nil 0 [])])]) (args':=[(c9V x),(AV.agg [z_,z_,z_,z_,z_,z_,z_,e_,e_,bF,(AV.int .u32 0),(AV.sl .nil 0 []),(AV.sl .nil 0 [])])]) ((bP (Msg.mk 0 x.op x.status x.code x.tag x.n x.seq x.key x.full x.sum x.cards [])).lift kr kr (c5D x)) ⟨⟨AV.j3 _,AV.j3 _,AV.j3 _,AV.j3 _,AV.j3 _,AV.j3 _,AV.j3 _,AV.j3 _,AV.j3 _,AV.j3 _,AV.j3 _,⟨rfl,rfl,.inl rfl⟩,⟨rfl,rfl,.inr rfl⟩,trivial⟩,⟨AV.j3 _,AV.j3 _,AV.j3 _,AV.j3 _,AV.j3 _,AV.j3 _,AV.j3 _,AV.j3 _,AV.j3 _,AV.j3 _,AV.j3 _,⟨rfl,rfl,.inl rfl⟩,⟨rfl,rfl,.inl rfl⟩,trivial⟩,trivial⟩) (.q 0 (c9U x) xE)))))) (fun h5 h5'=>(.r (.s (.c 2 (l6.pre (args:=[(c9T x),(AV.agg [z_,z_,z_,z_,z_,z_,z_,e_,e_,bF,(AV.int .u32 0),(AV.sl .nil 0 []),(AV.sl .nil 0 [])])]) (args':=[(c9S x),(AV.agg [z_,z_,z_,z_,z_,z_,z_,e_,e_,bF,(AV.int .u32 0),(AV.sl .nil 0 []),(AV.sl .nil 0 [])])]) ((bP (Msg.mk 0 x.op x.status x.code x.tag x.n x.seq x.key x.full x.sum x.cards x.keys)).lift kr kr (c5C x)) ⟨⟨AV.j3 _,AV.j3 _,AV.j3 _,AV.j3 _,AV.j3 _,AV.j3 _,AV.j3 _,AV.j3 _,AV.j3 _,AV.j3 _,AV.j3 _,⟨rfl,rfl,.inl rfl⟩,⟨rfl,rfl,.inl rfl⟩,trivial⟩,⟨AV.j3 _,AV.j3 _,AV.j3 _,AV.j3 _,AV.j3 _,AV.j3 _,AV.j3 _,AV.j3 _,AV.j3 _,AV.j3 _,AV.j3 _,⟨rfl,rfl,.inl rfl⟩,⟨rfl,rfl,.inl rfl⟩,trivial⟩,trivial⟩) (.q 0 (c9R x) xE))))))))))))))))))))))))))
def b4j:Ann:={ refs:=[1],fin:=some 0 }
theorem b0q (x:Msg) :AC 167 [(AV.agg (Msg.row x))] [] ((bB (decide (x.kind=1\/x.kind=2))),[]) :=
 o9 (fn:=Tryz.f167) (ann:=b4j) (Has.o Tryz.func167) (.r (.s (.two (x.kind == 1) (fun h1 h1'=>(.u2 (.q 0 bT (by simp_all; all_goals first | done | rfl | (intros; omega))))) (fun h1 h1'=>(.n2 (.q 0 (bB (x.kind == 2)) (by simp_all; all_goals first | done | rfl | (intros; omega))))))))
def b4e:Ann:={ refs:=[1],fin:=some 0 }
theorem a0y (k:Key) :AC 105 [(AV.agg (Key.row k))] [] ((bB (I7 k)),[]) :=
 o9 (fn:=Tryz.f105) (ann:=b4e) (Has.o Tryz.func105) (.r (.s (.c 2 ((rJ k.app).lift kr kr []) (.two (T9 k.app) (fun h1 h1'=>(.u2 (.c 6 ((rJ k.id).lift kr kr []) (.q 0 (bB (T9 k.id)) (by simp only [I7]; simp_all))))) (fun h1 h1'=>(.n2 (.q 0 bF (by simp only [I7]; simp_all))))))))
def c8w:Ann:={ refs:=[1],fin:=some 0 }
theorem a5T {p:Prop} (h:p:=by simp only [opM]; simp_all; all_goals first | done | rfl | (intros; omega)):p:=h
theorem vS (x:Msg) :AC 98 [(AV.agg (Msg.row x))] [] ((bB (opM x)),[]) :=
 o9 (fn:=Tryz.f98) (ann:=c8w) (Has.o Tryz.func98) (.r (.s (.c 1 ((b0q x).lift kr kr []) (.g (.two (!(decide (x.kind=1\/x.kind=2))) (fun h1 h1'=>(.qr 0 bT a5T)) (fun h1 h1'=>(.r (.g (.two (x.op == 5) (fun h2 h2'=>(.qr 0 (bB (Key.eqb x.key (Key.mk (ByteArray.mk #[]) (ByteArray.mk #[])))) a5T)) (fun h2 h2'=>(.r (.two (decide (x.op >= 1)) (fun h3 h3'=>(.u2 (.two (decide (x.op < 5)) (fun h4 h4'=>(.u2 (.c 11 ((a0y x.key).lift kr kr []) (.q 0 (bB (I7 x.key)) a5T)))) (fun h4 h4'=>(.n2 (.q 0 bF a5T)))))) (fun h3 h3'=>(.n5 (.q 0 bF a5T)))))))))))))))
def b0n:Ann:={ fin:=some 0 }
theorem eT (n:Int) :AC 99 [(iI n)] [] ((bB (Q8 n)),[]) :=
 o9 (fn:=Tryz.f99) (ann:=b0n) (Has.o Tryz.func99) (.r (.s (.two (decide (n >= 0)) (fun h1 h1'=>(.u (.q 0 (bB (decide (n<=255))) (by simp only [Q8]; simp_all; all_goals first | done | rfl | (intros; omega))))) (fun h1 h1'=>(.n (.q 0 bF (by simp only [Q8]; simp_all; all_goals first | done | rfl | (intros; omega))))))))
attribute [local irreducible] F9 opM Q8 I7
def b9t:Ann:={ refs:=[1],fin:=some 0 }
theorem b4h (k:Key) :AC 104 [(AV.agg (Key.row k))] [] ((bB (!(I7 k))),[]) :=
 o9 (fn:=Tryz.f104) (ann:=b9t) (Has.o Tryz.func104) (.r (.s (.c 1 ((a0y k).lift kr kr []) (.q 0 (bB (!(I7 k)))))))
def a0W:Ann:={ fin:=some 0,live:=[(2,[0,1,7,8])],out:=[(2,[0,1,7,8])] }
@[simp] abbrev b6G (a:l9K) (b:Nat):Fr:=(mkF 19 [(0,(sA 2 (mK a))),(1,(AV.func 104 [])),(7,(iN a.length)),(8,(iN b))])
@[simp] abbrev c4H :=(l9 Tryz.prog (X a0W) (p9 Tryz.f171 0))
theorem a4t (l:l9K)  (i:Nat) (hl:l.length < 1099511627776) (hle_:i<=l.length) {eX:Ex} {FX:Fr} {HX:Heap} (k1:(decide ((i:Int) < (l.length:Int)))=true->(!(I7 (nth l i)))=true->((.ret:Ex),(b6G l i),[])=(eX,FX,HX)) (k2:(decide ((i:Int) < (l.length:Int)))=true->(!(I7 (nth l i)))=false->j6 c4H (some [0,1,7,8]) (some [0,1,7,8]) (mkF 19 [(0,(sA 2 (mK l))),(1,(AV.func 104 [])),(7,(iN l.length)),(8,(iN (i+1)))]) [] eX FX HX) (k3:(decide ((i:Int) < (l.length:Int)))=false->((.exit 0:Ex),(b6G l i),[])=(eX,FX,HX)):j6 c4H (some [0,1,7,8]) (some [0,1,7,8]) (b6G l i) [] eX FX HX :=
 F7 (.r (.g (.two (decide ((i:Int) < (l.length:Int))) (fun h1 h1'=>(.r (.s (.is 3 2 2 (mK l) (i:Int) (Key.row (nth l i)) (J8.mk _ ow ow) (.c 5 ((b4h (nth l i)).lift kr kr []) (.g (.two (!(I7 (nth l i))) (fun h2 h2'=>(.r (.g (.l (k1 h1 h2))))) (fun h2 h2'=>(.r (.y 0 (.int .i64 (cb_ i)) (iN (i+1)) Yes.o (.g (.l (k2 h1 h2))))))))))))) (fun h1 h1'=>(.l (k3 h1))))))
def a2k (l:List Key) (i:Nat) (s:Unit):Unit:=()
def a7m (l:List Key)  (i:Nat):Prop:=(((decide ((i:Int) < (l.length:Int)))=true)/\((!(I7 (nth l i)))=true))
@[simp] abbrev c5B (a:l9K):Fr:=(mkF 19 [(0,(sA 2 (mK a))),(1,(AV.func 104 [])),(7,(iN a.length)),(8,(iN a.length))])
theorem b9r (l:l9K) (hl:l.length < 1099511627776)  (hbad:∀ (i:Nat),i < l.length->¬ a7m l  i) (r_:Nat):∀  (i:Nat) (sF:Unit),i+r_=l.length->()=(iter (a2k l) i 0 ())->sF=iter (a2k l) r_ i () ->
 j6 (l9 Tryz.prog (X a0W) (p9 Tryz.f171 0)) (some [0,1,7,8]) (some [0,1,7,8]) (b6G l i) [] (.exit 0) (c5B l) []:=by
 induction r_ with
 | zero =>
  intro  i sF hi_  hs_ hF
  obtain rfl:l.length=i:=by omega
  have e_:sF=():=hF
  refine a4t l  l.length hl (Nat.le_refl _) (fun h _=>by simp at h <;> omega) (fun h _=>by simp at h <;> omega) (fun _=>?_)
  first | done | rfl | (rw [e_]; done) | (rw [e_]; rfl)
 | succ r_ ih =>
  intro  i sF hi_  hs_ hF
  refine a4t l  i hl ow (fun h1 h2=>?_) (fun h1 h2=>?_) (fun h=>by simp at h <;> omega)
  · exact False.elim b2e
  · exact ih  (i+1) sF ow  (by rw [mU,<- hs_] <;> simp only [a2k,h2,if_true,Bool.false_eq_true,if_false]) (by rw [hF] <;> simp only [iter,a2k,h2,if_true,Bool.false_eq_true,if_false])
theorem b9q (l:l9K) (hl:l.length < 1099511627776) (hr:∀ k∈l,I7 k=true):AC 171 [(sA 2 (mK l)),(AV.func 104 [])] [] ((iI (-1)),[]) :=
 o9 (fn:=Tryz.f171) (ann:=a0W) (Has.o Tryz.func171) (.r (.s (.y 1 (.int .i64 ((List.length (mK l):Nat):Int)) (iN l.length) (Yes.len _ _ _) (.g (.loop (c5B l) (show j6 c4H (some [0,1,7,8]) (some [0,1,7,8]) (mkF 19 [(0,(sA 2 (mK l))),(1,(AV.func 104 [])),(7,(iN l.length)),(8,z_)]) [] (.exit 0) (c5B l) [] from (b9r l hl (fun i hi=>by simp only [a7m]; rw [hr _ (lH hi)]; simp) l.length 0 () ow rfl rfl)) (.qr 0 (iI (-1))))))))
def b4g:Ann:={ fin:=some 0 }
theorem b0p (l:l9K) (hl:l.length < 1099511627776) (hr:∀ k∈l,I7 k=true):AC 103 [(sA 2 (mK l)),(AV.func 104 [])] [] (bF,[]) :=
 o9 (fn:=Tryz.f103) (ann:=b4g) (Has.o Tryz.func103) (.r (.s (.c 2 ((b9q l oa oa).lift kr kr []) (.q 0 bF))))
theorem a7j {x:Msg} (h:P7 x=true):(1<=x.kind/\x.kind<=5)/\F9 x=true/\opM x=true/\Q8 x.code=true/\Q8 x.status=true/\-1<=x.seq/\x.cards.length<=64/\x.keys.length<=64/\(∀ c∈x.cards,eP c=true)/\∀ k∈x.keys,I7 k=true:=by
 simp only [P7,Bool.and_eq_true,decide_eq_true_eq,List.all_eq_true] at h
 obtain ⟨⟨a1,a2⟩,a3,a4,⟨a5,a6,a7⟩,⟨a8,a9⟩,a10,a11⟩:=h
 exact ⟨⟨a1,a2⟩,a3,a4,a5,a6,a7,a8,a9,a10,a11⟩
def b0o:Ann:={ refs:=[1],fin:=some 0 }
@[simp] abbrev fQ (a:Msg):=(bB (decide (a.kind < 1)))
@[simp] abbrev fP (a:Msg):=(bB (decide (a.kind > 5)))
@[simp] abbrev yU (a:Msg):=(bB (decide (a.seq < (-1))))
@[simp] abbrev b5M (a:Msg):=(bB (decide ((a.cards.length:Int) > 64)))
@[simp] abbrev b5L (a:Msg):=(bB (decide ((a.keys.length:Int) > 64)))
theorem yB (x:Msg) (h:P7 x=true):AC 53 [(AV.agg (Msg.row x))] [] (AV.nili,[]):=by
 obtain ⟨⟨a1,a2⟩,a3,a4,a5,a6,a7,a8,a9,a10,a11⟩:=a7j h
 exact o9 (fn:=Tryz.f53) (ann:=b0o) (Has.o Tryz.func53) (.r (.s (.y 2 (fQ x) bF (Yes.b yh_) (.n3 (.y 6 (fP x) bF (Yes.b yh_) (.rn (.c 1 ((kH x).lift kr kr []) (.y 2 (bB (!(F9 x))) bF (Yes.b (by rw [a3]; rfl)) (.rn (.c 1 ((vS x).lift kr kr []) (.y 2 (bB (!(opM x))) bF (Yes.b (by rw [a4]; rfl)) (.rn (.c 2 ((eT x.code).lift kr kr []) (.y 3 (bB (!(Q8 x.code))) bF (Yes.b (by rw [a5]; rfl)) (.n3 (.c 7 ((eT x.status).lift kr kr []) (.n (.y 8 (bB (!(Q8 x.status))) bF (Yes.b (by rw [a6]; rfl)) (.n3 (.y 13 (yU x) bF (Yes.b yh_) (.rn (.y 2 (.int .i64 ((List.length (mC x.cards):Nat):Int)) (iN x.cards.length) (Yes.len _ _ _) (.y 3 (b5M x) bF (Yes.b yh_) (.n3 (.y 7 (.int .i64 ((List.length (mK x.keys):Nat):Int)) (iN x.keys.length) (Yes.len _ _ _) (.n (.y 8 (b5L x) bF (Yes.b yh_) (.rn (.c 2 ((b4f x.cards oa oa).lift kr kr []) (.s (.n3 (.c 4 ((b0p x.keys oa oa).lift kr kr []) (.g (.n (.qr 0 AV.nili)))))))))))))))))))))))))))))))))))
def Q6 (x:Entry) (now:Int):Entry:=⟨x.card,max x.seen now⟩
def E5 (x:Entry) (s:l8) (now:Int):Entry:=⟨{ x.card with gone:=true,stamp:=s },now⟩
def U3 (x:Entry) (o:Int) (s:l8):Entry:=⟨{ x.card with over:=o,stamp:=s },x.seen⟩
def aM (old:Entry) (inn:Bool) (c:j5) (now:Int):Entry:=⟨{ c with over:=if inn=true/\old.card.gone=false then old.card.over else 0,gone:=false },now⟩
def maxS (a b:l8):l8:=if P9 b a < 0 then a else b
def l7 (a:l8) (now nd:Int):l8:=⟨max a.t now,nd,if a.n < 9223372036854775807 then IntKind.i64.wrap (a.n+1) else a.n⟩
def b4k:Ann:={ fin:=some 0 }
@[simp] abbrev c5A (a:Entry):Heap:=[(o_ 0 10 [[e_,e_,z_,z_,z_,z_,z_,z_,bF,z_]]),(o_ 0 10 [(Entry.row a)])]
@[simp] abbrev d2W (a:Entry) (b:Int):=(AV.tup [(AV.agg [(AV.str a.card.key.app),(AV.str a.card.key.id),(iI a.card.status),(iI a.card.over),(iI a.card.lease),(iI a.card.stamp.t),(iI a.card.stamp.node),(iI a.card.stamp.n),(bB a.card.gone),(iI (max a.seen b))]),bT])
theorem b0r (x:Entry) (now:Int) (hg:x.card.gone=false):AC 109 [(AV.agg (Entry.row x)),(iI now)] [] ((AV.tup [(AV.agg (Entry.row (Q6 x now))),bT]),[]) :=
 o9 (fn:=Tryz.f109) (ann:=b4k) (Has.o Tryz.func109) (.r (.s (.h' (c5A x) (.y 2 (bB x.card.gone) bF (Yes.b (hg)) (.rn (.y 3 (.int .i64 (if now > x.seen then now else x.seen)) (iI (max x.seen now)) (Yes.int yw_) (.s (.g (.h' [] (.q 0 (d2W x now) (by (try delta c5A); unfold Q6; rfl)))))))))))
def b0s:Ann:={ refs:=[4],fin:=some 0 }
@[simp] abbrev d2V (a:Entry) (b:l8) (c:Int):=(AV.tup [(AV.agg [(AV.str a.card.key.app),(AV.str a.card.key.id),(iI a.card.status),(iI a.card.over),(iI a.card.lease),(iI b.t),(iI b.node),(iI b.n),bT,(iI c)]),bT])
theorem qH (x:Entry) (s:l8) (now:Int) (hg:x.card.gone=false):AC 64 [(AV.agg (Entry.row x)),(AV.agg (l8.row s)),(iI now)] [] ((AV.tup [(AV.agg (Entry.row (E5 x s now))),bT]),[]) :=
 o9 (fn:=Tryz.f64) (ann:=b0s) (Has.o Tryz.func64) (.r (.s (.h' (c5A x) (.y 2 (bB x.card.gone) bF (Yes.b (hg)) (.rn (.s (.g (.h' [] (.q 0 (d2V x s now))))))))))
def b9x:Ann:={ refs:=[5],fin:=some 0 }
theorem b1T {p:Prop} (h:p:=by first | rfl | (exfalso; simp only [hg,decide_eq_true_eq,Bool.false_eq_true] at * <;> omega)):p:=h
@[simp] abbrev d2U (a:Entry) (b:Int) (c:l8):=(AV.tup [(AV.agg [(AV.str a.card.key.app),(AV.str a.card.key.id),(iI a.card.status),(iI b),(iI a.card.lease),(iI c.t),(iI c.node),(iI c.n),(bB a.card.gone),(iI a.seen)]),bT])
theorem b4l (x:Entry) (o:Int) (s:l8) (hg:x.card.gone=false) (h0:0<=o) (h3:o<=3):AC 111 [(AV.agg (Entry.row x)),(iI o),(AV.agg (l8.row s))] [] ((AV.tup [(AV.agg (Entry.row (U3 x o s))),bT]),[]) :=
 o9 (fn:=Tryz.f111) (ann:=b9x) (Has.o Tryz.func111) (.r (.s (.two x.card.gone (fun h1 h1'=>(.u3 (.g (.u (.qr 0 (AV.tup [(AV.agg [e_,e_,z_,z_,z_,z_,z_,z_,bF,z_]),bF]) b1T))))) (fun h1 h1'=>(.n (.two (decide (o < 0)) (fun h2 h2'=>(.u (.g (.u (.qr 0 (AV.tup [(AV.agg [e_,e_,z_,z_,z_,z_,z_,z_,bF,z_]),bF]) b1T))))) (fun h2 h2'=>(.n (.g (.two (decide (o > 3)) (fun h3 h3'=>(.qr 0 (AV.tup [(AV.agg [e_,e_,z_,z_,z_,z_,z_,z_,bF,z_]),bF]) b1T)) (fun h3 h3'=>(.r (.g (.qr 0 (d2U x o s) b1T))))))))))))))
def c3s:Ann:={ refs:=[4],fin:=some 0 }
theorem a4v (old:Entry) (inn:Bool) (c:j5) (now:Int) :AC 175 [(AV.agg (Entry.row old)),(AV.bool inn),(AV.agg (j5.row c)),(AV.int .i64 now)] [] ((AV.agg (Entry.row (aM old inn c now))),[]) :=
 o9 (fn:=Tryz.f175) (ann:=c3s) (Has.o Tryz.func175) (.r (.s (.s (.two inn (fun h1 h1'=>(.u3 (.g (.two (!old.card.gone) (fun h2 h2'=>(.r (.g (.qr 0 (AV.agg [(AV.str c.key.app),(AV.str c.key.id),(AV.int .i64 c.status),(AV.int .i64 old.card.over),(AV.int .i64 c.lease),(AV.int .i64 c.stamp.t),(AV.int .i64 c.stamp.node),(AV.int .i64 c.stamp.n),(AV.bool false),(AV.int .i64 now)]) (by unfold aM; (rw [if_pos ⟨h1,by simpa using h2⟩]); rfl))))) (fun h2 h2'=>(.qr 0 (AV.agg [(AV.str c.key.app),(AV.str c.key.id),(AV.int .i64 c.status),(AV.int .i64 0),(AV.int .i64 c.lease),(AV.int .i64 c.stamp.t),(AV.int .i64 c.stamp.node),(AV.int .i64 c.stamp.n),(AV.bool false),(AV.int .i64 now)]) (by unfold aM; (rw [if_neg (fun q=>by rw [q.2] at h2; simp at h2)]); rfl))))))) (fun h1 h1'=>(.n3 (.g (.n (.qr 0 (AV.agg [(AV.str c.key.app),(AV.str c.key.id),(AV.int .i64 c.status),(AV.int .i64 0),(AV.int .i64 c.lease),(AV.int .i64 c.stamp.t),(AV.int .i64 c.stamp.node),(AV.int .i64 c.stamp.n),(AV.bool false),(AV.int .i64 now)]) (by unfold aM; (rw [if_neg (fun q=>by rw [q.1] at h1; simp at h1)]); rfl))))))))))
def b7Q:Ann:={ refs:=[3],fin:=some 0 }
theorem b2u (a:l8) (now nd:Int) :AC 124 [(AV.agg (l8.row a)),(AV.int .i64 now),(AV.int .i64 nd)] [] ((AV.agg (l8.row (l7 a now nd))),[]) :=
 o9 (fn:=Tryz.f124) (ann:=b7Q) (Has.o Tryz.func124) (.r (.s (.s (.g (.two (decide (a.n < 9223372036854775807)) (fun h1 h1'=>(.r (.s (.h' qV (.y 3 (.int .i64 (if now > a.t then now else a.t)) (AV.int .i64 (max a.t now)) (Yes.int yw_) (.g (.h' [] (.q 0 (AV.agg [(AV.int .i64 (max a.t now)),(AV.int .i64 nd),(iW (a.n+1))]) (by (try delta qV); unfold l7; rw [if_pos (of_decide_eq_true h1)]; first | done | rfl))))))))) (fun h1 h1'=>(.r (.h' qV (.y 3 (.int .i64 (if now > a.t then now else a.t)) (AV.int .i64 (max a.t now)) (Yes.int yw_) (.g (.h' [] (.q 0 (AV.agg [(AV.int .i64 (max a.t now)),(AV.int .i64 nd),(AV.int .i64 a.n)]) (by (try delta qV); unfold l7; rw [if_neg (of_decide_eq_false h1)]; first | done | rfl)))))))))))))
theorem a1B {a b:l8} (h:l8.eqb a b=true):a=b:=by
 cases a; cases b
 simp [l8.eqb] at h
 simp [h]
def c1J:Ann:={ refs:=[2,3],fin:=some 0 }
theorem b7S (a b:l8) :AC 125 [(AV.agg (l8.row a)),(AV.agg (l8.row b))] [] ((AV.agg (l8.row (maxS a b))),[]) :=
 o9 (fn:=Tryz.f125) (ann:=c1J) (Has.o Tryz.func125) (.r (.s (.c 2 ((a9A b a).lift kr kr qV) (.g (.two (decide (P9 b a < 0)) (fun h1 h1'=>(.qr 0 (AV.agg (l8.row a)) (by (try delta qV); unfold maxS; rw [if_pos (of_decide_eq_true h1)]))) (fun h1 h1'=>(.r (.g (.two (l8.eqb a b) (fun h2 h2'=>(.qr 0 (AV.agg (l8.row a)) (by (try delta qV); unfold maxS; rw [if_neg (of_decide_eq_false h1)]; (obtain rfl:=a1B h2); first | done | rfl))) (fun h2 h2'=>(.qr 0 (AV.agg (l8.row b)) (by (try delta qV); unfold maxS; rw [if_neg (of_decide_eq_false h1)]; first | done | rfl))))))))))))
def b4I:Ann:={ base:=1,fin:=some 1 }
@[simp] abbrev d1b (a:Int) (b:Int) (c:Int):Heap:=[(o_ 0 3 (iD a b c))]
@[simp] abbrev a3v (a:Int):=(iI (min (a+1) 1048576))
@[simp] abbrev c5z (a:Int) (b:Int) (c:Int):Heap:=[(o_ 0 3 [[(iI a),(iI b),(a3v c)]])]
theorem b0B (a b c:Int) (h1:0<=c) (h2:c < 4611686018427387904):AC 110 [(oO 0 0 0 0)] (d1b a b c) ((AV.tup []),(c5z a b c)) :=
 o9 (fn:=Tryz.f110) (ann:=b4I) (Has.o Tryz.func110) (.r (.y 5 (iW (c+1)) (iI (c+1)) Yes.o (.y 6 (.int .i64 (if 1048576 < (c+1) then 1048576 else (c+1))) (a3v c) (Yes.int yw_) (.g (.h' (c5z a b c) (.q 1 (AV.tup []) (by (try delta d1b c5z); first | rfl | (simp [Int.min_comm]; done))))))))
attribute [local irreducible] A9 C9 F8 I5 M7 l7 maxS
def c0y:Ann:={ refs:=[4],base:=6,fin:=some 6 }
@[simp] abbrev fV (a:Nat) (b:l9E):Ob:=(o_ 0 2 (a3C a b))
@[simp] abbrev qO (a:Int) (b:l8):=[[(iI a),(iI b.t),(iI b.node),(iI b.n),(oO 0 0 0 0),(oO 2 0 0 0),(oO 3 0 0 0)]]
@[simp] abbrev aQ (a:Int) (b:l8):Ob:=(o_ 0 7 (qO a b))
@[simp] abbrev I8 (a:Nat) (b:l9E) (c:Int) (d:Int) (e:Int) (f:l9K) (g:Nat) (h:Int) (i:l8):Heap:=[fV a b,(o_ a 10 (mE b)),D8 c d e,aF f g,(o_ g 2 (mK (o8 f))),aQ h i]
@[simp] abbrev c5y (a:Nat) (b:l9E) (c:Int) (d:Int) (e:Int) (f:l9K) (g:Nat) (h:Int) (i:l8):Heap:=[fV a b,(o_ a 10 (mE b)),D8 c d e,aF f g,(o_ g 2 (mK (o8 f))),aQ h i,(o_ 0 3 [[z_,z_,z_]])]
theorem iP (l:l9E) (g:Nat) (al:l9K) (ga:Nat) (gf gl gt nd:Int) (st:l8) (c:j5) (now:Int) :AC 65 [(oO 5 0 0 0),(AV.agg (j5.row c)),(iI now)] (I8 g l gf gl gt al ga nd st) ((AV.agg (l8.row (l7 (maxS st c.stamp) now nd))),(I8 g l gf gl gt al ga nd st)) :=
 o9 (fn:=Tryz.f65) (ann:=c0y) (Has.o Tryz.func65) (.r (.s (.c 6 (l6.pre (args:=[(AV.agg (l8.row st)),(AV.agg (l8.row c.stamp))]) (args':=[(AV.agg [(iI st.t),(iI st.node),(iI st.n)]),(AV.agg (l8.row c.stamp))]) ((b7S st c.stamp).lift kr kr (c5y g l gf gl gt al ga nd st)) ⟨AV.j3 _,AV.j3 _,trivial⟩) (.c 12 ((b2u (maxS st c.stamp) now nd).lift kr kr (c5y g l gf gl gt al ga nd st)) (.rd (iI nd) (c5y g l gf gl gt al ga nd st) (.q 6 (AV.agg (l8.row (l7 (maxS st c.stamp) now nd)))))))))
def jM (l:List Entry) (x:Entry):List j5:=if (A9 (o7 32) l x == 0)=true then [x.card] else []
def K6 (l:List Entry) (x:Entry) (st:l8):l8:=if (A9 (o7 32) l x == 0)=true then x.card.stamp else st
def b5r:Ann:={ refs:=[3],gha:=[(3,.any 4 9),(5,.any 4 9)],base:=6,fin:=some 6 }
@[simp] abbrev c4G (a:l9E) (b:Entry) (c:l9K) (d:Nat):=[[(iN ((List.length (F8 a b c)))),(AV.osl 4 (M7 a b d) 2 0 (List.length (o8 (F8 a b c))))]]
@[simp] abbrev c6S (a:l9E) (b:Entry) (c:l9K) (d:Nat):Ob:=(o_ 0 2 (c4G a b c d))
@[simp] abbrev c6R (a:l9E) (b:Entry) (c:Nat) (d:l9K):Ob:=(o_ (M7 a b c) 2 (mK (o8 (F8 a b d))))
@[simp] abbrev c9Q (a:Int) (b:Entry):=[[(iI a),(iI b.card.stamp.t),(iI b.card.stamp.node),(iI b.card.stamp.n),(oO 0 0 0 0),(oO 2 0 0 0),(oO 3 0 0 0)]]
@[simp] abbrev d1a (a:l9E) (b:Entry) (c:Nat) (d:Int) (e:Int) (f:Int) (g:l9K) (h:Nat) (i:Int):Heap:=[a5M a b c,a5L a b c,D8 d e f,c6S a b g h,c6R a b h g,(o_ 0 7 (c9Q i b))]
@[simp] abbrev c5x (a:l9E) (b:Entry) (c:Nat) (d:Int) (e:Int) (f:Int) (g:l9K) (h:Nat) (i:Int) (j:l8):Heap:=[a5M a b c,a5L a b c,D8 d e f,c6S a b g h,c6R a b h g,aQ i j]
theorem b0Q (l:l9E) (g:Nat) (al:l9K) (ga:Nat) (gf gl gt nd:Int) (st:l8) (x:Entry) (hl:l.length < 1000) (ha:al.length < 100000) (h:((A9 (o7 32) l x) == 0)=true):AC 66 [(oO 5 0 0 0),(AV.agg (Entry.row x))] (I8 g l gf gl gt al ga nd st) ((AV.tup [(sA 9 (mC [x.card])),z_]),(d1a l x g gf gl gt al ga nd)) :=
 o9 (fn:=Tryz.f66) (ann:=b5r) (Has.o Tryz.func66) (.r (.s (.ch 2 (c5x l x g gf gl gt al ga nd st) (zU l g al ga gf gl gt nd st.t st.node st.n x oa oa []) (.s (.y 1 (bB ((A9 (o7 32) l x) != 0)) bF (Yes.b (by have q:=eq_of_beq h; rw [q]; rfl)) (.rn (.s (.g (.h' (d1a l x g gf gl gt al ga nd) (.q 6 (AV.tup [(sA 9 [(j5.row x.card)]),z_])))))))))))
def b5s:Ann:={ refs:=[3],gha:=[(3,.any 4 9),(5,.any 4 9)],base:=6,fin:=some 6 }
theorem b0R (l:l9E) (g:Nat) (al:l9K) (ga:Nat) (gf gl gt nd:Int) (st:l8) (x:Entry) (hl:l.length < 1000) (ha:al.length < 100000) (h:((A9 (o7 32) l x) == 0)=false):AC 66 [(oO 5 0 0 0),(AV.agg (Entry.row x))] (I8 g l gf gl gt al ga nd st) ((AV.tup [(sA 9 (mC ([]:l9C))),(sZ l x)]),(c5x l x g gf gl gt al ga nd st)) :=
 o9 (fn:=Tryz.f66) (ann:=b5s) (Has.o Tryz.func66) (.r (.s (.ch 2 (c5x l x g gf gl gt al ga nd st) (zU l g al ga gf gl gt nd st.t st.node st.n x oa oa []) (.s (.y 1 (bB ((A9 (o7 32) l x) != 0)) bT (Yes.b (by rw [bne,h]; rfl)) (.g (.u (.qr 6 (AV.tup [(sA 9 []),(sZ l x)])))))))))
theorem b5p (l:l9E) (g:Nat) (al:l9K) (ga:Nat) (gf gl gt nd:Int) (st:l8) (x:Entry) (hl:l.length < 1000) (ha:al.length < 100000):AC 66 [(oO 5 0 0 0),(AV.agg (Entry.row x))] [(o_ 0 2 [[(iI (o7 32)),(AV.osl 1 g 10 0 (List.length l))]]),(o_ g 10 (mE l)),(o_ 0 3 [[(iI gf),(iI gl),(iI gt)]]),(o_ 0 2 [[(iN ((List.length al))),(AV.osl 4 ga 2 0 (List.length (o8 al)))]]),(o_ ga 2 (mK (o8 al))),(o_ 0 7 [[(iI nd),(iI st.t),(iI st.node),(iI st.n),(oO 0 0 0 0),(oO 2 0 0 0),(oO 3 0 0 0)]])] ((AV.tup [(sA 9 (mC (jM l x))),(iI (A9 (o7 32) l x))]),[(o_ 0 2 [[(iI (o7 32)),(AV.osl 1 (I5 (o7 32) l x g) 10 0 (List.length (C9 (o7 32) l x)))]]),(o_ (I5 (o7 32) l x g) 10 (mE (C9 (o7 32) l x))),(o_ 0 3 [[(iI gf),(iI gl),(iI gt)]]),(o_ 0 2 [[(iN ((List.length (F8 l x al)))),(AV.osl 4 (M7 l x ga) 2 0 (List.length (o8 (F8 l x al))))]]),(o_ (M7 l x ga) 2 (mK (o8 (F8 l x al)))),(o_ 0 7 [[(iI nd),(iI (K6 l x st).t),(iI (K6 l x st).node),(iI (K6 l x st).n),(oO 0 0 0 0),(oO 2 0 0 0),(oO 3 0 0 0)]])]):=by
 unfold jM K6
 cases h:(A9 (o7 32) l x == 0) with
 | true=>rw [if_pos rfl,if_pos rfl,eq_of_beq h]; exact b0Q l g al ga gf gl gt nd st x hl ha h
 | false=>rw [if_neg yf_,if_neg yf_]; exact b0R l g al ga gf gl gt nd st x hl ha h
theorem wJ (l:l9E) (g:Nat) (al:l9K) (ga:Nat) (gf gl gt nd:Int) (st:l8) (x:Entry) (hl:l.length < 1000) (ha:al.length < 100000) (H:Heap):AC 66 [(oO 5 0 0 0),(AV.agg (Entry.row x))] ((I8 g l gf gl gt al ga nd st)++H) ((AV.tup [(sA 9 (mC (jM l x))),(iI (A9 (o7 32) l x))]),([(o_ 0 2 [[(iI (o7 32)),(AV.osl 1 (I5 (o7 32) l x g) 10 0 (List.length (C9 (o7 32) l x)))]]),(o_ (I5 (o7 32) l x g) 10 (mE (C9 (o7 32) l x))),(o_ 0 3 [[(iI gf),(iI gl),(iI gt)]]),(o_ 0 2 [[(iN ((List.length (F8 l x al)))),(AV.osl 4 (M7 l x ga) 2 0 (List.length (o8 (F8 l x al))))]]),(o_ (M7 l x ga) 2 (mK (o8 (F8 l x al)))),(o_ 0 7 [[(iI nd),(iI (K6 l x st).t),(iI (K6 l x st).node),(iI (K6 l x st).n),(oO 0 0 0 0),(oO 2 0 0 0),(oO 3 0 0 0)]])]:Heap)++H):=(b5p l g al ga gf gl gt nd st x hl ha).ext kr kr ob ob kr H
def I4 (q:Msg) (old:Entry) (inn:Bool) (st:l8) (now nd:Int):Entry:=aM old inn ⟨q.key,q.status,0,q.n,l7 (maxS st old.card.stamp) now nd,false⟩ now
def dB (q:Msg):Prop:=1<=q.n/\q.n<=1048576/\(q.status=1\/q.status=2)
instance (q:Msg):Decidable (dB q):=by unfold dB; infer_instance
def c0t:Ann:={ refs:=[6,7],gha:=[(2,.any 10 9)],base:=6,fin:=some 6 }
@[simp] abbrev a8y :=(AV.tup [(sA 9 []),(iI 1)])
theorem b5m (l:l9E) (g:Nat) (al:l9K) (ga:Nat) (gf gl gt nd:Int) (st:l8) (q:Msg) (old:Entry) (inn:Bool) (now:Int) (r:¬ dB q):AC 108 [(oO 5 0 0 0),(AV.agg (Msg.row q)),(AV.agg (Entry.row old)),(bB inn),(iI now)] (I8 g l gf gl gt al ga nd st) ((AV.tup [(sA 9 (mC ([]:l9C))),(iI 1)]),(I8 g l gf gl gt al ga nd st)) :=
 o9 (fn:=Tryz.f108) (ann:=c0t) (Has.o Tryz.func108) (.r (.s (.two (decide (q.n < 1)) (fun h1 h1'=>(.u6 (.u (.g (.u (.qr 6 a8y)))))) (fun h1 h1'=>(.n2 (.two (decide (q.n > 1048576)) (fun h2 h2'=>(.u4 (.g (.u (.qr 6 a8y))))) (fun h2 h2'=>(.n2 (.y 11 (bB (q.status != 1)) bT (Yes.b (bne_iff_ne.2 (fun z=>r ⟨by have a:=of_decide_eq_false h1; omega,by have a:=of_decide_eq_false h2; omega,.inl z⟩))) (.n (.u3 (.y 15 (bB (q.status != 2)) bT (Yes.b (bne_iff_ne.2 (fun z=>r ⟨by have a:=of_decide_eq_false h1; omega,by have a:=of_decide_eq_false h2; omega,.inr z⟩))) (.n (.g (.u (.qr 6 a8y))))))))))))))))
def c0s:Ann:={ refs:=[6,7],base:=6,fin:=some 6 }
@[simp] abbrev b6F (a:Nat) (b:l9E) (c:Int) (d:Int) (e:Int) (f:l9K) (g:Nat) (h:Int) (i:l8):Heap:=[fV a b,(o_ a 10 (mE b)),D8 c d e,aF f g,(o_ g 2 (mK (o8 f))),aQ h i,(o_ 0 9 [[e_,e_,z_,z_,z_,z_,z_,z_,bF]])]
@[simp] abbrev c9l (a:Msg) (b:l8) (c:Entry) (d e:Int):=[(AV.str a.key.app),(AV.str a.key.id),(iI a.status),z_,(iI a.n),(iI (l7 (maxS b c.card.stamp) d e).t),(iI (l7 (maxS b c.card.stamp) d e).node),(iI (l7 (maxS b c.card.stamp) d e).n),bF]
@[simp] abbrev b6E (a:Msg) (b:l8) (c:Entry) (d:Int) (e:Int):Ob:=(o_ 0 9 [(c9l a b c d e)])
@[simp] abbrev d0Z (a:Nat) (b:l9E) (c:Int) (d:Int) (e:Int) (f:l9K) (g:Nat) (h:Int) (i:l8) (j:Msg) (k:Entry) (l:Int):Heap:=[fV a b,(o_ a 10 (mE b)),D8 c d e,aF f g,(o_ g 2 (mK (o8 f))),aQ h i,b6E j i k l h]
@[simp] abbrev c1e (a:l9E) (b:Entry) (c:Bool) (d:Msg) (e:l8) (f:Int) (g:Int) (h:Nat):Ob:=(o_ 0 2 [[(iI (o7 32)),(AV.osl 1 (I5 (o7 32) a (aM b c (j5.mk d.key d.status 0 d.n (l7 (maxS e b.card.stamp) f g) false) f) h) 10 0 (List.length (C9 (o7 32) a (aM b c (j5.mk d.key d.status 0 d.n (l7 (maxS e b.card.stamp) f g) false) f))))]])
@[simp] abbrev c1d (a:l9E) (b:Entry) (c:Bool) (d:Msg) (e:l8) (f:Int) (g:Int) (h:Nat):Ob:=(o_ (I5 (o7 32) a (aM b c (j5.mk d.key d.status 0 d.n (l7 (maxS e b.card.stamp) f g) false) f) h) 10 (mE (C9 (o7 32) a (aM b c (j5.mk d.key d.status 0 d.n (l7 (maxS e b.card.stamp) f g) false) f))))
@[simp] abbrev c1c (a:l9E) (b:Entry) (c:Bool) (d:Msg) (e:l8) (f:Int) (g:Int) (h:l9K) (i:Nat):Ob:=(o_ 0 2 [[(iN ((List.length (F8 a (aM b c (j5.mk d.key d.status 0 d.n (l7 (maxS e b.card.stamp) f g) false) f) h)))),(AV.osl 4 (M7 a (aM b c (j5.mk d.key d.status 0 d.n (l7 (maxS e b.card.stamp) f g) false) f) i) 2 0 (List.length (o8 (F8 a (aM b c (j5.mk d.key d.status 0 d.n (l7 (maxS e b.card.stamp) f g) false) f) h))))]])
@[simp] abbrev c1b (a:l9E) (b:Entry) (c:Bool) (d:Msg) (e:l8) (f:Int) (g:Int) (h:Nat) (i:l9K):Ob:=(o_ (M7 a (aM b c (j5.mk d.key d.status 0 d.n (l7 (maxS e b.card.stamp) f g) false) f) h) 2 (mK (o8 (F8 a (aM b c (j5.mk d.key d.status 0 d.n (l7 (maxS e b.card.stamp) f g) false) f) i))))
@[simp] abbrev c0Z (a:Int) (b:l9E) (c:Entry) (d:Bool) (e:Msg) (f:l8) (g:Int):Ob:=(o_ 0 7 [[(iI a),(iI (K6 b (aM c d (j5.mk e.key e.status 0 e.n (l7 (maxS f c.card.stamp) g a) false) g) f).t),(iI (K6 b (aM c d (j5.mk e.key e.status 0 e.n (l7 (maxS f c.card.stamp) g a) false) g) f).node),(iI (K6 b (aM c d (j5.mk e.key e.status 0 e.n (l7 (maxS f c.card.stamp) g a) false) g) f).n),(oO 0 0 0 0),(oO 2 0 0 0),(oO 3 0 0 0)]])
@[simp] abbrev d0Y (a:l9E) (b:Entry) (c:Bool) (d:Msg) (e:l8) (f:Int) (g:Int) (h:Nat) (i:Int) (j:Int) (k:Int) (l:l9K) (m:Nat):Heap:=[c1e a b c d e f g h,c1d a b c d e f g h,D8 i j k,c1c a b c d e f g l m,c1b a b c d e f g m l,c0Z g a b c d e f,b6E d e b f g]
@[simp] abbrev d0X (a:Msg) (b:l8) (c:Entry) (d:Int) (e:Int):Heap:=[b6E a b c d e]
@[simp] abbrev d0W (a:l9E) (b:Entry) (c:Bool) (d:Msg) (e:l8) (f:Int) (g:Int) (h:Nat) (i:Int) (j:Int) (k:Int) (l:l9K) (m:Nat):Heap:=[c1e a b c d e f g h,c1d a b c d e f g h,D8 i j k,c1c a b c d e f g l m,c1b a b c d e f g m l,c0Z g a b c d e f]
theorem b1S {p:Prop} (h:p:=by rcases r3 with r | r; (rw [r] at h1; simp at h1); (rw [r]; rfl)):p:=h
@[simp] abbrev c9P (a:Msg) (b:l8) (c:Entry) (d e:Int):=(AV.agg (c9l a b c d e))
@[simp] abbrev c9O (a:l9E) (b:Entry) (c:Bool) (d:Msg) (e:l8) (f g:Int):=(AV.tup [(sA 9 (mC (jM a (aM b c (j5.mk d.key d.status 0 d.n (l7 (maxS e b.card.stamp) f g) false) f)))),(iI (A9 (o7 32) a (aM b c (j5.mk d.key d.status 0 d.n (l7 (maxS e b.card.stamp) f g) false) f)))])
theorem b5l (l:l9E) (g:Nat) (al:l9K) (ga:Nat) (gf gl gt nd:Int) (st:l8) (q:Msg) (old:Entry) (inn:Bool) (now:Int) (hl:l.length < 1000) (ha:al.length < 100000) (r:dB q):AC 108 [(oO 5 0 0 0),(AV.agg (Msg.row q)),(AV.agg (Entry.row old)),(bB inn),(iI now)] (I8 g l gf gl gt al ga nd st) ((AV.tup [(sA 9 (mC (jM l (I4 q old inn st now nd)))),(iI (A9 (o7 32) l (I4 q old inn st now nd)))]),[(o_ 0 2 [[(iI (o7 32)),(AV.osl 1 (I5 (o7 32) l (I4 q old inn st now nd) g) 10 0 (List.length (C9 (o7 32) l (I4 q old inn st now nd))))]]),(o_ (I5 (o7 32) l (I4 q old inn st now nd) g) 10 (mE (C9 (o7 32) l (I4 q old inn st now nd)))),(o_ 0 3 (iD gf gl gt)),(o_ 0 2 [[(iN ((List.length (F8 l (I4 q old inn st now nd) al)))),(AV.osl 4 (M7 l (I4 q old inn st now nd) ga) 2 0 (List.length (o8 (F8 l (I4 q old inn st now nd) al))))]]),(o_ (M7 l (I4 q old inn st now nd) ga) 2 (mK (o8 (F8 l (I4 q old inn st now nd) al)))),(o_ 0 7 [[(iI nd),(iI (K6 l (I4 q old inn st now nd) st).t),(iI (K6 l (I4 q old inn st now nd) st).node),(iI (K6 l (I4 q old inn st now nd) st).n),(oO 0 0 0 0),(oO 2 0 0 0),(oO 3 0 0 0)]])]):=by
 obtain ⟨r1,r2,r3⟩:=r
 exact o9 (fn:=Tryz.f108) (ann:=c0s) (Has.o Tryz.func108) (.r (.s (.y 2 (bB (decide (q.n < 1))) bF (Yes.b (decide_eq_false ow)) (.n3 (.y 6 (bB (decide (q.n > 1048576))) bF (Yes.b (decide_eq_false ow)) (.n4 (.two (q.status != 1) (fun h1 h1'=>(.u2 (.y 15 (bB (q.status != 2)) bF (Yes.b b1S) (.n (.rn (.c 10 (l6.put2 [0,1,2,3,4,5] (b6F g l gf gl gt al ga nd st) (AV.agg (l8.row (l7 (maxS st old.card.stamp) now nd))) (b6F g l gf gl gt al ga nd st) (iP l g al ga gf gl gt nd st old.card now ) (⟨rfl,⟨Ob.ren0 (Entry.p8 0 _),⟨rfl,⟨rfl,⟨Ob.ren0 (Key.p8 0 _),⟨rfl,trivial⟩⟩⟩⟩⟩⟩) (⟨rfl,⟨Ob.ren0 (Entry.p8 0 _),⟨rfl,⟨rfl,⟨Ob.ren0 (Key.p8 0 _),⟨rfl,trivial⟩⟩⟩⟩⟩⟩)) (.s (.c 5 (l6.pre (args:=[(AV.agg (Entry.row old)),(bB inn),(AV.agg (j5.row (j5.mk q.key q.status 0 q.n (l7 (maxS st old.card.stamp) now nd) false))),(iI now)]) (args':=[(AV.agg (Entry.row old)),(bB inn),(c9P q st old now nd),(iI now)]) ((a4v old inn (j5.mk q.key q.status 0 q.n (l7 (maxS st old.card.stamp) now nd) false) now).lift kr kr (d0Z g l gf gl gt al ga nd st q old now)) ⟨AV.j3 _,AV.j3 _,AV.j3 _,AV.j3 _,trivial⟩) (.ch 6 (d0Y l old inn q st now nd g gf gl gt al ga) (wJ l g al ga gf gl gt nd st (aM old inn (j5.mk q.key q.status 0 q.n (l7 (maxS st old.card.stamp) now nd) false) now) oa oa (d0X q st old now nd)) (.g (.h' (d0W l old inn q st now nd g gf gl gt al ga) (.q 6 (c9O l old inn q st now nd))))))))))))) (fun h1 h1'=>(.n3 (.rn (.c 10 (l6.put2 [0,1,2,3,4,5] (b6F g l gf gl gt al ga nd st) (AV.agg (l8.row (l7 (maxS st old.card.stamp) now nd))) (b6F g l gf gl gt al ga nd st) (iP l g al ga gf gl gt nd st old.card now ) (⟨rfl,⟨Ob.ren0 (Entry.p8 0 _),⟨rfl,⟨rfl,⟨Ob.ren0 (Key.p8 0 _),⟨rfl,trivial⟩⟩⟩⟩⟩⟩) (⟨rfl,⟨Ob.ren0 (Entry.p8 0 _),⟨rfl,⟨rfl,⟨Ob.ren0 (Key.p8 0 _),⟨rfl,trivial⟩⟩⟩⟩⟩⟩)) (.s (.c 5 (l6.pre (args:=[(AV.agg (Entry.row old)),(bB inn),(AV.agg (j5.row (j5.mk q.key q.status 0 q.n (l7 (maxS st old.card.stamp) now nd) false))),(iI now)]) (args':=[(AV.agg (Entry.row old)),(bB inn),(c9P q st old now nd),(iI now)]) ((a4v old inn (j5.mk q.key q.status 0 q.n (l7 (maxS st old.card.stamp) now nd) false) now).lift kr kr (d0Z g l gf gl gt al ga nd st q old now)) ⟨AV.j3 _,AV.j3 _,AV.j3 _,AV.j3 _,trivial⟩) (.ch 6 (d0Y l old inn q st now nd g gf gl gt al ga) (wJ l g al ga gf gl gt nd st (aM old inn (j5.mk q.key q.status 0 q.n (l7 (maxS st old.card.stamp) now nd) false) now) oa oa (d0X q st old now nd)) (.g (.h' (d0W l old inn q st now nd g gf gl gt al ga) (.q 6 (c9O l old inn q st now nd))))))))))))))))))
def sI (l:List Entry) (q:Msg) (x:Entry):List j5:=if dB q then jM l x else []
def sH (l:List Entry) (q:Msg) (x:Entry):Int:=if dB q then A9 (o7 32) l x else 1
def kY (l:List Entry) (q:Msg) (x:Entry):List Entry:=if dB q then C9 (o7 32) l x else l
def qE (l:List Entry) (q:Msg) (x:Entry) (g:Nat):Nat:=if dB q then I5 (o7 32) l x g else g
def iR (l:List Entry) (q:Msg) (x:Entry) (al:List Key):List Key:=if dB q then F8 l x al else al
def kD (l:List Entry) (q:Msg) (x:Entry) (ga:Nat):Nat:=if dB q then M7 l x ga else ga
def iQ (l:List Entry) (q:Msg) (x:Entry) (st:l8):l8:=if dB q then K6 l x st else st
theorem c0r (l:l9E) (g:Nat) (al:l9K) (ga:Nat) (gf gl gt nd:Int) (st:l8) (q:Msg) (old:Entry) (inn:Bool) (now:Int) (hl:l.length < 1000) (ha:al.length < 100000):AC 108 [(oO 5 0 0 0),(AV.agg (Msg.row q)),(AV.agg (Entry.row old)),(bB inn),(iI now)] [(o_ 0 2 [[(iI (o7 32)),(AV.osl 1 g 10 0 (List.length l))]]),(o_ g 10 (mE l)),(o_ 0 3 [[(iI gf),(iI gl),(iI gt)]]),(o_ 0 2 [[(iN ((List.length al))),(AV.osl 4 ga 2 0 (List.length (o8 al)))]]),(o_ ga 2 (mK (o8 al))),(o_ 0 7 [[(iI nd),(iI st.t),(iI st.node),(iI st.n),(oO 0 0 0 0),(oO 2 0 0 0),(oO 3 0 0 0)]])] ((AV.tup [(sA 9 (mC (sI l q (I4 q old inn st now nd)))),(iI (sH l q (I4 q old inn st now nd)))]),[(o_ 0 2 [[(iI (o7 32)),(AV.osl 1 (qE l q (I4 q old inn st now nd) g) 10 0 (List.length (kY l q (I4 q old inn st now nd))))]]),(o_ (qE l q (I4 q old inn st now nd) g) 10 (mE (kY l q (I4 q old inn st now nd)))),(o_ 0 3 [[(iI gf),(iI gl),(iI gt)]]),(o_ 0 2 [[(iN ((List.length (iR l q (I4 q old inn st now nd) al)))),(AV.osl 4 (kD l q (I4 q old inn st now nd) ga) 2 0 (List.length (o8 (iR l q (I4 q old inn st now nd) al))))]]),(o_ (kD l q (I4 q old inn st now nd) ga) 2 (mK (o8 (iR l q (I4 q old inn st now nd) al)))),(o_ 0 7 [[(iI nd),(iI (iQ l q (I4 q old inn st now nd) st).t),(iI (iQ l q (I4 q old inn st now nd) st).node),(iI (iQ l q (I4 q old inn st now nd) st).n),(oO 0 0 0 0),(oO 2 0 0 0),(oO 3 0 0 0)]])]):=by
 unfold sI sH kY qE iR kD iQ
 by_cases r:dB q
 · rw [if_pos r,if_pos r,if_pos r,if_pos r,if_pos r,if_pos r,if_pos r]
   exact b5l l g al ga gf gl gt nd st q old inn now hl ha r
 · rw [if_neg r,if_neg r,if_neg r,if_neg r,if_neg r,if_neg r,if_neg r]
   exact b5m l g al ga gf gl gt nd st q old inn now r
theorem b1J (l:l9E) (g:Nat) (al:l9K) (ga:Nat) (gf gl gt nd:Int) (st:l8) (q:Msg) (old:Entry) (inn:Bool) (now:Int) (hl:l.length < 1000) (ha:al.length < 100000) (H:Heap):AC 108 [(oO 5 0 0 0),(AV.agg (Msg.row q)),(AV.agg (Entry.row old)),(bB inn),(iI now)] ((I8 g l gf gl gt al ga nd st)++H) ((AV.tup [(sA 9 (mC (sI l q (I4 q old inn st now nd)))),(iI (sH l q (I4 q old inn st now nd)))]),([(o_ 0 2 [[(iI (o7 32)),(AV.osl 1 (qE l q (I4 q old inn st now nd) g) 10 0 (List.length (kY l q (I4 q old inn st now nd))))]]),(o_ (qE l q (I4 q old inn st now nd) g) 10 (mE (kY l q (I4 q old inn st now nd)))),(o_ 0 3 [[(iI gf),(iI gl),(iI gt)]]),(o_ 0 2 [[(iN ((List.length (iR l q (I4 q old inn st now nd) al)))),(AV.osl 4 (kD l q (I4 q old inn st now nd) ga) 2 0 (List.length (o8 (iR l q (I4 q old inn st now nd) al))))]]),(o_ (kD l q (I4 q old inn st now nd) ga) 2 (mK (o8 (iR l q (I4 q old inn st now nd) al)))),(o_ 0 7 [[(iI nd),(iI (iQ l q (I4 q old inn st now nd) st).t),(iI (iQ l q (I4 q old inn st now nd) st).node),(iI (iQ l q (I4 q old inn st now nd) st).n),(oO 0 0 0 0),(oO 2 0 0 0),(oO 3 0 0 0)]])]:Heap)++H):=(c0r l g al ga gf gl gt nd st q old inn now hl ha).ext kr kr ob ob kr H
attribute [local irreducible] E5 K6 Q6 U3 aM d9 dB iQ iR jM kD kY qE r9 sH sI
def c1u:Ann:={ refs:=[4],gha:=[(6,.any 6 9),(8,.any 6 9),(12,.any 6 9)],base:=6,fin:=some 6 }
@[simp] abbrev a1v (a:Int) (b:Int) (c:Int) (d:l9K) (e:Nat) (f:Int) (g:l8):Heap:=[D8 a b c,aF d e,(o_ e 2 (mK (o8 d))),aQ f g,N7]
@[simp] abbrev wX (a:Nat) (b:l9E) (c:Int) (d:Int) (e:Int) (f:l9K) (g:Nat) (h:Int) (i:l8) (j:Msg):Heap:=[fV a b,(o_ a 10 (mE b)),D8 c d e,aF f g,(o_ g 2 (mK (o8 f))),aQ h i,(o_ 0 10 [(Entry.row (d9 b j.key))])]
theorem L6 {p:Prop} (h:p:=by rw [ho]; rfl):p:=h
@[simp] abbrev yT (a:Msg):=(bB (decide (a.status > 3)))
theorem b7D (l:l9E) (g:Nat) (al:l9K) (ga:Nat) (gf gl gt nd:Int) (st:l8) (q:Msg) (now:Int) (hl:l.length < 1000) (ha:al.length < 100000) (hgt:0<=gt/\gt < 4611686018427387904) (ho:q.op=4) (hs:3 < q.status):AC 55 [(oO 5 0 0 0),(AV.agg (Msg.row q)),(iI now)] (I8 g l gf gl gt al ga nd st) ((AV.tup [(sA 9 (mC ([]:l9C))),(iI 1)]),(I8 g l gf gl gt al ga nd st)) :=
 o9 (fn:=Tryz.f55) (ann:=c1u) (Has.o Tryz.func55) (.r (.s (.c 6 (get_at (o7 32) l q.key g (List.length l) oa oa (a1v gf gl gt al ga nd st)) (.s (.two (r9 l q.key) (fun h1 h1'=>(.u3 (.s (.h' (wX g l gf gl gt al ga nd st q) (.y 2 (bB (q.op == 1)) bF (Yes.b L6) (.rn (.y 2 (bB (q.op == 4)) bT (Yes.b L6) (.u3 (.y 6 (yT q) bT (Yes.b (decide_eq_true ow)) (.ru (.g (.h' (I8 g l gf gl gt al ga nd st) (.q 6 a8y))))))))))))) (fun h1 h1'=>(.n3 (.s (.h' (wX g l gf gl gt al ga nd st q) (.y 2 (bB (q.op == 1)) bF (Yes.b L6) (.rn (.y 2 (bB (q.op == 4)) bT (Yes.b L6) (.u3 (.y 6 (yT q) bT (Yes.b (decide_eq_true ow)) (.ru (.g (.h' (I8 g l gf gl gt al ga nd st) (.q 6 a8y))))))))))))))))))
def c7O:Ann:={ refs:=[4],gha:=[(6,.any 6 9),(8,.any 6 9),(12,.any 6 9)],base:=6,fin:=some 6 }
@[simp] abbrev c9N (a:l9E) (b:Msg) (c:l8) (d e:Int) (f:Nat):=[[(iI (o7 32)),(AV.osl 1 (I5 (o7 32) a (E5 (d9 a b.key) (l7 (maxS c (d9 a b.key).card.stamp) d e) d) f) 10 0 (List.length (C9 (o7 32) a (E5 (d9 a b.key) (l7 (maxS c (d9 a b.key).card.stamp) d e) d))))]]
@[simp] abbrev c9M (a:l9E) (b:Msg) (c:l8) (d e:Int) (f:l9K) (g:Nat):=[[(iN ((List.length (F8 a (E5 (d9 a b.key) (l7 (maxS c (d9 a b.key).card.stamp) d e) d) f)))),(AV.osl 4 (M7 a (E5 (d9 a b.key) (l7 (maxS c (d9 a b.key).card.stamp) d e) d) g) 2 0 (List.length (o8 (F8 a (E5 (d9 a b.key) (l7 (maxS c (d9 a b.key).card.stamp) d e) d) f))))]]
@[simp] abbrev c9L (a:Int) (b:l9E) (c:Msg) (d:l8) (e:Int):=[[(iI a),(iI (K6 b (E5 (d9 b c.key) (l7 (maxS d (d9 b c.key).card.stamp) e a) e) d).t),(iI (K6 b (E5 (d9 b c.key) (l7 (maxS d (d9 b c.key).card.stamp) e a) e) d).node),(iI (K6 b (E5 (d9 b c.key) (l7 (maxS d (d9 b c.key).card.stamp) e a) e) d).n),(oO 0 0 0 0),(oO 2 0 0 0),(oO 3 0 0 0)]]
@[simp] abbrev d0V (a:l9E) (b:Msg) (c:l8) (d:Int) (e:Int) (f:Nat) (g:Int) (h:Int) (i:Int) (j:l9K) (k:Nat):Heap:=[(o_ 0 2 (c9N a b c d e f)),(o_ (I5 (o7 32) a (E5 (d9 a b.key) (l7 (maxS c (d9 a b.key).card.stamp) d e) d) f) 10 (mE (C9 (o7 32) a (E5 (d9 a b.key) (l7 (maxS c (d9 a b.key).card.stamp) d e) d)))),D8 g h i,(o_ 0 2 (c9M a b c d e j k)),(o_ (M7 a (E5 (d9 a b.key) (l7 (maxS c (d9 a b.key).card.stamp) d e) d) k) 2 (mK (o8 (F8 a (E5 (d9 a b.key) (l7 (maxS c (d9 a b.key).card.stamp) d e) d) j)))),(o_ 0 7 (c9L e a b c d))]
@[simp] abbrev wW (a:Nat) (b:l9E) (c:Int) (d:Int) (e:Int) (f:l9K) (g:Nat) (h:Int) (i:l8) (j:Msg):Heap:=[fV a b,(o_ a 10 (mE b)),D8 c d e,aF f g,(o_ g 2 (mK (o8 f))),aQ h i,(o_ 0 10 [(Entry.row (d9 b j.key))]),N7]
@[simp] abbrev a3J (a:Nat) (b:l9E) (c:Int) (d:Int) (e:Int) (f:l9K) (g:Nat) (h:Int) (i:l8) (j:Msg) (k:Int):Heap:=[fV a b,(o_ a 10 (mE b)),D8 c d e,aF f g,(o_ g 2 (mK (o8 f))),aQ h i,(o_ 0 10 [(Entry.row (d9 b j.key))]),(o_ 0 10 [(Entry.row (E5 (d9 b j.key) (l7 (maxS i (d9 b j.key).card.stamp) k h) k))])]
@[simp] abbrev c9K (a:l9E) (b:Msg) (c:l8) (d e:Int):=(AV.tup [(sA 9 (mC (jM a (E5 (d9 a b.key) (l7 (maxS c (d9 a b.key).card.stamp) d e) d)))),(iI (A9 (o7 32) a (E5 (d9 a b.key) (l7 (maxS c (d9 a b.key).card.stamp) d e) d)))])
@[simp] abbrev yS (a:l9E) (b:Msg):=(bB (d9 a b.key).card.gone)
@[simp] abbrev a8o (a:l9E) (b:Msg):=(AV.agg (Entry.row (d9 a b.key)))
theorem c1v (l:l9E) (g:Nat) (al:l9K) (ga:Nat) (gf gl gt nd:Int) (st:l8) (q:Msg) (now:Int) (hl:l.length < 1000) (ha:al.length < 100000) (hgt:0<=gt/\gt < 4611686018427387904) (ho:q.op=3) (hf:r9 l q.key=true) (hg:(d9 l q.key).card.gone=false):AC 55 [(oO 5 0 0 0),(AV.agg (Msg.row q)),(iI now)] (I8 g l gf gl gt al ga nd st) ((c9K l q st now nd),(d0V l q st now nd g gf gl gt al ga)) :=
 o9 (fn:=Tryz.f55) (ann:=c7O) (Has.o Tryz.func55) (.r (.s (.c 6 (get_at (o7 32) l q.key g (List.length l) oa oa (a1v gf gl gt al ga nd st)) (.s (.h' (wX g l gf gl gt al ga nd st q) (.y 0 (bB (r9 l q.key)) bT (Yes.b (hf)) (.u3 (.y 4 (yS l q) bF (Yes.b (hg)) (.u (.s (.y 2 (bB (q.op == 1)) bF (Yes.b L6) (.rn (.y 2 (bB (q.op == 4)) bF (Yes.b L6) (.n3 (.rn (.rn (.y 2 (bB (q.op == 2)) bF (Yes.b L6) (.rn (.c 5 (l6.put2 [0,1,2,3,4,5] (wW g l gf gl gt al ga nd st q) (AV.agg (l8.row (l7 (maxS st (d9 l q.key).card.stamp) now nd))) (wW g l gf gl gt al ga nd st q) (iP l g al ga gf gl gt nd st (d9 l q.key).card now ) (⟨rfl,⟨Ob.ren0 (Entry.p8 0 _),⟨rfl,⟨rfl,⟨Ob.ren0 (Key.p8 0 _),⟨rfl,trivial⟩⟩⟩⟩⟩⟩) (⟨rfl,⟨Ob.ren0 (Entry.p8 0 _),⟨rfl,⟨rfl,⟨Ob.ren0 (Key.p8 0 _),⟨rfl,trivial⟩⟩⟩⟩⟩⟩)) (.c 7 ((qH (d9 l q.key) (l7 (maxS st (d9 l q.key).card.stamp) now nd) now oa).lift kr kr (wW g l gf gl gt al ga nd st q)) (.rd (a8o l q) (wW g l gf gl gt al ga nd st q) (.s (.h' (a3J g l gf gl gt al ga nd st q now) (.y 2 (bB (q.op == 4)) bF (Yes.b L6) (.rn (.ch 2 [(o_ 0 2 (c9N l q st now nd g)),(o_ (I5 (o7 32) l (E5 (d9 l q.key) (l7 (maxS st (d9 l q.key).card.stamp) now nd) now) g) 10 (mE (C9 (o7 32) l (E5 (d9 l q.key) (l7 (maxS st (d9 l q.key).card.stamp) now nd) now)))),(o_ 0 3 (iD gf gl gt)),(o_ 0 2 (c9M l q st now nd al ga)),(o_ (M7 l (E5 (d9 l q.key) (l7 (maxS st (d9 l q.key).card.stamp) now nd) now) ga) 2 (mK (o8 (F8 l (E5 (d9 l q.key) (l7 (maxS st (d9 l q.key).card.stamp) now nd) now) al)))),(o_ 0 7 (c9L nd l q st now)),(o_ 0 10 [(Entry.row (d9 l q.key))]),(o_ 0 10 [(Entry.row (E5 (d9 l q.key) (l7 (maxS st (d9 l q.key).card.stamp) now nd) now))])] (wJ l g al ga gf gl gt nd st (E5 (d9 l q.key) (l7 (maxS st (d9 l q.key).card.stamp) now nd) now) oa oa [(o_ 0 10 [(Entry.row (d9 l q.key))]),(o_ 0 10 [(Entry.row (E5 (d9 l q.key) (l7 (maxS st (d9 l q.key).card.stamp) now nd) now))])]) (.g (.h' (d0V l q st now nd g gf gl gt al ga) (.q 6 (c9K l q st now nd))))))))))))))))))))))))))))))
def c7N:Ann:={ refs:=[4],gha:=[(6,.any 6 9),(8,.any 6 9),(12,.any 6 9)],base:=6,fin:=some 6 }
@[simp] abbrev c9J (a:l9E) (b:Msg) (c:l8) (d e:Int) (f:Nat):=[[(iI (o7 32)),(AV.osl 1 (I5 (o7 32) a (U3 (d9 a b.key) b.status (l7 (maxS c (d9 a b.key).card.stamp) d e)) f) 10 0 (List.length (C9 (o7 32) a (U3 (d9 a b.key) b.status (l7 (maxS c (d9 a b.key).card.stamp) d e)))))]]
@[simp] abbrev c9I (a:l9E) (b:Msg) (c:l8) (d e:Int) (f:l9K) (g:Nat):=[[(iN ((List.length (F8 a (U3 (d9 a b.key) b.status (l7 (maxS c (d9 a b.key).card.stamp) d e)) f)))),(AV.osl 4 (M7 a (U3 (d9 a b.key) b.status (l7 (maxS c (d9 a b.key).card.stamp) d e)) g) 2 0 (List.length (o8 (F8 a (U3 (d9 a b.key) b.status (l7 (maxS c (d9 a b.key).card.stamp) d e)) f))))]]
@[simp] abbrev c9H (a:Int) (b:l9E) (c:Msg) (d:l8) (e:Int):=[[(iI a),(iI (K6 b (U3 (d9 b c.key) c.status (l7 (maxS d (d9 b c.key).card.stamp) e a)) d).t),(iI (K6 b (U3 (d9 b c.key) c.status (l7 (maxS d (d9 b c.key).card.stamp) e a)) d).node),(iI (K6 b (U3 (d9 b c.key) c.status (l7 (maxS d (d9 b c.key).card.stamp) e a)) d).n),(oO 0 0 0 0),(oO 2 0 0 0),(oO 3 0 0 0)]]
@[simp] abbrev d0U (a:l9E) (b:Msg) (c:l8) (d:Int) (e:Int) (f:Nat) (g:Int) (h:Int) (i:Int) (j:l9K) (k:Nat):Heap:=[(o_ 0 2 (c9J a b c d e f)),(o_ (I5 (o7 32) a (U3 (d9 a b.key) b.status (l7 (maxS c (d9 a b.key).card.stamp) d e)) f) 10 (mE (C9 (o7 32) a (U3 (d9 a b.key) b.status (l7 (maxS c (d9 a b.key).card.stamp) d e))))),D8 g h i,(o_ 0 2 (c9I a b c d e j k)),(o_ (M7 a (U3 (d9 a b.key) b.status (l7 (maxS c (d9 a b.key).card.stamp) d e)) k) 2 (mK (o8 (F8 a (U3 (d9 a b.key) b.status (l7 (maxS c (d9 a b.key).card.stamp) d e)) j)))),(o_ 0 7 (c9H e a b c d))]
@[simp] abbrev c9G (a:l9E) (b:Msg) (c:l8) (d e:Int):=(AV.tup [(sA 9 (mC (jM a (U3 (d9 a b.key) b.status (l7 (maxS c (d9 a b.key).card.stamp) d e))))),(iI (A9 (o7 32) a (U3 (d9 a b.key) b.status (l7 (maxS c (d9 a b.key).card.stamp) d e))))])
theorem c1t (l:l9E) (g:Nat) (al:l9K) (ga:Nat) (gf gl gt nd:Int) (st:l8) (q:Msg) (now:Int) (hl:l.length < 1000) (ha:al.length < 100000) (hgt:0<=gt/\gt < 4611686018427387904) (ho:q.op=4) (hs:q.status<=3) (hs0:0<=q.status) (hf:r9 l q.key=true) (hg:(d9 l q.key).card.gone=false):AC 55 [(oO 5 0 0 0),(AV.agg (Msg.row q)),(iI now)] (I8 g l gf gl gt al ga nd st) ((c9G l q st now nd),(d0U l q st now nd g gf gl gt al ga)) :=
 o9 (fn:=Tryz.f55) (ann:=c7N) (Has.o Tryz.func55) (.r (.s (.c 6 (get_at (o7 32) l q.key g (List.length l) oa oa (a1v gf gl gt al ga nd st)) (.s (.h' (wX g l gf gl gt al ga nd st q) (.y 0 (bB (r9 l q.key)) bT (Yes.b (hf)) (.u3 (.y 4 (yS l q) bF (Yes.b (hg)) (.u (.s (.y 2 (bB (q.op == 1)) bF (Yes.b L6) (.rn (.y 2 (bB (q.op == 4)) bT (Yes.b L6) (.u3 (.y 6 (yT q) bF (Yes.b (decide_eq_false ow)) (.rn (.rn (.y 2 (bB (q.op == 2)) bF (Yes.b L6) (.rn (.c 5 (l6.put2 [0,1,2,3,4,5] (wW g l gf gl gt al ga nd st q) (AV.agg (l8.row (l7 (maxS st (d9 l q.key).card.stamp) now nd))) (wW g l gf gl gt al ga nd st q) (iP l g al ga gf gl gt nd st (d9 l q.key).card now ) (⟨rfl,⟨Ob.ren0 (Entry.p8 0 _),⟨rfl,⟨rfl,⟨Ob.ren0 (Key.p8 0 _),⟨rfl,trivial⟩⟩⟩⟩⟩⟩) (⟨rfl,⟨Ob.ren0 (Entry.p8 0 _),⟨rfl,⟨rfl,⟨Ob.ren0 (Key.p8 0 _),⟨rfl,trivial⟩⟩⟩⟩⟩⟩)) (.c 7 ((qH (d9 l q.key) (l7 (maxS st (d9 l q.key).card.stamp) now nd) now oa).lift kr kr (wW g l gf gl gt al ga nd st q)) (.rd (a8o l q) (wW g l gf gl gt al ga nd st q) (.s (.h' (a3J g l gf gl gt al ga nd st q now) (.y 2 (bB (q.op == 4)) bT (Yes.b L6) (.ru (.c 7 (l6.put2 [0,1,2,3,4,5] (a3J g l gf gl gt al ga nd st q now) (AV.agg (l8.row (l7 (maxS st (d9 l q.key).card.stamp) now nd))) (a3J g l gf gl gt al ga nd st q now) (iP l g al ga gf gl gt nd st (d9 l q.key).card now ) (⟨rfl,⟨Ob.ren0 (Entry.p8 0 _),⟨rfl,⟨rfl,⟨Ob.ren0 (Key.p8 0 _),⟨rfl,trivial⟩⟩⟩⟩⟩⟩) (⟨rfl,⟨Ob.ren0 (Entry.p8 0 _),⟨rfl,⟨rfl,⟨Ob.ren0 (Key.p8 0 _),⟨rfl,trivial⟩⟩⟩⟩⟩⟩)) (.c 8 ((b4l (d9 l q.key) q.status (l7 (maxS st (d9 l q.key).card.stamp) now nd) oa oa oa).lift kr kr (a3J g l gf gl gt al ga nd st q now)) (.rd (a8o l q) (a3J g l gf gl gt al ga nd st q now) (.s (.ch 2 [(o_ 0 2 (c9J l q st now nd g)),(o_ (I5 (o7 32) l (U3 (d9 l q.key) q.status (l7 (maxS st (d9 l q.key).card.stamp) now nd)) g) 10 (mE (C9 (o7 32) l (U3 (d9 l q.key) q.status (l7 (maxS st (d9 l q.key).card.stamp) now nd))))),(o_ 0 3 (iD gf gl gt)),(o_ 0 2 (c9I l q st now nd al ga)),(o_ (M7 l (U3 (d9 l q.key) q.status (l7 (maxS st (d9 l q.key).card.stamp) now nd)) ga) 2 (mK (o8 (F8 l (U3 (d9 l q.key) q.status (l7 (maxS st (d9 l q.key).card.stamp) now nd)) al)))),(o_ 0 7 (c9H nd l q st now)),(o_ 0 10 [(Entry.row (d9 l q.key))]),(o_ 0 10 [(Entry.row (U3 (d9 l q.key) q.status (l7 (maxS st (d9 l q.key).card.stamp) now nd)))])] (wJ l g al ga gf gl gt nd st (U3 (d9 l q.key) q.status (l7 (maxS st (d9 l q.key).card.stamp) now nd)) oa oa [(o_ 0 10 [(Entry.row (d9 l q.key))]),(o_ 0 10 [(Entry.row (U3 (d9 l q.key) q.status (l7 (maxS st (d9 l q.key).card.stamp) now nd)))])]) (.g (.h' (d0U l q st now nd g gf gl gt al ga) (.q 6 (c9G l q st now nd)))))))))))))))))))))))))))))))))))
def c7P:Ann:={ refs:=[4],gha:=[(6,.any 6 9),(8,.any 6 9),(12,.any 6 9)],base:=6,fin:=some 6 }
@[simp] abbrev a0f (a:Int) (b:Int) (c:Int):Ob:=(o_ 0 3 [[(iI a),(iI b),(a3v c)]])
@[simp] abbrev d0T (a:l9E) (b:Msg) (c:Int) (d:Nat) (e:Int) (f:Int) (g:Int) (h:l9K) (i:Nat) (j:Int) (k:l8):Heap:=[(o_ 0 2 [[(iI (o7 32)),(AV.osl 1 (I5 (o7 32) a (Q6 (d9 a b.key) c) d) 10 0 (List.length (C9 (o7 32) a (Q6 (d9 a b.key) c))))]]),(o_ (I5 (o7 32) a (Q6 (d9 a b.key) c) d) 10 (mE (C9 (o7 32) a (Q6 (d9 a b.key) c)))),a0f e f g,aF h i,(o_ i 2 (mK (o8 h))),aQ j k]
@[simp] abbrev d0S (a:Nat) (b:l9E) (c:Int) (d:Int) (e:Int) (f:l9K) (g:Nat) (h:Int) (i:l8) (j:Msg) (k:Int):Heap:=[fV a b,(o_ a 10 (mE b)),a0f c d e,aF f g,(o_ g 2 (mK (o8 f))),aQ h i,(o_ 0 10 [(Entry.row (d9 b j.key))]),(o_ 0 10 [(Entry.row (Q6 (d9 b j.key) k))])]
theorem c1w (l:l9E) (g:Nat) (al:l9K) (ga:Nat) (gf gl gt nd:Int) (st:l8) (q:Msg) (now:Int) (hl:l.length < 1000) (ha:al.length < 100000) (hgt:0<=gt/\gt < 4611686018427387904) (ho:q.op=2) (hf:r9 l q.key=true) (hg:(d9 l q.key).card.gone=false):AC 55 [(oO 5 0 0 0),(AV.agg (Msg.row q)),(iI now)] (I8 g l gf gl gt al ga nd st) ((AV.tup [(sA 9 (mC ([]:l9C))),(iI (A9 (o7 32) l (Q6 (d9 l q.key) now)))]),(d0T l q now g gf gl gt al ga nd st)) :=
 o9 (fn:=Tryz.f55) (ann:=c7P) (Has.o Tryz.func55) (.r (.s (.c 6 (get_at (o7 32) l q.key g (List.length l) oa oa (a1v gf gl gt al ga nd st)) (.s (.h' (wX g l gf gl gt al ga nd st q) (.y 0 (bB (r9 l q.key)) bT (Yes.b (hf)) (.u3 (.y 4 (yS l q) bF (Yes.b (hg)) (.u (.s (.y 2 (bB (q.op == 1)) bF (Yes.b L6) (.rn (.y 2 (bB (q.op == 4)) bF (Yes.b L6) (.n3 (.rn (.rn (.y 2 (bB (q.op == 2)) bT (Yes.b L6) (.ru (.c 2 ((b0r (d9 l q.key) now oa).lift kr kr (wW g l gf gl gt al ga nd st q)) (.s (.ch 4 (d0S g l gf gl gt al ga nd st q now) (l6.pre (args:=[(oO 2 0 0 0)]) (args':=[(oO 2 0 0 0)]) (l6.put2 [2] [(o_ 0 2 (a3C g l)),(o_ g 10 (mE l)),(o_ 0 3 (iD gf gl gt)),(o_ 0 2 (tC al ga)),(o_ ga 2 (mK (o8 al))),(o_ 0 7 (qO nd st)),(o_ 0 10 [(Entry.row (d9 l q.key))]),(o_ 0 10 [(Entry.row (Q6 (d9 l q.key) now))])] (AV.tup []) (d0S g l gf gl gt al ga nd st q now) (b0B gf gl gt oa oa) (⟨rfl,trivial⟩) (⟨rfl,trivial⟩)) ⟨AV.j3 _,trivial⟩) (.s (.ch 5 [(o_ 0 2 [[(iI (o7 32)),(AV.osl 1 (I5 (o7 32) l (Q6 (d9 l q.key) now) g) 10 0 (List.length (C9 (o7 32) l (Q6 (d9 l q.key) now))))]]),(o_ (I5 (o7 32) l (Q6 (d9 l q.key) now) g) 10 (mE (C9 (o7 32) l (Q6 (d9 l q.key) now)))),(o_ 0 3 [[(iI gf),(iI gl),(a3v gt)]]),(o_ 0 2 (tC al ga)),(o_ ga 2 (mK (o8 al))),(o_ 0 7 (qO nd st)),(o_ 0 10 [(Entry.row (d9 l q.key))]),(o_ 0 10 [(Entry.row (Q6 (d9 l q.key) now))])] (a6Y (o7 32) l (Q6 (d9 l q.key) now) g (List.length l) oa oa [(o_ 0 3 [[(iI gf),(iI gl),(a3v gt)]]),(o_ 0 2 (tC al ga)),(o_ ga 2 (mK (o8 al))),(o_ 0 7 (qO nd st)),(o_ 0 10 [(Entry.row (d9 l q.key))]),(o_ 0 10 [(Entry.row (Q6 (d9 l q.key) now))])]) (.g (.h' (d0T l q now g gf gl gt al ga nd st) (.q 6 (AV.tup [(sA 9 []),(iI (A9 (o7 32) l (Q6 (d9 l q.key) now)))])))))))))))))))))))))))))))
def c7Q:Ann:={ refs:=[4],gha:=[(6,.any 6 9),(8,.any 6 9),(12,.any 6 9)],base:=6,fin:=some 6 }
@[simp] abbrev c6P (a:l9E) (b:Msg) (c:l8) (d:Int) (e:Int) (f:Nat):Ob:=(o_ 0 2 [[(iI (o7 32)),(AV.osl 1 (qE a b (I4 b (d9 a b.key) (r9 a b.key) c d e) f) 10 0 (List.length (kY a b (I4 b (d9 a b.key) (r9 a b.key) c d e))))]])
@[simp] abbrev c6O (a:l9E) (b:Msg) (c:l8) (d:Int) (e:Int) (f:Nat):Ob:=(o_ (qE a b (I4 b (d9 a b.key) (r9 a b.key) c d e) f) 10 (mE (kY a b (I4 b (d9 a b.key) (r9 a b.key) c d e))))
@[simp] abbrev c6N (a:l9E) (b:Msg) (c:l8) (d:Int) (e:Int) (f:l9K) (g:Nat):Ob:=(o_ 0 2 [[(iN ((List.length (iR a b (I4 b (d9 a b.key) (r9 a b.key) c d e) f)))),(AV.osl 4 (kD a b (I4 b (d9 a b.key) (r9 a b.key) c d e) g) 2 0 (List.length (o8 (iR a b (I4 b (d9 a b.key) (r9 a b.key) c d e) f))))]])
@[simp] abbrev c0Y (a:l9E) (b:Msg) (c:l8) (d:Int) (e:Int) (f:Nat) (g:l9K):Ob:=(o_ (kD a b (I4 b (d9 a b.key) (r9 a b.key) c d e) f) 2 (mK (o8 (iR a b (I4 b (d9 a b.key) (r9 a b.key) c d e) g))))
@[simp] abbrev c0X (a:Int) (b:l9E) (c:Msg) (d:l8) (e:Int):Ob:=(o_ 0 7 [[(iI a),(iI (iQ b c (I4 c (d9 b c.key) (r9 b c.key) d e a) d).t),(iI (iQ b c (I4 c (d9 b c.key) (r9 b c.key) d e a) d).node),(iI (iQ b c (I4 c (d9 b c.key) (r9 b c.key) d e a) d).n),(oO 0 0 0 0),(oO 2 0 0 0),(oO 3 0 0 0)]])
@[simp] abbrev b6D (a:l9E) (b:Msg) (c:l8) (d:Int) (e:Int) (f:Nat) (g:Int) (h:Int) (i:Int) (j:l9K) (k:Nat):Heap:=[c6P a b c d e f,c6O a b c d e f,D8 g h i,c6N a b c d e j k,c0Y a b c d e k j,c0X e a b c d]
@[simp] abbrev c6Q (a:l9E) (b:Msg) (c:l8) (d:Int) (e:Int) (f:Nat) (g:Int) (h:Int) (i:Int) (j:l9K) (k:Nat):Heap:=[c6P a b c d e f,c6O a b c d e f,D8 g h i,c6N a b c d e j k,c0Y a b c d e k j,c0X e a b c d,(o_ 0 10 [(Entry.row (d9 a b.key))])]
@[simp] abbrev c4F (a:l9E) (b:Msg) (c:l8) (d e:Int):=(AV.tup [(sA 9 (mC (sI a b (I4 b (d9 a b.key) (r9 a b.key) c d e)))),(iI (sH a b (I4 b (d9 a b.key) (r9 a b.key) c d e)))])
theorem c1x (l:l9E) (g:Nat) (al:l9K) (ga:Nat) (gf gl gt nd:Int) (st:l8) (q:Msg) (now:Int) (hl:l.length < 1000) (ha:al.length < 100000) (hgt:0<=gt/\gt < 4611686018427387904) (ho:q.op=1):AC 55 [(oO 5 0 0 0),(AV.agg (Msg.row q)),(iI now)] (I8 g l gf gl gt al ga nd st) ((c4F l q st now nd),(b6D l q st now nd g gf gl gt al ga)) :=
 o9 (fn:=Tryz.f55) (ann:=c7Q) (Has.o Tryz.func55) (.r (.s (.c 6 (get_at (o7 32) l q.key g (List.length l) oa oa (a1v gf gl gt al ga nd st)) (.s (.two (r9 l q.key) (fun h1 h1'=>(.u3 (.s (.h' (wX g l gf gl gt al ga nd st q) (.y 2 (bB (q.op == 1)) bT (Yes.b L6) (.ru (.ch 5 (c6Q l q st now nd g gf gl gt al ga) (b1J l g al ga gf gl gt nd st q (d9 l q.key) (r9 l q.key) now oa oa [(o_ 0 10 [(Entry.row (d9 l q.key))])]) (.g (.h' (b6D l q st now nd g gf gl gt al ga) (.q 6 (c4F l q st now nd))))))))))) (fun h1 h1'=>(.n3 (.s (.h' (wX g l gf gl gt al ga nd st q) (.y 2 (bB (q.op == 1)) bT (Yes.b L6) (.ru (.ch 5 (c6Q l q st now nd g gf gl gt al ga) (b1J l g al ga gf gl gt nd st q (d9 l q.key) (r9 l q.key) now oa oa [(o_ 0 10 [(Entry.row (d9 l q.key))])]) (.g (.h' (b6D l q st now nd g gf gl gt al ga) (.q 6 (c4F l q st now nd))))))))))))))))
def c7L:Ann:={ refs:=[4],gha:=[(6,.any 6 9),(8,.any 6 9),(12,.any 6 9)],base:=6,fin:=some 6 }
@[simp] abbrev b5K :=(AV.tup [(sA 9 []),(iI 22)])
theorem c1r (l:l9E) (g:Nat) (al:l9K) (ga:Nat) (gf gl gt nd:Int) (st:l8) (q:Msg) (now:Int) (hl:l.length < 1000) (ha:al.length < 100000) (hgt:0<=gt/\gt < 4611686018427387904) (h1:¬ q.op=1) (h4:¬ (q.op=4/\3 < q.status)) (hf:r9 l q.key=false):AC 55 [(oO 5 0 0 0),(AV.agg (Msg.row q)),(iI now)] (I8 g l gf gl gt al ga nd st) ((AV.tup [(sA 9 (mC ([]:l9C))),(iI 22)]),(I8 g l gf gl gt al ga nd st)) :=
 o9 (fn:=Tryz.f55) (ann:=c7L) (Has.o Tryz.func55) (.r (.s (.c 6 (get_at (o7 32) l q.key g (List.length l) oa oa (a1v gf gl gt al ga nd st)) (.s (.h' (wX g l gf gl gt al ga nd st q) (.y 0 (bB (r9 l q.key)) bF (Yes.b (hf)) (.n4 (.s (.y 2 (bB (q.op == 1)) bF (Yes.b yg_) (.rn (.two (q.op == 4) (fun h1 h1'=>(.u2 (.y 6 (yT q) bF (Yes.b (decide_eq_false (fun z=>h4 ⟨eq_of_beq yb_,z⟩))) (.rn (.ru (.g (.h' (I8 g l gf gl gt al ga nd st) (.q 6 b5K)))))))) (fun h1 h1'=>(.n2 (.rn (.ru (.g (.h' (I8 g l gf gl gt al ga nd st) (.q 6 b5K))))))))))))))))))
def c7M:Ann:={ refs:=[4],gha:=[(6,.any 6 9),(8,.any 6 9),(12,.any 6 9)],base:=6,fin:=some 6 }
theorem c1s (l:l9E) (g:Nat) (al:l9K) (ga:Nat) (gf gl gt nd:Int) (st:l8) (q:Msg) (now:Int) (hl:l.length < 1000) (ha:al.length < 100000) (hgt:0<=gt/\gt < 4611686018427387904) (h1:¬ q.op=1) (h4:¬ (q.op=4/\3 < q.status)) (hf:r9 l q.key=true) (hg:(d9 l q.key).card.gone=true):AC 55 [(oO 5 0 0 0),(AV.agg (Msg.row q)),(iI now)] (I8 g l gf gl gt al ga nd st) ((AV.tup [(sA 9 (mC ([]:l9C))),(iI 22)]),(I8 g l gf gl gt al ga nd st)) :=
 o9 (fn:=Tryz.f55) (ann:=c7M) (Has.o Tryz.func55) (.r (.s (.c 6 (get_at (o7 32) l q.key g (List.length l) oa oa (a1v gf gl gt al ga nd st)) (.s (.h' (wX g l gf gl gt al ga nd st q) (.y 0 (bB (r9 l q.key)) bT (Yes.b (hf)) (.u3 (.y 4 (yS l q) bT (Yes.b (hg)) (.u (.s (.y 2 (bB (q.op == 1)) bF (Yes.b yg_) (.rn (.two (q.op == 4) (fun h1 h1'=>(.u2 (.y 6 (yT q) bF (Yes.b (decide_eq_false (fun z=>h4 ⟨eq_of_beq yb_,z⟩))) (.rn (.ru (.g (.h' (I8 g l gf gl gt al ga nd st) (.q 6 b5K)))))))) (fun h1 h1'=>(.n2 (.rn (.ru (.g (.h' (I8 g l gf gl gt al ga nd st) (.q 6 b5K))))))))))))))))))))
structure TuR where
 c:List j5
 code:Int
 l:List Entry
 g:Nat
 al:List Key
 ga:Nat
 st:l8
 gt:Int
def a1x (l:List Entry) (g:Nat) (al:List Key) (ga:Nat) (gt:Int) (st:l8) (x:Entry):TuR:=⟨jM l x,A9 (o7 32) l x,C9 (o7 32) l x,I5 (o7 32) l x g,F8 l x al,M7 l x ga,K6 l x st,gt⟩
def tuR (l:List Entry) (g:Nat) (al:List Key) (ga:Nat) (gt nd:Int) (st:l8) (q:Msg) (now:Int):TuR :=
 if q.op=1 then ⟨sI l q (I4 q (d9 l q.key) (r9 l q.key) st now nd),sH l q (I4 q (d9 l q.key) (r9 l q.key) st now nd),kY l q (I4 q (d9 l q.key) (r9 l q.key) st now nd),qE l q (I4 q (d9 l q.key) (r9 l q.key) st now nd) g,iR l q (I4 q (d9 l q.key) (r9 l q.key) st now nd) al,kD l q (I4 q (d9 l q.key) (r9 l q.key) st now nd) ga,iQ l q (I4 q (d9 l q.key) (r9 l q.key) st now nd) st,gt⟩
 else if q.op=4/\3 < q.status then ⟨[],1,l,g,al,ga,st,gt⟩
 else if r9 l q.key=true/\(d9 l q.key).card.gone=false then
  (if q.op=2 then ⟨[],A9 (o7 32) l (Q6 (d9 l q.key) now),C9 (o7 32) l (Q6 (d9 l q.key) now),I5 (o7 32) l (Q6 (d9 l q.key) now) g,al,ga,st,min (gt+1) 1048576⟩
   else if q.op=4 then a1x l g al ga gt st (U3 (d9 l q.key) q.status (l7 (maxS st (d9 l q.key).card.stamp) now nd)) else a1x l g al ga gt st (E5 (d9 l q.key) (l7 (maxS st (d9 l q.key).card.stamp) now nd) now))
 else ⟨[],22,l,g,al,ga,st,gt⟩
theorem b7C (l:l9E) (g:Nat) (al:l9K) (ga:Nat) (gf gl gt nd:Int) (st:l8) (q:Msg) (now:Int) (hl:l.length < 1000) (ha:al.length < 100000) (hgt:0<=gt/\gt < 4611686018427387904) (ho1:1<=q.op) (ho5:q.op < 5) (hs0:0<=q.status):AC 55 [(oO 5 0 0 0),(AV.agg (Msg.row q)),(iI now)] [(o_ 0 2 [[(iI (o7 32)),(AV.osl 1 g 10 0 (List.length l))]]),(o_ g 10 (mE l)),(o_ 0 3 [[(iI gf),(iI gl),(iI gt)]]),(o_ 0 2 [[(iN ((List.length al))),(AV.osl 4 ga 2 0 (List.length (o8 al)))]]),(o_ ga 2 (mK (o8 al))),(o_ 0 7 [[(iI nd),(iI st.t),(iI st.node),(iI st.n),(oO 0 0 0 0),(oO 2 0 0 0),(oO 3 0 0 0)]])] ((AV.tup [(sA 9 (mC (tuR l g al ga gt nd st q now).c)),(iI (tuR l g al ga gt nd st q now).code)]),[(o_ 0 2 [[(iI (o7 32)),(AV.osl 1 (tuR l g al ga gt nd st q now).g 10 0 (List.length (tuR l g al ga gt nd st q now).l))]]),(o_ ((tuR l g al ga gt nd st q now).g) 10 (mE (tuR l g al ga gt nd st q now).l)),(o_ 0 3 [[(iI gf),(iI gl),(iI (tuR l g al ga gt nd st q now).gt)]]),(o_ 0 2 [[(iN ((List.length (tuR l g al ga gt nd st q now).al))),(AV.osl 4 (tuR l g al ga gt nd st q now).ga 2 0 (List.length (o8 (tuR l g al ga gt nd st q now).al)))]]),(o_ ((tuR l g al ga gt nd st q now).ga) 2 (mK (o8 (tuR l g al ga gt nd st q now).al))),(o_ 0 7 [[(iI nd),(iI (tuR l g al ga gt nd st q now).st.t),(iI (tuR l g al ga gt nd st q now).st.node),(iI (tuR l g al ga gt nd st q now).st.n),(oO 0 0 0 0),(oO 2 0 0 0),(oO 3 0 0 0)]])]):=by
 unfold tuR a1x
 by_cases o1:q.op=1
 · rw [if_pos o1]
   exact c1x l g al ga gf gl gt nd st q now hl ha hgt o1
 rw [if_neg o1]
 by_cases o4:q.op=4/\3 < q.status
 · rw [if_pos o4]
   exact b7D l g al ga gf gl gt nd st q now hl ha hgt o4.1 o4.2
 rw [if_neg o4]
 by_cases lv:r9 l q.key=true/\(d9 l q.key).card.gone=false
 · rw [if_pos lv]
   by_cases o2:q.op=2
   · rw [if_pos o2]
     exact c1w l g al ga gf gl gt nd st q now hl ha hgt o2 lv.1 lv.2
   rw [if_neg o2]
   by_cases o3:q.op=4
   · rw [if_pos o3]
     exact c1t l g al ga gf gl gt nd st q now hl ha hgt o3 (Int.not_lt.1 fun z=>o4 ⟨o3,z⟩) hs0 lv.1 lv.2
   · rw [if_neg o3]
     exact c1v l g al ga gf gl gt nd st q now hl ha hgt ow lv.1 lv.2
 · rw [if_neg lv]
   cases hf:r9 l q.key with
   | false=>exact c1r l g al ga gf gl gt nd st q now hl ha hgt o1 o4 hf
   | true=>exact c1s l g al ga gf gl gt nd st q now hl ha hgt o1 o4 hf (by
    rcases Bool.eq_false_or_eq_true (d9 l q.key).card.gone with z | z
    · exact z
    · exact absurd ⟨hf,z⟩ lv)
theorem c7K (l:l9E) (g:Nat) (al:l9K) (ga:Nat) (gf gl gt nd:Int) (st:l8) (q:Msg) (now:Int) (hl:l.length < 1000) (ha:al.length < 100000) (hgt:0<=gt/\gt < 4611686018427387904) (ho1:1<=q.op) (ho5:q.op < 5) (hs0:0<=q.status) (H:Heap):AC 55 [(oO 5 0 0 0),(AV.agg (Msg.row q)),(iI now)] ((I8 g l gf gl gt al ga nd st)++H) ((AV.tup [(sA 9 (mC (tuR l g al ga gt nd st q now).c)),(iI (tuR l g al ga gt nd st q now).code)]),([(o_ 0 2 [[(iI (o7 32)),(AV.osl 1 (tuR l g al ga gt nd st q now).g 10 0 (List.length (tuR l g al ga gt nd st q now).l))]]),(o_ ((tuR l g al ga gt nd st q now).g) 10 (mE (tuR l g al ga gt nd st q now).l)),(o_ 0 3 [[(iI gf),(iI gl),(iI (tuR l g al ga gt nd st q now).gt)]]),(o_ 0 2 [[(iN ((List.length (tuR l g al ga gt nd st q now).al))),(AV.osl 4 (tuR l g al ga gt nd st q now).ga 2 0 (List.length (o8 (tuR l g al ga gt nd st q now).al)))]]),(o_ ((tuR l g al ga gt nd st q now).ga) 2 (mK (o8 (tuR l g al ga gt nd st q now).al))),(o_ 0 7 [[(iI nd),(iI (tuR l g al ga gt nd st q now).st.t),(iI (tuR l g al ga gt nd st q now).st.node),(iI (tuR l g al ga gt nd st q now).st.n),(oO 0 0 0 0),(oO 2 0 0 0),(oO 3 0 0 0)]])]:Heap)++H):=(b7C l g al ga gf gl gt nd st q now hl ha hgt ho1 ho5 hs0).ext kr kr ob ob kr H
end Go.Proofs.YtfjedpipdnlkfaaGreat.AM
