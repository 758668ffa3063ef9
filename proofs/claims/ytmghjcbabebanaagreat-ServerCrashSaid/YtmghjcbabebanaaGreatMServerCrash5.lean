/-
  Texts of this claim, part 5 of 8: an abstract machine over the model; what functions come to; plain laws.
-/
import Derived.Test.YtmghjcbabebanaaGreatMServerCrash4
import Derived.Deep.OwnRows
set_option maxRecDepth 100000
set_option linter.unusedVariables false
set_option linter.unusedSimpArgs false
set_option linter.unusedSectionVars false
namespace Go.Proofs.YtmghjcbabebanaaGreat.AM
open Go Go.Proofs.YtmghjcbabebanaaGreat
attribute [local irreducible] C9 D5 D8 D9 F3 F5 G9 I4 J6 K8 N9 P6 R3 R8 R9 Tp.H7 Tp.J8 Tp.card Tp.cards Tp.key Tp.keyT Tp.next Tp.step cmpL j6 l6 l9 sink y5
def a1b:Ann:={ base:=1,fin:=some 1,live:=[(1,[0,1,2,3,10])],out:=[(1,[0,1,2,3,10])] }
@[simp] abbrev c8F (a:Nat) (b:l9C) (c:Nat) (d:Nat) (e:Nat):Heap:=[(o_ a 9 (mC ((b.set (c+d) (nth b (e+d))).set (e+d) (nth b (c+d)))))]
@[simp] abbrev b6R (a:Nat) (b:Nat) (c:Nat) (d:Nat) (e:Nat) (f:Nat):Fr:=(mkF 38 [(0,(AV.osl 0 a 9 0 b)),(1,(iN c)),(2,(iN d)),(3,(iN e)),(10,(iN f))])
@[simp] abbrev a4J (a:l9C) (b c:Nat):=(AV.agg (j5.row (nth a (b+c))))
theorem a8l (a:Nat) (b:Nat) (k:Nat) (n:Nat) (g:Nat) (l:l9C) (i:Nat) (hab:a+k<=b) (hb:b+k<=n) (hnb:n < 1048576) (hn:n=l.length) (hle_:i<=k) {eX:Ex} {FX:Fr} {HX:Heap} (k1:(decide ((i:Int) < (k:Int)))=true->j6 (l9 Tryz.prog (X a1b) (x9 Tryz.f232 0)) (some [0,1,2,3,10]) (some [0,1,2,3,10]) (mkF 38 [(0,(AV.osl 0 g 9 0 n)),(1,(iN a)),(2,(iN b)),(3,(iN k)),(10,(iN (i+1)))]) (c8F g l a i b) eX FX HX) (k2:(decide ((i:Int) < (k:Int)))=false->((.exit 0:Ex),(b6R g n a b k i),[(o_ g 9 (mC l))])=(eX,FX,HX)):j6 (l9 Tryz.prog (X a1b) (x9 Tryz.f232 0)) (some [0,1,2,3,10]) (some [0,1,2,3,10]) (b6R g n a b k i) [(o_ g 9 (mC l))] eX FX HX :=
 I9 (.r (.g (.two (decide ((i:Int) < (k:Int))) (fun h1 h1'=>(.r (.y 3 (.int .i64 (fZ a i)) (iN (a+i)) Yes.o (.y 7 (.int .i64 (fZ b i)) (iN (b+i)) Yes.o (.y 11 (.int .i64 (fZ b i)) (iN (b+i)) Yes.o (.io 12 0 g 9 9 0 n ((b+i:Nat):Int) (b+i) (F8.mk _ ow ow) (.t 13 (a4J l b i) [(o_ g 9 (mC l))] (H6 (D6 (row:=j5.row) (l:=l) (k:=9) (room:=none) kr om) kr:K7 tt 50 0 [(o_ g 9 (mC l))] (rowAt [(o_ g 9 (mC l))] 0 g (b+i))=some ((a4J l b i),([(o_ g 9 (mC l))]:Heap))) (.y 17 (.int .i64 (fZ a i)) (iN (a+i)) Yes.o (.io 18 0 g 9 9 0 n ((a+i:Nat):Int) (a+i) (F8.mk _ ow ow) (.t 19 (a4J l a i) [(o_ g 9 (mC l))] (H6 (D6 (row:=j5.row) (l:=l) (k:=9) (room:=none) kr om) kr:K7 tt 50 0 [(o_ g 9 (mC l))] (rowAt [(o_ g 9 (mC l))] 0 g (a+i))=some ((a4J l a i),([(o_ g 9 (mC l))]:Heap))) (.io 20 0 g 9 9 0 n ((a+i:Nat):Int) (a+i) (F8.mk _ ow ow) (.st 21 0 g (a+i) 9 0 (a4J l b i) [(o_ g 9 (mC (l.set (a+i) (nth l (b+i)))))] (Q5 (us:=(j5.row (nth l (b+i)))) (D6 (row:=j5.row) (l:=l) (k:=9) (room:=none) kr om) kr vB uZ) (.io 22 0 g 9 9 0 n ((b+i:Nat):Int) (b+i) (F8.mk _ ow ow) (.st 23 0 g (b+i) 9 0 (a4J l a i) (c8F g l a i b) (Q5 (us:=(j5.row (nth l (a+i)))) (D6 (row:=j5.row) (l:=l.set (a+i) (nth l (b+i))) (k:=9) (room:=none) kr om) kr vB uZ) (.s (.y 1 (.int .i64 (cb_ i)) (iN (i+1)) Yes.o (.g (.l (k1 h1))))))))))))))))))) (fun h1 h1'=>(.l (k2 h1))))))
def c6Z (a:Nat) (b:Nat) (k:Nat) (n:Nat) (g:Nat) (i:Nat) (s:(List j5)):(List j5):=((s.set (a+i) (nth s (b+i))).set (b+i) (nth s (a+i)))
@[simp] abbrev c8E (a:Nat) (b:Nat) (c:Nat) (d:Nat) (e:Nat):Fr:=(mkF 38 [(0,(AV.osl 0 a 9 0 b)),(1,(iN c)),(2,(iN d)),(3,(iN e)),(10,(iN e))])
theorem c4l (a:Nat) (b:Nat) (k:Nat) (n:Nat) (g:Nat) (hab:a+k<=b) (hb:b+k<=n) (hnb:n < 1048576)  (r_:Nat):∀ (l:l9C) (i:Nat) (sF:(l9C)),i+r_=k->n=l.length->sF=iter (c6Z a b k n g) r_ i (l) ->
 j6 (l9 Tryz.prog (X a1b) (x9 Tryz.f232 0)) (some [0,1,2,3,10]) (some [0,1,2,3,10]) (b6R g n a b k i) [(o_ g 9 (mC l))] (.exit 0) (c8E g n a b k) [(o_ g 9 (mC sF))]:=by
 induction r_ with
 | zero =>
  intro l i sF hi_ hn  hF
  obtain rfl:k=i:=by omega
  have e_:sF=(l):=hF
  refine a8l a b k n g l k hab hb hnb hn (Nat.le_refl _) (fun h=>by simp at h <;> omega) (fun _=>?_)
  first | done | rfl | (rw [e_]; done) | (rw [e_]; rfl)
 | succ r_ ih =>
  intro l i sF hi_ hn  hF
  refine a8l a b k n g l i hab hb hnb hn ow (fun h1=>?_) (fun h=>by simp at h <;> omega)
  · exact ih ((l.set (a+i) (nth l (b+i))).set (b+i) (nth l (a+i))) (i+1) sF ow U2  (by rw [hF] <;> simp only [iter,c6Z,if_true,Bool.false_eq_true,if_false])
theorem c4k (f:Nat) (xs:List AV) (a b k n g:Nat) (l:l9C) (hxs:AV.bdds 1 xs=true) (hn:n=l.length) (hnb:n < 1048576) (hab:a+k<=b) (hb:b+k<=n):AC 232 [(AV.osl 0 g 9 0 n),(iN a),(iN b),(iN k),(AV.func f xs)] [(o_ g 9 (mC l))] ((AV.tup []),[(o_ g 9 (mC (U0 a b k l)))]) :=
 r9 (fn:=Tryz.f232) (ann:=a1b) (Has.o Tryz.func232) (.r (.g (.loop (c8E g n a b k) (c4l a b k n g hab hb hnb k l 0 (U0 a b k l) ow hn rfl) (.q 1 (AV.tup [])))))
theorem a8m (f:Nat) (xs:List AV) (a b k n g:Nat) (l:l9C) (hxs:AV.bdds 1 xs=true) (hn:n=l.length) (hnb:n < 1048576) (hab:a+k<=b) (hb:b+k<=n) (H:Heap):AC 232 [(AV.osl 0 g 9 0 n),(iN a),(iN b),(iN k),(AV.func f xs)] (([(o_ g 9 (mC l))]:Heap)++H) ((AV.tup []),([(o_ g 9 (mC (U0 a b k l)))]:Heap)++H):=(c4k f xs a b k n g l hxs hn hnb hab hb).ext jX kr ob ob kr H
def a4v:Ann:={ base:=1,fin:=some 1,live:=[(2,[0,2,4,10,11])],out:=[(2,[0,2,4,10,11])] }
@[simp] abbrev c8D (a:Nat) (b:Nat) (c:Nat) (d:Nat) (e:l9C):Heap:=[(o_ a 9 (mC (U0 (b - c) (b+d - c) c e)))]
@[simp] abbrev c8C (a:Nat) (b:Nat) (c:Nat) (d:Nat) (e:List AV) (f:Nat) (g:Nat):Fr:=(mkF 58 [(0,(AV.osl 0 a 9 0 b)),(2,(iN c)),(4,(AV.func d e)),(10,(iN f)),(11,(iN g))])
@[simp] abbrev c5I :=(l9 Tryz.prog (X a4v) (x9 Tryz.f228 0))
theorem c4m (f:Nat) (xs:List AV) (p n g:Nat) (i j:Nat) (l:l9C) (hxs:AV.bdds 1 xs=true) (hn:n=l.length) (hnb:n < 1048576) (hi:0 < i) (hj:0 < j) (hip:i<=p) (hjp:p+j<=n) {eX:Ex} {FX:Fr} {HX:Heap} (k1:((i:Int) != (j:Int))=true->(decide ((i:Int) > (j:Int)))=true->j6 c5I (some [0,2,4,10,11]) (some [0,2,4,10,11]) (mkF 58 [(0,(AV.osl 0 g 9 0 n)),(2,(iN p)),(4,(AV.func f xs)),(10,(iN (i - j))),(11,(iN j))]) [(o_ g 9 (mC (U0 (p - i) p j l)))] eX FX HX) (k2:((i:Int) != (j:Int))=true->(decide ((i:Int) > (j:Int)))=false->j6 c5I (some [0,2,4,10,11]) (some [0,2,4,10,11]) (mkF 58 [(0,(AV.osl 0 g 9 0 n)),(2,(iN p)),(4,(AV.func f xs)),(10,(iN i)),(11,(iN (j - i)))]) (c8D g p i j l) eX FX HX) (k3:((i:Int) != (j:Int))=false->((.exit 0:Ex),(c8C g n p f xs i j),[(o_ g 9 (mC l))])=(eX,FX,HX)):j6 c5I (some [0,2,4,10,11]) (some [0,2,4,10,11]) (c8C g n p f xs i j) [(o_ g 9 (mC l))] eX FX HX :=
 I9 (.r (.g (.two ((i:Int) != (j:Int)) (fun h1 h1'=>(.r (.g (.two (decide ((i:Int) > (j:Int))) (fun h2 h2'=>(.r (.y 3 (.int .i64 (qD p i)) (iN (p - i)) Yes.o (.ch 7 [(o_ g 9 (mC (U0 (p - i) p j l)))] (a8m f xs (p - i) p j n g l Z0 Z0 Z0 Z0 Z0 []) (.s (.y 2 (.int .i64 (qD i j)) (iN (i - j)) Yes.o (.g (.l (k1 h1 h2))))))))) (fun h2 h2'=>(.r (.y 3 (.int .i64 (qD p i)) (iN (p - i)) Yes.o (.y 6 (.int .i64 (fZ p j)) (iN (p+j)) Yes.o (.y 8 (iW (((p+j:Nat):Int) - (i:Int))) (iN (p+j - i)) Yes.o (.ch 11 (c8D g p i j l) (a8m f xs (p - i) (p+j - i) i n g l Z0 Z0 Z0 Z0 Z0 []) (.s (.y 2 (.int .i64 (qD j i)) (iN (j - i)) Yes.o (.g (.l (k2 h1 h2))))))))))))))) (fun h1 h1'=>(.l (k3 h1))))))
theorem c4o (f:Nat) (xs:List AV) (p n g:Nat) (hxs:AV.bdds 1 xs=true) (r:Nat):∀ (i j:Nat) (l:l9C),i+j<=r+1->n=l.length->n < 1048576->0 < i->0 < j->i<=p->p+j<=n ->
 j6 (l9 Tryz.prog (X a4v) (x9 Tryz.f228 0)) (some [0,2,4,10,11]) (some [0,2,4,10,11]) (mkF 58 [(0,(AV.osl 0 g 9 0 n)),(2,(iN p)),(4,(AV.func f xs)),(10,(iN i)),(11,(iN j))]) [(o_ g 9 (mC l))] (.exit 0) (mkF 58 [(0,(AV.osl 0 g 9 0 n)),(2,(iN p)),(4,(AV.func f xs)),(10,(iN ((K3 p r i j l).2))),(11,(iN ((K3 p r i j l).2)))]) [(o_ g 9 (mC (K3 p r i j l).1))]:=by
 induction r with
 | zero=>intro i j l h1 hn hnb hi hj; omega
 | succ r ih =>
  intro i j l h1 hn hnb hi hj hip hjp
  refine c4m f xs p n g i j l hxs hn hnb hi hj hip hjp (fun h2 h3=>?_) (fun h2 h3=>?_) (fun h2=>?_)
  · have h2':i≠j:=by simp at h2; omega
    have h3':j < i:=by simp at h3; omega
    simp only [K3,if_neg h2',if_pos h3']
    exact ih (i - j) j _ ow b1R hnb ow hj ow hjp
  · have h2':i≠j:=by simp at h2; omega
    have h3':¬ j < i:=by simp at h3; omega
    simp only [K3,if_neg h2',if_neg h3']
    exact ih i (j - i) _ ow b1R hnb hi ow hip ow
  · have h2':i=j:=by simp at h2; omega
    simp only [K3,if_pos h2']
    subst h2'
    rfl
@[simp] abbrev d3N (a:Nat) (b:Nat) (c:Nat) (d:Nat) (e:List AV) (f:Nat) (g:Nat) (h:l9C):Fr:=(mkF 58 [(0,(AV.osl 0 a 9 0 b)),(2,(iN c)),(4,(AV.func d e)),(10,(iN ((K3 c (c - f+(g - c)) (c - f) (g - c) h).2))),(11,(iN ((K3 c (c - f+(g - c)) (c - f) (g - c) h).2)))])
theorem c4n (f:Nat) (xs:List AV) (a p b n g:Nat) (l:l9C) (hxs:AV.bdds 1 xs=true) (hn:n=l.length) (hnb:n < 1048576) (hap:a < p) (hpb:p < b) (hbn:b<=n) (hl2:(K3 p (p - a+(b - p)) (p - a) (b - p) l).1.length=l.length) (hk:(K3 p (p - a+(b - p)) (p - a) (b - p) l).2<=p - a) (hk2:(K3 p (p - a+(b - p)) (p - a) (b - p) l).2<=b - p):AC 228 [(AV.osl 0 g 9 0 n),(iN a),(iN p),(iN b),(AV.func f xs)] [(o_ g 9 (mC l))] ((AV.tup []),[(o_ g 9 (mC (P9 a p b l)))]) :=
 r9 (fn:=Tryz.f228) (ann:=a4v) (Has.o Tryz.func228) (.r (.y 2 (.int .i64 (qD p a)) (iN (p - a)) Yes.o (.s (.y 2 (.int .i64 (qD b p)) (iN (b - p)) Yes.o (.g (.loop (d3N g n p f xs a b l) (c4o f xs p n g hxs (p - a+(b - p)) (p - a) (b - p) l ow hn hnb ow ow ow ow) (.r (.y 3 (iW ((p:Int) - (((K3 p (p - a+(b - p)) (p - a) (b - p) l).2:Nat):Int))) (iN (p - (K3 p (p - a+(b - p)) (p - a) (b - p) l).2)) Yes.o (.ch 7 [(o_ g 9 (mC (U0 (p - (K3 p (p - a+(b - p)) (p - a) (b - p) l).2) p (K3 p (p - a+(b - p)) (p - a) (b - p) l).2 (K3 p (p - a+(b - p)) (p - a) (b - p) l).1)))] (a8m f xs (p - (K3 p (p - a+(b - p)) (p - a) (b - p) l).2) p (K3 p (p - a+(b - p)) (p - a) (b - p) l).2 n g (K3 p (p - a+(b - p)) (p - a) (b - p) l).1 Z0 Z0 Z0 Z0 Z0 []) (.q 1 (AV.tup [])))))))))))
theorem b9i (f:Nat) (xs:List AV) (a p b n g:Nat) (l:l9C) (hxs:AV.bdds 1 xs=true) (hn:n=l.length) (hnb:n < 1048576) (hap:a < p) (hpb:p < b) (hbn:b<=n) (hl2:(K3 p (p - a+(b - p)) (p - a) (b - p) l).1.length=l.length) (hk:(K3 p (p - a+(b - p)) (p - a) (b - p) l).2<=p - a) (hk2:(K3 p (p - a+(b - p)) (p - a) (b - p) l).2<=b - p) (H:Heap):AC 228 [(AV.osl 0 g 9 0 n),(iN a),(iN p),(iN b),(AV.func f xs)] (([(o_ g 9 (mC l))]:Heap)++H) ((AV.tup []),([(o_ g 9 (mC (P9 a p b l)))]:Heap)++H):=(c4n f xs a p b n g l hxs hn hnb hap hpb hbn hl2 hk hk2).ext jX kr ob ob kr H
def Y1:Ann:={ base:=1,fin:=some 1,live:=[(3,[0,1,4,10,11]),(9,[0,10,13]),(15,[0,2,4,14,15]),(21,[0,14,17]),(33,[0,1,2,3,4,18,19,20,21,22])],out:=[(3,[0,1,10]),(9,[0,10,13]),(15,[0,2,14]),(21,[0,14,17]),(33,[0,1,2,3,4,18,19,20])] }
@[simp] abbrev c5H :=(l9 Tryz.prog (X Y1) (x9 Tryz.f216 0))
@[simp] abbrev a4I (a:l9C) (b c:Nat):=(AV.agg (j5.row (nth a ((b+c) / 2))))
theorem a7G (cmp:j5->j5->Int) (f:Nat) (xs:List AV) (hc:h9C cmp f xs) (a n g:Nat) (l:l9C) (lo hi:Nat) (hn:n=l.length) (hnb:n < 1048576) (ha:a < n) (hlh:lo<=hi) (hhi:hi<=n) {eX:Ex} {FX:Fr} {HX:Heap} (k1:(decide ((lo:Int) < (hi:Int)))=true->(decide ((cmp (nth l ((lo+hi) / 2)) (nth l a)) < 0))=true->j6 c5H (some [0,1,4,10,11]) (some [0,1,10]) (mkF 220 [(0,(AV.osl 0 g 9 0 n)),(1,(iN a)),(4,(AV.func f xs)),(10,(qC lo hi)),(11,(iN hi))]) [(o_ g 9 (mC l))] eX FX HX) (k2:(decide ((lo:Int) < (hi:Int)))=true->(decide ((cmp (nth l ((lo+hi) / 2)) (nth l a)) < 0))=false->j6 c5H (some [0,1,4,10,11]) (some [0,1,10]) (mkF 220 [(0,(AV.osl 0 g 9 0 n)),(1,(iN a)),(4,(AV.func f xs)),(10,(iN lo)),(11,(iN (((lo+hi) / 2))))]) [(o_ g 9 (mC l))] eX FX HX) (k3:(decide ((lo:Int) < (hi:Int)))=false->((.exit 0:Ex),(mkF 220 [(0,(AV.osl 0 g 9 0 n)),(1,(iN a)),(10,(iN lo))]),[(o_ g 9 (mC l))])=(eX,FX,HX)):j6 c5H (some [0,1,4,10,11]) (some [0,1,10]) (mkF 220 [(0,(AV.osl 0 g 9 0 n)),(1,(iN a)),(4,(AV.func f xs)),(10,(iN lo)),(11,(iN hi))]) [(o_ g 9 (mC l))] eX FX HX :=
 I9 (.r (.g (.two (decide ((lo:Int) < (hi:Int))) (fun h1 h1'=>(.r (.y 2 (.int .i64 (fZ lo hi)) (iN (lo+hi)) Yes.o (.y 5 (a4M lo hi) (iN (((lo+hi) / 2))) (Yes.int (dZ ow (rfl))) (.s (.io 3 0 g 9 9 0 n ((((lo+hi) / 2):Nat):Int) ((lo+hi) / 2) (F8.mk _ ow ow) (.t 4 (a4I l lo hi) [(o_ g 9 (mC l))] (H6 (D6 (row:=j5.row) (l:=l) (k:=9) (room:=none) kr om) kr:K7 tt 50 0 [(o_ g 9 (mC l))] (rowAt [(o_ g 9 (mC l))] 0 g ((lo+hi) / 2))=some ((a4I l lo hi),([(o_ g 9 (mC l))]:Heap))) (.io 7 0 g 9 9 0 n (a:Int) a (F8.mk _ ow ow) (.t 8 (cp_ l a) [(o_ g 9 (mC l))] (H6 (D6 (row:=j5.row) (l:=l) (k:=9) (room:=none) kr om) kr:K7 tt 50 0 [(o_ g 9 (mC l))] (rowAt [(o_ g 9 (mC l))] 0 g a)=some ((cp_ l a),([(o_ g 9 (mC l))]:Heap))) (.c 9 (hc (nth l ((lo+hi) / 2)) (nth l a) [(o_ g 9 (mC l))]) (.g (.two (decide ((cmp (nth l ((lo+hi) / 2)) (nth l a)) < 0)) (fun h2 h2'=>(.r (.y 1 (.int .i64 (a4K lo hi)) (qC lo hi) Yes.o (.g (.l (k1 h1 h2)))))) (fun h2 h2'=>(.r (.g (.l (k2 h1 h2))))))))))))))))) (fun h1 h1'=>(.l (k3 h1))))))
theorem c3o (cmp:j5->j5->Int) (f:Nat) (xs:List AV) (hc:h9C cmp f xs) (a n g:Nat) (l:l9C) (hn:n=l.length) (hnb:n < 1048576) (ha:a < n) (r:Nat):∀ (lo hi:Nat),hi - lo<=r->lo<=hi->hi<=n ->
 j6 (l9 Tryz.prog (X Y1) (x9 Tryz.f216 0)) (some [0,1,4,10,11]) (some [0,1,10]) (mkF 220 [(0,(AV.osl 0 g 9 0 n)),(1,(iN a)),(4,(AV.func f xs)),(10,(iN lo)),(11,(iN hi))]) [(o_ g 9 (mC l))] (.exit 0) (mkF 220 [(0,(AV.osl 0 g 9 0 n)),(1,(iN a)),(10,(iN ((bsr (fun c=>decide (cmp (nth l c) (nth l a) < 0)) r lo hi))))]) [(o_ g 9 (mC l))]:=by
 induction r with
 | zero =>
  intro lo hi h1 h2 h3
  obtain rfl:lo=hi:=by omega
  refine a7G cmp f xs hc a n g l lo lo hn hnb ha h2 h3 (fun h _=>by simp at h) (fun h _=>by simp at h) (fun _=>?_)
  simp only [bsr]
 | succ r ih =>
  intro lo hi h1 h2 h3
  refine a7G cmp f xs hc a n g l lo hi hn hnb ha h2 h3 (fun h4 h5=>?_) (fun h4 h5=>?_) (fun h4=>?_)
  · have h4':lo < hi:=by simp at h4; omega
    simp only [bsr,if_pos h4']
    rw [if_pos pQ]
    exact ih ((lo+hi) / 2+1) hi ow ow ow
  · have h4':lo < hi:=by simp at h4; omega
    simp only [bsr,if_pos h4']
    rw [if_neg pQ]
    exact ih lo ((lo+hi) / 2) ow ow ow
  · have h4':¬ lo < hi:=by simp at h4; omega
    simp only [bsr,if_neg h4']
@[simp] abbrev c5G :=(l9 Tryz.prog (X Y1) (x9 Tryz.f216 2))
theorem a7F (cmp:j5->j5->Int) (f:Nat) (xs:List AV) (hc:h9C cmp f xs) (p n g:Nat) (l:l9C) (lo hi:Nat) (hn:n=l.length) (hnb:n < 1048576) (ha:p < n) (hlh:lo<=hi) (hhi:hi<=n) {eX:Ex} {FX:Fr} {HX:Heap} (k1:(decide ((lo:Int) < (hi:Int)))=true->(!(decide ((cmp (nth l p) (nth l ((lo+hi) / 2))) < 0)))=true->j6 c5G (some [0,2,4,14,15]) (some [0,2,14]) (mkF 220 [(0,(AV.osl 0 g 9 0 n)),(2,(iN p)),(4,(AV.func f xs)),(14,(qC lo hi)),(15,(iN hi))]) [(o_ g 9 (mC l))] eX FX HX) (k2:(decide ((lo:Int) < (hi:Int)))=true->(!(decide ((cmp (nth l p) (nth l ((lo+hi) / 2))) < 0)))=false->j6 c5G (some [0,2,4,14,15]) (some [0,2,14]) (mkF 220 [(0,(AV.osl 0 g 9 0 n)),(2,(iN p)),(4,(AV.func f xs)),(14,(iN lo)),(15,(iN (((lo+hi) / 2))))]) [(o_ g 9 (mC l))] eX FX HX) (k3:(decide ((lo:Int) < (hi:Int)))=false->((.exit 4:Ex),(mkF 220 [(0,(AV.osl 0 g 9 0 n)),(2,(iN p)),(14,(iN lo))]),[(o_ g 9 (mC l))])=(eX,FX,HX)):j6 c5G (some [0,2,4,14,15]) (some [0,2,14]) (mkF 220 [(0,(AV.osl 0 g 9 0 n)),(2,(iN p)),(4,(AV.func f xs)),(14,(iN lo)),(15,(iN hi))]) [(o_ g 9 (mC l))] eX FX HX :=
 I9 (.r (.g (.two (decide ((lo:Int) < (hi:Int))) (fun h1 h1'=>(.r (.y 2 (.int .i64 (fZ lo hi)) (iN (lo+hi)) Yes.o (.y 5 (a4M lo hi) (iN (((lo+hi) / 2))) (Yes.int (dZ ow (rfl))) (.s (.io 3 0 g 9 9 0 n (p:Int) p (F8.mk _ ow ow) (.t 4 (cp_ l p) [(o_ g 9 (mC l))] (H6 (D6 (row:=j5.row) (l:=l) (k:=9) (room:=none) kr om) kr:K7 tt 50 0 [(o_ g 9 (mC l))] (rowAt [(o_ g 9 (mC l))] 0 g p)=some ((cp_ l p),([(o_ g 9 (mC l))]:Heap))) (.io 7 0 g 9 9 0 n ((((lo+hi) / 2):Nat):Int) ((lo+hi) / 2) (F8.mk _ ow ow) (.t 8 (a4I l lo hi) [(o_ g 9 (mC l))] (H6 (D6 (row:=j5.row) (l:=l) (k:=9) (room:=none) kr om) kr:K7 tt 50 0 [(o_ g 9 (mC l))] (rowAt [(o_ g 9 (mC l))] 0 g ((lo+hi) / 2))=some ((a4I l lo hi),([(o_ g 9 (mC l))]:Heap))) (.c 9 (hc (nth l p) (nth l ((lo+hi) / 2)) [(o_ g 9 (mC l))]) (.g (.two (!(decide ((cmp (nth l p) (nth l ((lo+hi) / 2))) < 0))) (fun h2 h2'=>(.r (.y 1 (.int .i64 (a4K lo hi)) (qC lo hi) Yes.o (.g (.l (k1 h1 h2)))))) (fun h2 h2'=>(.r (.g (.l (k2 h1 h2))))))))))))))))) (fun h1 h1'=>(.l (k3 h1))))))
theorem c3n (cmp:j5->j5->Int) (f:Nat) (xs:List AV) (hc:h9C cmp f xs) (p n g:Nat) (l:l9C) (hn:n=l.length) (hnb:n < 1048576) (ha:p < n) (r:Nat):∀ (lo hi:Nat),hi - lo<=r->lo<=hi->hi<=n ->
 j6 (l9 Tryz.prog (X Y1) (x9 Tryz.f216 2)) (some [0,2,4,14,15]) (some [0,2,14]) (mkF 220 [(0,(AV.osl 0 g 9 0 n)),(2,(iN p)),(4,(AV.func f xs)),(14,(iN lo)),(15,(iN hi))]) [(o_ g 9 (mC l))] (.exit 4) (mkF 220 [(0,(AV.osl 0 g 9 0 n)),(2,(iN p)),(14,(iN ((bsr (fun c=>!decide (cmp (nth l p) (nth l c) < 0)) r lo hi))))]) [(o_ g 9 (mC l))]:=by
 induction r with
 | zero =>
  intro lo hi h1 h2 h3
  obtain rfl:lo=hi:=by omega
  refine a7F cmp f xs hc p n g l lo lo hn hnb ha h2 h3 (fun h _=>by simp at h) (fun h _=>by simp at h) (fun _=>?_)
  simp only [bsr]
 | succ r ih =>
  intro lo hi h1 h2 h3
  refine a7F cmp f xs hc p n g l lo hi hn hnb ha h2 h3 (fun h4 h5=>?_) (fun h4 h5=>?_) (fun h4=>?_)
  · have h4':lo < hi:=by simp at h4; omega
    simp only [bsr,if_pos h4']
    rw [if_pos pQ]
    exact ih ((lo+hi) / 2+1) hi ow ow ow
  · have h4':lo < hi:=by simp at h4; omega
    simp only [bsr,if_pos h4']
    rw [if_neg pQ]
    exact ih lo ((lo+hi) / 2) ow ow ow
  · have h4':¬ lo < hi:=by simp at h4; omega
    simp only [bsr,if_neg h4']
@[simp] abbrev c5F :=(l9 Tryz.prog (X Y1) (x9 Tryz.f216 4))
theorem a7D (cmp:j5->j5->Int) (f:Nat) (xs:List AV) (hc:h9C cmp f xs) (a p b mid nn q n g:Nat) (l:l9C) (lo hi:Nat) (hn:n=l.length) (hnb:n < 1048576) (hlh:lo<=hi) (hhi:hi<=n/\hi<=q+1/\q < n+lo) {eX:Ex} {FX:Fr} {HX:Heap} (k1:(decide ((lo:Int) < (hi:Int)))=true->(!(decide ((cmp (nth l (q - ((lo+hi) / 2))) (nth l ((lo+hi) / 2))) < 0)))=true->j6 c5F (some [0,1,2,3,4,18,19,20,21,22]) (some [0,1,2,3,4,18,19,20]) (mkF 220 [(0,(AV.osl 0 g 9 0 n)),(1,(iN a)),(2,(iN p)),(3,(iN b)),(4,(AV.func f xs)),(18,(iN mid)),(19,(iN nn)),(20,(qC lo hi)),(21,(iN hi)),(22,(iN q))]) [(o_ g 9 (mC l))] eX FX HX) (k2:(decide ((lo:Int) < (hi:Int)))=true->(!(decide ((cmp (nth l (q - ((lo+hi) / 2))) (nth l ((lo+hi) / 2))) < 0)))=false->j6 c5F (some [0,1,2,3,4,18,19,20,21,22]) (some [0,1,2,3,4,18,19,20]) (mkF 220 [(0,(AV.osl 0 g 9 0 n)),(1,(iN a)),(2,(iN p)),(3,(iN b)),(4,(AV.func f xs)),(18,(iN mid)),(19,(iN nn)),(20,(iN lo)),(21,(iN (((lo+hi) / 2)))),(22,(iN q))]) [(o_ g 9 (mC l))] eX FX HX) (k3:(decide ((lo:Int) < (hi:Int)))=false->((.exit 8:Ex),(mkF 220 [(0,(AV.osl 0 g 9 0 n)),(1,(iN a)),(2,(iN p)),(3,(iN b)),(4,(AV.func f xs)),(18,(iN mid)),(19,(iN nn)),(20,(iN lo))]),[(o_ g 9 (mC l))])=(eX,FX,HX)):j6 c5F (some [0,1,2,3,4,18,19,20,21,22]) (some [0,1,2,3,4,18,19,20]) (mkF 220 [(0,(AV.osl 0 g 9 0 n)),(1,(iN a)),(2,(iN p)),(3,(iN b)),(4,(AV.func f xs)),(18,(iN mid)),(19,(iN nn)),(20,(iN lo)),(21,(iN hi)),(22,(iN q))]) [(o_ g 9 (mC l))] eX FX HX :=
 I9 (.r (.g (.two (decide ((lo:Int) < (hi:Int))) (fun h1 h1'=>(.r (.y 2 (.int .i64 (fZ lo hi)) (iN (lo+hi)) Yes.o (.y 5 (a4M lo hi) (iN (((lo+hi) / 2))) (Yes.int (dZ ow (rfl))) (.s (.y 4 (iW ((q:Int) - ((((lo+hi) / 2):Nat):Int))) (iN (q - ((lo+hi) / 2))) Yes.o (.io 5 0 g 9 9 0 n ((q - ((lo+hi) / 2):Nat):Int) (q - ((lo+hi) / 2)) (F8.mk _ ow ow) (.t 6 (AV.agg (j5.row (nth l (q - ((lo+hi) / 2))))) [(o_ g 9 (mC l))] (H6 (D6 (row:=j5.row) (l:=l) (k:=9) (room:=none) kr om) kr:K7 tt 50 0 [(o_ g 9 (mC l))] (rowAt [(o_ g 9 (mC l))] 0 g (q - ((lo+hi) / 2)))=some ((AV.agg (j5.row (nth l (q - ((lo+hi) / 2))))),([(o_ g 9 (mC l))]:Heap))) (.io 9 0 g 9 9 0 n ((((lo+hi) / 2):Nat):Int) ((lo+hi) / 2) (F8.mk _ ow ow) (.t 10 (a4I l lo hi) [(o_ g 9 (mC l))] (H6 (D6 (row:=j5.row) (l:=l) (k:=9) (room:=none) kr om) kr:K7 tt 50 0 [(o_ g 9 (mC l))] (rowAt [(o_ g 9 (mC l))] 0 g ((lo+hi) / 2))=some ((a4I l lo hi),([(o_ g 9 (mC l))]:Heap))) (.c 11 (hc (nth l (q - ((lo+hi) / 2))) (nth l ((lo+hi) / 2)) [(o_ g 9 (mC l))]) (.g (.two (!(decide ((cmp (nth l (q - ((lo+hi) / 2))) (nth l ((lo+hi) / 2))) < 0))) (fun h2 h2'=>(.r (.y 1 (.int .i64 (a4K lo hi)) (qC lo hi) Yes.o (.g (.l (k1 h1 h2)))))) (fun h2 h2'=>(.r (.g (.l (k2 h1 h2)))))))))))))))))) (fun h1 h1'=>(.l (k3 h1))))))
theorem a7E (cmp:j5->j5->Int) (f:Nat) (xs:List AV) (hc:h9C cmp f xs) (a p b mid nn q n g:Nat) (l:l9C) (hn:n=l.length) (hnb:n < 1048576) (r:Nat):∀ (lo hi:Nat),hi - lo<=r->lo<=hi->hi<=n/\hi<=q+1/\q < n+lo ->
 j6 (l9 Tryz.prog (X Y1) (x9 Tryz.f216 4)) (some [0,1,2,3,4,18,19,20,21,22]) (some [0,1,2,3,4,18,19,20]) (mkF 220 [(0,(AV.osl 0 g 9 0 n)),(1,(iN a)),(2,(iN p)),(3,(iN b)),(4,(AV.func f xs)),(18,(iN mid)),(19,(iN nn)),(20,(iN lo)),(21,(iN hi)),(22,(iN q))]) [(o_ g 9 (mC l))] (.exit 8) (mkF 220 [(0,(AV.osl 0 g 9 0 n)),(1,(iN a)),(2,(iN p)),(3,(iN b)),(4,(AV.func f xs)),(18,(iN mid)),(19,(iN nn)),(20,(iN ((bsr (fun c=>!decide (cmp (nth l (q - c)) (nth l c) < 0)) r lo hi))))]) [(o_ g 9 (mC l))]:=by
 induction r with
 | zero =>
  intro lo hi h1 h2 h3
  obtain rfl:lo=hi:=by omega
  refine a7D cmp f xs hc a p b mid nn q n g l lo lo hn hnb h2 h3 (fun h _=>by simp at h) (fun h _=>by simp at h) (fun _=>?_)
  simp only [bsr]
 | succ r ih =>
  intro lo hi h1 h2 h3
  refine a7D cmp f xs hc a p b mid nn q n g l lo hi hn hnb h2 h3 (fun h4 h5=>?_) (fun h4 h5=>?_) (fun h4=>?_)
  · have h4':lo < hi:=by simp at h4; omega
    simp only [bsr,if_pos h4']
    rw [if_pos pQ]
    exact ih ((lo+hi) / 2+1) hi ow ow ow
  · have h4':lo < hi:=by simp at h4; omega
    simp only [bsr,if_pos h4']
    rw [if_neg pQ]
    exact ih lo ((lo+hi) / 2) ow ow ow
  · have h4':¬ lo < hi:=by simp at h4; omega
    simp only [bsr,if_neg h4']
@[simp] abbrev c8B (a:Nat) (b:l9C) (c:Nat):Heap:=[(o_ a 9 (mC ((b.set c (nth b (c+1))).set (c+1) (nth b c))))]
@[simp] abbrev b6Q (a:Nat) (b:Nat) (c:Nat) (d:Nat):Fr:=(mkF 220 [(0,(AV.osl 0 a 9 0 b)),(10,(iN c)),(13,(iN d))])
theorem a7B (i:Nat) (n:Nat) (g:Nat) (l:l9C) (kk:Nat) (hi1:1<=i) (hin:i<=n) (hnb:n < 1048576) (hn:n=l.length) (hle_:kk<=(i - 1)) {eX:Ex} {FX:Fr} {HX:Heap} (k1:(decide ((kk:Int) < ((i - 1:Nat):Int)))=true->j6 (l9 Tryz.prog (X Y1) (x9 Tryz.f216 1)) (some [0,10,13]) (some [0,10,13]) (mkF 220 [(0,(AV.osl 0 g 9 0 n)),(10,(iN i)),(13,(iN (kk+1)))]) (c8B g l kk) eX FX HX) (k2:(decide ((kk:Int) < ((i - 1:Nat):Int)))=false->((.exit 2:Ex),(b6Q g n i kk),[(o_ g 9 (mC l))])=(eX,FX,HX)):j6 (l9 Tryz.prog (X Y1) (x9 Tryz.f216 1)) (some [0,10,13]) (some [0,10,13]) (b6Q g n i kk) [(o_ g 9 (mC l))] eX FX HX :=
 I9 (.r (.y 2 (.int .i64 (cj_ i)) (iN (i - 1)) Yes.o (.g (.two (decide ((kk:Int) < ((i - 1:Nat):Int))) (fun h1 h1'=>(.r (.y 4 (.int .i64 (cb_ kk)) (iN (kk+1)) Yes.o (.y 7 (.int .i64 (cb_ kk)) (iN (kk+1)) Yes.o (.io 8 0 g 9 9 0 n ((kk+1:Nat):Int) (kk+1) (F8.mk _ ow ow) (.t 9 (AV.agg (j5.row (nth l (kk+1)))) [(o_ g 9 (mC l))] (H6 (D6 (row:=j5.row) (l:=l) (k:=9) (room:=none) kr om) kr:K7 tt 50 0 [(o_ g 9 (mC l))] (rowAt [(o_ g 9 (mC l))] 0 g (kk+1))=some ((AV.agg (j5.row (nth l (kk+1)))),([(o_ g 9 (mC l))]:Heap))) (.io 12 0 g 9 9 0 n (kk:Int) kk (F8.mk _ ow ow) (.t 13 (cp_ l kk) [(o_ g 9 (mC l))] (H6 (D6 (row:=j5.row) (l:=l) (k:=9) (room:=none) kr om) kr:K7 tt 50 0 [(o_ g 9 (mC l))] (rowAt [(o_ g 9 (mC l))] 0 g kk)=some ((cp_ l kk),([(o_ g 9 (mC l))]:Heap))) (.io 14 0 g 9 9 0 n (kk:Int) kk (F8.mk _ ow ow) (.st 15 0 g kk 9 0 (AV.agg (j5.row (nth l (kk+1)))) [(o_ g 9 (mC (l.set kk (nth l (kk+1)))))] (Q5 (us:=(j5.row (nth l (kk+1)))) (D6 (row:=j5.row) (l:=l) (k:=9) (room:=none) kr om) kr vB uZ) (.io 16 0 g 9 9 0 n ((kk+1:Nat):Int) (kk+1) (F8.mk _ ow ow) (.st 17 0 g (kk+1) 9 0 (cp_ l kk) (c8B g l kk) (Q5 (us:=(j5.row (nth l kk))) (D6 (row:=j5.row) (l:=l.set kk (nth l (kk+1))) (k:=9) (room:=none) kr om) kr vB uZ) (.s (.y 1 (.int .i64 (cb_ kk)) (iN (kk+1)) Yes.o (.g (.l (k1 h1))))))))))))))))) (fun h1 h1'=>(.l (k2 h1)))))))
def b2M (i:Nat) (n:Nat) (g:Nat) (kk:Nat) (s:(List j5)):(List j5):=((s.set kk (nth s (kk+1))).set (kk+1) (nth s kk))
theorem c3j (i:Nat) (n:Nat) (g:Nat) (hi1:1<=i) (hin:i<=n) (hnb:n < 1048576)  (r_:Nat):∀ (l:l9C) (kk:Nat) (sF:(l9C)),kk+r_=(i - 1)->n=l.length->sF=iter (b2M i n g) r_ kk (l) ->
 j6 (l9 Tryz.prog (X Y1) (x9 Tryz.f216 1)) (some [0,10,13]) (some [0,10,13]) (b6Q g n i kk) [(o_ g 9 (mC l))] (.exit 2) (mkF 220 [(0,(AV.osl 0 g 9 0 n)),(10,(iN i)),(13,(iN ((i - 1))))]) [(o_ g 9 (mC sF))]:=by
 induction r_ with
 | zero =>
  intro l kk sF hi_ hn  hF
  obtain rfl:(i - 1)=kk:=by omega
  have e_:sF=(l):=hF
  refine a7B i n g l (i - 1) hi1 hin hnb hn (Nat.le_refl _) (fun h=>by simp at h <;> omega) (fun _=>?_)
  first | done | rfl | (rw [e_]; done) | (rw [e_]; rfl)
 | succ r_ ih =>
  intro l kk sF hi_ hn  hF
  refine a7B i n g l kk hi1 hin hnb hn ow (fun h1=>?_) (fun h=>by simp at h <;> omega)
  · exact ih ((l.set kk (nth l (kk+1))).set (kk+1) (nth l kk)) (kk+1) sF ow U2  (by rw [hF] <;> simp only [iter,b2M,if_true,Bool.false_eq_true,if_false])
theorem c3k (i n g r k:Nat) (l:l9C):shU r k l=iter (b2M i n g) r k l:=rfl
@[simp] abbrev c2i (a:Nat) (b:Nat) (c:Nat) (d:Nat):Fr:=(mkF 220 [(0,(AV.osl 0 a 9 0 b)),(14,(iN c)),(17,(iN d))])
theorem a7C (i kk n g:Nat) (l:l9C) (hn:n=l.length) (hnb:n < 1048576) (hk:kk < n) {eX:Ex} {FX:Fr} {HX:Heap} (k1:(decide ((kk:Int) > (i:Int)))=true->j6 (l9 Tryz.prog (X Y1) (x9 Tryz.f216 3)) (some [0,14,17]) (some [0,14,17]) (mkF 220 [(0,(AV.osl 0 g 9 0 n)),(14,(iN i)),(17,(iN (kk - 1)))]) (b7e g l kk) eX FX HX) (k2:(decide ((kk:Int) > (i:Int)))=false->((.exit 6:Ex),(c2i g n i kk),[(o_ g 9 (mC l))])=(eX,FX,HX)):j6 (l9 Tryz.prog (X Y1) (x9 Tryz.f216 3)) (some [0,14,17]) (some [0,14,17]) (c2i g n i kk) [(o_ g 9 (mC l))] eX FX HX :=
 I9 (.r (.g (.two (decide ((kk:Int) > (i:Int))) (fun h1 h1'=>(.r (.y 4 (.int .i64 (cj_ kk)) (iN (kk - 1)) Yes.o (.y 7 (.int .i64 (cj_ kk)) (iN (kk - 1)) Yes.o (.io 8 0 g 9 9 0 n ((kk - 1:Nat):Int) (kk - 1) (F8.mk _ ow ow) (.t 9 (cq_ l kk) [(o_ g 9 (mC l))] (H6 (D6 (row:=j5.row) (l:=l) (k:=9) (room:=none) kr om) kr:K7 tt 50 0 [(o_ g 9 (mC l))] (rowAt [(o_ g 9 (mC l))] 0 g (kk - 1))=some ((cq_ l kk),([(o_ g 9 (mC l))]:Heap))) (.io 12 0 g 9 9 0 n (kk:Int) kk (F8.mk _ ow ow) (.t 13 (cp_ l kk) [(o_ g 9 (mC l))] (H6 (D6 (row:=j5.row) (l:=l) (k:=9) (room:=none) kr om) kr:K7 tt 50 0 [(o_ g 9 (mC l))] (rowAt [(o_ g 9 (mC l))] 0 g kk)=some ((cp_ l kk),([(o_ g 9 (mC l))]:Heap))) (.io 14 0 g 9 9 0 n (kk:Int) kk (F8.mk _ ow ow) (.st 15 0 g kk 9 0 (cq_ l kk) [(o_ g 9 (mC (l.set kk (nth l (kk - 1)))))] (Q5 (us:=(j5.row (nth l (kk - 1)))) (D6 (row:=j5.row) (l:=l) (k:=9) (room:=none) kr om) kr vB uZ) (.io 16 0 g 9 9 0 n ((kk - 1:Nat):Int) (kk - 1) (F8.mk _ ow ow) (.st 17 0 g (kk - 1) 9 0 (cp_ l kk) (b7e g l kk) (Q5 (us:=(j5.row (nth l kk))) (D6 (row:=j5.row) (l:=l.set kk (nth l (kk - 1))) (k:=9) (room:=none) kr om) kr vB uZ) (.s (.y 1 (.int .i64 (cj_ kk)) (iN (kk - 1)) Yes.o (.g (.l (k1 h1))))))))))))))))) (fun h1 h1'=>(.l (k2 h1))))))
theorem c3m (i n g:Nat) (hnb:n < 1048576) (r:Nat):∀ (kk:Nat) (l:l9C),kk=i+r->n=l.length->kk < n ->
 j6 (l9 Tryz.prog (X Y1) (x9 Tryz.f216 3)) (some [0,14,17]) (some [0,14,17]) (mkF 220 [(0,(AV.osl 0 g 9 0 n)),(14,(iN i)),(17,(iN kk))]) [(o_ g 9 (mC l))] (.exit 6) (mkF 220 [(0,(AV.osl 0 g 9 0 n)),(14,(iN i)),(17,(iN i))]) [(o_ g 9 (mC (shD r kk l)))]:=by
 induction r with
 | zero =>
  intro kk l h1 hn hk
  obtain rfl:kk=i:=by omega
  exact a7C kk kk n g l hn hnb hk (fun h=>by simp at h) (fun _=>rfl)
 | succ r ih =>
  intro kk l h1 hn hk
  refine a7C i kk n g l hn hnb hk (fun _=>?_) (fun h=>by simp at h; omega)
  simp only [shD]
  exact ih (kk - 1) _ ow (by simpa using hn) ow
attribute [local irreducible] K3 P9 U0 bsr mAt mg mgL shD shU
@[simp] abbrev a6W (a:Nat) (b:l9C) (c:l9C) (d:j5) (e:l9C) (f:l9C):Heap:=[(o_ a 9 (mC (b++(c++(d :: (e++f))))))]
@[simp] abbrev c8A (a:Nat) (b:Nat) (c:Nat) (d:Nat):Fr:=(mkF 220 [(0,(AV.osl 0 a 9 0 b)),(1,(iN c)),(10,(iN d))])
@[simp] abbrev c8y (a:Nat) (b:Nat) (c:Nat):Fr:=(mkF 220 [(0,(AV.osl 0 a 9 0 b)),(10,(iN c)),(13,(iN ((c - 1))))])
theorem b1Q {p:Prop} (h:p:=by exact beq_iff_eq.2 ow):p:=h
theorem c3s (cmp:j5->j5->Int) (f:Nat) (xs:List AV) (A R1 R2 B:l9C) (x:j5) (a p b n g i:Nat) (l:l9C) (hc:h9C cmp f xs) (hxs:AV.bdds 1 xs=true) (hn:n=l.length) (hnb:n < 1048576) (hl:l=A++(x :: (R1++(R2++B)))) (hA:a=A.length) (hp:p=a+1) (hpb:p<=b) (hbn:b<=n) (hi:i=p+R1.length) (hib:i<=b) (hs:i=bsr (fun c=>decide (cmp (nth l c) (nth l a) < 0)) (b - p) p b):AC 216 [(AV.osl 0 g 9 0 n),(AV.int .i64 (a:Int)),(AV.int .i64 (p:Int)),(AV.int .i64 (b:Int)),(AV.func f xs)] [(o_ g 9 (List.map j5.row l))] ((AV.tup []),(a6W g A R1 x R2 B)):=by
 have hfin:shU (i - 1 - a) a l=A++(R1++(x :: (R2++B))):=by rw [hl,show i - 1 - a=R1.length by omega]; exact a5i x R1 A (R2++B) a hA
 exact r9 (fn:=Tryz.f216) (ann:=Y1) (Has.o Tryz.func216) (.r (.y 2 (iW ((p:Int) - (a:Int))) (AV.int .i64 ((p - a:Nat):Int)) Yes.o (.y 3 (AV.bool (((p - a:Nat):Int) == 1)) (AV.bool true) (Yes.b b1Q) (.ru (.s (.g (.loop (c8A g n a i) (show j6 (l9 Tryz.prog (X Y1) (x9 Tryz.f216 0)) (some [0,1,4,10,11]) (some [0,1,10]) (mkF 220 [(0,(AV.osl 0 g 9 0 n)),(1,(AV.int .i64 (a:Int))),(4,(AV.func f xs)),(10,(AV.int .i64 (p:Int))),(11,(AV.int .i64 (b:Int)))]) [(o_ g 9 (List.map j5.row l))] (.exit 0) (c8A g n a i) [(o_ g 9 (List.map j5.row l))] from (by rw [hs]; exact c3o cmp f xs hc a n g l hn hnb ow (b - p) p b ow ow ow)) (.r (.g (.loop (c8y g n i) (show j6 (l9 Tryz.prog (X Y1) (x9 Tryz.f216 1)) (some [0,10,13]) (some [0,10,13]) (mkF 220 [(0,(AV.osl 0 g 9 0 n)),(10,(AV.int .i64 (i:Int))),(13,(AV.int .i64 (a:Int)))]) [(o_ g 9 (List.map j5.row l))] (.exit 2) (c8y g n i) [(o_ g 9 (List.map j5.row (shU (i - 1 - a) a l)))] from (c3j i n g ow ow hnb (i - 1 - a) l a _ ow hn (c3k _ _ _ _ _ _))) (.q 1 (AV.tup []) (by (try delta a6W); rw [hfin]))))))))))))
@[simp] abbrev c8x (a:Nat) (b:Nat) (c:Nat) (d:Nat):Fr:=(mkF 220 [(0,(AV.osl 0 a 9 0 b)),(2,(iN c)),(14,(iN d))])
@[simp] abbrev d3M (a:Nat) (b:Nat) (c:Nat):Fr:=(mkF 220 [(0,(AV.osl 0 a 9 0 b)),(14,(iN c)),(17,(iN c))])
theorem rU {p:Prop} (h:p:=by exact beq_eq_false_iff_ne.2 ow):p:=h
theorem c3r (cmp:j5->j5->Int) (f:Nat) (xs:List AV) (A L1 L2 B:l9C) (y:j5) (a p b n g i:Nat) (l:l9C) (hc:h9C cmp f xs) (hxs:AV.bdds 1 xs=true) (hn:n=l.length) (hnb:n < 1048576) (hl:l=A++(L1++(L2++(y :: B)))) (hA:a=A.length) (hi:i=a+L1.length) (hp:p=i+L2.length) (h1:p≠a+1) (hb:b=p+1) (hbn:b<=n) (hs:i=bsr (fun c=>!decide (cmp (nth l p) (nth l c) < 0)) (p - a) a p):AC 216 [(AV.osl 0 g 9 0 n),(AV.int .i64 (a:Int)),(AV.int .i64 (p:Int)),(AV.int .i64 (b:Int)),(AV.func f xs)] [(o_ g 9 (List.map j5.row l))] ((AV.tup []),(a6W g A L1 y L2 B)):=by
 have hfin:shD (p - i) p l=A++(L1++(y :: (L2++B))):=by rw [hl,show p - i=L2.length by omega,show A++(L1++(L2++(y :: B)))=(A++L1)++(L2++(y :: B)) by simp,a5j y L2.length (A++L1) L2 B p rfl yg_]; simp
 exact r9 (fn:=Tryz.f216) (ann:=Y1) (Has.o Tryz.func216) (.r (.y 2 (iW ((p:Int) - (a:Int))) (AV.int .i64 ((p - a:Nat):Int)) Yes.o (.y 3 (AV.bool (((p - a:Nat):Int) == 1)) (AV.bool false) (Yes.b rU) (.rn (.y 2 (iW ((b:Int) - (p:Int))) (AV.int .i64 ((b - p:Nat):Int)) Yes.o (.y 3 (AV.bool (((b - p:Nat):Int) == 1)) (AV.bool true) (Yes.b b1Q) (.ru (.s (.g (.loop (c8x g n p i) (show j6 (l9 Tryz.prog (X Y1) (x9 Tryz.f216 2)) (some [0,2,4,14,15]) (some [0,2,14]) (mkF 220 [(0,(AV.osl 0 g 9 0 n)),(2,(AV.int .i64 (p:Int))),(4,(AV.func f xs)),(14,(AV.int .i64 (a:Int))),(15,(AV.int .i64 (p:Int)))]) [(o_ g 9 (List.map j5.row l))] (.exit 4) (c8x g n p i) [(o_ g 9 (List.map j5.row l))] from (by rw [hs]; exact c3n cmp f xs hc p n g l hn hnb ow (p - a) a p ow ow ow)) (.r (.g (.loop (d3M g n i) (c3m i n g hnb (p - i) p l ow hn ow) (.q 1 (AV.tup []) (by (try delta a6W); rw [hfin])))))))))))))))
@[simp] abbrev a6V (a:Nat) (b:Nat) (c:Nat) (d:Nat) (e:Nat) (f:Nat) (g:List AV) (h:Nat) (i:Nat):Fr:=(mkF 220 [(0,(AV.osl 0 a 9 0 b)),(1,(iN c)),(2,(iN d)),(3,(iN e)),(4,(AV.func f g)),(18,(iN h)),(19,(iN ((h+d)))),(20,(iN i))])
@[simp] abbrev b6N (a:Nat) (b:Nat) (c:Nat) (d:Nat) (e:l9C):Heap:=[(o_ a 9 (mC (P9 b c ((d+c) - b) e)))]
theorem b1P {p:Prop} (h:p:=by rw [sM]; omega):p:=h
theorem u7 {p:Prop} (h:p:=by first | exact hc | exact hxs | omega | (simp; omega)):p:=h
theorem pO {p:Prop} (h:p:=by first | (exfalso; omega) | ((first | rw [if_pos ow] at e1 | rw [if_neg ow] at e1); rw [e1]; exact hlen1.symm)):p:=h
theorem pK {p:Prop} (h:p:=by first | (exfalso; omega) | ((first | rw [if_pos ow] at e1 | rw [if_neg ow] at e1); rw [e1]; rw [piece A L1 _ hA ow]; exact q1)):p:=h
theorem pJ {p:Prop} (h:p:=by first | (exfalso; omega) | ((first | rw [if_pos ow] at e1 | rw [if_neg ow] at e1); rw [e1]; rw [show A++(L1++(R1++(L2++(R2++B))))=(A++L1)++(R1++(L2++(R2++B))) by simp,piece (A++L1) R1 _ (by simp; omega) ow]; exact q3)):p:=h
theorem U9 {p:Prop} (h:p:=by first | (exfalso; omega) | ((first | rw [if_pos ow] at e1 | rw [if_neg ow] at e1); (first | rw [if_pos ow] at e2 | rw [if_neg ow] at e2); rw [e1,e2]; exact hlen2.symm)):p:=h
theorem U8 {p:Prop} (h:p:=by first | (exfalso; omega) | ((first | rw [if_pos ow] at e1 | rw [if_neg ow] at e1); (first | rw [if_pos ow] at e2 | rw [if_neg ow] at e2); rw [e1,e2]; rw [show A++(mg (ltF cmp) L1 R1++(L2++(R2++B)))=(A++mg (ltF cmp) L1 R1)++(L2++(R2++B)) by simp,piece (A++mg (ltF cmp) L1 R1) L2 _ (by simp [sM]; omega) ow]; exact q2)):p:=h
theorem U7 {p:Prop} (h:p:=by first | (exfalso; omega) | ((first | rw [if_pos ow] at e1 | rw [if_neg ow] at e1); (first | rw [if_pos ow] at e2 | rw [if_neg ow] at e2); rw [e1,e2]; rw [show A++(mg (ltF cmp) L1 R1++(L2++(R2++B)))=((A++mg (ltF cmp) L1 R1)++L2)++(R2++B) by simp,piece ((A++mg (ltF cmp) L1 R1)++L2) R2 _ (by simp [sM]; omega) ow]; exact q4)):p:=h
theorem M8 {p:Prop} (h:p:=by (try delta b6N); first | (exfalso; omega) | ((first | rw [if_pos ow] at e1 | rw [if_neg ow] at e1); (first | rw [if_pos ow] at e2 | rw [if_neg ow] at e2); (first | rw [if_pos ow] at e3 | rw [if_neg ow] at e3); rw [e1,e2,e3])):p:=h
set_option maxHeartbeats 4000000 in
theorem c3q (cmp:j5->j5->Int) (f:Nat) (xs:List AV) (A L1 L2 R1 R2 B:l9C) (a p b n g i mid Nz:Nat) (l:l9C) (hc:h9C cmp f xs) (hxs:AV.bdds 1 xs=true) (hn:n=l.length) (hnb:n < 1048576) (ih_at:∀ (a p b n g:Nat) (l:l9C),n=l.length->n < 1048576->a < p->p < b->b<=n->b - a < Nz->Srt (ltF cmp) ((l.drop a).take (p - a))->Srt (ltF cmp) ((l.drop p).take (b - p))->∀ H:Heap,AC 216 [(AV.osl 0 g 9 0 n),(AV.int .i64 (a:Int)),(AV.int .i64 (p:Int)),(AV.int .i64 (b:Int)),(AV.func f xs)] (([(o_ g 9 (List.map j5.row l))]:Heap)++H) (.tup [],([(o_ g 9 (List.map j5.row (mAt (ltF cmp) a p b l)))]:Heap)++H)) (hl:l=A++(L1++(L2++(R1++(R2++B))))) (hA:a=A.length) (hi:i=a+L1.length) (hp:p=i+L2.length) (hR1:mid=i+R1.length) (hb:b=p+R1.length+R2.length) (hbn:b<=n) (hap:a < p) (hpb:p < b) (h1:p≠a+1) (h2:b≠p+1) (hmid:mid=(a+b) / 2) (hNz:b - a<=Nz) (hgt:mid < p) (hs:i=bsr (fun c=>!decide (cmp (nth l (mid+p - 1 - c)) (nth l c) < 0)) (mid - (mid+p - b)) (mid+p - b) mid) (hlo:mid+p - b<=i) (hhi:i<=mid) (q1:Srt (ltF cmp) L1) (q2:Srt (ltF cmp) L2) (q3:Srt (ltF cmp) R1) (q4:Srt (ltF cmp) R2):AC 216 [(AV.osl 0 g 9 0 n),(AV.int .i64 (a:Int)),(AV.int .i64 (p:Int)),(AV.int .i64 (b:Int)),(AV.func f xs)] [(o_ g 9 (List.map j5.row l))] ((AV.tup []),[(o_ g 9 (List.map j5.row (A++(mg (ltF cmp) L1 R1++(mg (ltF cmp) L2 R2++B)))))]):=by
 have hll:n=A.length+L1.length+L2.length+R1.length+R2.length+B.length:=by rw [hn,hl]; simp; omega
 have e1:=sm1 A L1 L2 R1 R2 B hl (s:=i) (m:=p) (e:=mid+p - i) ow hp ow
 have e2:=sm2 (ltF cmp) A L1 R1 (L2++(R2++B)) (a:=a) (s:=i) (mid:=mid) hA hi hR1
 have e3:=sm3 (ltF cmp) A (mg (ltF cmp) L1 R1) L2 R2 B (mid:=mid) (e:=mid+p - i) (b:=b) b1P ow ow
 have hrot:0 < L2.length->0 < R1.length->_:=tY (A++L1) L2 R1 (R2++B) (l:=l) (by rw [hl]; simp) (a:=i) (m:=p) (b:=mid+p - i) yg_ hp ow
 have hlen2:(A++(mg (ltF cmp) L1 R1++(L2++(R2++B)))).length=n:=by rw [hll]; simp [sM]; omega
 have hlen1:(A++(L1++(R1++(L2++(R2++B))))).length=n:=by rw [hll]; simp; omega
 exact r9 (fn:=Tryz.f216) (ann:=Y1) (Has.o Tryz.func216) (.r (.y 2 (iW ((p:Int) - (a:Int))) (AV.int .i64 ((p - a:Nat):Int)) Yes.o (.y 3 (AV.bool (((p - a:Nat):Int) == 1)) (AV.bool false) (Yes.b rU) (.rn (.y 2 (iW ((b:Int) - (p:Int))) (AV.int .i64 ((b - p:Nat):Int)) Yes.o (.y 3 (AV.bool (((b - p:Nat):Int) == 1)) (AV.bool false) (Yes.b rU) (.rn (.y 2 (iW ((a:Int)+(b:Int))) (AV.int .i64 ((a+b:Nat):Int)) Yes.o (.y 5 (iW (Int.fdiv (IntKind.u64.wrap ((a+b:Nat):Int)) (2 ^ (min (Int.toNat 1) 64)))) (AV.int .i64 (mid:Int)) (Yes.int (dZ ow ow)) (.s (.y 2 (iW ((mid:Int)+(p:Int))) (AV.int .i64 ((mid+p:Nat):Int)) Yes.o (.s (.s (.y 2 (AV.bool (decide ((p:Int) > (mid:Int)))) (AV.bool true) (Yes.b (by exact decide_eq_true ow)) (.ru (.y 2 (iW (((mid+p:Nat):Int) - (b:Int))) (AV.int .i64 ((mid+p - b:Nat):Int)) Yes.o (.s (.s (.y 1 (iW (((mid+p:Nat):Int) - 1)) (AV.int .i64 ((mid+p - 1:Nat):Int)) Yes.o (.g (.loop (a6V g n a p b f xs mid i) (show j6 (l9 Tryz.prog (X Y1) (x9 Tryz.f216 4)) (some [0,1,2,3,4,18,19,20,21,22]) (some [0,1,2,3,4,18,19,20]) (mkF 220 [(0,(AV.osl 0 g 9 0 n)),(1,(AV.int .i64 (a:Int))),(2,(AV.int .i64 (p:Int))),(3,(AV.int .i64 (b:Int))),(4,(AV.func f xs)),(18,(AV.int .i64 (mid:Int))),(19,(AV.int .i64 ((mid+p:Nat):Int))),(20,(AV.int .i64 ((mid+p - b:Nat):Int))),(21,(AV.int .i64 (mid:Int))),(22,(AV.int .i64 ((mid+p - 1:Nat):Int)))]) [(o_ g 9 (List.map j5.row l))] (.exit 8) (a6V g n a p b f xs mid i) [(o_ g 9 (List.map j5.row l))] from (by rw [hs]; exact a7E cmp f xs hc a p b mid (mid+p) (mid+p - 1) n g l hn hnb (mid - ((mid+p - b))) (mid+p - b) mid ow ow ow)) (.r (.y 2 (iW ((((mid+p):Nat):Int) - (i:Int))) (AV.int .i64 (((mid+p) - i:Nat):Int)) Yes.o (.s (.two (decide ((i:Int) < (p:Int))) (fun h1 h1'=>(.u2 (.g (.two (decide ((p:Int) < (((mid+p) - i:Nat):Int))) (fun h2 h2'=>(.r (.ch 5 (b6N g i p mid l) (b9i f xs i p ((mid+p) - i) n g l u7 u7 u7 u7 u7 u7 ((hrot ow ow).1) ((hrot ow ow).2.1) ((hrot ow ow).2.2) []) (.s (.two (decide ((a:Int) < (i:Int))) (fun h3 h3'=>(.u2 (.g (.two (decide ((i:Int) < (mid:Int))) (fun h4 h4'=>(.r (.ch 5 [(o_ g 9 (List.map j5.row (mAt (ltF cmp) a i mid (P9 i p ((mid+p) - i) l))))] (ih_at a i mid n g (P9 i p ((mid+p) - i) l) pO u7 u7 u7 u7 u7 pK pJ []) (.s (.two (decide ((mid:Int) < (((mid+p) - i:Nat):Int))) (fun h5 h5'=>(.u2 (.g (.two (decide ((((mid+p) - i:Nat):Int) < (b:Int))) (fun h6 h6'=>(.r (.ch 5 [(o_ g 9 (List.map j5.row (mAt (ltF cmp) mid ((mid+p) - i) b (mAt (ltF cmp) a i mid (P9 i p ((mid+p) - i) l)))))] (ih_at mid ((mid+p) - i) b n g (mAt (ltF cmp) a i mid (P9 i p ((mid+p) - i) l)) U9 u7 u7 u7 u7 u7 U8 U7 []) (.q 1 (AV.tup []) M8)))) (fun h6 h6'=>(.q 1 (AV.tup []) M8)))))) (fun h5 h5'=>(.n2 (.g (.n (.q 1 (AV.tup []) M8)))))))))) (fun h4 h4'=>(.r (.two (decide ((mid:Int) < (((mid+p) - i:Nat):Int))) (fun h5 h5'=>(.u2 (.g (.two (decide ((((mid+p) - i:Nat):Int) < (b:Int))) (fun h6 h6'=>(.r (.ch 5 [(o_ g 9 (List.map j5.row (mAt (ltF cmp) mid ((mid+p) - i) b (P9 i p ((mid+p) - i) l))))] (ih_at mid ((mid+p) - i) b n g (P9 i p ((mid+p) - i) l) U9 u7 u7 u7 u7 u7 U8 U7 []) (.q 1 (AV.tup []) M8)))) (fun h6 h6'=>(.q 1 (AV.tup []) M8)))))) (fun h5 h5'=>(.n2 (.g (.n (.q 1 (AV.tup []) M8)))))))))))) (fun h3 h3'=>(.n2 (.rn (.two (decide ((mid:Int) < (((mid+p) - i:Nat):Int))) (fun h4 h4'=>(.u2 (.g (.two (decide ((((mid+p) - i:Nat):Int) < (b:Int))) (fun h5 h5'=>(.r (.ch 5 [(o_ g 9 (List.map j5.row (mAt (ltF cmp) mid ((mid+p) - i) b (P9 i p ((mid+p) - i) l))))] (ih_at mid ((mid+p) - i) b n g (P9 i p ((mid+p) - i) l) U9 u7 u7 u7 u7 u7 U8 U7 []) (.q 1 (AV.tup []) M8)))) (fun h5 h5'=>(.q 1 (AV.tup []) M8)))))) (fun h4 h4'=>(.n2 (.g (.n (.q 1 (AV.tup []) M8)))))))))))))) (fun h2 h2'=>(.r (.two (decide ((a:Int) < (i:Int))) (fun h3 h3'=>(.u2 (.g (.two (decide ((i:Int) < (mid:Int))) (fun h4 h4'=>(.r (.ch 5 [(o_ g 9 (List.map j5.row (mAt (ltF cmp) a i mid l)))] (ih_at a i mid n g l pO u7 u7 u7 u7 u7 pK pJ []) (.s (.two (decide ((mid:Int) < (((mid+p) - i:Nat):Int))) (fun h5 h5'=>(.u2 (.g (.two (decide ((((mid+p) - i:Nat):Int) < (b:Int))) (fun h6 h6'=>(.r (.ch 5 [(o_ g 9 (List.map j5.row (mAt (ltF cmp) mid ((mid+p) - i) b (mAt (ltF cmp) a i mid l))))] (ih_at mid ((mid+p) - i) b n g (mAt (ltF cmp) a i mid l) U9 u7 u7 u7 u7 u7 U8 U7 []) (.q 1 (AV.tup []) M8)))) (fun h6 h6'=>(.q 1 (AV.tup []) M8)))))) (fun h5 h5'=>(.n2 (.g (.n (.q 1 (AV.tup []) M8)))))))))) (fun h4 h4'=>(.r (.two (decide ((mid:Int) < (((mid+p) - i:Nat):Int))) (fun h5 h5'=>(.u2 (.g (.two (decide ((((mid+p) - i:Nat):Int) < (b:Int))) (fun h6 h6'=>(.r (.ch 5 [(o_ g 9 (List.map j5.row (mAt (ltF cmp) mid ((mid+p) - i) b l)))] (ih_at mid ((mid+p) - i) b n g l U9 u7 u7 u7 u7 u7 U8 U7 []) (.q 1 (AV.tup []) M8)))) (fun h6 h6'=>(.q 1 (AV.tup []) M8)))))) (fun h5 h5'=>(.n2 (.g (.n (.q 1 (AV.tup []) M8)))))))))))) (fun h3 h3'=>(.n2 (.rn (.two (decide ((mid:Int) < (((mid+p) - i:Nat):Int))) (fun h4 h4'=>(.u2 (.g (.two (decide ((((mid+p) - i:Nat):Int) < (b:Int))) (fun h5 h5'=>(.r (.ch 5 [(o_ g 9 (List.map j5.row (mAt (ltF cmp) mid ((mid+p) - i) b l)))] (ih_at mid ((mid+p) - i) b n g l U9 u7 u7 u7 u7 u7 U8 U7 []) (.q 1 (AV.tup []) M8)))) (fun h5 h5'=>(.q 1 (AV.tup []) M8)))))) (fun h4 h4'=>(.n2 (.g (.n (.q 1 (AV.tup []) M8)))))))))))))))) (fun h1 h1'=>(.n2 (.rn (.two (decide ((a:Int) < (i:Int))) (fun h2 h2'=>(.u2 (.g (.two (decide ((i:Int) < (mid:Int))) (fun h3 h3'=>(.r (.ch 5 [(o_ g 9 (List.map j5.row (mAt (ltF cmp) a i mid l)))] (ih_at a i mid n g l pO u7 u7 u7 u7 u7 pK pJ []) (.s (.two (decide ((mid:Int) < (((mid+p) - i:Nat):Int))) (fun h4 h4'=>(.u2 (.g (.two (decide ((((mid+p) - i:Nat):Int) < (b:Int))) (fun h5 h5'=>(.r (.ch 5 [(o_ g 9 (List.map j5.row (mAt (ltF cmp) mid ((mid+p) - i) b (mAt (ltF cmp) a i mid l))))] (ih_at mid ((mid+p) - i) b n g (mAt (ltF cmp) a i mid l) U9 u7 u7 u7 u7 u7 U8 U7 []) (.q 1 (AV.tup []) M8)))) (fun h5 h5'=>(.q 1 (AV.tup []) M8)))))) (fun h4 h4'=>(.n2 (.g (.n (.q 1 (AV.tup []) M8)))))))))) (fun h3 h3'=>(.r (.two (decide ((mid:Int) < (((mid+p) - i:Nat):Int))) (fun h4 h4'=>(.u2 (.g (.two (decide ((((mid+p) - i:Nat):Int) < (b:Int))) (fun h5 h5'=>(.r (.ch 5 [(o_ g 9 (List.map j5.row (mAt (ltF cmp) mid ((mid+p) - i) b l)))] (ih_at mid ((mid+p) - i) b n g l U9 u7 u7 u7 u7 u7 U8 U7 []) (.q 1 (AV.tup []) M8)))) (fun h5 h5'=>(.q 1 (AV.tup []) M8)))))) (fun h4 h4'=>(.n2 (.g (.n (.q 1 (AV.tup []) M8)))))))))))) (fun h2 h2'=>(.n2 (.rn (.two (decide ((mid:Int) < (((mid+p) - i:Nat):Int))) (fun h3 h3'=>(.u2 (.g (.two (decide ((((mid+p) - i:Nat):Int) < (b:Int))) (fun h4 h4'=>(.r (.ch 5 [(o_ g 9 (List.map j5.row (mAt (ltF cmp) mid ((mid+p) - i) b l)))] (ih_at mid ((mid+p) - i) b n g l U9 u7 u7 u7 u7 u7 U8 U7 []) (.q 1 (AV.tup []) M8)))) (fun h4 h4'=>(.q 1 (AV.tup []) M8)))))) (fun h3 h3'=>(.n2 (.g (.n (.q 1 (AV.tup []) M8))))))))))))))))))))))))))))))))))))))
set_option maxHeartbeats 4000000 in
theorem c3p (cmp:j5->j5->Int) (f:Nat) (xs:List AV) (A L1 L2 R1 R2 B:l9C) (a p b n g i mid Nz:Nat) (l:l9C) (hc:h9C cmp f xs) (hxs:AV.bdds 1 xs=true) (hn:n=l.length) (hnb:n < 1048576) (ih_at:∀ (a p b n g:Nat) (l:l9C),n=l.length->n < 1048576->a < p->p < b->b<=n->b - a < Nz->Srt (ltF cmp) ((l.drop a).take (p - a))->Srt (ltF cmp) ((l.drop p).take (b - p))->∀ H:Heap,AC 216 [(AV.osl 0 g 9 0 n),(AV.int .i64 (a:Int)),(AV.int .i64 (p:Int)),(AV.int .i64 (b:Int)),(AV.func f xs)] (([(o_ g 9 (List.map j5.row l))]:Heap)++H) (.tup [],([(o_ g 9 (List.map j5.row (mAt (ltF cmp) a p b l)))]:Heap)++H)) (hl:l=A++(L1++(L2++(R1++(R2++B))))) (hA:a=A.length) (hi:i=a+L1.length) (hp:p=i+L2.length) (hR1:mid=i+R1.length) (hb:b=p+R1.length+R2.length) (hbn:b<=n) (hap:a < p) (hpb:p < b) (h1:p≠a+1) (h2:b≠p+1) (hmid:mid=(a+b) / 2) (hNz:b - a<=Nz) (hgt:p<=mid) (hs:i=bsr (fun c=>!decide (cmp (nth l (mid+p - 1 - c)) (nth l c) < 0)) (p - (a)) (a) p) (hlo:a<=i) (hhi:i<=p) (q1:Srt (ltF cmp) L1) (q2:Srt (ltF cmp) L2) (q3:Srt (ltF cmp) R1) (q4:Srt (ltF cmp) R2):AC 216 [(AV.osl 0 g 9 0 n),(AV.int .i64 (a:Int)),(AV.int .i64 (p:Int)),(AV.int .i64 (b:Int)),(AV.func f xs)] [(o_ g 9 (List.map j5.row l))] ((AV.tup []),[(o_ g 9 (List.map j5.row (A++(mg (ltF cmp) L1 R1++(mg (ltF cmp) L2 R2++B)))))]):=by
 have hll:n=A.length+L1.length+L2.length+R1.length+R2.length+B.length:=by rw [hn,hl]; simp; omega
 have e1:=sm1 A L1 L2 R1 R2 B hl (s:=i) (m:=p) (e:=mid+p - i) ow hp ow
 have e2:=sm2 (ltF cmp) A L1 R1 (L2++(R2++B)) (a:=a) (s:=i) (mid:=mid) hA hi hR1
 have e3:=sm3 (ltF cmp) A (mg (ltF cmp) L1 R1) L2 R2 B (mid:=mid) (e:=mid+p - i) (b:=b) b1P ow ow
 have hrot:0 < L2.length->0 < R1.length->_:=tY (A++L1) L2 R1 (R2++B) (l:=l) (by rw [hl]; simp) (a:=i) (m:=p) (b:=mid+p - i) yg_ hp ow
 have hlen2:(A++(mg (ltF cmp) L1 R1++(L2++(R2++B)))).length=n:=by rw [hll]; simp [sM]; omega
 have hlen1:(A++(L1++(R1++(L2++(R2++B))))).length=n:=by rw [hll]; simp; omega
 exact r9 (fn:=Tryz.f216) (ann:=Y1) (Has.o Tryz.func216) (.r (.y 2 (iW ((p:Int) - (a:Int))) (AV.int .i64 ((p - a:Nat):Int)) Yes.o (.y 3 (AV.bool (((p - a:Nat):Int) == 1)) (AV.bool false) (Yes.b rU) (.rn (.y 2 (iW ((b:Int) - (p:Int))) (AV.int .i64 ((b - p:Nat):Int)) Yes.o (.y 3 (AV.bool (((b - p:Nat):Int) == 1)) (AV.bool false) (Yes.b rU) (.rn (.y 2 (iW ((a:Int)+(b:Int))) (AV.int .i64 ((a+b:Nat):Int)) Yes.o (.y 5 (iW (Int.fdiv (IntKind.u64.wrap ((a+b:Nat):Int)) (2 ^ (min (Int.toNat 1) 64)))) (AV.int .i64 (mid:Int)) (Yes.int (dZ ow ow)) (.s (.y 2 (iW ((mid:Int)+(p:Int))) (AV.int .i64 ((mid+p:Nat):Int)) Yes.o (.s (.s (.y 2 (AV.bool (decide ((p:Int) > (mid:Int)))) (AV.bool false) (Yes.b (by exact decide_eq_false ow)) (.rn (.s (.s (.y 1 (iW (((mid+p:Nat):Int) - 1)) (AV.int .i64 ((mid+p - 1:Nat):Int)) Yes.o (.g (.loop (a6V g n a p b f xs mid i) (show j6 (l9 Tryz.prog (X Y1) (x9 Tryz.f216 4)) (some [0,1,2,3,4,18,19,20,21,22]) (some [0,1,2,3,4,18,19,20]) (mkF 220 [(0,(AV.osl 0 g 9 0 n)),(1,(AV.int .i64 (a:Int))),(2,(AV.int .i64 (p:Int))),(3,(AV.int .i64 (b:Int))),(4,(AV.func f xs)),(18,(AV.int .i64 (mid:Int))),(19,(AV.int .i64 ((mid+p:Nat):Int))),(20,(AV.int .i64 (a:Int))),(21,(AV.int .i64 (p:Int))),(22,(AV.int .i64 ((mid+p - 1:Nat):Int)))]) [(o_ g 9 (List.map j5.row l))] (.exit 8) (a6V g n a p b f xs mid i) [(o_ g 9 (List.map j5.row l))] from (by rw [hs]; exact a7E cmp f xs hc a p b mid (mid+p) (mid+p - 1) n g l hn hnb (p - (a)) a p ow ow ow)) (.r (.y 2 (iW ((((mid+p):Nat):Int) - (i:Int))) (AV.int .i64 (((mid+p) - i:Nat):Int)) Yes.o (.s (.two (decide ((i:Int) < (p:Int))) (fun h1 h1'=>(.u2 (.g (.two (decide ((p:Int) < (((mid+p) - i:Nat):Int))) (fun h2 h2'=>(.r (.ch 5 (b6N g i p mid l) (b9i f xs i p ((mid+p) - i) n g l u7 u7 u7 u7 u7 u7 ((hrot ow ow).1) ((hrot ow ow).2.1) ((hrot ow ow).2.2) []) (.s (.two (decide ((a:Int) < (i:Int))) (fun h3 h3'=>(.u2 (.g (.two (decide ((i:Int) < (mid:Int))) (fun h4 h4'=>(.r (.ch 5 [(o_ g 9 (List.map j5.row (mAt (ltF cmp) a i mid (P9 i p ((mid+p) - i) l))))] (ih_at a i mid n g (P9 i p ((mid+p) - i) l) pO u7 u7 u7 u7 u7 pK pJ []) (.s (.two (decide ((mid:Int) < (((mid+p) - i:Nat):Int))) (fun h5 h5'=>(.u2 (.g (.two (decide ((((mid+p) - i:Nat):Int) < (b:Int))) (fun h6 h6'=>(.r (.ch 5 [(o_ g 9 (List.map j5.row (mAt (ltF cmp) mid ((mid+p) - i) b (mAt (ltF cmp) a i mid (P9 i p ((mid+p) - i) l)))))] (ih_at mid ((mid+p) - i) b n g (mAt (ltF cmp) a i mid (P9 i p ((mid+p) - i) l)) U9 u7 u7 u7 u7 u7 U8 U7 []) (.q 1 (AV.tup []) M8)))) (fun h6 h6'=>(.q 1 (AV.tup []) M8)))))) (fun h5 h5'=>(.n2 (.g (.n (.q 1 (AV.tup []) M8)))))))))) (fun h4 h4'=>(.r (.two (decide ((mid:Int) < (((mid+p) - i:Nat):Int))) (fun h5 h5'=>(.u2 (.g (.two (decide ((((mid+p) - i:Nat):Int) < (b:Int))) (fun h6 h6'=>(.r (.ch 5 [(o_ g 9 (List.map j5.row (mAt (ltF cmp) mid ((mid+p) - i) b (P9 i p ((mid+p) - i) l))))] (ih_at mid ((mid+p) - i) b n g (P9 i p ((mid+p) - i) l) U9 u7 u7 u7 u7 u7 U8 U7 []) (.q 1 (AV.tup []) M8)))) (fun h6 h6'=>(.q 1 (AV.tup []) M8)))))) (fun h5 h5'=>(.n2 (.g (.n (.q 1 (AV.tup []) M8)))))))))))) (fun h3 h3'=>(.n2 (.rn (.two (decide ((mid:Int) < (((mid+p) - i:Nat):Int))) (fun h4 h4'=>(.u2 (.g (.two (decide ((((mid+p) - i:Nat):Int) < (b:Int))) (fun h5 h5'=>(.r (.ch 5 [(o_ g 9 (List.map j5.row (mAt (ltF cmp) mid ((mid+p) - i) b (P9 i p ((mid+p) - i) l))))] (ih_at mid ((mid+p) - i) b n g (P9 i p ((mid+p) - i) l) U9 u7 u7 u7 u7 u7 U8 U7 []) (.q 1 (AV.tup []) M8)))) (fun h5 h5'=>(.q 1 (AV.tup []) M8)))))) (fun h4 h4'=>(.n2 (.g (.n (.q 1 (AV.tup []) M8)))))))))))))) (fun h2 h2'=>(.r (.two (decide ((a:Int) < (i:Int))) (fun h3 h3'=>(.u2 (.g (.two (decide ((i:Int) < (mid:Int))) (fun h4 h4'=>(.r (.ch 5 [(o_ g 9 (List.map j5.row (mAt (ltF cmp) a i mid l)))] (ih_at a i mid n g l pO u7 u7 u7 u7 u7 pK pJ []) (.s (.two (decide ((mid:Int) < (((mid+p) - i:Nat):Int))) (fun h5 h5'=>(.u2 (.g (.two (decide ((((mid+p) - i:Nat):Int) < (b:Int))) (fun h6 h6'=>(.r (.ch 5 [(o_ g 9 (List.map j5.row (mAt (ltF cmp) mid ((mid+p) - i) b (mAt (ltF cmp) a i mid l))))] (ih_at mid ((mid+p) - i) b n g (mAt (ltF cmp) a i mid l) U9 u7 u7 u7 u7 u7 U8 U7 []) (.q 1 (AV.tup []) M8)))) (fun h6 h6'=>(.q 1 (AV.tup []) M8)))))) (fun h5 h5'=>(.n2 (.g (.n (.q 1 (AV.tup []) M8)))))))))) (fun h4 h4'=>(.r (.two (decide ((mid:Int) < (((mid+p) - i:Nat):Int))) (fun h5 h5'=>(.u2 (.g (.two (decide ((((mid+p) - i:Nat):Int) < (b:Int))) (fun h6 h6'=>(.r (.ch 5 [(o_ g 9 (List.map j5.row (mAt (ltF cmp) mid ((mid+p) - i) b l)))] (ih_at mid ((mid+p) - i) b n g l U9 u7 u7 u7 u7 u7 U8 U7 []) (.q 1 (AV.tup []) M8)))) (fun h6 h6'=>(.q 1 (AV.tup []) M8)))))) (fun h5 h5'=>(.n2 (.g (.n (.q 1 (AV.tup []) M8)))))))))))) (fun h3 h3'=>(.n2 (.rn (.two (decide ((mid:Int) < (((mid+p) - i:Nat):Int))) (fun h4 h4'=>(.u2 (.g (.two (decide ((((mid+p) - i:Nat):Int) < (b:Int))) (fun h5 h5'=>(.r (.ch 5 [(o_ g 9 (List.map j5.row (mAt (ltF cmp) mid ((mid+p) - i) b l)))] (ih_at mid ((mid+p) - i) b n g l U9 u7 u7 u7 u7 u7 U8 U7 []) (.q 1 (AV.tup []) M8)))) (fun h5 h5'=>(.q 1 (AV.tup []) M8)))))) (fun h4 h4'=>(.n2 (.g (.n (.q 1 (AV.tup []) M8)))))))))))))))) (fun h1 h1'=>(.n2 (.rn (.two (decide ((a:Int) < (i:Int))) (fun h2 h2'=>(.u2 (.g (.two (decide ((i:Int) < (mid:Int))) (fun h3 h3'=>(.r (.ch 5 [(o_ g 9 (List.map j5.row (mAt (ltF cmp) a i mid l)))] (ih_at a i mid n g l pO u7 u7 u7 u7 u7 pK pJ []) (.s (.two (decide ((mid:Int) < (((mid+p) - i:Nat):Int))) (fun h4 h4'=>(.u2 (.g (.two (decide ((((mid+p) - i:Nat):Int) < (b:Int))) (fun h5 h5'=>(.r (.ch 5 [(o_ g 9 (List.map j5.row (mAt (ltF cmp) mid ((mid+p) - i) b (mAt (ltF cmp) a i mid l))))] (ih_at mid ((mid+p) - i) b n g (mAt (ltF cmp) a i mid l) U9 u7 u7 u7 u7 u7 U8 U7 []) (.q 1 (AV.tup []) M8)))) (fun h5 h5'=>(.q 1 (AV.tup []) M8)))))) (fun h4 h4'=>(.n2 (.g (.n (.q 1 (AV.tup []) M8)))))))))) (fun h3 h3'=>(.r (.two (decide ((mid:Int) < (((mid+p) - i:Nat):Int))) (fun h4 h4'=>(.u2 (.g (.two (decide ((((mid+p) - i:Nat):Int) < (b:Int))) (fun h5 h5'=>(.r (.ch 5 [(o_ g 9 (List.map j5.row (mAt (ltF cmp) mid ((mid+p) - i) b l)))] (ih_at mid ((mid+p) - i) b n g l U9 u7 u7 u7 u7 u7 U8 U7 []) (.q 1 (AV.tup []) M8)))) (fun h5 h5'=>(.q 1 (AV.tup []) M8)))))) (fun h4 h4'=>(.n2 (.g (.n (.q 1 (AV.tup []) M8)))))))))))) (fun h2 h2'=>(.n2 (.rn (.two (decide ((mid:Int) < (((mid+p) - i:Nat):Int))) (fun h3 h3'=>(.u2 (.g (.two (decide ((((mid+p) - i:Nat):Int) < (b:Int))) (fun h4 h4'=>(.r (.ch 5 [(o_ g 9 (List.map j5.row (mAt (ltF cmp) mid ((mid+p) - i) b l)))] (ih_at mid ((mid+p) - i) b n g l U9 u7 u7 u7 u7 u7 U8 U7 []) (.q 1 (AV.tup []) M8)))) (fun h4 h4'=>(.q 1 (AV.tup []) M8)))))) (fun h3 h3'=>(.n2 (.g (.n (.q 1 (AV.tup []) M8)))))))))))))))))))))))))))))))))))))
end Go.Proofs.YtmghjcbabebanaaGreat.AM
namespace Go.Proofs.YtmghjcbabebanaaGreat.AM
open Go
section
variable {α:Type} [Inhabited α] {lt:α->α->Bool}
theorem R6.irr (W:R6 lt) (a:α):lt a a=false:=by
 cases h:lt a a with
 | false=>rfl
 | true=>have:=W.asymm a a h; rw [h] at this; exact this
theorem four {l:List α} {a m b:Nat} (ham:a<=m) (hmb:m<=b):l=l.take a++((l.drop a).take (m - a)++((l.drop m).take (b - m)++l.drop b)):=by
 have h1:(l.drop m).take (b - m)++l.drop b=l.drop m:=by
  have:=List.take_append_drop (b - m) (l.drop m)
  rw [List.drop_drop,show m+(b - m)=b by omega] at this
  exact this
 have h2:(l.drop a).take (m - a)++l.drop m=l.drop a:=by
  have:=List.take_append_drop (m - a) (l.drop a)
  rw [List.drop_drop,show a+(m - a)=m by omega] at this
  exact this
 rw [h1,h2,List.take_append_drop]
theorem a1P {l:List α} {a k i:Nat} (hi:i < k):nth ((l.drop a).take k) i=nth l (a+i):=by rw [dV hi,nA]
theorem jI {l:List α} {a k:Nat} (h:a+k<=l.length):((l.drop a).take k).length=k:=by simp; omega
theorem xV {l:List α} {a k:Nat} {x:α} (h:a+k<=l.length) (hx:x∈(l.drop a).take k):∃ i,a<=i/\i < a+k/\nth l i=x:=by
 obtain ⟨i,hi,rfl⟩:=aW hx
 rw [jI h] at hi
 exact ⟨a+i,by omega,by omega,(a1P hi).symm⟩
theorem a2A {l:List α} {a k:Nat} (W:R6 lt) (h:a+k<=l.length) (hs:Srt lt ((l.drop a).take k)) {i j:Nat} (h1:a<=i) (h2:i<=j) (h3:j < a+k):lt (nth l j) (nth l i)=false:=by
 rcases Nat.lt_or_ge i j with h4 | h4
 · have:=a2X.1 hs (i - a) (j - a) ya_ (by rw [jI h]; omega)
   rw [a1P ya_,a1P ya_] at this
   rwa [show a+(i - a)=i by omega,show a+(j - a)=j by omega] at this
 · obtain rfl:i=j:=by omega
   exact W.irr _
theorem bV {l:List α} {a k s:Nat} (hs:s<=k):(l.drop a).take k=(l.drop a).take s++(l.drop (a+s)).take (k - s):=by
 have:=List.take_append_drop s ((l.drop a).take k)
 rw [List.take_take,Nat.min_eq_left hs,List.drop_take,List.drop_drop] at this
 exact this.symm
theorem a0T {l:List α} {a k s:Nat} (hs:s<=k) (h:Srt lt ((l.drop a).take k)):Srt lt ((l.drop a).take s)/\Srt lt ((l.drop (a+s)).take (k - s)):=by
 rw [bV hs] at h
 have:=List.pairwise_append.1 h
 exact ⟨this.1,this.2.1⟩
theorem a1Y (W:R6 lt) {x y u v:α} (h1:lt u y=false) (h2:lt u v=true) (h3:lt x v=false):lt y x=true:=by
 cases h:lt y x with
 | true=>rfl
 | false =>
  have h4:=W.trans v x y h3 h
  have h5:=W.trans v y u h4 h1
  rw [h2] at h5; simp at h5
theorem mW (W:R6 lt) {l:List α} {a p b s e:Nat} (ham:a<=p) (hpb:p<=b) (hbl:b<=l.length) (h7:Srt lt ((l.drop a).take (p - a))) (h8:Srt lt ((l.drop p).take (b - p))) (has:a<=s) (hsp:s<=p) (hpe:p<=e) (heb:e<=b)
 (k1:s < p->p < e->lt (nth l (e - 1)) (nth l s)=true) (k2:a < s->e < b->lt (nth l e) (nth l (s - 1))=false) :
 mAt lt a p b l=l.take a++(mg lt ((l.drop a).take (s - a)) ((l.drop p).take (e - p))++(mg lt ((l.drop s).take (p - s)) ((l.drop e).take (b - e))++l.drop b)):=by
 unfold mAt
 have c1:=bV (l:=l) (a:=a) (k:=p - a) (s:=s - a) ya_
 have c2:=bV (l:=l) (a:=p) (k:=b - p) (s:=e - p) ya_
 rw [show a+(s - a)=s by omega,show p - a - (s - a)=p - s by omega] at c1
 rw [show p+(e - p)=e by omega,show b - p - (e - p)=b - e by omega] at c2
 rw [c1,c2,a1U lt _ _ _ (Nat.le_refl _) (fun x hx y hy=>?_) (fun x hx y hy=>?_),List.append_assoc]
 · obtain ⟨i,i1,i2,rfl⟩:=xV ya_ hx
   obtain ⟨j,j1,j2,rfl⟩:=xV ya_ hy
   exact a1Y W (a2A W ya_ h8 (i:=j) (j:=e - 1) ya_ ya_ ya_) (k1 ya_ ya_) (a2A W ya_ h7 (i:=s) (j:=i) ya_ ya_ ya_)
 · obtain ⟨i,i1,i2,rfl⟩:=xV ya_ hx
   obtain ⟨j,j1,j2,rfl⟩:=xV ya_ hy
   have q1:=a2A W ya_ h7 (i:=i) (j:=s - 1) ya_ ya_ ya_
   have q2:=a2A W ya_ h8 (i:=e) (j:=j) ya_ ya_ ya_
   exact W.trans _ _ _ (W.trans _ _ _ q1 (k2 ya_ ya_)) q2
theorem a8d {x:α} {R:List α} (h:∀ y,R.head?=some y->lt y x=false):mg lt [x] R=x :: R:=by
 cases R with
 | nil=>rw [dW]
 | cons y R=>rw [jU,if_neg (by rw [h y rfl]; simp),Z9]
theorem a8c {y:α} {L:List α} (h:∀ x,L.head?=some x->lt y x=true):mg lt L [y]=y :: L:=by
 cases L with
 | nil=>rw [Z9]
 | cons x L=>rw [jU,if_pos (h x rfl),dW]
theorem xZ {l:List α} {a:Nat} (h:a < l.length):(l.drop a).take 1=[nth l a]:=by rw [Y7 h]; rfl
theorem uM {l:List α} {a k:Nat} {x:α} (h:((l.drop a).take k).head?=some x) (hl:a+k<=l.length):0 < k/\x=nth l a:=by
 cases k with
 | zero=>simp at h
 | succ k =>
  rw [Y7 ya_] at h
  simp at h
  exact ⟨by omega,h.symm⟩
theorem c9C (W:R6 lt) {S T:List α} (hS:Srt lt S) (hT:Srt lt T) (y:α):mg lt S (Z4 lt T y)=Z4 lt (mg lt S T) y:=by
 have fS:S=S.filter (fun z=>!lt y z)++S.filter (fun z=>lt y z):=by
  clear hT
  induction S with
  | nil=>rfl
  | cons z S ih =>
   have h:=List.pairwise_cons.1 hS
   have ih':=ih h.2
   by_cases c:lt y z=true
   · have hall:∀ w∈S,lt y w=true:=fun w hw=>a1Y W (W.irr y) c (h.1 w hw)
     have e1:S.filter (fun z=>!lt y z)=[]:=List.filter_eq_nil_iff.2 fun w hw=>by simp [hall w hw]
     have e2:S.filter (fun z=>lt y z)=S:=List.filter_eq_self.2 fun w hw=>hall w hw
     simp [List.filter_cons,c,e1,e2]
   · simp only [Bool.not_eq_true] at c
     conv=>lhs; rw [ih']
     simp [List.filter_cons,c]
 have fT:T=T.filter (fun z=>!lt y z)++T.filter (fun z=>lt y z):=by
  clear hS fS
  induction T with
  | nil=>rfl
  | cons z T ih =>
   have h:=List.pairwise_cons.1 hT
   have ih':=ih h.2
   by_cases c:lt y z=true
   · have hall:∀ w∈T,lt y w=true:=fun w hw=>a1Y W (W.irr y) c (h.1 w hw)
     have e1:T.filter (fun z=>!lt y z)=[]:=List.filter_eq_nil_iff.2 fun w hw=>by simp [hall w hw]
     have e2:T.filter (fun z=>lt y z)=T:=List.filter_eq_self.2 fun w hw=>hall w hw
     simp [List.filter_cons,c,e1,e2]
   · simp only [Bool.not_eq_true] at c
     conv=>lhs; rw [ih']
     simp [List.filter_cons,c]
 have m1:∀ z∈S.filter (fun z=>!lt y z),lt y z=false:=fun z hz=>by simpa using (List.mem_filter.1 hz).2
 have m2:∀ z∈S.filter (fun z=>lt y z),lt y z=true:=fun z hz=>(List.mem_filter.1 hz).2
 have m3:∀ z∈T.filter (fun z=>!lt y z),lt y z=false:=fun z hz=>by simpa using (List.mem_filter.1 hz).2
 have m4:∀ z∈T.filter (fun z=>lt y z),lt y z=true:=fun z hz=>(List.mem_filter.1 hz).2
 rw [b3Z W hT y]
 generalize hS1:S.filter (fun z=>!lt y z)=S1 at fS m1
 generalize hS2:S.filter (fun z=>lt y z)=S2 at fS m2
 generalize hT1:T.filter (fun z=>!lt y z)=T1 at fT m3
 generalize hT2:T.filter (fun z=>lt y z)=T2 at fT m4
 have cross:∀ x∈S2,∀ z∈T1,lt z x=true:=fun x hx z hz=>by
  cases h:lt z x with
  | true=>rfl
  | false=>have:=W.trans x z y h (m3 z hz); rw [m2 x hx] at this; simp at this
 have cross2:∀ x∈S1,∀ z∈T2,lt z x=false:=fun x hx z hz=>by
  have h1:=W.asymm _ _ (m4 z hz)
  exact W.trans x y z (m1 x hx) h1
 have e1:mg lt S T=mg lt S1 T1++mg lt S2 T2:=by
  rw [fS,fT]; exact a1U lt _ _ _ (Nat.le_refl _) cross cross2
 have e2:mg lt S (T1++y :: T2)=mg lt S1 T1++mg lt S2 (y :: T2):=by
  rw [fS]; exact a1U lt _ _ _ (Nat.le_refl _) cross fun x hx z hz=>by
   rcases List.mem_cons.1 hz with rfl | hz
   · exact m1 x hx
   · exact cross2 x hx z hz
 have e3:mg lt S2 (y :: T2)=y :: mg lt S2 T2:=by
  cases S2 with
  | nil=>rw [Z9,Z9]
  | cons x S2=>rw [jU,if_pos (m2 x ye_)]
 have p1:∀ z∈mg lt S1 T1,lt y z=false:=fun z hz=>by
  have:=(a4t lt _ S1 T1 (Nat.le_refl _)).mem_iff.1 hz
  rcases List.mem_append.1 this with h | h
  · exact m1 z h
  · exact m3 z h
 have p2:∀ z∈mg lt S2 T2,lt y z=true:=fun z hz=>by
  have:=(a4t lt _ S2 T2 (Nat.le_refl _)).mem_iff.1 hz
  rcases List.mem_append.1 this with h | h
  · exact m2 z h
  · exact m4 z h
 have ins:∀ (P Q:List α),(∀ z∈P,lt y z=false)->(∀ z∈Q,lt y z=true)->Z4 lt (P++Q) y=P++y :: Q:=fun P Q hP hQ=>by
  have hpos:aI lt y (P++Q) (P++Q).length=P.length:=by
   obtain ⟨s1,s2⟩:=a0f lt y (P++Q) (P++Q).length
   have s3:=a0Z lt y (P++Q) (P++Q).length
   have hlen:(P++Q).length=P.length+Q.length:=List.length_append
   rcases Nat.lt_trichotomy (aI lt y (P++Q) (P++Q).length) P.length with h | h | h
   · have:=s1 _ (Nat.le_refl _) ya_
     rw [nC,if_pos h] at this
     rw [hP _ (mZ h)] at this; simp at this
   · exact h
   · have:=s2 ya_
     rw [nC,if_neg ya_] at this
     rw [hQ _ (mZ ya_)] at this; simp at this
  unfold Z4
  rw [hpos]
  simp
 rw [e2,e3,e1,ins _ _ p1 p2]
theorem a5f (W:R6 lt) (Y:List α):∀ (X:List α),N8 lt (X++Y)=mg lt (N8 lt X) (N8 lt Y):=by
 intro X
 have key:∀ (Z T:List α),Srt lt T->mg lt (N8 lt X) (Z.foldl (Z4 lt) T)=Z.foldl (Z4 lt) (mg lt (N8 lt X) T):=by
  intro Z
  induction Z with
  | nil=>intro T _; rfl
  | cons z Z ih =>
   intro T hT
   simp only [List.foldl_cons]
   rw [ih _ (a1v W hT z),c9C W (gK W X) hT]
 have:=key Y [] List.Pairwise.nil
 rw [dW] at this
 have e:N8 lt (X++Y)=Y.foldl (Z4 lt) (N8 lt X):=by unfold N8; rw [List.foldl_append]
 rw [e,<- this]
 rfl
end
open Go.Proofs.YtmghjcbabebanaaGreat
attribute [local irreducible] C9 D5 D8 D9 F3 F5 G9 I4 J6 K3 K8 N9 P6 P9 R3 R8 R9 Tp.H7 Tp.J8 Tp.card Tp.cards Tp.key Tp.keyT Tp.next Tp.step U0 bsr cmpL j6 l6 l9 mg mgL shD shU sink y5
theorem pI {p:Prop} (h:p:=by rw [jI ow]; omega):p:=h
theorem d0e (cmp:j5->j5->Int) (f:Nat) (xs:List AV) (hc:h9C cmp f xs) (hxs:AV.bdds 1 xs=true) (W:R6 (ltF cmp)) (Nz:Nat):∀ (a p b n g:Nat) (l:l9C),n=l.length->n < 1048576->a < p->p < b->b<=n->b - a < Nz ->
 Srt (ltF cmp) ((l.drop a).take (p - a))->Srt (ltF cmp) ((l.drop p).take (b - p))->AC 216 [(AV.osl 0 g 9 0 n),(iN a),(iN p),(iN b),(AV.func f xs)] [(o_ g 9 (mC l))] (.tup [],[(o_ g 9 (mC (mAt (ltF cmp) a p b l)))]):=by
 induction Nz with
 | zero=>intro a p b n g l _ _ _ _ _ h; omega
 | succ Nz ih =>
  intro a p b n g l hn hnb hap hpb hbn hN h7 h8
  by_cases c1:p=a+1
  · obtain ⟨s1,s2,s3,s4⟩:=nN (fun c=>decide (cmp (nth l c) (nth l a) < 0)) (b - p) p b (Nat.le_refl _) ow
    generalize hs:bsr (fun c=>decide (cmp (nth l c) (nth l a) < 0)) (b - p) p b=s at s1 s2 s3 s4
    have hlaw:=mW W (l:=l) (a:=a) (p:=p) (b:=b) (s:=a) (e:=s) ow ow ow h7 h8 ow ow s1 s2 (fun _ h=>s3 h) (fun h=>by omega)
    have hx:(l.drop a).take (p - a)=[nth l a]:=by rw [show p - a=1 by omega]; exact xZ ow
    rw [Nat.sub_self,List.take_zero,Z9,hx,a8d (fun y hy=>by
     obtain ⟨q1,q2⟩:=uM hy ow
     rw [q2]; exact s4 ow)] at hlaw
    rw [hlaw]
    have hl:=four (l:=l) (a:=a) (m:=p) (b:=b) ow ow
    rw [hx,bV (l:=l) (a:=p) (k:=b - p) (s:=s - p) ow,show p+(s - p)=s by omega,show b - p - (s - p)=b - s by omega,List.append_assoc] at hl
    exact c3s cmp f xs (l.take a) ((l.drop p).take (s - p)) ((l.drop s).take (b - s)) (l.drop b) (nth l a) a p b n g s l hc hxs hn hnb hl yg_ c1 ow hbn pI s2 hs.symm
  by_cases c2:b=p+1
  · obtain ⟨s1,s2,s3,s4⟩:=nN (fun c=>!decide (cmp (nth l p) (nth l c) < 0)) (p - a) a p (Nat.le_refl _) ow
    generalize hs:bsr (fun c=>!decide (cmp (nth l p) (nth l c) < 0)) (p - a) a p=s at s1 s2 s3 s4
    have hlaw:=mW W (l:=l) (a:=a) (p:=p) (b:=b) (s:=s) (e:=p) ow ow ow h7 h8 s1 s2 ow ow (fun _ h=>by omega) (fun h _=>by have:=s3 h; simp only [Bool.not_eq_true'] at this; exact this)
    have hx:(l.drop p).take (b - p)=[nth l p]:=by rw [show b - p=1 by omega]; exact xZ ow
    rw [Nat.sub_self,List.take_zero,dW,hx,a8c (fun y hy=>by
     obtain ⟨q1,q2⟩:=uM hy ow
     rw [q2]; simpa [ltF] using s4 ow)] at hlaw
    rw [hlaw]
    have hl:=four (l:=l) (a:=a) (m:=p) (b:=b) ow ow
    rw [hx,bV (l:=l) (a:=a) (k:=p - a) (s:=s - a) ow,show a+(s - a)=s by omega,show p - a - (s - a)=p - s by omega,List.append_assoc] at hl
    exact c3r cmp f xs (l.take a) ((l.drop a).take (s - a)) ((l.drop s).take (p - s)) (l.drop b) (nth l p) a p b n g s l hc hxs hn hnb hl yg_ pI pI c1 c2 hbn hs.symm
  have ih_at:∀ (a p b n g:Nat) (l:l9C),n=l.length->n < 1048576->a < p->p < b->b<=n->b - a < Nz->Srt (ltF cmp) ((l.drop a).take (p - a))->Srt (ltF cmp) ((l.drop p).take (b - p))->∀ H:Heap,AC 216 [(AV.osl 0 g 9 0 n),(iN a),(iN p),(iN b),(AV.func f xs)] (([(o_ g 9 (mC l))]:Heap)++H) (.tup [],([(o_ g 9 (mC (mAt (ltF cmp) a p b l)))]:Heap)++H) :=
   fun a p b n g l q1 q2 q3 q4 q5 q6 q7 q8 H=>(ih a p b n g l q1 q2 q3 q4 q5 q6 q7 q8).ext (by simp [AV.bdds,AV.bdd,hxs]) kr ob ob kr H
  obtain ⟨mid,hmid⟩:∃ mid,mid=(a+b) / 2:=⟨_,rfl⟩
  have go:∀ lo hi,lo<=hi->(∀ s,lo<=s->s<=hi->a<=s/\s<=p/\p<=mid+p - s/\mid+p - s<=b/\(s < p->p < mid+p - s->s < hi)/\(a < s->mid+p - s < b->lo < s)) ->
   (∀ s,s=bsr (fun c=>!decide (cmp (nth l (mid+p - 1 - c)) (nth l c) < 0)) (hi - lo) lo hi->lo<=s->s<=hi->∀ (L1 L2 R1 R2:l9C),l=l.take a++(L1++(L2++(R1++(R2++l.drop b))))->s=a+L1.length->p=s+L2.length->mid=s+R1.length->b=p+R1.length+R2.length->Srt (ltF cmp) L1->Srt (ltF cmp) L2->Srt (ltF cmp) R1->Srt (ltF cmp) R2 ->
    AC 216 [(AV.osl 0 g 9 0 n),(iN a),(iN p),(iN b),(AV.func f xs)] [(o_ g 9 (mC l))] (.tup [],([(o_ g 9 (mC (l.take a++(mg (ltF cmp) L1 R1++(mg (ltF cmp) L2 R2++l.drop b)))))]:Heap))) ->
   AC 216 [(AV.osl 0 g 9 0 n),(iN a),(iN p),(iN b),(AV.func f xs)] [(o_ g 9 (mC l))] (.tup [],([(o_ g 9 (mC (mAt (ltF cmp) a p b l)))]:Heap)):=by
   intro lo hi hlh hb walk
   obtain ⟨s1,s2,s3,s4⟩:=nN (fun c=>!decide (cmp (nth l (mid+p - 1 - c)) (nth l c) < 0)) (hi - lo) lo hi (Nat.le_refl _) hlh
   generalize hs:bsr (fun c=>!decide (cmp (nth l (mid+p - 1 - c)) (nth l c) < 0)) (hi - lo) lo hi=s at s1 s2 s3 s4
   obtain ⟨b1,b2,b3,b4,b5,b6⟩:=hb s s1 s2
   have hlaw:=mW W (l:=l) (a:=a) (p:=p) (b:=b) (s:=s) (e:=mid+p - s) ow ow ow h7 h8 b1 b2 b3 b4 (fun h1 h2=>by
    have:=s4 (b5 h1 h2)
    simp only [Bool.not_eq_false'] at this
    rwa [show mid+p - 1 - s=mid+p - s - 1 by omega] at this) (fun h1 h2=>by
    have:=s3 (b6 h1 h2)
    simp only [Bool.not_eq_true'] at this
    rwa [show mid+p - 1 - (s - 1)=mid+p - s by omega] at this)
   rw [hlaw]
   have hl:=four (l:=l) (a:=a) (m:=p) (b:=b) ow ow
   rw [bV (l:=l) (a:=a) (k:=p - a) (s:=s - a) ow,show a+(s - a)=s by omega,show p - a - (s - a)=p - s by omega,
    bV (l:=l) (a:=p) (k:=b - p) (s:=mid+p - s - p) ow,show p+(mid+p - s - p)=mid+p - s by omega,show b - p - (mid+p - s - p)=b - (mid+p - s) by omega,List.append_assoc,List.append_assoc] at hl
   have q1:=a0T (l:=l) (a:=a) (k:=p - a) (s:=s - a) ow h7
   have q2:=a0T (l:=l) (a:=p) (k:=b - p) (s:=mid+p - s - p) ow h8
   rw [show a+(s - a)=s by omega,show p - a - (s - a)=p - s by omega] at q1
   rw [show p+(mid+p - s - p)=mid+p - s by omega,show b - p - (mid+p - s - p)=b - (mid+p - s) by omega] at q2
   exact walk s hs.symm s1 s2 _ _ _ _ hl pI pI pI (by rw [jI ow,jI ow]; omega) q1.1 q1.2 q2.1 q2.2
  have hA:a=(l.take a).length:=by simp; omega
  by_cases hgt:mid < p
  · refine go (mid+p - b) mid ow (fun s h1 h2=>⟨by omega,by omega,by omega,by omega,fun _ _=>by omega,fun _ _=>by omega⟩) fun s hs h1 h2 L1 L2 R1 R2 hl e1 e2 e3 e4 q1 q2 q3 q4=>?_
    exact c3q cmp f xs (l.take a) L1 L2 R1 R2 (l.drop b) a p b n g s mid Nz l hc hxs hn hnb ih_at hl hA e1 e2 e3 e4 hbn hap hpb c1 c2 hmid ow hgt hs h1 h2 q1 q2 q3 q4
  · refine go a p ow (fun s h1 h2=>⟨by omega,by omega,by omega,by omega,fun _ _=>by omega,fun _ _=>by omega⟩) fun s hs h1 h2 L1 L2 R1 R2 hl e1 e2 e3 e4 q1 q2 q3 q4=>?_
    exact c3p cmp f xs (l.take a) L1 L2 R1 R2 (l.drop b) a p b n g s mid Nz l hc hxs hn hnb ih_at hl hA e1 e2 e3 e4 hbn hap hpb c1 c2 hmid ow ow hs h1 h2 q1 q2 q3 q4
end Go.Proofs.YtmghjcbabebanaaGreat.AM
namespace Go.Proofs.YtmghjcbabebanaaGreat.AM
open Go
section
variable {α:Type} [Inhabited α]
theorem b2z (cmp:α->α->Int) (X:List α) (j:Nat):∀ (l:List α),j < l.length->sink cmp X.length (X.length+j) (X++l)=X++sink cmp 0 j l:=by
 induction j with
 | zero =>
  intro l hl
  have h1:sink cmp X.length X.length (X++l)=X++l:=by
   cases h:X.length with
   | zero=>simp only [sink]
   | succ q=>simp only [sink]; rw [if_neg]; simp
  simpa [sink] using h1
 | succ j ih =>
  intro l hl
  have e1:nth (X++l) (X.length+j+1)=nth l (j+1):=by rw [nC,if_neg ya_]; congr 1; omega
  have e2:nth (X++l) (X.length+j)=nth l j:=by rw [nC,if_neg ya_]; congr 1; omega
  have L:sink cmp X.length (X.length+(j+1)) (X++l)=if decide (cmp (nth (X++l) (X.length+j+1)) (nth (X++l) (X.length+j)) < 0)=true then sink cmp X.length (X.length+j) (((X++l).set (X.length+j+1) (nth (X++l) (X.length+j))).set (X.length+j) (nth (X++l) (X.length+j+1))) else X++l:=by
   rw [<- Nat.add_assoc]; simp only [sink]; rw [if_pos yg_]
  have R:sink cmp 0 (j+1) l=if decide (cmp (nth l (j+1)) (nth l j) < 0)=true then sink cmp 0 j ((l.set (j+1) (nth l j)).set j (nth l (j+1))) else l:=by
   simp only [sink]; rw [if_pos ye_]
  rw [L,R,e1,e2]
  split
  · have e3:((X++l).set (X.length+j+1) (nth l j)).set (X.length+j) (nth l (j+1))=X++(l.set (j+1) (nth l j)).set j (nth l (j+1)):=by
     rw [List.set_append_right _ _ ya_,List.set_append_right _ _ ya_]
     congr 2
     · congr 1; omega
     · omega
    rw [e3]
    exact ih _ (by simpa using (by omega:j < l.length))
  · rfl
theorem a6r (cmp:α->α->Int) (X:List α) (k:Nat):∀ (i:Nat) (l:List α),i+k<=l.length->y5 cmp X.length k (X.length+i) (X++l)=X++y5 cmp 0 k i l:=by
 induction k with
 | zero=>intro i l _; simp only [y5]
 | succ k ih =>
  intro i l h
  simp only [y5]
  rw [b2z cmp X i l ya_]
  exact ih (i+1) _ (by rw [sD]; omega)
theorem b0A (cmp:α->α->Int) (Y:List α) (rest:List α):∀ (S:List α),y5 cmp 0 rest.length S.length (S++(rest++Y))=rest.foldl (Z4 fun a b=>decide (cmp a b < 0)) S++Y:=by
 induction rest with
 | nil=>intro S; simp only [List.length_nil,y5,List.nil_append,List.foldl_nil]
 | cons x rest ih =>
  intro S
  simp only [List.length_cons,y5,List.foldl_cons]
  have h1:=a7l cmp S.length (S++(x :: rest++Y)) ye_
  have e1:(S++(x :: rest++Y)).take S.length=S:=by rw [List.take_append_of_le_length (Nat.le_refl _),List.take_length]
  have e2:nth (S++(x :: rest++Y)) S.length=x:=by rw [nC,if_neg ya_,Nat.sub_self]; rfl
  have e3:(S++(x :: rest++Y)).drop (S.length+1)=rest++Y:=by
   rw [<- List.drop_drop,List.drop_append_of_le_length (Nat.le_refl _),List.drop_length]; rfl
  rw [e1,e2,e3] at h1
  rw [h1]
  have:=ih (Z4 (fun a b=>decide (cmp a b < 0)) S x)
  rw [a8q] at this
  exact this
theorem a0m (cmp:α->α->Int) (X M Y:List α) {a b:Nat} (ha:a=X.length) (hb:b=a+M.length):y5 cmp a (b - (a+1)) (a+1) (X++(M++Y))=X++(N8 (fun a b=>decide (cmp a b < 0)) M++Y):=by
 subst ha hb
 cases M with
 | nil=>rw [show X.length+([]:List α).length - (X.length+1)=0 by simp]; simp only [y5]; rfl
 | cons x M =>
  rw [show X.length+(x :: M).length - (X.length+1)=M.length by simp; omega,a6r cmp X M.length 1 (x :: M++Y) yg_]
  have:=b0A cmp Y M [x]
  simp only [List.length_singleton,List.singleton_append] at this
  rw [show x :: M++Y=x :: (M++Y) from rfl,this]
  have e:N8 (fun a b=>decide (cmp a b < 0)) (x :: M)=M.foldl (Z4 fun a b=>decide (cmp a b < 0)) [x]:=by
   unfold N8
   rw [List.foldl_cons]
   congr 1
  rw [e]
def blk (lt:α->α->Bool) (bs:Nat):Nat->List α->List α
 | 0,l=>l
 | K+1,l=>N8 lt (l.take bs)++blk lt bs K (l.drop bs)
theorem fA (lt:α->α->Bool) (l:List α):(N8 lt l).length=l.length:=(b2q lt l).length_eq
theorem b1I (lt:α->α->Bool) (bs K:Nat):blk lt bs K ([]:List α)=[]:=by
 induction K with
 | zero=>rfl
 | succ K ih=>simp only [blk,List.take_nil,List.drop_nil]; rw [ih]; rfl
theorem wU (lt:α->α->Bool) (bs K:Nat):∀ (l:List α),(blk lt bs K l).length=l.length:=by
 induction K with
 | zero=>intro l; rfl
 | succ K ih=>intro l; simp only [blk,List.length_append]; rw [fA,ih,List.length_take,List.length_drop]; omega
theorem a9k (lt:α->α->Bool) (bs K:Nat):∀ (l:List α),K * bs<=l.length->∃ X,X.length=K * bs/\blk lt bs K l=X++l.drop (K * bs)/\∀ (D:Nat),blk lt bs (K+D) l=X++blk lt bs D (l.drop (K * bs)):=by
 induction K with
 | zero=>intro l h; exact ⟨[],by simp,by simp [blk],fun D=>by simp⟩
 | succ K ih =>
  intro l h
  rw [Nat.succ_mul] at h
  obtain ⟨X,h1,h2,h3⟩:=ih (l.drop bs) yg_
  refine ⟨N8 lt (l.take bs)++X,by rw [List.length_append,fA,h1,Nat.succ_mul]; simp; omega,?_,fun D=>?_⟩
  · simp only [blk]
    rw [h2,List.drop_drop,List.append_assoc,Nat.succ_mul,Nat.add_comm bs]
  · rw [show K+1+D=(K+D)+1 by omega]
    simp only [blk]
    rw [h3,List.drop_drop,List.append_assoc,Nat.succ_mul,Nat.add_comm bs]
theorem a9l (lt:α->α->Bool) (bs D:Nat) (K:Nat):∀ (l:List α),l.length<=K * bs->blk lt bs (K+D) l=blk lt bs K l:=by
 induction K with
 | zero=>intro l h; obtain rfl:l=[]:=List.eq_nil_of_length_eq_zero ya_; rw [b1I,b1I]
 | succ K ih =>
  intro l h
  rw [Nat.succ_mul] at h
  rw [show K+1+D=(K+D)+1 by omega]
  simp only [blk]
  rw [ih _ yg_]
def fG (lt:α->α->Bool) (bs:Nat) (l:List α):List α:=blk lt bs (l.length+1) l
theorem wW (lt:α->α->Bool) {bs K:Nat} (hb:0 < bs) {l:List α} (h:l.length<=K * bs):blk lt bs K l=fG lt bs l:=by
 unfold fG
 have h2:l.length<=(l.length+1) * bs:=Nat.le_trans (Nat.le_succ _) (Nat.le_mul_of_pos_right _ hb)
 rcases Nat.le_total K (l.length+1) with h1 | h1
 · obtain ⟨D,hD⟩:=Nat.le.dest h1
   rw [<- hD,a9l lt bs D K l h]
 · obtain ⟨D,hD⟩:=Nat.le.dest h1
   rw [<- hD,a9l lt bs D _ l h2]
theorem nQ (lt:α->α->Bool) {bs:Nat} {l:List α} (h:l.length<=bs) (hb:0 < bs):fG lt bs l=N8 lt l:=by
 rw [<- wW lt (K:=1) hb ya_]
 simp only [blk]
 rw [List.take_of_length_le h,List.drop_of_length_le h,List.append_nil]
theorem a0D (lt:α->α->Bool) {bs:Nat} (hb:0 < bs) (l:List α):fG lt bs l=N8 lt (l.take bs)++fG lt bs (l.drop bs):=by
 have h2:∀ q:Nat,q<=(q+1) * bs:=fun q=>Nat.le_trans (Nat.le_succ _) (Nat.le_mul_of_pos_right _ hb)
 rw [<- wW lt (K:=(l.length+1)+1) hb (Nat.le_trans (h2 _) (Nat.mul_le_mul_right _ (Nat.le_succ _)))]
 have e:blk lt bs (l.length+1+1) l=N8 lt (l.take bs)++blk lt bs (l.length+1) (l.drop bs):=rfl
 rw [e,wW lt hb (Nat.le_trans ye_ (h2 l.length))]
theorem c6a (lt:α->α->Bool) (bs:Nat) (l:List α):(fG lt bs l).length=l.length:=wU lt bs _ l
def mix (lt:α->α->Bool) (bs:Nat):Nat->List α->List α
 | 0,l=>fG lt bs l
 | J+1,l=>N8 lt (l.take (2 * bs))++mix lt bs J (l.drop (2 * bs))
theorem a8a (lt:α->α->Bool) {bs:Nat} (hb:0 < bs) (J:Nat):∀ (l:List α),J * (2 * bs)<=l.length->∃ X,X.length=J * (2 * bs)/\mix lt bs J l=X++fG lt bs (l.drop (J * (2 * bs)))/\mix lt bs (J+1) l=X++(N8 lt ((l.drop (J * (2 * bs))).take (2 * bs))++fG lt bs ((l.drop (J * (2 * bs))).drop (2 * bs)))/\∀ D,blk lt (2 * bs) (J+D) l=X++blk lt (2 * bs) D (l.drop (J * (2 * bs))):=by
 induction J with
 | zero=>intro l h; exact ⟨[],by simp,by simp [mix],by simp [mix],fun D=>by simp⟩
 | succ J ih =>
  intro l h
  rw [Nat.succ_mul] at h
  obtain ⟨X,h1,h2,h3,h4⟩:=ih (l.drop (2 * bs)) yg_
  have hmul:(J+1) * (2 * bs)=J * (2 * bs)+2 * bs:=Nat.succ_mul _ _
  have hd0:(l.drop (2 * bs)).drop (J * (2 * bs))=l.drop ((J+1) * (2 * bs)):=by rw [List.drop_drop,hmul,Nat.add_comm]
  refine ⟨N8 lt (l.take (2 * bs))++X,by rw [List.length_append,fA,h1,hmul,List.length_take]; omega,?_,?_,fun D=>?_⟩
  · rw [mix,h2,hd0,List.append_assoc]
  · rw [mix,h3,hd0,List.append_assoc]
  · rw [show J+1+D=(J+D)+1 by omega]
    simp only [blk]
    rw [h4,hd0,List.append_assoc]
theorem b1y (lt:α->α->Bool) (bs J:Nat):∀ (l:List α),(mix lt bs J l).length=l.length:=by
 induction J with
 | zero=>intro l; exact c6a lt bs l
 | succ J ih=>intro l; simp only [mix,List.length_append]; rw [fA,ih,List.length_take,List.length_drop]; omega
variable {lt:α->α->Bool}
theorem a5y (W:R6 lt) {bs J:Nat} (hb:0 < bs) {l:List α} {a b:Nat} (ha:a=J * (2 * bs)) (hbe:b=a+2 * bs) (hn:b<=l.length) :
 mAt lt a (a+bs) b (mix lt bs J l)=mix lt bs (J+1) l/\Srt lt (((mix lt bs J l).drop a).take (a+bs - a))/\Srt lt (((mix lt bs J l).drop (a+bs)).take (b - (a+bs))):=by
 obtain ⟨X,h1,h2,h3,_⟩:=a8a lt hb J l ya_
 rw [<- ha] at h1 h2 h3
 rw [h2,h3,a0D lt hb,a0D lt hb ((l.drop a).drop bs)]
 have l1:(N8 lt ((l.drop a).take bs)).length=bs:=by rw [fA]; simp; omega
 have l2:(N8 lt (((l.drop a).drop bs).take bs)).length=bs:=by rw [fA]; simp; omega
 refine ⟨?_,?_,?_⟩
 · rw [a0h lt X _ _ _ h1.symm ya_ ya_,<- a5f W]
   have e:(l.drop a).take bs++((l.drop a).drop bs).take bs=(l.drop a).take (2 * bs):=by
    rw [show 2 * bs=bs+bs by omega,List.take_add]
   rw [e,List.drop_drop,show bs+bs=2 * bs by omega]
 · rw [piece X _ _ h1.symm ya_]; exact gK W _
 · have:=piece (X++N8 lt ((l.drop a).take bs)) (N8 lt (((l.drop a).drop bs).take bs)) (fG lt bs (((l.drop a).drop bs).drop bs)) (a:=a+bs) (k:=b - (a+bs)) (by simp [l1,h1]) ya_
   rw [List.append_assoc] at this
   rw [this]; exact gK W _
theorem yA (W:R6 lt) {bs J:Nat} (hb:0 < bs) {l:List α} {a n:Nat} (ha:a=J * (2 * bs)) (hn:n=l.length) (han:a<=n) (hlt:n < a+2 * bs) :
 (a+bs < n->mAt lt a (a+bs) n (mix lt bs J l)=fG lt (2 * bs) l/\Srt lt (((mix lt bs J l).drop a).take (a+bs - a))/\Srt lt (((mix lt bs J l).drop (a+bs)).take (n - (a+bs))))/\(n<=a+bs->mix lt bs J l=fG lt (2 * bs) l):=by
 obtain ⟨X,h1,h2,_,h4⟩:=a8a lt hb J l ya_
 rw [<- ha] at h1 h2
 have h5:=h4 1
 rw [wW lt ya_ (by rw [Nat.succ_mul]; omega),<- ha] at h5
 simp only [blk] at h5
 rw [List.take_of_length_le yg_,List.drop_of_length_le (i:=2 * bs) yg_,List.append_nil] at h5
 rw [h2,h5]
 refine ⟨fun h=>?_,fun h=>?_⟩
 · rw [a0D lt hb,nQ lt (l:=(l.drop a).drop bs) yg_ hb]
   have l1:(N8 lt ((l.drop a).take bs)).length=bs:=by rw [fA]; simp; omega
   have l2:(N8 lt ((l.drop a).drop bs)).length=n - (a+bs):=by rw [fA]; simp; omega
   refine ⟨?_,?_,?_⟩
   · have:=a0h lt X (N8 lt ((l.drop a).take bs)) (N8 lt ((l.drop a).drop bs)) [] (a:=a) (m:=a+bs) (b:=n) h1.symm ya_ ya_
     rw [List.append_nil,List.append_nil] at this
     rw [this,<- a5f W,List.take_append_drop]
   · rw [piece X _ _ h1.symm ya_]; exact gK W _
   · have:=piece (X++N8 lt ((l.drop a).take bs)) (N8 lt ((l.drop a).drop bs)) [] (a:=a+bs) (k:=n - (a+bs)) (by simp [l1,h1]) ya_
     rw [List.append_assoc,List.append_nil] at this
     rw [this]; exact gK W _
 · rw [nQ lt yg_ hb]
end
section
variable {α:Type} [Inhabited α]
theorem a7h (cmp:α->α->Int) {l:List α} {j a b:Nat} (ha:a=j * 20) (hb:b=a+20) (hn:b<=l.length):y5 cmp a (b - (a+1)) (a+1) (blk (ltF cmp) 20 j l)=blk (ltF cmp) 20 (j+1) l:=by
 obtain ⟨X,h1,h2,h3⟩:=a9k (ltF cmp) 20 j l ya_
 have h4:blk (ltF cmp) 20 1 (l.drop (j * 20))=N8 (ltF cmp) ((l.drop (j * 20)).take 20)++(l.drop (j * 20)).drop 20:=by simp only [blk]
 rw [h2,h3 1,h4,<- ha]
 have:=a0m cmp X ((l.drop a).take 20) ((l.drop a).drop 20) (a:=a) (b:=b) ya_ yg_
 rw [List.take_append_drop] at this
 exact this
theorem b1n (cmp:α->α->Int) {l:List α} {j a n:Nat} (ha:a=j * 20) (hn:n=l.length) (han:a<=n) (hlt:n < a+20):y5 cmp a (n - (a+1)) (a+1) (blk (ltF cmp) 20 j l)=fG (ltF cmp) 20 l:=by
 obtain ⟨X,h1,h2,h3⟩:=a9k (ltF cmp) 20 j l ya_
 have h4:blk (ltF cmp) 20 1 (l.drop (j * 20))=N8 (ltF cmp) ((l.drop (j * 20)).take 20)++(l.drop (j * 20)).drop 20:=by simp only [blk]
 rw [<- wW (ltF cmp) (bs:=20) (K:=j+1) ya_ ya_,h2,h3 1,h4,<- ha]
 have:=a0m cmp X (l.drop a) [] (a:=a) (b:=n) ya_ yg_
 rw [List.append_nil,List.append_nil] at this
 rw [this,List.take_of_length_le yg_,List.drop_of_length_le (i:=20) yg_,List.append_nil]
 rfl
end
open Go.Proofs.YtmghjcbabebanaaGreat
attribute [local irreducible] C9 D5 D8 D9 F3 F5 G9 I4 J6 K8 N8 N9 P6 R3 R8 R9 Tp.H7 Tp.J8 Tp.card Tp.cards Tp.key Tp.keyT Tp.next Tp.step blk cmpL fG j6 l6 l9 mAt mg mgL mix sink y5
theorem c3l (cmp:j5->j5->Int) (f:Nat) (xs:List AV) (a p b n g:Nat) (l:l9C) (hc:h9C cmp f xs) (hxs:AV.bdds 1 xs=true) (W:R6 (ltF cmp)) (h1:n=l.length) (h2:n < 1048576) (h3:a < p) (h4:p < b) (h5:b<=n) (h7:Srt (ltF cmp) ((l.drop a).take (p - a))) (h8:Srt (ltF cmp) ((l.drop p).take (b - p))):AC 216 [(AV.osl 0 g 9 0 n),(iN a),(iN p),(iN b),(AV.func f xs)] [(o_ g 9 (mC l))] ((AV.tup []),[(o_ g 9 (mC (mAt (ltF cmp) a p b l)))]):=d0e cmp f xs hc hxs W (b - a+1) a p b n g l h1 h2 h3 h4 h5 ow h7 h8
theorem b8j (cmp:j5->j5->Int) (f:Nat) (xs:List AV) (a p b n g:Nat) (l:l9C) (hc:h9C cmp f xs) (hxs:AV.bdds 1 xs=true) (W:R6 (ltF cmp)) (h1:n=l.length) (h2:n < 1048576) (h3:a < p) (h4:p < b) (h5:b<=n) (h7:Srt (ltF cmp) ((l.drop a).take (p - a))) (h8:Srt (ltF cmp) ((l.drop p).take (b - p))) (H:Heap):AC 216 [(AV.osl 0 g 9 0 n),(iN a),(iN p),(iN b),(AV.func f xs)] (([(o_ g 9 (mC l))]:Heap)++H) ((AV.tup []),([(o_ g 9 (mC (mAt (ltF cmp) a p b l)))]:Heap)++H):=(c3l cmp f xs a p b n g l hc hxs W h1 h2 h3 h4 h5 h7 h8).ext jX kr ob ob kr H
def fE:Ann:={ base:=1,fin:=some 1,live:=[(2,[0,1,2,6,7,8]),(7,[0,1,2,6]),(9,[0,1,2,6,7,8])],out:=[(2,[0,1,2,6,7]),(7,[]),(9,[0,1,2,6,7])] }
theorem aH {p:Prop} (h:p:=by first | exact hc | exact hxs | exact W | omega | (simp; omega)):p:=h
theorem a2R (cmp:j5->j5->Int) (f:Nat) (xs:List AV) (a b n g:Nat) (l:l9C) (hc:h9C cmp f xs) (hxs:AV.bdds 1 xs=true) (W:R6 (ltF cmp)) (hn:n=l.length) (hnb:n < 524288) (hb:b=a+20) (han:a<=n) {eX:Ex} {FX:Fr} {HX:Heap} (k1:(decide ((b:Int)<=(n:Int)))=true->j6 (l9 Tryz.prog (X fE) (x9 Tryz.f206 0)) (some [0,1,2,6,7,8]) (some [0,1,2,6,7]) (mkF 63 [(0,(AV.osl 0 g 9 0 n)),(1,(iN n)),(2,(AV.func f xs)),(6,(iI 20)),(7,(iN b)),(8,(iN (b+20)))]) [(o_ g 9 (mC (y5 cmp a (b - (a+1)) (a+1) l)))] eX FX HX) (k2:(decide ((b:Int)<=(n:Int)))=false->((.exit 0:Ex),(mkF 63 [(0,(AV.osl 0 g 9 0 n)),(1,(iN n)),(2,(AV.func f xs)),(6,(iI 20)),(7,(iN a))]),[(o_ g 9 (mC l))])=(eX,FX,HX)):j6 (l9 Tryz.prog (X fE) (x9 Tryz.f206 0)) (some [0,1,2,6,7,8]) (some [0,1,2,6,7]) (mkF 63 [(0,(AV.osl 0 g 9 0 n)),(1,(iN n)),(2,(AV.func f xs)),(6,(iI 20)),(7,(iN a)),(8,(iN b))]) [(o_ g 9 (mC l))] eX FX HX :=
 I9 (.r (.g (.two (decide ((b:Int)<=(n:Int))) (fun h1 h1'=>(.r (.t 4 (AV.tup []) [(o_ g 9 (mC (y5 cmp a (b - (a+1)) (a+1) l)))] (b1E _ f xs a b n g l aH aH aH aH aH aH []:AC 215 [(AV.osl 0 g 9 0 n),(iN a),(iN b),(AV.func f xs)] [(o_ g 9 (mC l))] ((AV.tup []),([(o_ g 9 (mC (y5 cmp a (b - (a+1)) (a+1) l)))]:Heap))) (.s (.s (.h' [(o_ g 9 (mC (y5 cmp a (b - (a+1)) (a+1) l)))] (.y 2 (iW ((b:Int)+20)) (iN (b+20)) Yes.o (.g (.l (k1 h1)))))))))) (fun h1 h1'=>(.l (k2 h1))))))
theorem b1O {p:Prop} (h:p:=by rw [wU]; exact hn):p:=h
theorem b2P (cmp:j5->j5->Int) (f:Nat) (xs:List AV) (hc:h9C cmp f xs) (hxs:AV.bdds 1 xs=true) (W:R6 (ltF cmp)) (n g:Nat) (l0:l9C) (hn:n=l0.length) (hnb:n < 524288) (r:Nat):∀ (j a b:Nat) (l:l9C),j+r=n / 20->a=j * 20->b=a+20->l=blk (ltF cmp) 20 j l0 ->
 j6 (l9 Tryz.prog (X fE) (x9 Tryz.f206 0)) (some [0,1,2,6,7,8]) (some [0,1,2,6,7]) (mkF 63 [(0,(AV.osl 0 g 9 0 n)),(1,(iN n)),(2,(AV.func f xs)),(6,(iI 20)),(7,(iN a)),(8,(iN b))]) [(o_ g 9 (mC l))] (.exit 0) (mkF 63 [(0,(AV.osl 0 g 9 0 n)),(1,(iN n)),(2,(AV.func f xs)),(6,(iI 20)),(7,(iN ((n / 20 * 20))))]) [(o_ g 9 (mC (blk (ltF cmp) 20 (n / 20) l0)))]:=by
 induction r with
 | zero =>
  intro j a b l hj ha hb hl
  subst hl
  refine a2R cmp f xs a b n g _ hc hxs W b1O hnb hb ow (fun h=>by simp at h; omega) (fun _=>?_)
  rw [show n / 20=j by omega,<- ha]
 | succ r ih =>
  intro j a b l hj ha hb hl
  subst hl
  refine a2R cmp f xs a b n g _ hc hxs W b1O hnb hb ow (fun h=>?_) (fun h=>by simp at h; omega)
  rw [a7h cmp ha hb ow]
  exact ih (j+1) b (b+20) _ ow ow rfl rfl
@[simp] abbrev b5I (a:Nat):=(IntKind.i64.wrap (2 * (a:Int)))
theorem a2Q (cmp:j5->j5->Int) (f:Nat) (xs:List AV) (bs a b n g:Nat) (l:l9C) (hc:h9C cmp f xs) (hxs:AV.bdds 1 xs=true) (W:R6 (ltF cmp)) (hn:n=l.length) (hnb:n < 524288) (hb:b=a+2 * bs) (hbs:0 < bs) (hbn:bs < 524288) (han:a<=n) (hs7:b<=n->Srt (ltF cmp) ((l.drop a).take (a+bs - a))) (hs8:b<=n->Srt (ltF cmp) ((l.drop (a+bs)).take (b - (a+bs)))) {eX:Ex} {FX:Fr} {HX:Heap} (k1:(decide ((b:Int)<=(n:Int)))=true->j6 (l9 Tryz.prog (X fE) (x9 Tryz.f206 2)) (some [0,1,2,6,7,8]) (some [0,1,2,6,7]) (mkF 63 [(0,(AV.osl 0 g 9 0 n)),(1,(iN n)),(2,(AV.func f xs)),(6,(iN bs)),(7,(iN b)),(8,(iN (b+(2 * bs))))]) [(o_ g 9 (mC (mAt (ltF cmp) a (a+bs) b l)))] eX FX HX) (k2:(decide ((b:Int)<=(n:Int)))=false->((.exit 4:Ex),(mkF 63 [(0,(AV.osl 0 g 9 0 n)),(1,(iN n)),(2,(AV.func f xs)),(6,(iN bs)),(7,(iN a))]),[(o_ g 9 (mC l))])=(eX,FX,HX)):j6 (l9 Tryz.prog (X fE) (x9 Tryz.f206 2)) (some [0,1,2,6,7,8]) (some [0,1,2,6,7]) (mkF 63 [(0,(AV.osl 0 g 9 0 n)),(1,(iN n)),(2,(AV.func f xs)),(6,(iN bs)),(7,(iN a)),(8,(iN b))]) [(o_ g 9 (mC l))] eX FX HX :=
 I9 (.r (.g (.two (decide ((b:Int)<=(n:Int))) (fun h1 h1'=>(.r (.y 4 (.int .i64 (fZ a bs)) (iN (a+bs)) Yes.o (.t 7 (AV.tup []) [(o_ g 9 (mC (mAt (ltF cmp) a (a+bs) b l)))] (b8j _ f xs a (a+bs) b n g l aH aH aH aH aH aH aH aH (hs7 a6Z) (hs8 a6Z) []:AC 216 [(AV.osl 0 g 9 0 n),(iN a),(iN (a+bs)),(iN b),(AV.func f xs)] [(o_ g 9 (mC l))] ((AV.tup []),([(o_ g 9 (mC (mAt (ltF cmp) a (a+bs) b l)))]:Heap))) (.s (.s (.h' [(o_ g 9 (mC (mAt (ltF cmp) a (a+bs) b l)))] (.y 2 (.int .i64 (b5I bs)) (iN (2 * bs)) Yes.o (.y 3 (iW ((b:Int)+((2 * bs:Nat):Int))) (iN (b+(2 * bs))) Yes.o (.g (.l (k1 h1)))))))))))) (fun h1 h1'=>(.l (k2 h1))))))
theorem b1N {p:Prop} (h:p:=by rw [b1y]; exact hn):p:=h
theorem b2O (cmp:j5->j5->Int) (f:Nat) (xs:List AV) (hc:h9C cmp f xs) (hxs:AV.bdds 1 xs=true) (W:R6 (ltF cmp)) (bs n g:Nat) (l0:l9C) (hn:n=l0.length) (hnb:n < 524288) (hbs:0 < bs) (hbn:bs < 524288) (J:Nat) (hJ:J=n / (2 * bs)) (r:Nat):∀ (j a b:Nat) (l:l9C),j+r=J->a=j * (2 * bs)->b=a+2 * bs->l=mix (ltF cmp) bs j l0 ->
 j6 (l9 Tryz.prog (X fE) (x9 Tryz.f206 2)) (some [0,1,2,6,7,8]) (some [0,1,2,6,7]) (mkF 63 [(0,(AV.osl 0 g 9 0 n)),(1,(iN n)),(2,(AV.func f xs)),(6,(iN bs)),(7,(iN a)),(8,(iN b))]) [(o_ g 9 (mC l))] (.exit 4) (mkF 63 [(0,(AV.osl 0 g 9 0 n)),(1,(iN n)),(2,(AV.func f xs)),(6,(iN bs)),(7,(iN ((J * (2 * bs)))))]) [(o_ g 9 (mC (mix (ltF cmp) bs J l0)))]:=by
 have hdm:=Nat.div_mul_le_self n (2 * bs)
 have hlt:=Nat.lt_div_mul_add (a:=n) (b:=2 * bs) ow
 rw [<- hJ] at hdm hlt
 induction r with
 | zero =>
  intro j a b l hj ha hb hl
  subst hl
  obtain rfl:j=J:=by omega
  refine a2Q cmp f xs bs a b n g _ hc hxs W b1N hnb hb hbs hbn ow (fun h=>by omega) (fun h=>by omega) (fun h=>by simp at h; omega) (fun _=>?_)
  rw [<- ha]
 | succ r ih =>
  intro j a b l hj ha hb hl
  subst hl
  have hmul:(j+1) * (2 * bs)=j * (2 * bs)+2 * bs:=Nat.succ_mul _ _
  have hle:(j+1) * (2 * bs)<=J * (2 * bs):=Nat.mul_le_mul_right _ ow
  obtain ⟨q1,q2,q3⟩:=a5y W hbs (l:=l0) ha hb ow
  refine a2Q cmp f xs bs a b n g _ hc hxs W b1N hnb hb hbs hbn ow (fun _=>q2) (fun _=>q3) (fun h=>?_) (fun h=>by simp at h; omega)
  rw [q1]
  exact ih (j+1) b (b+2 * bs) _ ow ow rfl rfl
@[simp] abbrev c8w (a:Nat) (b:Nat) (c:Nat) (d:List AV) (e:Nat):Fr:=(mkF 63 [(0,(AV.osl 0 a 9 0 b)),(1,(iN b)),(2,(AV.func c d)),(6,(iN (e * 2)))])
@[simp] abbrev d3L (a:Nat) (b:Nat) (c:Nat) (d:List AV) (e:Nat) (f:Nat):Fr:=(mkF 63 [(0,(AV.osl 0 a 9 0 b)),(1,(iN b)),(2,(AV.func c d)),(6,(iN e)),(7,(iN ((f * (2 * e)))))])
theorem pG {p:Prop} (h:p:=by first | exact hc | exact hxs | exact W | omega | (rw [b1y]; exact hn) | (simp; omega)):p:=h
theorem zP {p:Prop} (h:p:=by have:=of_decide_eq_true h2; omega):p:=h
@[simp] abbrev c5E :=(l9 Tryz.prog (X fE) (x9 Tryz.f206 1))
@[simp] abbrev b5H (a:Nat):=(IntKind.i64.wrap ((a:Int) * 2))
theorem a2P (cmp:j5->j5->Int) (f:Nat) (xs:List AV) (bs J n g:Nat) (l l0:l9C) (hc:h9C cmp f xs) (hxs:AV.bdds 1 xs=true) (W:R6 (ltF cmp)) (hn:n=l0.length) (hnb:n < 524288) (hbs:0 < bs) (hbn:bs < 1048576) (hl:l=fG (ltF cmp) bs l0) (hJ:J=n / (2 * bs)) (hJn:J * (2 * bs)<=n) (hs7:J * (2 * bs)+bs < n->Srt (ltF cmp) (((mix (ltF cmp) bs J l0).drop (J * (2 * bs))).take (J * (2 * bs)+bs - J * (2 * bs)))) (hs8:J * (2 * bs)+bs < n->Srt (ltF cmp) (((mix (ltF cmp) bs J l0).drop (J * (2 * bs)+bs)).take (n - (J * (2 * bs)+bs)))) {eX:Ex} {FX:Fr} {HX:Heap} (k1:(decide ((bs:Int) < (n:Int)))=true->(decide ((((J * (2 * bs))+bs:Nat):Int) < (n:Int)))=true->j6 c5E (some [0,1,2,6]) (some []) (c8w g n f xs bs) [(o_ g 9 (mC (mAt (ltF cmp) (J * (2 * bs)) ((J * (2 * bs))+bs) n (mix (ltF cmp) bs J l0))))] eX FX HX) (k2:(decide ((bs:Int) < (n:Int)))=true->(decide ((((J * (2 * bs))+bs:Nat):Int) < (n:Int)))=false->j6 c5E (some [0,1,2,6]) (some []) (c8w g n f xs bs) [(o_ g 9 (mC (mix (ltF cmp) bs J l0)))] eX FX HX) (k3:(decide ((bs:Int) < (n:Int)))=false->((.exit 2:Ex),(mkF 63 []),[(o_ g 9 (mC l))])=(eX,FX,HX)):j6 c5E (some [0,1,2,6]) (some []) (mkF 63 [(0,(AV.osl 0 g 9 0 n)),(1,(iN n)),(2,(AV.func f xs)),(6,(iN bs))]) [(o_ g 9 (mC l))] eX FX HX :=
 I9 (.r (.g (.two (decide ((bs:Int) < (n:Int))) (fun h1 h1'=>(.r (.y 1 (.int .i64 (b5I bs)) (iN (2 * bs)) Yes.o (.g (.loop (d3L g n f xs bs J) (b2O cmp f xs hc hxs W bs n g l0 hn hnb hbs ow J hJ J 0 0 (2 * bs) l ow ow ow (by rw [hl]; simp only [mix])) (.r (.y 2 (iW ((((J * (2 * bs)):Nat):Int)+(bs:Int))) (iN ((J * (2 * bs))+bs)) Yes.o (.s (.g (.two (decide ((((J * (2 * bs))+bs:Nat):Int) < (n:Int))) (fun h2 h2'=>(.r (.t 5 (AV.tup []) [(o_ g 9 (mC (mAt (ltF cmp) (J * (2 * bs)) ((J * (2 * bs))+bs) n (mix (ltF cmp) bs J l0))))] (b8j _ f xs (J * (2 * bs)) ((J * (2 * bs))+bs) n n g (mix (ltF cmp) bs J l0) pG pG pG pG pG pG zP ow (hs7 zP) (hs8 zP) []:AC 216 [(AV.osl 0 g 9 0 n),(iN ((J * (2 * bs)))),(iN ((J * (2 * bs))+bs)),(iN n),(AV.func f xs)] [(o_ g 9 (mC (mix (ltF cmp) bs J l0)))] ((AV.tup []),([(o_ g 9 (mC (mAt (ltF cmp) (J * (2 * bs)) ((J * (2 * bs))+bs) n (mix (ltF cmp) bs J l0))))]:Heap))) (.s (.h' [(o_ g 9 (mC (mAt (ltF cmp) (J * (2 * bs)) ((J * (2 * bs))+bs) n (mix (ltF cmp) bs J l0))))] (.y 1 (.int .i64 (b5H bs)) (iN (bs * 2)) Yes.o (.g (.l (k1 h1 h2))))))))) (fun h2 h2'=>(.r (.y 1 (.int .i64 (b5H bs)) (iN (bs * 2)) Yes.o (.g (.l (k2 h1 h2)))))))))))))))) (fun h1 h1'=>(.l (k3 h1))))))
theorem b1M {p:Prop} (h:p:=by rw [Nat.mul_comm]):p:=h
theorem b2N (cmp:j5->j5->Int) (f:Nat) (xs:List AV) (hc:h9C cmp f xs) (hxs:AV.bdds 1 xs=true) (W:R6 (ltF cmp)) (n g:Nat) (l0:l9C) (hn:n=l0.length) (hnb:n < 524288) (r:Nat):∀ (bs:Nat) (l:l9C),n - bs<=r->0 < bs->bs < 1048576->l=fG (ltF cmp) bs l0 ->
 j6 (l9 Tryz.prog (X fE) (x9 Tryz.f206 1)) (some [0,1,2,6]) (some []) (mkF 63 [(0,(AV.osl 0 g 9 0 n)),(1,(iN n)),(2,(AV.func f xs)),(6,(iN bs))]) [(o_ g 9 (mC l))] (.exit 2) (mkF 63 []) [(o_ g 9 (mC (N8 (ltF cmp) l0)))]:=by
 have key:∀ bs,0 < bs->(n / (2 * bs) * (2 * bs)<=n/\n < n / (2 * bs) * (2 * bs)+2 * bs):=fun bs hbs=>⟨Nat.div_mul_le_self n (2 * bs),Nat.lt_div_mul_add (a:=n) (b:=2 * bs) ow⟩
 induction r with
 | zero =>
  intro bs l h1 hbs hbn hl
  obtain ⟨k1,k2⟩:=key bs hbs
  obtain ⟨q1,q2⟩:=yA W hbs (l:=l0) (J:=n / (2 * bs)) rfl hn k1 k2
  refine a2P cmp f xs bs (n / (2 * bs)) n g l l0 hc hxs W hn hnb hbs hbn hl rfl k1 (fun h=>(q1 h).2.1) (fun h=>(q1 h).2.2) (fun h=>by simp at h; omega) (fun h=>by simp at h; omega) (fun _=>?_)
  rw [hl,nQ (ltF cmp) ow hbs]
 | succ r ih =>
  intro bs l h1 hbs hbn hl
  obtain ⟨k1,k2⟩:=key bs hbs
  obtain ⟨q1,q2⟩:=yA W hbs (l:=l0) (J:=n / (2 * bs)) rfl hn k1 k2
  refine a2P cmp f xs bs (n / (2 * bs)) n g l l0 hc hxs W hn hnb hbs hbn hl rfl k1 (fun h=>(q1 h).2.1) (fun h=>(q1 h).2.2) (fun h h2=>?_) (fun h h2=>?_) (fun h=>?_)
  · rw [(q1 zP).1]
    exact ih (bs * 2) _ pR ow pR b1M
  · rw [q2 (by have:=of_decide_eq_false h2; omega)]
    exact ih (bs * 2) _ pR ow pR b1M
  · rw [hl,nQ (ltF cmp) pR hbs]
@[simp] abbrev d3K (a:Nat) (b:Nat) (c:Nat) (d:List AV):Fr:=(mkF 63 [(0,(AV.osl 0 a 9 0 b)),(1,(iN b)),(2,(AV.func c d)),(6,(iI 20)),(7,(iN ((b / 20 * 20))))])
theorem pF {p:Prop} (h:p:=by first | exact hc | exact hxs | omega | (rw [wU]; omega) | (simp; omega)):p:=h
theorem b8i (cmp:j5->j5->Int) (f:Nat) (xs:List AV) (n g:Nat) (l:l9C) (hc:h9C cmp f xs) (hxs:AV.bdds 1 xs=true) (W:R6 (ltF cmp)) (hn:n=l.length) (hb:n < 524288):AC 206 [(AV.osl 0 g 9 0 n),(AV.int .i64 (n:Int)),(AV.func f xs)] [(o_ g 9 (List.map j5.row l))] ((AV.tup []),[(o_ g 9 (List.map j5.row (y5 cmp 0 (n - 1) 1 l)))]):=by
 have hq:(blk (ltF cmp) 20 (n / 20) l).length=n:=by rw [wU]; exact hn.symm
 have ht:=b1n cmp (l:=l) (j:=n / 20) (a:=n / 20 * 20) rfl hn ow ow
 have hfin:N8 (ltF cmp) l=y5 cmp 0 (n - 1) 1 l:=by subst hn; exact (pV cmp l).symm
 exact r9 (fn:=Tryz.f206) (ann:=fE) (Has.o Tryz.func206) (.r (.s (.g (.loop (d3K g n f xs) (b2P cmp f xs hc hxs W n g l hn hb (n / 20) 0 0 20 l ow rfl ow (by simp only [blk])) (.r (.t 4 (AV.tup []) [(o_ g 9 (List.map j5.row (y5 cmp (n / 20 * 20) (n - ((n / 20 * 20)+1)) ((n / 20 * 20)+1) (blk (ltF cmp) 20 (n / 20) l))))] (b1E _ f xs (n / 20 * 20) n n g (blk (ltF cmp) 20 (n / 20) l) pF pF pF pF pF pF []:AC 215 [(AV.osl 0 g 9 0 n),(AV.int .i64 (((n / 20 * 20):Nat):Int)),(AV.int .i64 (n:Int)),(AV.func f xs)] [(o_ g 9 (List.map j5.row (blk (ltF cmp) 20 (n / 20) l)))] ((AV.tup []),([(o_ g 9 (List.map j5.row (y5 cmp (n / 20 * 20) (n - ((n / 20 * 20)+1)) ((n / 20 * 20)+1) (blk (ltF cmp) 20 (n / 20) l))))]:Heap))) (.g (.loop (mkF 63 []) (b2N cmp f xs hc hxs W n g l hn hb n 20 (y5 cmp (n / 20 * 20) (n - ((n / 20 * 20)+1)) ((n / 20 * 20)+1) (blk (ltF cmp) 20 (n / 20) l)) ow ow ow ht) (.q 1 (AV.tup []) (by rw [hfin]))))))))))
theorem c9i (cmp:j5->j5->Int) (f:Nat) (xs:List AV) (n g:Nat) (l:l9C) (hc:h9C cmp f xs) (hxs:AV.bdds 1 xs=true) (W:R6 (ltF cmp)) (hn:n=l.length) (hb:n < 524288) (H:Heap):AC 206 [(AV.osl 0 g 9 0 n),(iN n),(AV.func f xs)] (([(o_ g 9 (mC l))]:Heap)++H) ((AV.tup []),([(o_ g 9 (mC (y5 cmp 0 (n - 1) 1 l)))]:Heap)++H):=(b8i cmp f xs n g l hc hxs W hn hb).ext jX kr ob ob kr H
def b2s:Ann:={ base:=1,fin:=some 1 }
theorem uX {p:Prop} (h:p:=by first | exact hc | exact hxs | exact W | omega):p:=h
theorem a9V (cmp:j5->j5->Int) (f:Nat) (xs:List AV) (n g:Nat) (l:l9C) (hc:h9C cmp f xs) (hxs:AV.bdds 1 xs=true) (W:R6 (ltF cmp)) (hn:n=l.length) (hb:n < 524288):AC 172 [(AV.osl 0 g 9 0 n),(AV.func f xs)] [(o_ g 9 (mC l))] ((AV.tup []),[(o_ g 9 (mC (y5 cmp 0 (n - 1) 1 l)))]) :=
 r9 (fn:=Tryz.f172) (ann:=b2s) (Has.o Tryz.func172) (.r (.t 4 (AV.tup []) [(o_ g 9 (mC (y5 cmp 0 (n - 1) 1 l)))] (c9i _ f xs n g l uX uX uX uX uX []:AC 206 [(AV.osl 0 g 9 0 n),(iN n),(AV.func f xs)] [(o_ g 9 (mC l))] ((AV.tup []),([(o_ g 9 (mC (y5 cmp 0 (n - 1) 1 l)))]:Heap))) (.g (.h' [(o_ g 9 (mC (y5 cmp 0 (n - 1) 1 l)))] (.q 1 (AV.tup []))))))
theorem b7L (cmp:j5->j5->Int) (f:Nat) (xs:List AV) (n g:Nat) (l:l9C) (hc:h9C cmp f xs) (hxs:AV.bdds 1 xs=true) (W:R6 (ltF cmp)) (hn:n=l.length) (hb:n < 524288) (H:Heap):AC 172 [(AV.osl 0 g 9 0 n),(AV.func f xs)] (([(o_ g 9 (mC l))]:Heap)++H) ((AV.tup []),([(o_ g 9 (mC (y5 cmp 0 (n - 1) 1 l)))]:Heap)++H):=(a9V cmp f xs n g l hc hxs W hn hb).ext jX kr ob ob kr H
end Go.Proofs.YtmghjcbabebanaaGreat.AM
namespace Go.Proofs.YtmghjcbabebanaaGreat.AM
open Go Go.Proofs.YtmghjcbabebanaaGreat
attribute [local irreducible] F5 J6 j6 l6 l9
structure rH where
 l:List j5
 deriving Inhabited
def rH.row (x:rH):List AV:=[(sA 9 (mC x.l))]
@[simp] theorem rH.R7 (n:Nat) (x:rH):AV.bdds n x.row=true:=by simp [rH.row,AV.bdds,AV.bdd]
@[simp] theorem rH.y8 (n:Nat) (l:List rH):AV.D7 n (l.map rH.row)=true:=by induction l with | nil=>rfl | cons x l ih=>simp [AV.D7,rH.R7,ih]
theorem d3p:R6 (ltF fun a b:j5=>R8 a.key b.key):=d3q
theorem wZ {p:Prop} (h:p:=by with_unfolding_all rfl):p:=h
theorem a2B (l:l9C) (hl:l.length < 1000):AC 128 [(sA 9 (mC l))] [] ((AV.sl .cn 9 (mC (G9 l))),[]):=by
 have hpl:=oF l
 exact r9 (fn:=Tryz.f128) (ann:=a6k) (Has.o Tryz.func128) (.r (.s (.ch 1 [(o_ 0 9 (mC l))] (c0K l oa []) (.s (.ch 1 [(o_ 0 9 (mC (y5 (fun a b=>R8 a.key b.key) 0 (l.length - 1) 1 l)))] (b7L (fun a b=>R8 a.key b.key) 173 [] l.length 0 l (fun x y H=>b2p x y H) (rfl) (d3p) oa oa []) (.w' 3 (mC (y5 (fun a b=>R8 a.key b.key) 0 (l.length - 1) 1 l)) (And.intro (G8 (room:=none) kr (by first | omega | (simp [bS]; done) | (simp [bS]; omega))) (j5.y8 _ _):G6 [(o_ 0 9 (mC (y5 (fun a b=>R8 a.key b.key) 0 (l.length - 1) 1 l)))] 9 (AV.osl 0 0 9 0 l.length)=some (mC (y5 (fun a b=>R8 a.key b.key) 0 (l.length - 1) 1 l))/\AV.D7 0 (mC (y5 (fun a b=>R8 a.key b.key) 0 (l.length - 1) 1 l))=true) (.s (.c 1 ((b4O (y5 (fun a b=>R8 a.key b.key) 0 (l.length - 1) 1 l) (by rw [bS]; omega)).lift kr kr [(o_ 1 9 [])]) (.g (.h' [] (.q 0 (AV.sl .cn 9 (mC (y5 (fun a b=>R8 a.key b.key) 0 (l.length - 1) 1 l))) wZ)))))))))))
theorem mO (l:l9C) (hl:l.length < 1000):AC 128 [(sA 9 (mC l))] [] ((sA 9 (mC (G9 l))),[]):=(a2B l hl).post ⟨rfl,rfl,.inl rfl⟩
attribute [local irreducible] G9
attribute [local irreducible] C9 D5 D8 D9 F3 I4 K8 M9 N9 P6 R3 R8 R9 Tp.H7 Tp.J8 Tp.card Tp.cards Tp.key Tp.keyT Tp.next Tp.step U1 U5 U6 Y4 a0v bU cmpL fM gG jA nE ofB sink vD wB y5
@[simp] abbrev c8v (a:l9C):Fr:=(mkF 22 [(3,(AV.osl 0 (U1 a).length 9 0 (U1 a).length)),(6,(sA 9 (mC a))),(7,(iN a.length)),(8,(iN a.length))])
theorem a2J (l:l9C) (hl:l.length < 1000):AC 161 [(sA 9 (mC l))] [] ((sA 9 (mC (U6 l))),[]):=by
 have hk:=a5M l
 exact r9 (fn:=Tryz.f161) (ann:=a1J) (Has.o Tryz.func161) (.r (.s (.s (.h' [(o_ 0 9 (mC []))] (.y 1 (.int .i64 ((List.length (mC l):Nat):Int)) (iN l.length) (Yes.len _ _ _) (.g (.loop (c8v l) (show j6 b5K (some [3,6,7,8]) (some [3,6,7,8]) (mkF 22 [(3,(AV.osl 0 0 9 0 0)),(6,(sA 9 (mC l))),(7,(iN l.length)),(8,z_)]) [(o_ 0 9 (mC []))] (.exit 0) (c8v l) [(o_ ((U1 l).length) 9 (mC (U1 l)))] from (b7X l ow (List.length l) [] 0 0 0 (U1 l,(U1 l).length,(U1 l).length) ow rfl ow (b7Y _))) (.r (.w 3 (mC (U1 l)) (And.intro (G8 (room:=none) kr om) (j5.y8 _ _):G6 [(o_ ((U1 l).length) 9 (mC (U1 l)))] 9 (AV.osl 0 (U1 l).length 9 0 (U1 l).length)=some (mC (U1 l))/\AV.D7 0 (mC (U1 l))=true) (.c 1 ((mO (U1 l) oa).lift kr kr [(o_ ((U1 l).length+1) 9 [])]) (.g (.h' [] (.q 0 (sA 9 (mC (G9 (U1 l)))) wZ)))))))))))))
@[simp] abbrev d1t (a:l9C):=(sA 1 (List.map rU8 (List.foldl jA [] (U6 a))))
@[simp] abbrev c8u (a:l9C):Fr:=(mkF 31 [(3,(d1t a)),(7,(sA 9 (mC (U6 a)))),(8,(iN ((U6 a).length))),(9,(iN ((U6 a).length)))])
theorem a9Z (l:l9C) (hl:l.length < 1000):AC 213 [(sA 9 (mC l))] [] ((sA 1 (List.map rU8 (gG l))),[]):=by
 have h1:=a5l l
 exact r9 (fn:=Tryz.f213) (ann:=zX) (Has.o Tryz.func213) (.r (.s (.s (.c 1 ((a2J l oa).lift kr kr []) (.y 2 (.int .i64 ((List.length (mC (U6 l)):Nat):Int)) (iN ((U6 l).length)) (Yes.len _ _ _) (.g (.loop (c8u l) (show j6 c5P (some [3,7,8,9]) (some [3,7,8,9]) (mkF 31 [(3,(sA 1 [])),(7,(sA 9 (mC (U6 l)))),(8,(iN ((U6 l).length))),(9,z_)]) [] (.exit 0) (c8u l) [] from (b2E (U6 l) ow (List.length (U6 l)) [] 0 (List.foldl jA [] (U6 l)) ow ye_ (b2F _))) (.qr 0 (d1t l) wZ))))))))
def a9Y:Ann:={ fin:=some 0 }
theorem a7s (l:l9C) (hl:l.length < 1000):AC 204 [(sA 9 (mC l))] [] ((AV.int .u32 (ofB l)),[]):=by
 have h1:=b7Z l
 exact r9 (fn:=Tryz.f204) (ann:=a9Y) (Has.o Tryz.func204) (.r (.s (.c 1 ((a9Z l oa).lift kr kr []) (.c 2 ((c2K (gG l) oa).lift kr kr []) (.q 0 (AV.int .u32 (vD (gG l))) wZ)))))
def rQ:Ann:={ fin:=some 0,live:=[(2,[0,1,7,8])],out:=[(2,[4])] }
theorem yE (p:j5->Bool) (f:Nat) (xs:List AV) (l:l9C) (i:Nat) (hc:∀ (x:j5) (H:Heap),AC f ([AV.agg (j5.row x)]++xs) H (bB (p x),H)) (hl:l.length < 1099511627776) (hi:i<=l.length) {eX:Ex} {FX:Fr} {HX:Heap} (k1:(decide ((i:Int) < (l.length:Int)))=true->(p (nth l i))=true->((.ret:Ex),(mkF 19 [(4,(iN i))]),[])=(eX,FX,HX)) (k2:(decide ((i:Int) < (l.length:Int)))=true->(p (nth l i))=false->j6 (l9 Tryz.prog (X rQ) (x9 Tryz.f105 0)) (some [0,1,7,8]) (some [4]) (mkF 19 [(0,(sA 9 (mC l))),(1,(AV.func f xs)),(7,(iN l.length)),(8,(iN (i+1)))]) [] eX FX HX) (k3:(decide ((i:Int) < (l.length:Int)))=false->((.exit 0:Ex),(mkF 19 []),[])=(eX,FX,HX)):j6 (l9 Tryz.prog (X rQ) (x9 Tryz.f105 0)) (some [0,1,7,8]) (some [4]) (mkF 19 [(0,(sA 9 (mC l))),(1,(AV.func f xs)),(7,(iN l.length)),(8,(iN i))]) [] eX FX HX :=
 I9 (.r (.g (.two (decide ((i:Int) < (l.length:Int))) (fun h1 h1'=>(.r (.s (.is 3 9 9 (mC l) (i:Int) (j5.row (nth l i)) (N7.mk _ ow ow) (.c 5 (hc (nth l i) []) (.g (.two (p (nth l i)) (fun h2 h2'=>(.r (.g (.l (k1 h1 h2))))) (fun h2 h2'=>(.r (.y 0 (.int .i64 (cb_ i)) (iN (i+1)) Yes.o (.g (.l (k2 h1 h2))))))))))))) (fun h1 h1'=>(.l (k3 h1))))))
theorem c4z (p:j5->Bool) (f:Nat) (xs:List AV) (l:l9C) (hc:∀ (x:j5) (H:Heap),AC f ([AV.agg (j5.row x)]++xs) H (bB (p x),H)) (hl:l.length < 1099511627776) (n:Nat) (hn:n < l.length) (hp:p (nth l n)=true) (r:Nat):∀ (i:Nat),i+r=n->(∀ j,i<=j->j < n->p (nth l j)=false) ->
 j6 (l9 Tryz.prog (X rQ) (x9 Tryz.f105 0)) (some [0,1,7,8]) (some [4]) (mkF 19 [(0,(sA 9 (mC l))),(1,(AV.func f xs)),(7,(iN l.length)),(8,(iN i))]) [] (.ret) (mkF 19 [(4,(iN n))]) []:=by
 induction r with
 | zero =>
  intro i hi h
  obtain rfl:i=n:=by omega
  refine yE p f xs l i hc hl ow (fun _ _=>rfl) (fun _ h2=>?_) (fun h1=>?_)
  · rw [hp] at h2; simp at h2
  · simp at h1; omega
 | succ r ih =>
  intro i hi h
  refine yE p f xs l i hc hl ow (fun _ h2=>?_) (fun _ h2=>?_) (fun h1=>?_)
  · rw [h i (Nat.le_refl _) ow] at h2; simp at h2
  · exact ih (i+1) ow (fun j h3 h4=>h j ow h4)
  · simp at h1; omega
theorem c4A (p:j5->Bool) (f:Nat) (xs:List AV) (l:l9C) (hc:∀ (x:j5) (H:Heap),AC f ([AV.agg (j5.row x)]++xs) H (bB (p x),H)) (hl:l.length < 1099511627776) (r:Nat):∀ (i:Nat),i+r=l.length->(∀ j,i<=j->j < l.length->p (nth l j)=false) ->
 j6 (l9 Tryz.prog (X rQ) (x9 Tryz.f105 0)) (some [0,1,7,8]) (some [4]) (mkF 19 [(0,(sA 9 (mC l))),(1,(AV.func f xs)),(7,(iN l.length)),(8,(iN i))]) [] (.exit 0) (mkF 19 []) []:=by
 induction r with
 | zero =>
  intro i hi h
  refine yE p f xs l i hc hl ow (fun h1 _=>?_) (fun h1 h2=>?_) (fun h1=>rfl)
  · simp at h1; omega
  · simp at h1; omega
 | succ r ih =>
  intro i hi h
  refine yE p f xs l i hc hl ow (fun _ h2=>?_) (fun _ h2=>?_) (fun h1=>?_)
  · rw [h i (Nat.le_refl _) ow] at h2; simp at h2
  · exact ih (i+1) ow (fun j h3 h4=>h j ow h4)
  · simp at h1; omega
@[simp] abbrev d4M (a:l9C) (b:Nat) (c:List AV):Fr:=(mkF 19 [(0,(sA 9 (mC a))),(1,(AV.func b c)),(7,(iN a.length)),(8,z_)])
theorem b9t (p:j5->Bool) (f:Nat) (xs:List AV) (l:l9C) (n:Nat) (hc:∀ (x:j5) (H:Heap),AC f ([AV.agg (j5.row x)]++xs) H (bB (p x),H)) (hxs:AV.bdds 0 xs=true) (hl:l.length < 1099511627776) (hn:n < l.length) (hp:p (nth l n)=true) (h:∀ j,0<=j->j < n->p (nth l j)=false):AC 105 [(sA 9 (mC l)),(AV.func f xs)] [] ((iN n),[]) :=
 r9 (fn:=Tryz.f105) (ann:=rQ) (Has.o Tryz.func105) (.r (.s (.y 1 (.int .i64 ((List.length (mC l):Nat):Int)) (iN l.length) (Yes.len _ _ _) (.g (.loop (mkF 19 [(4,(iN n))]) (c4z p f xs l hc hl n hn hp n 0 ow h) (.q 0 (iN n)))))))
theorem b9u (p:j5->Bool) (f:Nat) (xs:List AV) (l:l9C) (hc:∀ (x:j5) (H:Heap),AC f ([AV.agg (j5.row x)]++xs) H (bB (p x),H)) (hxs:AV.bdds 0 xs=true) (hl:l.length < 1099511627776) (h:∀ j,0<=j->j < l.length->p (nth l j)=false):AC 105 [(sA 9 (mC l)),(AV.func f xs)] [] ((iI (-1)),[]) :=
 r9 (fn:=Tryz.f105) (ann:=rQ) (Has.o Tryz.func105) (.r (.s (.y 1 (.int .i64 ((List.length (mC l):Nat):Int)) (iN l.length) (Yes.len _ _ _) (.g (.loop (mkF 19 []) (c4A p f xs l hc hl l.length 0 ow h) (.qr 0 (iI (-1))))))))
theorem a2a (p:j5->Bool) (f:Nat) (xs:List AV) (l:l9C) (hc:∀ (x:j5) (H:Heap),AC f ([AV.agg (j5.row x)]++xs) H (bB (p x),H)) (hxs:AV.bdds 0 xs=true) (hl:l.length < 1099511627776):AC 105 [(sA 9 (mC l)),(AV.func f xs)] [] ((iI (ixI p l)),[]):=by
 unfold ixI
 cases h:kK p l 0 with
 | none=>exact b9u p f xs l hc hxs hl (fun j _ hj=>oI l 0 h j hj)
 | some n =>
  obtain ⟨_,h2,h3,h4⟩:=oH l 0 n h
  exact b9t p f xs l n hc hxs hl ow h3 (fun j _ hj=>h4 j hj)
theorem b9s (p:j5->Bool) (f:Nat) (xs:List AV) (l:l9C) (hc:∀ (x:j5) (H:Heap),AC f ([AV.agg (j5.row x)]++xs) H (bB (p x),H)) (hxs:AV.bdds 0 xs=true) (hl:l.length < 1099511627776) (H:Heap):AC 105 [(sA 9 (mC l)),(AV.func f xs)] H ((iI (ixI p l)),H):=(a2a p f xs l hc hxs hl).lift jX kr H
def b1J:j5:=⟨⟨⟨#[]⟩,⟨#[]⟩⟩,0,0,0,⟨0,0,0⟩,false⟩
def isKey (k:Key) (x:j5):Bool:=Key.eqb x.key k
def X8 (l:List j5) (k:Key):j5:=if ixI (isKey k) l < 0 then b1J else nth l (ixI (isKey k) l).toNat
def inC (l:List j5) (k:Key):Bool:=!decide (ixI (isKey k) l < 0)
def b4h:Ann:={ refs:=[2],fin:=some 0 }
theorem b0D (x:j5) (k:Key) :AC 129 [(AV.agg (j5.row x)),(AV.ref (Key.row k) 0)] [] ((bB (isKey k x)),[]) :=
 r9 (fn:=Tryz.f129) (ann:=b4h) (Has.o Tryz.func129) (.r (.g (.qr 0 (bB (Key.eqb x.key k)))))
theorem b9T (x:j5) (k:Key)  (H:Heap):AC 129 [(AV.agg (j5.row x)),(AV.ref (Key.row k) 0)] H ((bB (isKey k x)),H):=(b0D x k ).lift kr kr H
def b9U:Ann:={ refs:=[3],fin:=some 0 }
theorem a3l (l:l9C) (k:Key) (hl:l.length < 1099511627776):AC 72 [(sA 9 (mC l)),(AV.agg (Key.row k))] [] ((AV.tup [(AV.agg (j5.row (X8 l k))),(bB (inC l k))]),[]):=by
 have h1:=d0n (isKey k) l
 have h2:=d0o (isKey k) l
 exact r9 (fn:=Tryz.f72) (ann:=b9U) (Has.o Tryz.func72) (.r (.s (.c 2 (b9s (isKey k) 129 [(AV.ref (Key.row k) 0)] l (fun x H=>b9T x k H) (rfl) oa vY) (.s (.g (.two (decide ((ixI (isKey k) l) < 0)) (fun h1 h1'=>(.qr 0 (AV.tup [(AV.agg [e_,e_,z_,z_,z_,z_,z_,z_,bF]),bF]) (by (try delta vY); by_cases h0:ixI (isKey k) l < 0 <;> first | (simp_all [X8,inC,j5.row,Key.row,p9.row,b1J]; done) | (exfalso; omega) | (simp only [X8,inC,if_neg h0,decide_eq_false h0]; rfl)))) (fun h1 h1'=>(.r (.h' vY (.is 2 9 9 (mC l) (ixI (isKey k) l) (j5.row (nth l (Int.toNat (ixI (isKey k) l)))) (N7.mk _ ow ow) (.g (.h' [] (.q 0 (AV.tup [(AV.agg (j5.row (nth l (Int.toNat (ixI (isKey k) l))))),bT]) (by (try delta vY); by_cases h0:ixI (isKey k) l < 0 <;> first | (simp_all [X8,inC,j5.row,Key.row,p9.row,b1J]; done) | (exfalso; omega) | (simp only [X8,inC,if_neg h0,decide_eq_false h0]; rfl)))))))))))))))
attribute [local irreducible] L8 X8 inC isKey ixI
theorem a5O {α β:Type} (p:α->Bool) (f:α->β) (l:List α):∀ (out:List β) (k g:Nat),
 l.foldl (fun (s:List β × Nat × Nat) c=>if p c=true then (s.1++[f c],s.2.1+1,s.2.2+1) else s) (out,k,g)=(out++(l.filter p).map f,k+((l.filter p).map f).length,g+((l.filter p).map f).length):=by
 induction l with
 | nil=>intro out k g; simp
 | cons c l ih =>
  intro out k g
  rw [List.foldl_cons]
  by_cases h:p c=true
  · rw [if_pos h,ih]; simp [List.filter_cons,h]; omega
  · rw [if_neg h,ih]; simp [List.filter_cons,h]
def a0F (other:List j5) (c:j5):Bool:=!(inC other c.key) || decide (L8 (X8 other c.key).stamp c.stamp < 0)
def I8 (l other:List j5):List j5:=l.filter (a0F other)
theorem a3C (l other:l9C):(I8 l other).length<=l.length:=List.length_filter_le _ _
def a0E:Ann:={ gha:=[(1,.vir 5 9),(8,.cut 1),(9,.frz 4)],fin:=some 0,live:=[(3,[1,5,10,11,12])],out:=[(3,[1,5,10,11,12])] }
@[simp] abbrev d2Q (a:l9C) (b:Nat) (c:Nat) (d:l9C) (e:Nat):Fr:=(mkF 38 [(1,(sA 9 (mC a))),(5,(cw_ b c)),(10,(sA 9 (mC d))),(11,(iN d.length)),(12,(iN (e+1)))])
@[simp] abbrev c6Q (a:l9C) (b:Nat) (c:Nat) (d:l9C) (e:Nat):Fr:=(mkF 38 [(1,(sA 9 (mC a))),(5,(AV.osl 0 b 9 0 c)),(10,(sA 9 (mC d))),(11,(iN d.length)),(12,(iN e))])
@[simp] abbrev c8K (a:l9C) (b:l9C) (c:Nat):Ob:=(o_ 0 9 [(j5.row (X8 a (nth b c).key))])
@[simp] abbrev b7b (a:Nat) (b:l9C) (c:l9C) (d:Nat) (e:l9C):Heap:=[(o_ a 9 (mC b)),(o_ 0 9 [(j5.row (nth c d))]),c8K e c d]
@[simp] abbrev d2P (a:Nat) (b:l9C) (c:l9C) (d:Nat) (e:l9C):Heap:=[a3Z a b c d,(o_ 0 9 [(j5.row (nth c d))]),c8K e c d]
@[simp] abbrev b5G :=(l9 Tryz.prog (X a0E) (x9 Tryz.f127 0))
theorem a3A (l:l9C) (other:l9C) (out:l9C) (k:Nat) (g:Nat) (i:Nat) (hl:l.length < 1048576) (ho:other.length < 1048576) (hk:k=out.length) (hki:k<=i) (hle_:i<=l.length) {eX:Ex} {FX:Fr} {HX:Heap} (k1:(decide ((i:Int) < (l.length:Int)))=true->(!(inC other (nth l i).key))=true->j6 b5G (some [1,5,10,11,12]) (some [1,5,10,11,12]) (d2Q other g k l i) (a0O g out l i) eX FX HX) (k2:(decide ((i:Int) < (l.length:Int)))=true->(!(inC other (nth l i).key))=false->(decide (L8 (X8 other (nth l i).key).stamp (nth l i).stamp < 0))=true->j6 b5G (some [1,5,10,11,12]) (some [1,5,10,11,12]) (d2Q other g k l i) (a0O g out l i) eX FX HX) (k3:(decide ((i:Int) < (l.length:Int)))=true->(!(inC other (nth l i).key))=false->(decide (L8 (X8 other (nth l i).key).stamp (nth l i).stamp < 0))=false->j6 b5G (some [1,5,10,11,12]) (some [1,5,10,11,12]) (mkF 38 [(1,(sA 9 (mC other))),(5,(AV.osl 0 g 9 0 k)),(10,(sA 9 (mC l))),(11,(iN l.length)),(12,(iN (i+1)))]) [(o_ g 9 (mC out))] eX FX HX) (k4:(decide ((i:Int) < (l.length:Int)))=false->((.exit 0:Ex),(c6Q other g k l i),[(o_ g 9 (mC out))])=(eX,FX,HX)):j6 b5G (some [1,5,10,11,12]) (some [1,5,10,11,12]) (c6Q other g k l i) [(o_ g 9 (mC out))] eX FX HX :=
 I9 (.r (.g (.two (decide ((i:Int) < (l.length:Int))) (fun h1 h1'=>(.r (.h' [(o_ g 9 (mC out)),(o_ 0 9 [[e_,e_,z_,z_,z_,z_,z_,z_,bF]])] (.is 0 9 9 (mC l) (i:Int) (j5.row (nth l i)) (N7.mk _ ow ow) (.s (.c 3 ((a3l other (nth l i).key oa).lift kr kr [(o_ g 9 (mC out)),(o_ 0 9 [(j5.row (nth l i))]),(o_ 0 9 [[e_,e_,z_,z_,z_,z_,z_,z_,bF]])]) (.s (.two (!(inC other (nth l i).key)) (fun h2 h2'=>(.u4 (.ru (.h' (b7b g out l i other) (.ap 3 30 (AV.osl 0 g 9 0 k) (cy_ l i) (cw_ g k) (d2P g out l i other) (G7 (row:=j5.row) (l:=out) (x:=(nth l i)) (T:=tt) (e:=50) (te:=dB) (z:=1) (b:=24) (y:=[.sl .nil 0 []]) kr kr rfl E5 E5 kr Y5 rfl rfl jF) (.s (.y 0 (.int .i64 (cb_ i)) (iN (i+1)) Yes.o (.h' (a0O g out l i) (.b 1 (.g (.l (k1 h1 h2)))))))))))) (fun h2 h2'=>(.n4 (.c 7 ((vE (X8 other (nth l i).key).stamp (nth l i).stamp).lift kr kr (b7b g out l i other)) (.g (.two (decide (L8 (X8 other (nth l i).key).stamp (nth l i).stamp < 0)) (fun h3 h3'=>(.r (.h' (b7b g out l i other) (.ap 3 30 (AV.osl 0 g 9 0 k) (cy_ l i) (cw_ g k) (d2P g out l i other) (G7 (row:=j5.row) (l:=out) (x:=(nth l i)) (T:=tt) (e:=50) (te:=dB) (z:=1) (b:=24) (y:=[.sl .nil 0 []]) kr kr rfl E5 E5 kr Y5 rfl rfl jF) (.s (.y 0 (.int .i64 (cb_ i)) (iN (i+1)) Yes.o (.h' (a0O g out l i) (.b 1 (.g (.l (k2 h1 h2 h3))))))))))) (fun h3 h3'=>(.r (.h' (b7b g out l i other) (.y 0 (.int .i64 (cb_ i)) (iN (i+1)) Yes.o (.h' [(o_ g 9 (mC out))] (.b 1 (.g (.l (k3 h1 h2 h3)))))))))))))))))))))) (fun h1 h1'=>(.l (k4 h1))))))
def nR (l:List j5) (other:List j5) (i:Nat) (s:(List j5) × Nat × Nat):(List j5) × Nat × Nat:=(if (!(inC other (nth l i).key))=true then (s.1++[(nth l i)],(s.2.1+1),(s.2.2+1)) else (if (decide (L8 (X8 other (nth l i).key).stamp (nth l i).stamp < 0))=true then (s.1++[(nth l i)],(s.2.1+1),(s.2.2+1)) else (s.1,s.2.1,s.2.2)))
theorem b6a (l:l9C) (other:l9C) (hl:l.length < 1048576) (ho:other.length < 1048576)  (r_:Nat):∀ (out:l9C) (k:Nat) (g:Nat) (i:Nat) (sF:(l9C) × Nat × Nat),i+r_=l.length->k=out.length->k<=i->sF=iter (nR l other) r_ i (out,k,g) ->
 j6 (l9 Tryz.prog (X a0E) (x9 Tryz.f127 0)) (some [1,5,10,11,12]) (some [1,5,10,11,12]) (c6Q other g k l i) [(o_ g 9 (mC out))] (.exit 0) (mkF 38 [(1,(sA 9 (mC other))),(5,(AV.osl 0 sF.2.2 9 0 sF.2.1)),(10,(sA 9 (mC l))),(11,(iN l.length)),(12,(iN l.length))]) [(o_ sF.2.2 9 (mC sF.1))]:=by
 induction r_ with
 | zero =>
  intro out k g i sF hi_ hk hki  hF
  obtain rfl:l.length=i:=by omega
  have e_:sF=(out,k,g):=hF
  refine a3A l other out k g l.length hl ho hk hki (Nat.le_refl _) (fun h _=>by simp at h <;> omega) (fun h _ _=>by simp at h <;> omega) (fun h _ _=>by simp at h <;> omega) (fun _=>?_)
  first | done | rfl | (rw [e_]; done) | (rw [e_]; rfl)
 | succ r_ ih =>
  intro out k g i sF hi_ hk hki  hF
  refine a3A l other out k g i hl ho hk hki ow (fun h1 h2=>?_) (fun h1 h2 h3=>?_) (fun h1 h2 h3=>?_) (fun h=>by simp at h <;> omega)
  · exact ih (out++[(nth l i)]) (k+1) (g+1) (i+1) sF ow U2 U2  (by rw [hF] <;> simp only [iter,nR,h2,if_true,Bool.false_eq_true,if_false])
  · exact ih (out++[(nth l i)]) (k+1) (g+1) (i+1) sF ow U2 U2  (by rw [hF] <;> simp only [iter,nR,h2,h3,if_true,Bool.false_eq_true,if_false])
  · exact ih out k g (i+1) sF ow U2 U2  (by rw [hF] <;> simp only [iter,nR,h2,h3,if_true,Bool.false_eq_true,if_false])
theorem b6b (l other:l9C):(I8 l other,(I8 l other).length,(I8 l other).length)=iter (nR l other) l.length 0 ([],0,0):=by
 rw [dX (nR l other) (fun s c=>if a0F other c=true then (s.1++[c],s.2.1+1,s.2.2+1) else s) l (fun i s hi=>?_)]
 · rw [a5O (a0F other) (fun c=>c) l]; simp [I8]
 · simp only [nR,a0F]
   by_cases h1:inC other (nth l i).key=true <;> by_cases h2:L8 (X8 other (nth l i).key).stamp (nth l i).stamp < 0 <;> simp [h1,h2]
@[simp] abbrev d4I (a:l9C) (b:l9C):Fr:=(mkF 38 [(1,(sA 9 (mC a))),(5,(AV.osl 0 (I8 b a).length 9 0 (I8 b a).length)),(10,(sA 9 (mC b))),(11,(iN b.length)),(12,(iN b.length))])
@[simp] abbrev d4H (a:l9C) (b:l9C):Heap:=[(o_ ((I8 a b).length) 9 (mC (I8 a b)))]
theorem a3B (l other:l9C) (hl:l.length < 1048576) (ho:other.length < 1048576):AC 127 [(sA 9 (mC l)),(sA 9 (mC other))] [] ((sA 9 (mC (I8 l other))),[]):=by
 have hk:=a3C l other
 exact r9 (fn:=Tryz.f127) (ann:=a0E) (Has.o Tryz.func127) (.r (.s (.s (.h' [(o_ 0 9 (mC []))] (.y 1 (.int .i64 ((List.length (mC l):Nat):Int)) (iN l.length) (Yes.len _ _ _) (.g (.loop (d4I other l) (b6a l other hl ho (List.length l) [] 0 0 0 ((I8 l other),(I8 l other).length,(I8 l other).length) ow rfl ow (b6b l other)) (.r (.w' 4 (mC (I8 l other)) (And.intro (G8 (room:=none) kr om) (j5.y8 _ _):G6 (d4H l other) 9 (AV.osl 0 (I8 l other).length 9 0 (I8 l other).length)=some (mC (I8 l other))/\AV.D7 0 (mC (I8 l other))=true) (.g (.h' [] (.q 0 (sA 9 (mC (I8 l other)))))))))))))))
theorem a8V (l:l9C) (hl:l.length < 1099511627776):AC 137 [(sA 9 (mC l))] [] ((sA 9 (mC l)),[]):=by
 have h1:=(vQ l hl).a4w (xs:=l.map j5.row) (G8 (room:=none) kr (by first | omega | simp)) (j5.y8 _ _)
 exact l6.forget (H2:=[]) (X:=[(o_ 1 9 [])]) h1 rfl kr (fun id o ho=>by simp at ho)
def a2i:Ann:={ gh:=[(8,.frz 8)],gha:=[(2,.vir 8 2),(7,.cut 1)],fin:=some 0,live:=[(4,[6,7,8,17,18,19])],out:=[(4,[6,7,8,17,18,19])] }
@[simp] abbrev d2O (a:Nat) (b:l9K) (c:l9C) (d:Nat):Heap:=[(o_ (a+1) 2 (mK (b++[(nth c d).key])))]
@[simp] abbrev c6P (a:l9C) (b:l9C) (c:Nat) (d:Nat) (e:l9C) (f:Nat):Fr:=(mkF 33 [(6,(sA 9 (mC a))),(7,(sA 9 (mC b))),(8,(AV.osl 0 c 2 0 d)),(17,(sA 9 (mC e))),(18,(iN e.length)),(19,(iN f))])
@[simp] abbrev c5D :=(l9 Tryz.prog (X a2i) (x9 Tryz.f70 0))
theorem a5Z (l:l9C) (a:l9C) (b:l9C) (out:l9K) (k:Nat) (g:Nat) (i:Nat) (hl:l.length < 1048576) (hk:k=out.length) (hki:k<=i) (hle_:i<=l.length) {eX:Ex} {FX:Fr} {HX:Heap} (k1:(decide ((i:Int) < (l.length:Int)))=true->j6 c5D (some [6,7,8,17,18,19]) (some [6,7,8,17,18,19]) (mkF 33 [(6,(sA 9 (mC a))),(7,(sA 9 (mC b))),(8,(AV.osl 0 (g+1) 2 0 (k+1))),(17,(sA 9 (mC l))),(18,(iN l.length)),(19,(iN (i+1)))]) (d2O g out l i) eX FX HX) (k2:(decide ((i:Int) < (l.length:Int)))=false->((.exit 0:Ex),(c6P a b g k l i),[(o_ g 2 (mK out))])=(eX,FX,HX)):j6 c5D (some [6,7,8,17,18,19]) (some [6,7,8,17,18,19]) (c6P a b g k l i) [(o_ g 2 (mK out))] eX FX HX :=
 I9 (.r (.g (.two (decide ((i:Int) < (l.length:Int))) (fun h1 h1'=>(.r (.h' [(o_ g 2 (mK out)),(o_ 0 9 [[e_,e_,z_,z_,z_,z_,z_,z_,bF]])] (.is 0 9 9 (mC l) (i:Int) (j5.row (nth l i)) (N7.mk _ ow ow) (.s (.h' [(o_ g 2 (mK out)),(o_ 0 9 [(j5.row (nth l i))])] (.ap 4 31 (AV.osl 0 g 2 0 k) (AV.sl .clip 2 [(Key.row (nth l i).key)]) (AV.osl 0 (g+1) 2 0 (k+1)) [(o_ (g+1) 2 (mK (out++[(nth l i).key]))),(o_ 0 9 [(j5.row (nth l i))])] (G7 (row:=Key.row) (l:=out) (x:=(nth l i).key) (T:=tt) (e:=28) (te:=a4g) (z:=1) (b:=24) (y:=[.sl .nil 0 []]) kr kr rfl E5 E5 kr Y5 rfl rfl b1U) (.s (.y 0 (.int .i64 (cb_ i)) (iN (i+1)) Yes.o (.h' (d2O g out l i) (.b 1 (.g (.l (k1 h1)))))))))))))) (fun h1 h1'=>(.l (k2 h1))))))
def a0w (l:List j5) (a:List j5) (b:List j5) (i:Nat) (s:(List Key) × Nat × Nat):(List Key) × Nat × Nat:=(s.1++[(nth l i).key],(s.2.1+1),(s.2.2+1))
theorem c0G (l:l9C) (a:l9C) (b:l9C) (hl:l.length < 1048576)  (r_:Nat):∀ (out:l9K) (k:Nat) (g:Nat) (i:Nat) (sF:(l9K) × Nat × Nat),i+r_=l.length->k=out.length->k<=i->sF=iter (a0w l a b) r_ i (out,k,g) ->
 j6 (l9 Tryz.prog (X a2i) (x9 Tryz.f70 0)) (some [6,7,8,17,18,19]) (some [6,7,8,17,18,19]) (c6P a b g k l i) [(o_ g 2 (mK out))] (.exit 0) (mkF 33 [(6,(sA 9 (mC a))),(7,(sA 9 (mC b))),(8,(AV.osl 0 sF.2.2 2 0 sF.2.1)),(17,(sA 9 (mC l))),(18,(iN l.length)),(19,(iN l.length))]) [(o_ sF.2.2 2 (mK sF.1))]:=by
 induction r_ with
 | zero =>
  intro out k g i sF hi_ hk hki  hF
  obtain rfl:l.length=i:=by omega
  have e_:sF=(out,k,g):=hF
  refine a5Z l a b out k g l.length hl hk hki (Nat.le_refl _) (fun h=>by simp at h <;> omega) (fun _=>?_)
  first | done | rfl | (rw [e_]; done) | (rw [e_]; rfl)
 | succ r_ ih =>
  intro out k g i sF hi_ hk hki  hF
  refine a5Z l a b out k g i hl hk hki ow (fun h1=>?_) (fun h=>by simp at h <;> omega)
  · exact ih (out++[(nth l i).key]) (k+1) (g+1) (i+1) sF ow U2 U2  (by rw [hF] <;> simp only [iter,a0w,if_true,Bool.false_eq_true,if_false])
theorem b0F {α:Type} (l:List α):l.filter (fun _=>true)=l:=by induction l with | nil=>rfl | cons x l ih=>simp [List.filter_cons]
def aN (l:List j5):List Key:=l.map (·.key)
theorem b9l (l:l9C):(aN l).length=l.length:=by simp [aN]
theorem c0H (l a b:l9C):(aN l,(aN l).length,(aN l).length)=iter (a0w l a b) l.length 0 ([],0,0):=by
 rw [dX (a0w l a b) (fun s c=>if (fun _=>true) c=true then (s.1++[c.key],s.2.1+1,s.2.2+1) else s) l (fun i s hi=>by simp [a0w])]
 rw [a5O (fun _=>true) (fun c:j5=>c.key) l,b0F]; simp [aN]
def W9 (mine dig:List j5):List Key:=aN (I8 (D5 dig) (D5 mine))
def X0 (mine dig:List j5):List j5:=I8 (D5 mine) (D5 dig)
def bE (l:List j5):List j5:=(G9 l).take (min (G9 l).length 64)
def yQ:Ann:={ gh:=[(10,.frz 6)],gha:=[(2,.vir 6 9),(9,.cut 1)],fin:=some 0,live:=[(4,[1,5,6,13,14,15])],out:=[(4,[1,5,6,13,14,15])] }
@[simp] abbrev c8M (a:Nat) (b:l9C) (c:l9C) (d:l9K) (e:Nat):Heap:=[(o_ (a+1) 9 (mC (b++[(X8 c (nth d e))])))]
@[simp] abbrev c8L (a:l9K) (b:l9C) (c:Nat) (d:Nat) (e:Nat):Fr:=(mkF 41 [(1,(sA 2 (mK a))),(5,(sA 9 (mC b))),(6,(AV.osl 0 c 9 0 d)),(13,(sA 2 (mK a))),(14,(iN a.length)),(15,(iN (e+1)))])
@[simp] abbrev b7c (a:l9K) (b:l9C) (c:Nat) (d:Nat) (e:Nat):Fr:=(mkF 41 [(1,(sA 2 (mK a))),(5,(sA 9 (mC b))),(6,(AV.osl 0 c 9 0 d)),(13,(sA 2 (mK a))),(14,(iN a.length)),(15,(iN e))])
@[simp] abbrev zD (a:Nat) (b:l9C) (c:l9K) (d:Nat) (e:l9C):Heap:=[(o_ a 9 (mC b)),(o_ 0 2 [(Key.row (nth c d))]),(o_ 0 9 [(j5.row (X8 e (nth c d)))])]
@[simp] abbrev a9h :=(l9 Tryz.prog (X yQ) (x9 Tryz.f36 0))
theorem a1C (keys:l9K) (l:l9C) (out:l9C) (k:Nat) (g:Nat) (i:Nat) (hl:l.length < 1048576) (hks:keys.length < 1048576) (hk:k=out.length) (hki:k<=i) (hle_:i<=keys.length) {eX:Ex} {FX:Fr} {HX:Heap} (k1:(decide ((i:Int) < (keys.length:Int)))=true->(inC l (nth keys i))=true->(!(dY (keys.take i) (nth keys i)))=true->j6 a9h (some [1,5,6,13,14,15]) (some [1,5,6,13,14,15]) (mkF 41 [(1,(sA 2 (mK keys))),(5,(sA 9 (mC l))),(6,(cw_ g k)),(13,(sA 2 (mK keys))),(14,(iN keys.length)),(15,(iN (i+1)))]) (c8M g out l keys i) eX FX HX) (k2:(decide ((i:Int) < (keys.length:Int)))=true->(inC l (nth keys i))=true->(!(dY (keys.take i) (nth keys i)))=false->j6 a9h (some [1,5,6,13,14,15]) (some [1,5,6,13,14,15]) (c8L keys l g k i) [(o_ g 9 (mC out))] eX FX HX) (k3:(decide ((i:Int) < (keys.length:Int)))=true->(inC l (nth keys i))=false->j6 a9h (some [1,5,6,13,14,15]) (some [1,5,6,13,14,15]) (c8L keys l g k i) [(o_ g 9 (mC out))] eX FX HX) (k4:(decide ((i:Int) < (keys.length:Int)))=false->((.exit 0:Ex),(b7c keys l g k i),[(o_ g 9 (mC out))])=(eX,FX,HX)):j6 a9h (some [1,5,6,13,14,15]) (some [1,5,6,13,14,15]) (b7c keys l g k i) [(o_ g 9 (mC out))] eX FX HX :=
 I9 (.r (.g (.two (decide ((i:Int) < (keys.length:Int))) (fun h1 h1'=>(.r (.h' [(o_ g 9 (mC out)),(o_ 0 2 [[e_,e_]])] (.is 1 2 2 (mK keys) (i:Int) (Key.row (nth keys i)) (N7.mk _ ow ow) (.s (.c 2 ((a3l l (nth keys i) oa).lift kr kr [(o_ g 9 (mC out)),(o_ 0 2 [(Key.row (nth keys i))]),(o_ 0 9 [[e_,e_,z_,z_,z_,z_,z_,z_,bF]])]) (.s (.two (inC l (nth keys i)) (fun h2 h2'=>(.u2 (.t 4 (sA 2 (mK (keys.take i))) (zD g out keys i l) (xH (l:=0) (h:=i) om om om om a7a:Option.map (fun a=>(a,(zD g out keys i l))) (if 2=2\/((mK keys)).isEmpty=true then (bounds 0 (i:Int) (List.length (mK keys))).map fun p=>sA 2 ((List.take p.2 (mK keys)).drop p.1) else none)=some ((sA 2 (mK (keys.take i))),(zD g out keys i l))) (.u2 (.c 6 ((a1w (keys.take i) (nth keys i) oa).lift kr kr (zD g out keys i l)) (.u (.g (.two (!(dY (keys.take i) (nth keys i))) (fun h3 h3'=>(.r (.h' (zD g out keys i l) (.ap 3 30 (AV.osl 0 g 9 0 k) (AV.sl .clip 9 [(j5.row (X8 l (nth keys i)))]) (cw_ g k) [(o_ (g+1) 9 (mC (out++[(X8 l (nth keys i))]))),(o_ 0 2 [(Key.row (nth keys i))]),(o_ 0 9 [(j5.row (X8 l (nth keys i)))])] (G7 (row:=j5.row) (l:=out) (x:=(X8 l (nth keys i))) (T:=tt) (e:=50) (te:=dB) (z:=1) (b:=24) (y:=[.sl .nil 0 []]) kr kr rfl E5 E5 kr Y5 rfl rfl jF) (.s (.y 0 (.int .i64 (cb_ i)) (iN (i+1)) Yes.o (.h' (c8M g out l keys i) (.b 1 (.g (.l (k1 h1 h2 h3))))))))))) (fun h3 h3'=>(.r (.h' (zD g out keys i l) (.y 0 (.int .i64 (cb_ i)) (iN (i+1)) Yes.o (.h' [(o_ g 9 (mC out))] (.b 1 (.g (.l (k2 h1 h2 h3))))))))))))))))) (fun h2 h2'=>(.n5 (.rn (.h' (zD g out keys i l) (.y 0 (.int .i64 (cb_ i)) (iN (i+1)) Yes.o (.h' [(o_ g 9 (mC out))] (.b 1 (.g (.l (k3 h1 h2)))))))))))))))))) (fun h1 h1'=>(.l (k4 h1))))))
def jQ (keys:List Key) (l:List j5) (i:Nat) (s:(List j5) × Nat × Nat):(List j5) × Nat × Nat:=(if (inC l (nth keys i))=true then (if (!(dY (keys.take i) (nth keys i)))=true then (s.1++[(X8 l (nth keys i))],(s.2.1+1),(s.2.2+1)) else (s.1,s.2.1,s.2.2)) else (s.1,s.2.1,s.2.2))
theorem b1k (keys:l9K) (l:l9C) (hl:l.length < 1048576) (hks:keys.length < 1048576)  (r_:Nat):∀ (out:l9C) (k:Nat) (g:Nat) (i:Nat) (sF:(l9C) × Nat × Nat),i+r_=keys.length->k=out.length->k<=i->sF=iter (jQ keys l) r_ i (out,k,g) ->
 j6 (l9 Tryz.prog (X yQ) (x9 Tryz.f36 0)) (some [1,5,6,13,14,15]) (some [1,5,6,13,14,15]) (b7c keys l g k i) [(o_ g 9 (mC out))] (.exit 0) (mkF 41 [(1,(sA 2 (mK keys))),(5,(sA 9 (mC l))),(6,(AV.osl 0 sF.2.2 9 0 sF.2.1)),(13,(sA 2 (mK keys))),(14,(iN keys.length)),(15,(iN keys.length))]) [(o_ sF.2.2 9 (mC sF.1))]:=by
 induction r_ with
 | zero =>
  intro out k g i sF hi_ hk hki  hF
  obtain rfl:keys.length=i:=by omega
  have e_:sF=(out,k,g):=hF
  refine a1C keys l out k g keys.length hl hks hk hki (Nat.le_refl _) (fun h _ _=>by simp at h <;> omega) (fun h _ _=>by simp at h <;> omega) (fun h _=>by simp at h <;> omega) (fun _=>?_)
  first | done | rfl | (rw [e_]; done) | (rw [e_]; rfl)
 | succ r_ ih =>
  intro out k g i sF hi_ hk hki  hF
  refine a1C keys l out k g i hl hks hk hki ow (fun h1 h2 h3=>?_) (fun h1 h2 h3=>?_) (fun h1 h2=>?_) (fun h=>by simp at h <;> omega)
  · exact ih (out++[(X8 l (nth keys i))]) (k+1) (g+1) (i+1) sF ow U2 U2  (by rw [hF] <;> simp only [iter,jQ,h2,h3,if_true,Bool.false_eq_true,if_false])
  · exact ih out k g (i+1) sF ow U2 U2  (by rw [hF] <;> simp only [iter,jQ,h2,h3,if_true,Bool.false_eq_true,if_false])
  · exact ih out k g (i+1) sF ow U2 U2  (by rw [hF] <;> simp only [iter,jQ,h2,if_true,Bool.false_eq_true,if_false])
def aD (l:List j5):List Key->List Key->List j5
 | _,[]=>[]
 | seen,k :: ks=>if inC l k=true then if (!(dY seen k))=true then X8 l k :: aD l (seen++[k]) ks else aD l (seen++[k]) ks else aD l (seen++[k]) ks
theorem c2I {α:Type} [Inhabited α] {l:List α} {i:Nat} (h:i < l.length):l.take (i+1)=l.take i++[nth l i]:=by
 rw [List.take_add_one,List.getElem?_eq_getElem h]
 simp [nth,List.getD_eq_getElem?_getD,List.getElem?_eq_getElem h]
theorem c5Z (l:l9C) (ks:l9K):∀ (seen:l9K),(aD l seen ks).length<=ks.length:=by
 induction ks with
 | nil=>intro s; simp [aD]
 | cons k ks ih =>
  intro s
  have:=ih (s++[k])
  simp only [aD]
  split
  · split
    · simp only [List.length_cons]; omega
    · simp only [List.length_cons]; omega
  · simp only [List.length_cons]; omega
theorem a9s (keys:l9K) (l:l9C) (r:Nat):∀ (i:Nat) (out:l9C) (k g:Nat),i+r=keys.length ->
 iter (jQ keys l) r i (out,k,g)=(out++aD l (keys.take i) (keys.drop i),k+(aD l (keys.take i) (keys.drop i)).length,g+(aD l (keys.take i) (keys.drop i)).length):=by
 induction r with
 | zero =>
  intro i out k g hi
  have:keys.drop i=[]:=List.drop_of_length_le ow
  rw [this]; simp [iter,aD]
 | succ r ih =>
  intro i out k g hi
  rw [Y7 ow]
  simp only [iter,aD,jQ]
  rw [<- c2I ow]
  split
  · split
    · rw [ih (i+1) _ _ _ ow]; simp; omega
    · rw [ih (i+1) _ _ _ ow]
  · rw [ih (i+1) _ _ _ ow]
def nP (l:List j5) (keys:List Key):List j5:=aD (D5 l) [] keys
theorem b1l (keys:l9K) (l:l9C):(aD l [] keys,(aD l [] keys).length,(aD l [] keys).length)=iter (jQ keys l) keys.length 0 ([],0,0):=by
 rw [a9s keys l keys.length 0 [] 0 0 ow]; simp
attribute [local irreducible] I8 a0F aD bE
@[simp] abbrev d1H (a:l9C):Fr:=(mkF 40 [(3,(AV.osl 0 (R3 (G9 a)).2 9 0 (R3 (G9 a)).1.length)),(8,(sA 9 (mC (G9 a)))),(9,(iN ((G9 a).length))),(10,(iN ((G9 a).length)))])
@[simp] abbrev c6e (a:l9C):Heap:=[(o_ ((R3 (G9 a)).2) 9 (mC (R3 (G9 a)).1))]
theorem yC (l:l9C) (hl:l.length < 1000):AC 71 [(sA 9 (mC l))] [] ((sA 9 (mC (D5 l))),[]):=by
 have hs:=oF l
 exact r9 (fn:=Tryz.f71) (ann:=a1Z) (Has.o Tryz.func71) (.r (.s (.s (.c 1 ((mO l oa).lift kr kr [(o_ 0 9 (mC []))]) (.h' [(o_ 0 9 (mC []))] (.y 2 (.int .i64 ((List.length (mC (G9 l)):Nat):Int)) (iN ((G9 l).length)) (Yes.len _ _ _) (.g (.loop (d1H l) (show j6 cx_ (some [3,8,9,10]) (some [3,8,9,10]) (mkF 40 [(3,(AV.osl 0 0 9 0 0)),(8,(sA 9 (mC (G9 l)))),(9,(iN ((G9 l).length))),(10,z_)]) [(o_ 0 9 (mC []))] (.exit 0) (d1H l) (c6e l) from (b9k (G9 l) (List.length (G9 l)) [] 0 0 0 _ ow rfl ow ow (by unfold R3; rfl))) (.r (.w' 2 (mC (R3 (G9 l)).1) (And.intro (G8 (room:=none) kr om) (j5.y8 _ _):G6 (c6e l) 9 (AV.osl 0 (R3 (G9 l)).2 9 0 (R3 (G9 l)).1.length)=some (mC (R3 (G9 l)).1)/\AV.D7 0 (mC (R3 (G9 l)).1)=true) (.g (.h' [] (.q 0 (sA 9 (mC (R3 (G9 l)).1)) (by (try delta c6e); with_unfolding_all rfl))))))))))))))
@[simp] abbrev d1G (a:l9C) (b:l9C):Fr:=(mkF 33 [(6,(sA 9 (mC (D5 a)))),(7,(sA 9 (mC (D5 b)))),(8,(AV.osl 0 (aN (I8 (D5 b) (D5 a))).length 2 0 (aN (I8 (D5 b) (D5 a))).length)),(17,(sA 9 (mC (I8 (D5 b) (D5 a))))),(18,(iN ((I8 (D5 b) (D5 a)).length))),(19,(iN ((I8 (D5 b) (D5 a)).length)))])
@[simp] abbrev c6d (a:l9C) (b:l9C):Heap:=[(o_ ((aN (I8 (D5 a) (D5 b))).length) 2 (mK (aN (I8 (D5 a) (D5 b)))))]
theorem yK (mine dig:l9C) (hm:mine.length < 1000) (hd:dig.length < 1000):AC 70 [(sA 9 (mC mine)),(sA 9 (mC dig))] [] ((AV.tup [(sA 2 (mK (W9 mine dig))),(sA 9 (mC (X0 mine dig)))]),[]):=by
 have h1:=a0i mine
 have h2:=a0i dig
 have h3:=a3C (D5 dig) (D5 mine)
 have h4:=b9l (I8 (D5 dig) (D5 mine))
 exact r9 (fn:=Tryz.f70) (ann:=a2i) (Has.o Tryz.func70) (.r (.s (.c 1 ((yC mine oa).lift kr kr []) (.c 3 ((yC dig oa).lift kr kr []) (.s (.s (.c 2 ((a3B (D5 dig) (D5 mine) oa oa).lift kr kr [(o_ 0 2 (mK []))]) (.h' [(o_ 0 2 (mK []))] (.y 3 (.int .i64 ((List.length (mC (I8 (D5 dig) (D5 mine))):Nat):Int)) (iN ((I8 (D5 dig) (D5 mine)).length)) (Yes.len _ _ _) (.g (.loop (d1G mine dig) (show j6 c5D (some [6,7,8,17,18,19]) (some [6,7,8,17,18,19]) (mkF 33 [(6,(sA 9 (mC (D5 mine)))),(7,(sA 9 (mC (D5 dig)))),(8,(AV.osl 0 0 2 0 0)),(17,(sA 9 (mC (I8 (D5 dig) (D5 mine))))),(18,(iN ((I8 (D5 dig) (D5 mine)).length))),(19,z_)]) [(o_ 0 2 (mK []))] (.exit 0) (d1G mine dig) (c6d dig mine) from (c0G (I8 (D5 dig) (D5 mine)) (D5 mine) (D5 dig) ow (List.length (I8 (D5 dig) (D5 mine))) [] 0 0 0 (aN (I8 (D5 dig) (D5 mine)),(aN (I8 (D5 dig) (D5 mine))).length,(aN (I8 (D5 dig) (D5 mine))).length) ow rfl ow (c0H _ _ _))) (.r (.w 8 (mK (aN (I8 (D5 dig) (D5 mine)))) (And.intro (G8 (room:=none) kr om) (Key.y8 _ _):G6 (c6d dig mine) 2 (AV.osl 0 (aN (I8 (D5 dig) (D5 mine))).length 2 0 (aN (I8 (D5 dig) (D5 mine))).length)=some (mK (aN (I8 (D5 dig) (D5 mine))))/\AV.D7 0 (mK (aN (I8 (D5 dig) (D5 mine))))=true) (.c 3 ((a3B (D5 mine) (D5 dig) oa oa).lift kr kr [(o_ ((aN (I8 (D5 dig) (D5 mine))).length+1) 2 [])]) (.g (.h' [] (.q 0 (AV.tup [(sA 2 (mK (aN (I8 (D5 dig) (D5 mine))))),(sA 9 (mC (I8 (D5 mine) (D5 dig))))]) (by (try delta c6d); with_unfolding_all rfl))))))))))))))))))
def b0L:Ann:={ fin:=some 0 }
@[simp] abbrev a2r :Heap:=[(o_ 0 13 [[z_,z_,z_,z_,z_,z_,z_,e_,e_,bF,(AV.int .u32 0),(AV.sl .nil 0 []),(AV.sl .nil 0 [])]])]
@[simp] abbrev c5C (a:l9C):=(sA 9 (mC ((G9 a).take (min (G9 a).length 64))))
theorem a0u (l:l9C) (hl:l.length < 1000):AC 78 [(sA 9 (mC l))] [] ((AV.agg [(iI 4),z_,z_,z_,z_,z_,z_,e_,e_,bF,(AV.int .u32 0),(sA 9 (mC (bE l))),(AV.sl .nil 0 [])]),[]):=by
 have h1:=oF l
 exact r9 (fn:=Tryz.f78) (ann:=b0L) (Has.o Tryz.func78) (.r (.s (.c 1 ((mO l oa).lift kr kr a2r) (.s (.h' a2r (.y 2 (.int .i64 ((List.length (mC (G9 l)):Nat):Int)) (iN ((G9 l).length)) (Yes.len _ _ _) (.y 3 (.int .i64 (if 64 < (((G9 l).length:Nat):Int) then 64 else (((G9 l).length:Nat):Int))) (iN (min (G9 l).length 64)) (Yes.int yv_) (.t 4 (c5C l) a2r (xH (l:=0) (h:=min (G9 l).length 64) om om om om a7a:Option.map (fun a=>(a,a2r)) (if 9=9\/((mC (G9 l))).isEmpty=true then (bounds 0 ((min (G9 l).length 64:Nat):Int) (List.length (mC (G9 l)))).map fun p=>sA 9 ((List.take p.2 (mC (G9 l))).drop p.1) else none)=some ((c5C l),a2r)) (.c 5 ((a8V ((G9 l).take (min (G9 l).length 64)) oa).lift kr kr a2r) (.g (.h' [] (.q 0 (AV.agg [(iI 4),z_,z_,z_,z_,z_,z_,e_,e_,bF,(AV.int .u32 0),(c5C l),(AV.sl .nil 0 [])]) (by (try delta a2r); with_unfolding_all rfl)))))))))))))
@[simp] abbrev d1F (a:l9K) (b:l9C):Fr:=(mkF 41 [(1,(sA 2 (mK a))),(5,(sA 9 (mC (D5 b)))),(6,(AV.osl 0 (aD (D5 b) [] a).length 9 0 (aD (D5 b) [] a).length)),(13,(sA 2 (mK a))),(14,(iN a.length)),(15,(iN a.length))])
@[simp] abbrev c6c (a:l9C) (b:l9K):Heap:=[(o_ ((aD (D5 a) [] b).length) 9 (mC (aD (D5 a) [] b)))]
theorem a9t (mine:l9C) (keys:l9K) (hm:mine.length < 1000) (hks:keys.length < 1048576):AC 36 [(sA 9 (mC mine)),(sA 2 (mK keys))] [] ((sA 9 (mC (nP mine keys))),[]):=by
 have h1:=a0i mine
 have h2:=c5Z (D5 mine) keys []
 exact r9 (fn:=Tryz.f36) (ann:=yQ) (Has.o Tryz.func36) (.r (.s (.c 1 ((yC mine oa).lift kr kr []) (.s (.s (.h' [(o_ 0 9 (mC []))] (.y 1 (.int .i64 ((List.length (mK keys):Nat):Int)) (iN keys.length) (Yes.len _ _ _) (.g (.loop (d1F keys mine) (show j6 a9h (some [1,5,6,13,14,15]) (some [1,5,6,13,14,15]) (mkF 41 [(1,(sA 2 (mK keys))),(5,(sA 9 (mC (D5 mine)))),(6,(AV.osl 0 0 9 0 0)),(13,(sA 2 (mK keys))),(14,(iN keys.length)),(15,z_)]) [(o_ 0 9 (mC []))] (.exit 0) (d1F keys mine) (c6c mine keys) from (b1k keys (D5 mine) ow ow (List.length keys) [] 0 0 0 (aD (D5 mine) [] keys,(aD (D5 mine) [] keys).length,(aD (D5 mine) [] keys).length) ow rfl ow (b1l _ _))) (.r (.w 6 (mC (aD (D5 mine) [] keys)) (And.intro (G8 (room:=none) kr om) (j5.y8 _ _):G6 (c6c mine keys) 9 (AV.osl 0 (aD (D5 mine) [] keys).length 9 0 (aD (D5 mine) [] keys).length)=some (mC (aD (D5 mine) [] keys))/\AV.D7 0 (mC (aD (D5 mine) [] keys))=true) (.g (.h' [] (.q 0 (sA 9 (mC (aD (D5 mine) [] keys))) (by (try delta c6c); with_unfolding_all rfl)))))))))))))))
theorem VR.rows {G:Nat->Prop} {w:World} {C:Cx} {k:Nat} {xs ys:List (List AV)} {v:Value} (h:VR G w C (.sl .any k xs) v) (hl:xs.length=ys.length) (hw:∀ i,i < xs.length->AV.wks (xs.getD i []) (ys.getD i [])):VR G w C (.sl .any k ys) v:=by
 cases h with
 | nils _ _ _ hg =>
  obtain rfl:ys=[]:=List.eq_nil_of_length_eq_zero hl.symm
  exact .nils _ _ _ hg
 | sl _ _ _ _ ad cap hg hclip hle hs cv hk hc h1 h =>
  rw [hl]
  refine .sl C .any ys k ad cap ye_ ye_ ya_ (fun hn=>hs fun e=>hn (List.eq_nil_of_length_eq_zero (by rw [<- hl,e]; rfl))) cv (fun i hi=>?_) (fun i j hi hj=>hc i j ya_ hj) (fun i j hi hj=>h1 i j ya_ hj) fun i j hi hj=>?_
  · rw [<- (AV.rJ (hw i ya_)).1]; exact hk i ya_
  · exact (h i j ya_ hj).wk ((AV.rJ (hw i ya_)).2 j (by rw [hk i ya_]; exact hj))
theorem b0d {α:Type} {row:α->List AV} {H:Heap} {id g k n:Nat} {l:List α} {room:Option Nat} (ho:H[id]?=some ⟨g,k,l.map row,room⟩) (hn:n<=l.length):G6 H k (.osl id g k 0 n)=some ((l.take n).map row):=by
 simp [G6,ho,List.map_take]
 exact hn
def mkN (o:Oper):Operand:=match o.op with
 | .makeSlice _ x _=>x
 | _=>.tmp 0
def mkC (o:Oper):Operand:=match o.op with
 | .makeSlice _ _ x=>x
 | _=>.tmp 0
theorem b2m {P:Program} {F:Fr} {H:Heap} {dst:Option Tmp} {x y:Operand} {t e0:TypeId} {type:TypeId} {pos:String} {after:Array Edge} {guard:Option (Nat × Bool)} {c:Nat} {i:TypeInfo} {z:Value} {kl kc:IntKind} {a0:AV}
 (ht:P.underlying t=some (.slice e0)) (hi:P.info? e0=some i) (hz:i.zero=some z) (hs:i.size=1) (hz1:z.cells = #[z]) (hz2:z.oneCell'=true) (hz3:∀ G w C,VR G w C a0 z)
 (hx:opv F x=some (.int kl (c:Int))) (hy:opv F y=some (.int kc (c:Int))) (hby:i.bytes * c<=281474976710656) (h63:c<=9223372036854775807) :
 jR P F H ⟨dst,.makeSlice t x y,type,pos,after,guard⟩ (.osl H.length 0 1 0 c,H++[⟨0,1,List.replicate c [a0],none⟩]):=by
 intro G w C f hf hH
 have hvx:=hf x yo_ _ hx
 have hvy:=hf y yo_ _ hy
 generalize hux:f x=ux at hvx
 generalize huy:f y=uy at hvy
 cases hvx
 cases hvy
 have hr:=run_make_row (P:=P) t e0 i z ht hi hz hs hz1 kl kc c hby h63 w
 have hsz:(madeCells #[z] c).size=c:=size_madeCells _ _
 have hnone:=hH.out H.length (Nat.le_refl _)
 have hget:∀ q,q < c->(madeCells #[z] c).getD q undef=z:=fun q hq=>by
  rw [Array.getD_eq_getD_getElem?]
  simp [madeCells,hq,Nat.mod_one]
 have hrow:∀ q,q < c->(List.replicate c [a0]).getD q []=[a0]:=fun q hq=>by simp [List.getD_eq_getElem?_getD,List.getElem?_replicate,hq]
 have hm:=hH.made (w':=w.alloc (.cells (madeCells #[z] c) e0)) (H':=H++[⟨0,1,List.replicate c [a0],none⟩]) H.length 1 (List.replicate c [a0]) (madeCells #[z] c) e0 rfl rfl rfl rfl c 0 ye_ (by rw [hsz]; omega)
  (fun q hq=>by rw [hrow q (by simpa using hq)]; rfl) ya_ (fun _=>hnone.2) (fun j hj=>by
   rcases Nat.lt_or_ge j H.length with h' | h'
   · rw [List.getElem?_append_left h']
   · rw [List.getElem?_eq_none yg_,List.getElem?_eq_none ya_]) ye_ ye_ (Nat.le_refl _) fun q j hq hj=>by
     obtain rfl:j=0:=by omega
     have hq':q < c:=by simpa using hq
     rw [Nat.mul_one,Nat.add_zero,hget q hq',hrow q hq']
     exact ⟨hz2,hz3 ..⟩
 refine ⟨.slice (some ⟨w.heap.size,0,none⟩) c c,w.alloc (.cells (madeCells #[z] c) e0),by simp [execOp,hux,huy,hr],G,_,hm.1,hm.2,.osl _ _ _ _ _ _ _ _ (Nat.le_refl _) yi_ fun _=>⟨_,_,Cx.Q7 ..,rfl,rfl,by simp,by simp,fun _=>by simp⟩,by simp,fun id hl _ hιd=>?_⟩
 have hne:id≠H.length:=by omega
 exact ⟨by rw [(Cx.J9 _ _ _ _ hne).1]; exact hιd,(Cx.J9 _ _ _ _ hne).2,by rw [List.getElem?_append_left hl]⟩
theorem a5m {P:Program} {X:Env} {F:Fr} {H H2:Heap} {ar:Nat} {o:Oper} (hT:TOk P X.T) {t e0:TypeId} {ti te:TI} {c:Nat} {kl kc:IntKind} {a0:AV} {els':List (List AV)} (hop:o.op=.makeSlice t (mkN o) (mkC o)) (hsem:bK X o=true)
 (ht:X.T t=some ti) (htd:ti.d=.slice e0) (hte:X.T e0=some te) (hs:te.size=1) (hz:te.zero=[a0]) (ha:te.agg=false)
 (hx:opv F (mkN o)=some (.int kl (c:Int))) (hy:opv F (mkC o)=some (.int kc (c:Int))) (hby:te.bytes * c<=281474976710656) (h63:c<=9223372036854775807) (hels:List.replicate c [a0]=els') (hH:H++[⟨0,1,els',none⟩]=H2) :
 Sat P X F H ar o (.osl H.length 0 1 0 c) H2:=by
 refine Sat.sem hsem ?_
 subst hels hH
 obtain ⟨dst,op,type,pos,after,guard⟩:=o
 simp only at hop
 generalize mkN _=x at hop hx
 generalize mkC _=y at hop hy
 subst hop
 obtain ⟨i,hi,hsz,hbt,z,hzz,hzs,hzl,hza⟩:=(hT _ _ hte).info
 have hna:∀ cs,z≠.agg cs:=fun cs e=>by
  have:=hza.1 ⟨cs,e⟩
  rw [ha] at this; simp at this
 have hc:z.cells = #[z]:=by
  cases z with
  | agg cs=>exact absurd rfl (hna cs)
  | _=>rfl
 rw [hz,hc] at hzs
 have hv:∀ G w C,z.oneCell'=true/\VR G w C a0 z:=fun G w C=>by
  have:=(aU (G:=G) (w:=w) (C:=C) hzs).2 0 ye_
  simpa using this
 exact b2m (bP hT ht htd) hi hzz (by rw [hsz,hs]) hc (hv (fun _=>True) default Cx.none).1 (fun G w C=>(hv G w C).2) hx hy (by rw [hbt]; exact hby) h63
theorem d3A {α β:Type} (row:α->β) (l:List α) {j:Nat} (hj:j<=l.length):(l.map row).take 0++((l.map row).drop j).take (l.length - j)++(l.map row).drop (0+(l.length - j))=(l.drop j++l.drop (l.length - j)).map row:=by
 rw [List.take_of_length_le (l:=(l.map row).drop j) ye_,Nat.zero_add]
 simp [List.map_drop]
theorem d3z {α β:Type} (row:α->β) (u:β) (l:List α) {j:Nat} (hj:j<=l.length):((l.drop j++l.drop (l.length - j)).map row).take (l.length - j)++List.replicate j u++((l.drop j++l.drop (l.length - j)).map row).drop (l.length - j+j)=(l.drop j).map row++List.replicate j u:=by
 have hl:((l.drop j).map row).length=l.length - j:=by simp
 have h2:((l.drop j++l.drop (l.length - j)).map row).drop (l.length - j+j)=[]:=List.drop_of_length_le (by rw [List.map_append,List.length_append,hl,List.length_map,List.length_drop]; omega)
 rw [h2,List.map_append,List.take_append_of_le_length ya_,List.take_of_length_le ya_]
 simp
theorem d4m {α β:Type} (row:α->β) (u:β) (a:List α) (n:Nat) {q:Nat} (hla:a.length=n) (hq:q<=n):(a.map row).take q++List.replicate (n - q) u++(a.map row).drop (q+(n - q))=(a.take q).map row++List.replicate (n - q) u:=by
 rw [List.drop_of_length_le yg_]
 simp [List.map_take]
def c4y:Ann:={ fin:=some 0 }
theorem b9p (x:Int) :AC 102 [(AV.sl .nil 0 []),(iI x)] [] ((iI (-1)),[]) :=
 r9 (fn:=Tryz.f102) (ann:=c4y) (Has.o Tryz.func102) (.r (.s (.g (.roll 1 (.r (.g (.n (.qr 0 (iI (-1))))))))))
def c0F:Ann:={ fin:=some 0 }
theorem b4N (x:Int) :AC 50 [(AV.sl .nil 0 []),(iI x)] [] (bF,[]) :=
 r9 (fn:=Tryz.f50) (ann:=c0F) (Has.o Tryz.func50) (.r (.s (.c 2 ((b9p x).lift kr kr []) (.q 0 bF))))
def a5p:Ann:={ own:=[36],gha:=[(8,.virf 46 0 9)],fin:=some 4 }
@[simp] abbrev c7M :Ob:=(o_ 0 3 [[(AV.sl .nil 0 []),(AV.sl .nil 0 []),z_]])
@[simp] abbrev c6k :Heap:=[c7M]
@[simp] abbrev d1T (a:Int):Heap:=[(o_ 0 3 [[(AV.osl 1 0 1 0 1),(AV.sl .nil 0 []),z_]]),(o_ 0 1 (List.map A9 [a])),(o_ 0 1 [[(AV.sl .nil 0 [])]])]
@[reducible] def d0a:TI:={ d:=.int .i64,size:=1,bytes:=8,zero:=[.int .i64 0] }
@[reducible] def c9Z:TI:={ d:=.slice 50,size:=1,bytes:=24,zero:=[.sl .nil 0 []] }
theorem a2V (p:Int) :AC 25 [(sA 1 [[(iI p)]])] [] ((oO 0 0 0 0),[(o_ 0 3 [[(AV.osl 1 0 1 0 1),(AV.osl 2 0 1 0 1),z_]]),(o_ 0 1 (List.map A9 [p])),(o_ 0 1 [[(AV.osl 3 0 9 0 (List.length ([]:l9C)))]]),(o_ 0 9 (mC ([]:l9C)))]) :=
 r9 (fn:=Tryz.f25) (ann:=a5p) (Has.o Tryz.func25) (.r (.s (.s (.g (.roll 2 (.r (.ru (.s (.u6 (.c 12 ((b4N p).lift kr kr c6k) (.u (.ru (.h' c6k (.ao 7 22 (AV.sl .nil 0 []) (AV.sl .clip 1 [[(iI p)]]) (AV.osl 1 0 1 0 1) [(o_ 0 3 [[(AV.sl .nil 0 []),(AV.sl .nil 0 []),z_]]),(o_ 0 1 (List.map A9 [p]))] (aY (T:=tt) (e:=3) (te:=d0a) (z:=1) (b:=24) (y:=[.sl .nil 0 []]) (row:=A9) kr kr rfl E5 E5 ye_ bH rfl rfl rfl om) (.s (.s (.rn (.t 6 (AV.osl 2 0 1 0 1) (d1T p) (a5m (t:=102) (ti:={ d:=.slice 30,size:=1,bytes:=24,zero:=[.sl .nil 0 []] }) (te:=c9Z) (kl:=.i64) (kc:=.i64) (c:=1) dA kr kr kr rfl kr rfl rfl rfl kr kr E5 E5 rfl rfl:Sat Tryz.prog (X a5p) (mkF 50 [(0,(sA 1 [[(iI p)]])),(2,AV.nilp),(3,(oO 0 0 0 0)),(5,(iI p)),(6,(AV.agg [(AV.sl .nil 0 []),(AV.sl .nil 0 []),z_])),(7,(oO 0 0 0 0)),(8,(sA 1 [[(iI p)]])),(9,(iI 1)),(10,(iI 1)),(11,bF),(12,(AV.ref [(iI p)] 0)),(13,(iI p)),(14,(oO 0 0 0 0)),(15,(oO 0 0 0 0)),(16,(oO 0 0 0 0)),(17,(AV.sl .nil 0 [])),(18,z_),(19,bT),(20,bT),(21,(oO 0 0 0 0)),(22,(oO 0 0 0 0)),(23,(oO 0 0 0 0)),(24,(AV.sl .nil 0 [])),(25,(iI p)),(26,bF),(27,bT),(28,bT),(29,(oO 0 0 0 0)),(30,(oO 0 0 0 0)),(31,(oO 0 0 0 0)),(32,(oO 0 0 0 0)),(33,(AV.sl .nil 0 [])),(34,(iI p)),(35,(AV.sl .clip 1 [[(iI p)]])),(36,(AV.osl 1 0 1 0 1)),(37,(oO 0 0 0 0)),(38,(oO 0 0 0 0)),(39,(iI 1)),(40,(oO 0 0 0 0)),(41,(oO 0 0 0 0)),(42,(oO 0 0 0 0)),(43,(oO 0 0 0 0)),(44,(AV.osl 1 0 1 0 1)),(45,(iI 1))]) [(o_ 0 3 [[(AV.osl 1 0 1 0 1),(AV.sl .nil 0 []),z_]]),(o_ 0 1 (List.map A9 [p]))] 2 (V6 Tryz.f25 8 6) (AV.osl 2 0 1 0 1) (d1T p)) (.o (rfl:0=0) (.s (.g (.h' [(o_ 0 3 [[(AV.osl 1 0 1 0 1),(AV.osl 2 0 1 0 1),z_]]),(o_ 0 1 (List.map A9 [p])),(o_ 0 1 [[(AV.osl 3 0 9 0 0)]]),(o_ 0 9 (mC []))] (.q 4 (oO 0 0 0 0))))))))))))))))))))))))
def a5q:Ann:={ fin:=some 2 }
@[simp] abbrev a9B :Heap:=[(o_ 0 3 [[(AV.sl .nil 0 []),(AV.osl 1 0 1 0 0),z_]]),(o_ 0 1 [])]
@[simp] abbrev d1S :Heap:=[c7M,(o_ 0 1 [])]
theorem b3g  :AC 25 [(AV.sl .nil 0 [])] [] ((oO 0 0 0 0),a9B) :=
 r9 (fn:=Tryz.f25) (ann:=a5q) (Has.o Tryz.func25) (.r (.s (.s (.g (.roll 1 (.r (.rn (.t 6 (AV.osl 1 0 1 0 0) d1S (a5m (t:=102) (ti:={ d:=.slice 30,size:=1,bytes:=24,zero:=[.sl .nil 0 []] }) (te:=c9Z) (kl:=.i64) (kc:=.i64) (c:=0) dA kr kr kr rfl kr rfl rfl rfl kr kr E5 E5 rfl rfl:Sat Tryz.prog (X a5q) (mkF 50 [(0,(AV.sl .nil 0 [])),(2,AV.nilp),(3,(oO 0 0 0 0)),(6,(AV.agg [(AV.sl .nil 0 []),(AV.sl .nil 0 []),z_])),(7,(oO 0 0 0 0)),(8,(AV.sl .nil 0 [])),(9,z_),(10,z_),(11,bF),(40,(oO 0 0 0 0)),(41,(oO 0 0 0 0)),(42,(oO 0 0 0 0)),(43,(oO 0 0 0 0)),(44,(AV.sl .nil 0 [])),(45,z_)]) c6k 1 (V6 Tryz.f25 8 6) (AV.osl 1 0 1 0 0) d1S) (.s (.g (.h' a9B (.q 2 (oO 0 0 0 0)))))))))))))
def iL (j:Nat) (l:List j5):List j5:=l.drop j
theorem a0s (j:Nat) (l:l9C):(iL j l).length=l.length - j:=List.length_drop ..
def V3 (l:List j5) (c:j5):List j5:=l.filter (fun x=>!(Key.eqb x.key c.key))
theorem xO (l:l9C) (c:j5):(V3 l c).length<=l.length:=List.length_filter_le ..
def uW:Ann:={ big:=[13,31],base:=1 }
@[simp] abbrev b6u (a:Nat) (b:l9C) (c:Nat):Heap:=[(o_ a 9 (mC (b.drop c)++List.replicate c (List.replicate 9 AV.unk)))]
@[simp] abbrev a9A (a:Nat) (b:l9C) (c:Nat):Heap:=[(o_ a 9 (mC (b.drop c++b.drop (b.length - c))))]
@[simp] abbrev Y8 (a:Nat) (b:l9C):=(AV.osl 0 a 9 0 b.length)
@[simp] abbrev tC (a:Nat) (b:l9C) (c:Nat):=(AV.osl 0 a 9 0 (b.length - c))
theorem b7o (l:l9C) (g j:Nat) (hj0:0 < j) (hj:j<=l.length) (hl:l.length < 1048576):AC 120 [(Y8 g l),z_,(iN j)] [(o_ g 9 (mC l))] ((tC g l j),(b6u g l j)) :=
 r9 (fn:=Tryz.f120) (ann:=uW) (Has.o Tryz.func120) (.r (.s (.t 5 AV.unk [(o_ g 9 (mC l))] (xJ (o:=(V6 Tryz.f120 1 5)) (t:=30) (e0:=50) (ti:={ d:=.slice 50,size:=1,bytes:=24,zero:=[.sl .nil 0 []] }) (id:=0) (g:=g) (e:=0) (n:=l.length) (te:=dB) (k:=9) (l:=0) (h:=j) (c:=l.length) dA kr kr kr rfl kr rfl kr kr kr kr om om om:Sat Tryz.prog (X uW) (mkF 33 [(0,(Y8 g l)),(1,z_),(2,(iN j)),(6,(AV.sl .nil 0 [])),(8,(Y8 g l)),(9,z_),(10,(iN j)),(11,(Y8 g l)),(12,(iN l.length))]) [(o_ g 9 (mC l))] 1 (V6 Tryz.f120 1 5) AV.unk [(o_ g 9 (mC l))]) (.s (.y 2 (bB (0 == (j:Int))) bF (Yes.b yg_) (.rn (.s (.so 2 0 g 9 0 l.length 0 0 (AV.osl 0 g 9 0 0) (O8 (l:=0) (h:=0) om om om om om om) (.so 5 0 g 9 0 l.length (j:Int) (l.length:Int) (AV.osl 0 g 9 j (l.length - j)) (O8 (l:=j) (h:=l.length) om om om om om om) (.ap 6 30 (AV.osl 0 g 9 0 0) (AV.osl 0 g 9 j (l.length - j)) (tC g l j) (a9A g l j) (zJ (els:=(mC l)) (ti:={ d:=.slice 50,size:=1,bytes:=24,zero:=[.sl .nil 0 []] }) (te:=dB) (e0:=50) kr rfl kr rfl E5 kr om om (d3A j5.row l hj) om rfl) (.s (.t 4 (AV.osl 0 g 9 (l.length - j) j) (a9A g l j) (a2L (o:=(V6 Tryz.f120 6 4)) (t:=30) (e0:=50) (ti:={ d:=.slice 50,size:=1,bytes:=24,zero:=[.sl .nil 0 []] }) (id:=0) (g:=g) (e:=0) (n:=(l.length - j)) (te:=dB) (k:=9) (room:=none) (l:=(l.length - j)) (h:=l.length) (els:=(mC (l.drop j++l.drop (l.length - j)))) dA kr kr kr rfl kr rfl kr kr kr kr om om om om:Sat Tryz.prog (X uW) (mkF 33 [(0,(tC g l j)),(1,z_),(2,(iN j)),(6,(AV.sl .nil 0 [])),(7,(iN l.length)),(8,(Y8 g l)),(9,z_),(10,(iN j)),(11,(Y8 g l)),(12,(iN l.length)),(13,AV.unk),(14,z_),(15,(iN j)),(16,bF),(18,(Y8 g l)),(19,(iN l.length)),(20,(Y8 g l)),(21,z_),(22,(AV.osl 0 g 9 0 0)),(23,(Y8 g l)),(24,(iN j)),(25,(AV.osl 0 g 9 j (l.length - j))),(26,(tC g l j)),(27,(tC g l j)),(28,(tC g l j)),(29,(iN ((l.length - j)))),(30,(iN l.length))]) (a9A g l j) 1 (V6 Tryz.f120 6 4) (AV.osl 0 g 9 (l.length - j) j) (a9A g l j)) (.t 5 AV.unk (b6u g l j) (zZ (o:=(V6 Tryz.f120 6 5)) (t:=30) (e0:=50) (ti:={ d:=.slice 50,size:=1,bytes:=24,zero:=[.sl .nil 0 []] }) (id:=0) (g:=g) (e:=(l.length - j)) (n:=j) (te:=dB) (k:=9) (els:=(mC (l.drop j++l.drop (l.length - j)))) (els':=(mC (l.drop j)++List.replicate j (List.replicate 9 AV.unk))) (room:=none) dA kr kr kr rfl kr rfl E5 kr kr om ye_ (d3z j5.row (List.replicate 9 AV.unk) l hj) rfl:Sat Tryz.prog (X uW) (mkF 33 [(0,(tC g l j)),(1,z_),(2,(iN j)),(6,(AV.sl .nil 0 [])),(7,(iN l.length)),(8,(Y8 g l)),(9,z_),(10,(iN j)),(11,(Y8 g l)),(12,(iN l.length)),(13,AV.unk),(14,z_),(15,(iN j)),(16,bF),(18,(Y8 g l)),(19,(iN l.length)),(20,(Y8 g l)),(21,z_),(22,(AV.osl 0 g 9 0 0)),(23,(Y8 g l)),(24,(iN j)),(25,(AV.osl 0 g 9 j (l.length - j))),(26,(tC g l j)),(27,(tC g l j)),(28,(tC g l j)),(29,(iN ((l.length - j)))),(30,(iN l.length)),(31,(AV.osl 0 g 9 (l.length - j) j))]) (a9A g l j) 1 (V6 Tryz.f120 6 5) AV.unk (b6u g l j)) (.s (.g (.h' (b6u g l j) (.e (tC g l j))))))))))))))))))
def a6j:Ann:={ big:=[13,31],base:=1 }
theorem b7n (l:l9C) (g:Nat) (hl:l.length < 1048576):AC 120 [(Y8 g l),z_,z_] [(o_ g 9 (mC l))] ((Y8 g l),[(o_ g 9 (mC l))]) :=
 r9 (fn:=Tryz.f120) (ann:=a6j) (Has.o Tryz.func120) (.r (.s (.t 5 AV.unk [(o_ g 9 (mC l))] (xJ (o:=(V6 Tryz.f120 1 5)) (t:=30) (e0:=50) (ti:={ d:=.slice 50,size:=1,bytes:=24,zero:=[.sl .nil 0 []] }) (id:=0) (g:=g) (e:=0) (n:=l.length) (te:=dB) (k:=9) (l:=0) (h:=0) (c:=l.length) dA kr kr kr rfl kr rfl kr kr kr kr om om om:Sat Tryz.prog (X a6j) (mkF 33 [(0,(Y8 g l)),(1,z_),(2,z_),(6,(AV.sl .nil 0 [])),(8,(Y8 g l)),(9,z_),(10,z_),(11,(Y8 g l)),(12,(iN l.length))]) [(o_ g 9 (mC l))] 1 (V6 Tryz.f120 1 5) AV.unk [(o_ g 9 (mC l))]) (.s (.ru (.g (.e (Y8 g l))))))))
theorem a6i (l:l9C) (g j n:Nat) (hn:n=l.length) (hj:j<=l.length) (hl:l.length < 1048576):AC 120 [(AV.osl 0 g 9 0 n),z_,(iN j)] [(o_ g 9 (mC l))] ((AV.osl 0 g 9 0 (n - j)),[(o_ g 9 (mC (iL j l)))]):=by
 subst hn
 unfold iL
 rcases Nat.eq_zero_or_pos j with rfl | h
 · exact b7n l g hl
 · exact (b7o l g j h hj hl).delete (by rw [List.take_append_of_le_length ye_,List.take_of_length_le ye_])
def b8s:Ann:={ refs:=[2],fin:=some 0 }
theorem b3f (x c:j5) :AC 119 [(AV.agg (j5.row x)),(AV.ref (j5.row c) 0)] [] ((bB (Key.eqb x.key c.key)),[]) :=
 r9 (fn:=Tryz.f119) (ann:=b8s) (Has.o Tryz.func119) (.r (.g (.qr 0 (bB (Key.eqb x.key c.key)))))
theorem a1N (x c:j5)  (H:Heap):AC 119 [(AV.agg (j5.row x)),(AV.ref (j5.row c) 0)] H ((bB (Key.eqb x.key c.key)),H):=(b3f x c ).lift kr kr H
def wY:Ann:={ gha:=[(6,.cut 1)],base:=1,live:=[(5,[0,1,5,6])],out:=[(5,[0,5])] }
@[simp] abbrev nL (a:j5):=(AV.func 119 [(AV.ref (j5.row a) 0)])
@[simp] abbrev d1R (a:Nat) (b:Nat) (c:j5) (d:Nat) (e:Nat):Fr:=(mkF 42 [(0,(AV.osl 0 a 9 0 b)),(1,(nL c)),(5,(iN d)),(6,(iN e))])
@[simp] abbrev a9z (a:Nat) (b:l9C):Heap:=[(o_ a 9 (mC b)),(o_ 0 9 [[e_,e_,z_,z_,z_,z_,z_,z_,bF]])]
@[simp] abbrev c6j (a:Nat) (b:l9C) (c:Nat):Heap:=[(o_ a 9 (mC b)),(o_ 0 9 [(j5.row (nth b c))])]
@[simp] abbrev c5B :=(l9 Tryz.prog (X wY) (x9 Tryz.f118 0))
theorem a9H (c:j5) (n:Nat) (g:Nat) (a:l9C) (q:Nat) (i:Nat) (hn:n < 1048576) (hk:n=a.length) (hq:q<=i) (hle_:i<=n) {eX:Ex} {FX:Fr} {HX:Heap} (k1:(decide ((i:Int) < (n:Int)))=true->(!(Key.eqb (nth a i).key c.key))=true->j6 c5B (some [0,1,5,6]) (some [0,5]) (mkF 42 [(0,(AV.osl 0 g 9 0 n)),(1,(nL c)),(5,(iN (q+1))),(6,(iN (i+1)))]) [(o_ g 9 (mC (a.set q (nth a i))))] eX FX HX) (k2:(decide ((i:Int) < (n:Int)))=true->(!(Key.eqb (nth a i).key c.key))=false->j6 c5B (some [0,1,5,6]) (some [0,5]) (mkF 42 [(0,(AV.osl 0 g 9 0 n)),(1,(nL c)),(5,(iN q)),(6,(iN (i+1)))]) [(o_ g 9 (mC a))] eX FX HX) (k3:(decide ((i:Int) < (n:Int)))=false->((.exit 0:Ex),(mkF 42 [(0,(AV.osl 0 g 9 0 n)),(5,(iN q))]),[(o_ g 9 (mC a))])=(eX,FX,HX)):j6 c5B (some [0,1,5,6]) (some [0,5]) (d1R g n c q i) [(o_ g 9 (mC a))] eX FX HX :=
 I9 (.r (.g (.two (decide ((i:Int) < (n:Int))) (fun h1 h1'=>(.r (.h' (a9z g a) (.io 2 0 g 9 9 0 n (i:Int) i (F8.mk _ ow ow) (.t 3 (cp_ a i) (a9z g a) (H6 (D6 (row:=j5.row) (l:=a) (k:=9) (room:=none) kr om) kr:K7 tt 50 0 (a9z g a) (rowAt (a9z g a) 0 g i)=some ((cp_ a i),(a9z g a))) (.s (.c 2 (a1N (nth a i) c  (c6j g a i)) (.g (.two (!(Key.eqb (nth a i).key c.key)) (fun h2 h2'=>(.r (.h' (c6j g a i) (.io 3 0 g 9 9 0 n (q:Int) q (F8.mk _ ow ow) (.st 4 0 g q 9 0 (cp_ a i) [(o_ g 9 (mC (a.set q (nth a i)))),(o_ 0 9 [(j5.row (nth a i))])] (Q5 (us:=(j5.row (nth a i))) (D6 (row:=j5.row) (l:=a) (k:=9) (room:=none) kr om) kr vB uZ) (.s (.y 1 (.int .i64 (cb_ q)) (iN (q+1)) Yes.o (.s (.y 1 (.int .i64 (cb_ i)) (iN (i+1)) Yes.o (.h' [(o_ g 9 (mC (a.set q (nth a i))))] (.b 1 (.g (.l (k1 h1 h2)))))))))))))) (fun h2 h2'=>(.r (.h' (c6j g a i) (.y 1 (.int .i64 (cb_ i)) (iN (i+1)) Yes.o (.h' [(o_ g 9 (mC a))] (.b 1 (.g (.l (k2 h1 h2)))))))))))))))))) (fun h1 h1'=>(.l (k3 h1))))))
def eO (c:j5) (n:Nat) (g:Nat) (i:Nat) (s:(List j5) × Nat):(List j5) × Nat:=(if (!(Key.eqb (nth s.1 i).key c.key))=true then (s.1.set s.2 (nth s.1 i),s.2+1) else (s.1,s.2))
theorem c6T (c:j5) (n:Nat) (g:Nat) (hn:n < 1048576)  (r_:Nat):∀ (a:l9C) (q:Nat) (i:Nat) (sF:(l9C) × Nat),i+r_=n->n=a.length->q<=i->sF=iter (eO c n g) r_ i (a,q) ->
 j6 (l9 Tryz.prog (X wY) (x9 Tryz.f118 0)) (some [0,1,5,6]) (some [0,5]) (d1R g n c q i) [(o_ g 9 (mC a))] (.exit 0) (mkF 42 [(0,(AV.osl 0 g 9 0 n)),(5,(iN sF.2))]) [(o_ g 9 (mC sF.1))]:=by
 induction r_ with
 | zero =>
  intro a q i sF hi_ hk hq  hF
  obtain rfl:n=i:=by omega
  have e_:sF=(a,q):=hF
  refine a9H c n g a q n hn hk hq (Nat.le_refl _) (fun h _=>by simp at h <;> omega) (fun h _=>by simp at h <;> omega) (fun _=>?_)
  first | done | rfl | (rw [e_]; done) | (rw [e_]; rfl)
 | succ r_ ih =>
  intro a q i sF hi_ hk hq  hF
  refine a9H c n g a q i hn hk hq ow (fun h1 h2=>?_) (fun h1 h2=>?_) (fun h=>by simp at h <;> omega)
  · exact ih (a.set q (nth a i)) (q+1) (i+1) sF ow U2 U2  (by rw [hF] <;> simp only [iter,eO,h2,if_true,Bool.false_eq_true,if_false])
  · exact ih a q (i+1) sF ow U2 U2  (by rw [hF] <;> simp only [iter,eO,h2,if_true,Bool.false_eq_true,if_false])
theorem b9q (c:j5) (l:l9C) (n:Nat) (hl:l.length < 1099511627776) (hn:ixI (fun x:j5=>Key.eqb x.key c.key) l=(n:Int)):AC 105 [(sA 9 (mC l)),(AV.func 119 [(AV.ref (j5.row c) 0)])] [] ((iN n),[]):=by
 have e:=a2a (fun x:j5=>Key.eqb x.key c.key) _ _ l (fun x H=>a1N x c H) rfl hl
 rw [hn] at e; exact e
theorem b9r (c:j5) (l:l9C) (hl:l.length < 1099511627776) (hn:ixI (fun x:j5=>Key.eqb x.key c.key) l = -1):AC 105 [(sA 9 (mC l)),(AV.func 119 [(AV.ref (j5.row c) 0)])] [] ((iI (-1)),[]):=by
 have e:=a2a (fun x:j5=>Key.eqb x.key c.key) _ _ l (fun x H=>a1N x c H) rfl hl
 rw [hn] at e; exact e
theorem c2m (c:j5) (l:l9C) (g:Nat) (hl:l.length < 1048576) (hi:ixI (fun x:j5=>Key.eqb x.key c.key) l = -1):AC 118 [(Y8 g l),(nL c)] [(o_ g 9 (mC l))] ((Y8 g l),[(o_ g 9 (mC l))]) :=
 r9 (fn:=Tryz.f118) (ann:=wY) (Has.o Tryz.func118) (.r (.s (.c 2 (l6.borrow (args:=[(sA 9 (mC l)),(nL c)]) (args':=[(Y8 g l),(nL c)]) (H:=([(o_ g 9 (mC l))]:Heap)) (b9r c l oa (hi)) rfl (show Brs ([(o_ g 9 (mC l))]:Heap) [(Y8 g l),(nL c)] [(sA 9 (mC l)),(nL c)] from ⟨Br.osl (G8 (room:=none) kr a6Y) (j5.y8 _ _),Br.same kr,trivial⟩)) (.s (.ru (.g (.e (Y8 g l))))))))
@[simp] abbrev a6L (a:Nat) (b:Nat) (c:l9C) (d:l9C):Heap:=[(o_ a 9 (mC (List.take b c)++List.replicate (d.length - b) (List.replicate 9 AV.unk)))]
@[simp] abbrev d3J (a:Nat) (b:l9C) (c:Nat):Fr:=(mkF 42 [(0,(Y8 a b)),(5,(iN c))])
theorem c2l (c:j5) (l a2:l9C) (g q1 q2:Nat) (hl:l.length < 1048576) (hi:ixI (fun x:j5=>Key.eqb x.key c.key) l=(q1:Int)) (hq1:q1 < l.length) (ha2:(a2,q2)=iter (eO c l.length g) (l.length - (q1+1)) (q1+1) (l,q1)) (hla:a2.length=l.length) (hq2:q2 < l.length):AC 118 [(Y8 g l),(nL c)] [(o_ g 9 (mC l))] ((AV.osl 0 g 9 0 q2),(a6L g q2 a2 l)):=by
 have hm:(mC a2).length=l.length:=by rw [List.length_map,hla]
 exact r9 (fn:=Tryz.f118) (ann:=wY) (Has.o Tryz.func118) (.r (.s (.c 2 (l6.borrow (args:=[(sA 9 (mC l)),(nL c)]) (args':=[(Y8 g l),(nL c)]) (H:=([(o_ g 9 (mC l))]:Heap)) (b9q c l q1 oa (hi)) rfl (show Brs ([(o_ g 9 (mC l))]:Heap) [(Y8 g l),(nL c)] [(sA 9 (mC l)),(nL c)] from ⟨Br.osl (G8 (room:=none) kr a6Y) (j5.y8 _ _),Br.same kr,trivial⟩)) (.s (.y 1 (bB ((q1:Int) == (-1))) bF (Yes.b rU) (.rn (.y 1 (iW ((q1:Int)+1)) (iN (q1+1)) Yes.o (.g (.loop (d3J g l q2) (c6T c l.length g hl (l.length - (q1+1)) l q1 (q1+1) (a2,q2) ow rfl ow ha2) (.r (.so 2 0 g 9 0 l.length (q2:Int) (l.length:Int) (AV.osl 0 g 9 q2 (l.length - q2)) (O8 (l:=q2) (h:=l.length) om om om om om om) (.t 3 AV.unk (a6L g q2 a2 l) (zZ (o:=(V6 Tryz.f118 11 3)) (t:=30) (e0:=50) (ti:={ d:=.slice 50,size:=1,bytes:=24,zero:=[.sl .nil 0 []] }) (id:=0) (g:=g) (e:=q2) (n:=(l.length - q2)) (te:=dB) (k:=9) (els:=(mC a2)) (els':=(mC (List.take q2 a2)++List.replicate (l.length - q2) (List.replicate 9 AV.unk))) (room:=none) dA kr kr kr rfl kr rfl E5 kr kr om ow (d4m j5.row (List.replicate 9 AV.unk) a2 l.length hla (Nat.le_of_lt hq2)) rfl:Sat Tryz.prog (X wY) (mkF 42 [(0,(Y8 g l)),(5,(iN q2)),(36,(Y8 g l)),(37,(iN q2)),(38,(AV.osl 0 g 9 q2 (l.length - q2)))]) [(o_ g 9 (mC a2))] 1 (V6 Tryz.f118 11 3) AV.unk (a6L g q2 a2 l)) (.s (.h' (a6L g q2 a2 l) (.so 2 0 g 9 0 l.length 0 (q2:Int) (AV.osl 0 g 9 0 q2) (O8 (l:=0) (h:=q2) om om om om om om) (.g (.e (AV.osl 0 g 9 0 q2))))))))))))))))))
theorem c6U (c:j5) (n g:Nat) (r:Nat):∀ (i q:Nat) (a:l9C),i+r=n->n=a.length->q<=i ->
 (iter (eO c n g) r i (a,q)).1.length=n/\(iter (eO c n g) r i (a,q)).2<=q+r/\(iter (eO c n g) r i (a,q)).1.take (iter (eO c n g) r i (a,q)).2=a.take q++(a.drop i).filter (fun x=>!(Key.eqb x.key c.key)):=by
 induction r with
 | zero =>
  intro i q a hi hn hq
  simp only [iter]
  refine ⟨hn.symm,by omega,?_⟩
  rw [List.drop_of_length_le ow]; simp
 | succ r ih =>
  intro i q a hi hn hq
  have hlt:i < a.length:=by omega
  have e:iter (eO c n g) (r+1) i (a,q)=iter (eO c n g) r (i+1) (eO c n g i (a,q)):=rfl
  rw [e]
  cases hp:Key.eqb (nth a i).key c.key with
  | true =>
   have e2:eO c n g i (a,q)=(a,q):=by unfold eO; simp [hp]
   rw [e2]
   obtain ⟨h1,h2,h3⟩:=ih (i+1) q a ow hn ow
   refine ⟨h1,by omega,?_⟩
   rw [h3,Y7 hlt,List.filter_cons,if_neg (by simp [hp])]
  | false =>
   have e2:eO c n g i (a,q)=(a.set q (nth a i),q+1):=by unfold eO; simp [hp]
   rw [e2]
   obtain ⟨h1,h2,h3⟩:=ih (i+1) (q+1) (a.set q (nth a i)) ow (by simpa using hn) ow
   refine ⟨h1,by omega,?_⟩
   rw [h3,Y7 hlt,List.filter_cons,if_pos (by simp [hp]),List.drop_set_of_lt ow]
   have e3:(a.set q (nth a i)).take (q+1)=a.take q++[nth a i]:=by
    rw [List.set_eq_take_append_cons_drop,if_pos ow,List.take_append]
    have e4:(a.take q).length=q:=by simp; omega
    rw [e4,List.take_of_length_le ow]
    simp
   rw [e3]; simp
theorem a9I (c:j5) (l:l9C) (g n:Nat) (hn:n=l.length) (hl:l.length < 1048576):AC 118 [(AV.osl 0 g 9 0 n),(AV.func 119 [(AV.ref (j5.row c) 0)])] [(o_ g 9 (mC l))] ((AV.osl 0 g 9 0 (V3 l c).length),[(o_ g 9 (mC (V3 l c)))]):=by
 subst hn
 unfold V3
 cases h:kK (fun x:j5=>Key.eqb x.key c.key) l 0 with
 | none =>
  have hi:ixI (fun x:j5=>Key.eqb x.key c.key) l = -1:=by with_unfolding_all (unfold ixI; rw [h])
  have e:l.filter (fun x=>!(Key.eqb x.key c.key))=l:=List.filter_eq_self.2 fun x hx=>by
   obtain ⟨j,hj,rfl⟩:=aW hx
   have:=oI l 0 h j hj; change Key.eqb (nth l j).key c.key=false at this; rw [this]; rfl
  rw [e]
  exact c2m c l g hl hi
 | some q1 =>
  obtain ⟨_,h2,h3,h4⟩:=oH l 0 q1 h
  have hi:ixI (fun x:j5=>Key.eqb x.key c.key) l=(q1:Int):=by with_unfolding_all (unfold ixI; rw [h])
  have hq1:q1 < l.length:=by omega
  obtain ⟨k1,k2,k3⟩:=c6U c l.length g (l.length - (q1+1)) (q1+1) q1 l ow rfl ow
  have e:l.filter (fun x=>!(Key.eqb x.key c.key))=l.take q1++(l.drop (q1+1)).filter (fun x=>!(Key.eqb x.key c.key)):=by
   conv=>lhs; rw [<- List.take_append_drop q1 l]
   rw [List.filter_append,Y7 hq1,List.filter_cons,if_neg (by simpa using h3)]
   congr 1
   refine List.filter_eq_self.2 fun x hx=>?_
   obtain ⟨j,hj,rfl⟩:=aW hx
   have hj':j < q1:=by simp at hj; omega
   have:=h4 j ow; change Key.eqb (nth l j).key c.key=false at this; rw [dV hj',this]; rfl
  have h5:=c2l c l _ g q1 _ hl hi hq1 rfl k1 ow
  have hlen:(l.filter (fun x=>!(Key.eqb x.key c.key))).length=(iter (eO c l.length g) (l.length - (q1+1)) (q1+1) (l,q1)).2:=by
   rw [e,<- k3,List.length_take,k1]; omega
  rw [hlen,e,<- k3]
  exact h5.delete (by rw [List.take_append_of_le_length yg_,List.take_of_length_le yg_])
attribute [local irreducible] Key.eqb
attribute [local irreducible] V3 iL
def dU (l:List j5) (c:j5):List j5:=if 16 < (V3 l c).length+1 then iL 1 (V3 l c++[c]) else V3 l c++[c]
def uF (l:List j5) (c:j5) (n:Int):Int:=if 16 < (V3 l c).length+1 then IntKind.i64.wrap (n+1) else n
theorem a1O (l:l9C) (c:j5):(dU l c).length=if 16 < (V3 l c).length+1 then (V3 l c).length else (V3 l c).length+1:=by
 unfold dU; split <;> simp [a0s]
def b8w:Ann:={ refs:=[5],base:=4,fin:=some 4 }
@[simp] abbrev a9g (a:Int):=[[(AV.osl 1 0 1 0 1),(AV.osl 2 0 1 0 1),(iI a)]]
@[simp] abbrev uU (a:Int):Ob:=(o_ 0 3 (a9g a))
@[simp] abbrev yU (a:Nat) (b:l9C):Ob:=(o_ 0 1 [[(AV.osl 3 a 9 0 (List.length b))]])
@[simp] abbrev dQ (a:Int) (b:Int) (c:Nat) (d:l9C):Heap:=[uU a,(o_ 0 1 (List.map A9 [b])),yU c d,(o_ c 9 (mC d))]
@[simp] abbrev c7L (a:Nat) (b:l9C) (c:j5):Ob:=(o_ (a+1) 9 (mC ((V3 b c)++[c])))
@[simp] abbrev c7R (a:Int) (b:Int) (c:Nat) (d:l9C) (e:j5):Heap:=[uU a,(o_ 0 1 (List.map A9 [b])),(o_ 0 1 [[(AV.osl 3 (c+1) 9 0 ((V3 d e).length+1))]]),c7L c d e]
@[simp] abbrev a6K (a:Int) (b:Int) (c:Nat) (d:l9C) (e:j5):Heap:=[uU a,(o_ 0 1 (List.map A9 [b])),yU c d,(o_ c 9 (mC (V3 d e)))]
@[simp] abbrev b6w (a:Int) (b:Int) (c:Nat) (d:l9C) (e:j5):Heap:=[uU a,(o_ 0 1 (List.map A9 [b])),yU c d,c7L c d e]
theorem b3i (p lost:Int) (g:Nat) (l:l9C) (c:j5) (hl:l.length < 1000) (h:¬ 16 < (V3 l c).length+1):AC 65 [(oO 0 0 0 0),z_,(AV.agg (j5.row c))] (dQ lost p g l) ((AV.tup []),(c7R lost p g l c)):=by
 have hf:=xO l c
 exact r9 (fn:=Tryz.f65) (ann:=b8w) (Has.o Tryz.func65) (.r (.s (.ch 8 (a6K lost p g l c) (l6.put2 [3] (dQ lost p g l) (AV.osl 3 g 9 0 (V3 l c).length) (a6K lost p g l c) (a9I c l g (List.length l) oa oa) (⟨Ob.ren0 (j5.y8 0 _),trivial⟩) (⟨Ob.ren0 (j5.y8 0 _),trivial⟩)) (.s (.ap 3 30 (AV.osl 3 g 9 0 (V3 l c).length) (AV.sl .clip 9 [(j5.row c)]) (AV.osl 3 (g+1) 9 0 ((V3 l c).length+1)) (b6w lost p g l c) (G7 (row:=j5.row) (l:=(V3 l c)) (x:=c) (T:=tt) (e:=50) (te:=dB) (z:=1) (b:=24) (y:=[.sl .nil 0 []]) kr kr rfl E5 E5 kr Y5 rfl rfl jF) (.s (.y 2 (bB (decide ((((V3 l c).length+1:Nat):Int) > 16))) bF (Yes.b (by exact decide_eq_false ow)) (.rn (.g (.h' (c7R lost p g l c) (.q 4 (AV.tup []))))))))))))
def b8v:Ann:={ refs:=[5],base:=4,fin:=some 4 }
@[simp] abbrev c7Q (a:Int) (b:Int) (c:Nat) (d:l9C) (e:j5):Heap:=[uU a,(o_ 0 1 (List.map A9 [b])),yU c d,(o_ (c+1) 9 (mC (iL 1 ((V3 d e)++[e]))))]
@[simp] abbrev a2l (a:Int):=(IntKind.i64.wrap (a+1))
theorem b3h (p lost:Int) (g:Nat) (l:l9C) (c:j5) (hl:l.length < 1000) (h:16 < (V3 l c).length+1):AC 65 [(oO 0 0 0 0),z_,(AV.agg (j5.row c))] (dQ lost p g l) ((AV.tup []),[(o_ 0 3 [[(AV.osl 1 0 1 0 1),(AV.osl 2 0 1 0 1),(iI (a2l lost))]]),(o_ 0 1 (List.map A9 [p])),(o_ 0 1 [[(AV.osl 3 (g+1) 9 0 ((V3 l c).length+1 - 1))]]),(o_ (g+1) 9 (mC (iL 1 ((V3 l c)++[c]))))]):=by
 have hf:=xO l c
 exact r9 (fn:=Tryz.f65) (ann:=b8v) (Has.o Tryz.func65) (.r (.s (.ch 8 (a6K lost p g l c) (l6.put2 [3] (dQ lost p g l) (AV.osl 3 g 9 0 (V3 l c).length) (a6K lost p g l c) (a9I c l g (List.length l) oa oa) (⟨Ob.ren0 (j5.y8 0 _),trivial⟩) (⟨Ob.ren0 (j5.y8 0 _),trivial⟩)) (.s (.ap 3 30 (AV.osl 3 g 9 0 (V3 l c).length) (AV.sl .clip 9 [(j5.row c)]) (AV.osl 3 (g+1) 9 0 ((V3 l c).length+1)) (b6w lost p g l c) (G7 (row:=j5.row) (l:=(V3 l c)) (x:=c) (T:=tt) (e:=50) (te:=dB) (z:=1) (b:=24) (y:=[.sl .nil 0 []]) kr kr rfl E5 E5 kr Y5 rfl rfl jF) (.s (.y 2 (bB (decide ((((V3 l c).length+1:Nat):Int) > 16))) bT (Yes.b (by exact decide_eq_true ow)) (.ru (.ch 1 (c7Q lost p g l c) (l6.put2 [3] (b6w lost p g l c) (AV.osl 3 (g+1) 9 0 (((V3 l c).length+1) - 1)) (c7Q lost p g l c) (a6i ((V3 l c)++[c]) (g+1) 1 ((V3 l c).length+1) oa oa oa) (⟨Ob.ren0 (j5.y8 0 _),trivial⟩) (⟨Ob.ren0 (j5.y8 0 _),trivial⟩)) (.s (.s (.g (.h' [(o_ 0 3 [[(AV.osl 1 0 1 0 1),(AV.osl 2 0 1 0 1),(iI (a2l lost))]]),(o_ 0 1 (List.map A9 [p])),(o_ 0 1 [[(AV.osl 3 (g+1) 9 0 (((V3 l c).length+1) - 1))]]),(o_ (g+1) 9 (mC (iL 1 ((V3 l c)++[c]))))] (.q 4 (AV.tup [])))))))))))))))
theorem b8u (p lost:Int) (g:Nat) (l:l9C) (c:j5) (hl:l.length < 1000):AC 65 [(oO 0 0 0 0),z_,(AV.agg (j5.row c))] [(o_ 0 3 [[(AV.osl 1 0 1 0 1),(AV.osl 2 0 1 0 1),(iI lost)]]),(o_ 0 1 (List.map A9 [p])),(o_ 0 1 [[(AV.osl 3 g 9 0 (List.length l))]]),(o_ g 9 (mC l))] ((AV.tup []),[(o_ 0 3 [[(AV.osl 1 0 1 0 1),(AV.osl 2 0 1 0 1),(iI (uF l c lost))]]),(o_ 0 1 (List.map A9 [p])),(o_ 0 1 [[(AV.osl 3 (g+1) 9 0 (List.length (dU l c)))]]),(o_ (g+1) 9 (mC (dU l c)))]):=by
 rw [show List.length (dU l c)=_ from a1O l c]
 unfold dU uF
 by_cases h:16 < (V3 l c).length+1
 · rw [if_pos h,if_pos h,if_pos h]; exact b3h p lost g l c hl h
 · rw [if_neg h,if_neg h,if_neg h]; exact b3i p lost g l c hl h
theorem c9o (p lost:Int) (g:Nat) (l:l9C) (c:j5) (hl:l.length < 1000) (H:Heap):AC 65 [(oO 0 0 0 0),z_,(AV.agg (j5.row c))] ((dQ lost p g l)++H) ((AV.tup []),([(o_ 0 3 [[(AV.osl 1 0 1 0 1),(AV.osl 2 0 1 0 1),(iI (uF l c lost))]]),(o_ 0 1 (List.map A9 [p])),(o_ 0 1 [[(AV.osl 3 (g+1) 9 0 (List.length (dU l c)))]]),(o_ (g+1) 9 (mC (dU l c)))]:Heap)++H):=(b8u p lost g l c hl).ext kr kr ob ob kr H
def b9o:Ann:={ fin:=some 0 }
theorem b3T (p:Int) :AC 102 [(sA 1 [[(iI p)]]),(iI p)] [] (z_,[]) :=
 r9 (fn:=Tryz.f102) (ann:=b9o) (Has.o Tryz.func102) (.r (.s (.g (.roll 2 (.r (.ru (.s (.y 5 (bB (p == p)) bT (Yes.b ye_) (.g (.u (.qr 0 z_)))))))))))
theorem b3U (p:Int) :AC 102 [(sA 1 (List.map A9 [p])),(iI p)] [] (z_,[]):=b3T p
def M5 (l:List j5):List j5:=l.take (min l.length 4)
def cZ (l:List j5):List j5:=iL (min l.length 4) l
def b3e:Ann:={ gha:=[(5,.frz 7)],base:=4,fin:=some 4 }
@[simp] abbrev c7P (a:Int) (b:Int) (c:Nat) (d:l9C):Heap:=[uU a,(o_ 0 1 (List.map A9 [b])),yU c d,(o_ c 9 (mC d)),(o_ 0 9 (mC (List.take (min (List.length d) 4) d)))]
@[simp] abbrev b6v (a:Int) (b:Int) (c:Nat) (d:l9C):Heap:=[uU a,(o_ 0 1 (List.map A9 [b])),yU c d,(o_ c 9 (mC (iL (min d.length 4) d))),(o_ 1 9 [])]
@[simp] abbrev c5A (a:l9C):=(sA 9 (mC (List.take (min (List.length a) 4) a)))
theorem b0j (p lost:Int) (g:Nat) (l:l9C) (hl:l.length < 1000):AC 79 [(oO 0 0 0 0),(iI p)] (dQ lost p g l) ((sA 9 (mC (List.take (min l.length 4) l))),[(o_ 0 3 (a9g lost)),(o_ 0 1 (List.map A9 [p])),(o_ 0 1 [[(AV.osl 3 g 9 0 (l.length - (min l.length 4)))]]),(o_ g 9 (mC (iL (min l.length 4) l)))]) :=
 r9 (fn:=Tryz.f79) (ann:=b3e) (Has.o Tryz.func79) (.r (.s (.c 5 (l6.borrow (args:=[(sA 1 (List.map A9 [p])),(iI p)]) (args':=[(AV.osl 1 0 1 0 1),(iI p)]) (H:=(dQ lost p g l)) (b3U p ) rfl (show Brs (dQ lost p g l) [(AV.osl 1 0 1 0 1),(iI p)] [(sA 1 (List.map A9 [p])),(iI p)] from ⟨Br.osl (G8 (room:=none) kr a6Y) (fF _ _),Br.same kr,trivial⟩)) (.s (.rn (.y 8 (.int .i64 (if 4 < (((List.length l):Nat):Int) then 4 else (((List.length l):Nat):Int))) (iN (min (List.length l) 4)) (Yes.int yv_) (.s (.so 8 3 g 9 0 (List.length l) 0 ((min (List.length l) 4:Nat):Int) (AV.osl 3 g 9 0 (min (List.length l) 4)) (O8 (l:=0) (h:=min (List.length l) 4) om om om om om om) (.ch 9 (c7P lost p g l) (l6.qY (args:=[(c5A l)]) (args':=[(AV.osl 3 g 9 0 (min (List.length l) 4))]) (H:=(dQ lost p g l)) (vQ (List.take (min (List.length l) 4) l) oa) (qK (fun _=>rfl) _) (show Brs (dQ lost p g l) [(AV.osl 3 g 9 0 (min (List.length l) 4))] [(c5A l)] from ⟨Br.osl (b0d (room:=none) kr (by first | omega | (simp; omega))) (j5.y8 _ _),trivial⟩)) (.w' 7 (mC (List.take (min (List.length l) 4) l)) (And.intro (G8 (room:=none) kr om) (j5.y8 _ _):G6 (c7P lost p g l) 9 (AV.osl 4 0 9 0 (List.take (min (List.length l) 4) l).length)=some (mC (List.take (min (List.length l) 4) l))/\AV.D7 0 (mC (List.take (min (List.length l) 4) l))=true) (.s (.ch 13 (b6v lost p g l) (l6.put2 [3] [(o_ 0 3 (a9g lost)),(o_ 0 1 (List.map A9 [p])),(o_ 0 1 [[(AV.osl 3 g 9 0 (List.length l))]]),(o_ g 9 (mC l)),(o_ 1 9 [])] (AV.osl 3 g 9 0 ((List.length l) - (min l.length 4))) (b6v lost p g l) (a6i l g (min l.length 4) (List.length l) oa oa oa) (⟨Ob.ren0 (j5.y8 0 _),trivial⟩) (⟨Ob.ren0 (j5.y8 0 _),trivial⟩)) (.rd (AV.osl 2 0 1 0 1) (b6v lost p g l) (.s (.g (.h' [(o_ 0 3 (a9g lost)),(o_ 0 1 (List.map A9 [p])),(o_ 0 1 [[(AV.osl 3 g 9 0 ((List.length l) - (min l.length 4)))]]),(o_ g 9 (mC (iL (min l.length 4) l)))] (.q 4 (c5A l))))))))))))))))))
theorem qL (p lost:Int) (g:Nat) (l:l9C) (hl:l.length < 1000):AC 79 [(oO 0 0 0 0),(iI p)] [(o_ 0 3 [[(AV.osl 1 0 1 0 1),(AV.osl 2 0 1 0 1),(iI lost)]]),(o_ 0 1 (List.map A9 [p])),(o_ 0 1 [[(AV.osl 3 g 9 0 (List.length l))]]),(o_ g 9 (mC l))] ((sA 9 (mC (M5 l))),[(o_ 0 3 [[(AV.osl 1 0 1 0 1),(AV.osl 2 0 1 0 1),(iI lost)]]),(o_ 0 1 (List.map A9 [p])),(o_ 0 1 [[(AV.osl 3 g 9 0 (List.length (cZ l)))]]),(o_ g 9 (mC (cZ l)))]):=by
 unfold cZ M5
 rw [show List.length (iL (min l.length 4) l)=_ from a0s _ l]
 exact b0j p lost g l hl
def xP:Ann:={ gha:=[(8,.cut 4)],base:=4,fin:=some 4,live:=[(1,[0,7,8,9])],out:=[(1,[])] }
attribute [local irreducible] dU uF
theorem b1s (l:l9C) (c:j5):(dU l c).length<=l.length+1:=by
 have:=xO l c
 with_unfolding_all rw [a1O]
 split <;> omega
@[simp] abbrev c7O (a:l9C) (b:l9C) (c:Nat) (d:Int) (e:Int) (f:Nat):Heap:=[(o_ 0 3 [[(AV.osl 1 0 1 0 1),(AV.osl 2 0 1 0 1),(iI (uF a (nth b c) d))]]),(o_ 0 1 (List.map A9 [e])),(o_ 0 1 [[(AV.osl 3 (f+1) 9 0 (List.length (dU a (nth b c))))]]),(o_ (f+1) 9 (mC (dU a (nth b c))))]
@[simp] abbrev c7N (a:l9C) (b:Nat):Fr:=(mkF 27 [(0,(oO 0 0 0 0)),(7,(sA 9 (mC a))),(8,(iN a.length)),(9,(iN b))])
theorem a5r (p:Int) (cs:l9C) (l:l9C) (g:Nat) (lost:Int) (i:Nat) (hcs:cs.length < 100) (hl:l.length<=100+i) (hle_:i<=cs.length) {eX:Ex} {FX:Fr} {HX:Heap} (k1:(decide ((i:Int) < (cs.length:Int)))=true->j6 (l9 Tryz.prog (X xP) (x9 Tryz.f32 0)) (some [0,7,8,9]) (some []) (mkF 27 [(0,(oO 0 0 0 0)),(7,(sA 9 (mC cs))),(8,(iN cs.length)),(9,(iN (i+1)))]) (c7O l cs i lost p g) eX FX HX) (k2:(decide ((i:Int) < (cs.length:Int)))=false->((.exit 0:Ex),(mkF 27 []),(dQ lost p g l))=(eX,FX,HX)):j6 (l9 Tryz.prog (X xP) (x9 Tryz.f32 0)) (some [0,7,8,9]) (some []) (c7N cs i) (dQ lost p g l) eX FX HX:=by
 have hq:=b1s l (nth cs i)
 exact I9 (.r (.g (.two (decide ((i:Int) < (cs.length:Int))) (fun h1 h1'=>(.r (.h' [(o_ 0 3 (a9g lost)),(o_ 0 1 (List.map A9 [p])),(o_ 0 1 [[(AV.osl 3 g 9 0 (List.length l))]]),(o_ g 9 (mC l)),(o_ 0 9 [[e_,e_,z_,z_,z_,z_,z_,z_,bF]])] (.is 0 9 9 (mC cs) (i:Int) (j5.row (nth cs i)) (N7.mk _ ow ow) (.s (.g (.roll 2 (.r (.ru (.s (.ch 3 [(o_ 0 3 [[(AV.osl 1 0 1 0 1),(AV.osl 2 0 1 0 1),(iI (uF l (nth cs i) lost))]]),(o_ 0 1 (List.map A9 [p])),(o_ 0 1 [[(AV.osl 3 (g+1) 9 0 (List.length (dU l (nth cs i))))]]),(o_ (g+1) 9 (mC (dU l (nth cs i)))),(o_ 0 9 [(j5.row (nth cs i))])] (c9o p lost g l (nth cs i) oa [(o_ 0 9 [(j5.row (nth cs i))])]) (.s (.s (.rn (.y 0 (.int .i64 (cb_ i)) (iN (i+1)) Yes.o (.h' (c7O l cs i lost p g) (.b 4 (.g (.l (k1 h1)))))))))))))))))))) (fun h1 h1'=>(.l (k2 h1))))))
def a2W (p:Int) (cs:List j5) (i:Nat) (s:(List j5) × Nat × Int):(List j5) × Nat × Int:=(dU s.1 (nth cs i),(s.2.1+1),(uF s.1 (nth cs i) s.2.2))
theorem b8t (p:Int) (cs:l9C) (hcs:cs.length < 100)  (r_:Nat):∀ (l:l9C) (g:Nat) (lost:Int) (i:Nat) (sF:(l9C) × Nat × Int),i+r_=cs.length->l.length<=100+i->sF=iter (a2W p cs) r_ i (l,g,lost) ->
 j6 (l9 Tryz.prog (X xP) (x9 Tryz.f32 0)) (some [0,7,8,9]) (some []) (c7N cs i) (dQ lost p g l) (.exit 0) (mkF 27 []) [(o_ 0 3 [[(AV.osl 1 0 1 0 1),(AV.osl 2 0 1 0 1),(iI sF.2.2)]]),(o_ 0 1 (List.map A9 [p])),(o_ 0 1 [[(AV.osl 3 sF.2.1 9 0 (List.length sF.1))]]),(o_ sF.2.1 9 (mC sF.1))]:=by
 induction r_ with
 | zero =>
  intro l g lost i sF hi_ hl  hF
  obtain rfl:cs.length=i:=by omega
  have e_:sF=(l,g,lost):=hF
  refine a5r p cs l g lost cs.length hcs hl (Nat.le_refl _) (fun h=>by simp at h <;> omega) (fun _=>?_)
  first | done | rfl | (rw [e_]; done) | (rw [e_]; rfl)
 | succ r_ ih =>
  intro l g lost i sF hi_ hl  hF
  refine a5r p cs l g lost i hcs hl ow (fun h1=>?_) (fun h=>by simp at h <;> omega)
  · exact ih (dU l (nth cs i)) (g+1) (uF l (nth cs i) lost) (i+1) sF ow (by have hq:=b1s l (nth cs i); first | omega | assumption | (simp; done) | (simp; omega) | (simp [*]; done) | (simp [*]; omega))  (by rw [hF] <;> simp only [iter,a2W,if_true,Bool.false_eq_true,if_false])
def qA (p:Int) (cs l:List j5) (g:Nat) (lost:Int):List j5 × Nat × Int:=iter (a2W p cs) cs.length 0 (l,g,lost)
theorem c9p {l:l9C} (c:j5) (h:l.length<=16):(dU l c).length<=16:=by
 have:=xO l c
 with_unfolding_all rw [a1O]
 split <;> omega
theorem wG (p:Int) (cs l:l9C) (g:Nat) (lost:Int) (h:l.length<=16):(qA p cs l g lost).1.length<=16 :=
 sQ (a2W p cs) (fun i s=>s.1.length<=16) cs.length (fun i s _ hs=>c9p _ hs) cs.length 0 (l,g,lost) ow h
@[simp] abbrev d3I (a:Int) (b:l9C) (c:l9C) (d:Nat) (e:Int):Heap:=[(o_ 0 3 [[(AV.osl 1 0 1 0 1),(AV.osl 2 0 1 0 1),(iI (qA a b c d e).2.2)]]),(o_ 0 1 (List.map A9 [a])),(o_ 0 1 [[(AV.osl 3 (qA a b c d e).2.1 9 0 (List.length (qA a b c d e).1))]]),(o_ ((qA a b c d e).2.1) 9 (mC (qA a b c d e).1))]
theorem xQ (cs:l9C) (p lost:Int) (g:Nat) (l:l9C) (hl:l.length<=16) (hcs:cs.length < 100):AC 32 [(oO 0 0 0 0),(sA 9 (mC cs))] (dQ lost p g l) ((AV.tup []),(d3I p cs l g lost)) :=
 r9 (fn:=Tryz.f32) (ann:=xP) (Has.o Tryz.func32) (.r (.y 1 (.int .i64 ((List.length (mC cs):Nat):Int)) (iN cs.length) (Yes.len _ _ _) (.g (.loop (mkF 27 []) (b8t p cs hcs cs.length l g lost 0 (qA p cs l g lost) ow ow rfl) (.q 4 (AV.tup []))))))
end Go.Proofs.YtmghjcbabebanaaGreat.AM
namespace Go.Proofs.YtmghjcbabebanaaGreat.AM
open Go Go.Proofs.YtmghjcbabebanaaGreat
attribute [local irreducible] F5 G9 J6 L8 O5 bJ j6 l6 l9 stR
structure Msg where
 kind:Int
 op:Int
 status:Int
 code:Int
 tag:Int
 n:Int
 seq:Int
 key:Key
 full:Bool
 sum:Int
 cards:List j5
 keys:List Key
 deriving Inhabited
def Msg.row (x:Msg):List AV:=[(iI x.kind),(iI x.op),(iI x.status),(iI x.code),(iI x.tag),(iI x.n),(iI x.seq),(AV.str x.key.app),(AV.str x.key.id),(bB x.full),(AV.int .u32 x.sum),(sA 9 (mC x.cards)),(sA 2 (mK x.keys))]
@[simp] theorem Msg.R7 (n:Nat) (x:Msg):AV.bdds n x.row=true:=by simp [Msg.row,AV.bdds,AV.bdd]
@[simp] theorem Msg.y8 (n:Nat) (l:List Msg):AV.D7 n (l.map Msg.row)=true:=by induction l with | nil=>rfl | cons x l ih=>simp [AV.D7,Msg.R7,ih]
def c0n:Ann:={ fin:=some 0 }
theorem b4v (l:l9C) (h:¬ l.length=0):AC 158 [(sA 9 (mC l)),(AV.sl .nil 0 [])] [] ((bB (decide (l.length=0))),[]) :=
 r9 (fn:=Tryz.f158) (ann:=c0n) (Has.o Tryz.func158) (.r (.s (.y 1 (.int .i64 ((List.length (mC l):Nat):Int)) (iN l.length) (Yes.len _ _ _) (.y 4 (bB ((l.length:Int) != 0)) bT (Yes.b (by simp; intro q; subst q; exact h rfl)) (.g (.u (.qr 0 bF (by simp [h]))))))))
def c0m:Ann:={ fin:=some 0 }
theorem b4u  :AC 158 [(sA 9 []),(AV.sl .nil 0 [])] [] (bT,[]) :=
 r9 (fn:=Tryz.f158) (ann:=c0m) (Has.o Tryz.func158) (.r (.s (.rn (.g (.roll 1 (.r (.g (.n (.qr 0 bT)))))))))
theorem c0l (l:l9C) :AC 158 [(sA 9 (mC l)),(AV.sl .nil 0 [])] [] ((bB (decide (l.length=0))),[]):=by
 by_cases h:l.length=0
 · obtain rfl:l=[]:=List.eq_nil_of_length_eq_zero h
   exact b4u
 · exact b4v l h
def c0k:Ann:={ fin:=some 0 }
theorem b4t (l:l9K) (h:¬ l.length=0):AC 159 [(sA 2 (mK l)),(AV.sl .nil 0 [])] [] ((bB (decide (l.length=0))),[]) :=
 r9 (fn:=Tryz.f159) (ann:=c0k) (Has.o Tryz.func159) (.r (.s (.y 1 (.int .i64 ((List.length (mK l):Nat):Int)) (iN l.length) (Yes.len _ _ _) (.y 4 (bB ((l.length:Int) != 0)) bT (Yes.b (by simp; intro q; subst q; exact h rfl)) (.g (.u (.qr 0 bF (by simp [h]))))))))
def c0j:Ann:={ fin:=some 0 }
theorem b4s  :AC 159 [(sA 2 []),(AV.sl .nil 0 [])] [] (bT,[]) :=
 r9 (fn:=Tryz.f159) (ann:=c0j) (Has.o Tryz.func159) (.r (.s (.rn (.g (.roll 1 (.r (.g (.n (.qr 0 bT)))))))))
theorem c0i (l:l9K) :AC 159 [(sA 2 (mK l)),(AV.sl .nil 0 [])] [] ((bB (decide (l.length=0))),[]):=by
 by_cases h:l.length=0
 · obtain rfl:l=[]:=List.eq_nil_of_length_eq_zero h
   exact b4s
 · exact b4t l h
def b9g:Ann:={ refs:=[1],fin:=some 0 }
theorem b3F (c:j5) :AC 58 [(AV.agg (j5.row c))] [] ((bB (!(O5 c))),[]) :=
 r9 (fn:=Tryz.f58) (ann:=b9g) (Has.o Tryz.func58) (.r (.s (.c 1 ((a1z c).lift kr kr []) (.q 0 (bB (!(O5 c)))))))
theorem a8h (c:j5)  (H:Heap):AC 58 [(AV.agg (j5.row c))] H ((bB (!(O5 c))),H):=(b3F c ).lift kr kr H
def a4s:Ann:={ fin:=some 0,live:=[(2,[0,1,7,8])],out:=[(2,[0,1,7,8])] }
@[simp] abbrev b6D (a:l9C) (b:Nat):Fr:=(mkF 19 [(0,(sA 9 (mC a))),(1,(AV.func 58 [])),(7,(iN a.length)),(8,(iN b))])
@[simp] abbrev c5z :=(l9 Tryz.prog (X a4s) (x9 Tryz.f105 0))
theorem a7Z (l:l9C)  (i:Nat) (hl:l.length < 1099511627776) (hle_:i<=l.length) {eX:Ex} {FX:Fr} {HX:Heap} (k1:(decide ((i:Int) < (l.length:Int)))=true->(!(O5 (nth l i)))=true->((.ret:Ex),(b6D l i),[])=(eX,FX,HX)) (k2:(decide ((i:Int) < (l.length:Int)))=true->(!(O5 (nth l i)))=false->j6 c5z (some [0,1,7,8]) (some [0,1,7,8]) (mkF 19 [(0,(sA 9 (mC l))),(1,(AV.func 58 [])),(7,(iN l.length)),(8,(iN (i+1)))]) [] eX FX HX) (k3:(decide ((i:Int) < (l.length:Int)))=false->((.exit 0:Ex),(b6D l i),[])=(eX,FX,HX)):j6 c5z (some [0,1,7,8]) (some [0,1,7,8]) (b6D l i) [] eX FX HX :=
 I9 (.r (.g (.two (decide ((i:Int) < (l.length:Int))) (fun h1 h1'=>(.r (.s (.is 3 9 9 (mC l) (i:Int) (j5.row (nth l i)) (N7.mk _ ow ow) (.c 5 (a8h (nth l i)  ([]:Heap)) (.g (.two (!(O5 (nth l i))) (fun h2 h2'=>(.r (.g (.l (k1 h1 h2))))) (fun h2 h2'=>(.r (.y 0 (.int .i64 (cb_ i)) (iN (i+1)) Yes.o (.g (.l (k2 h1 h2))))))))))))) (fun h1 h1'=>(.l (k3 h1))))))
def a6z (l:List j5) (i:Nat) (s:Unit):Unit:=()
def b1z (l:List j5)  (i:Nat):Prop:=(((decide ((i:Int) < (l.length:Int)))=true)/\((!(O5 (nth l i)))=true))
@[simp] abbrev c6w (a:l9C):Fr:=(mkF 19 [(0,(sA 9 (mC a))),(1,(AV.func 58 [])),(7,(iN a.length)),(8,(iN a.length))])
theorem c3R (l:l9C) (hl:l.length < 1099511627776)  (hbad:∀ (i:Nat),i < l.length->¬ b1z l  i) (r_:Nat):∀  (i:Nat) (sF:Unit),i+r_=l.length->()=(iter (a6z l) i 0 ())->sF=iter (a6z l) r_ i () ->
 j6 (l9 Tryz.prog (X a4s) (x9 Tryz.f105 0)) (some [0,1,7,8]) (some [0,1,7,8]) (b6D l i) [] (.exit 0) (c6w l) []:=by
 induction r_ with
 | zero =>
  intro  i sF hi_  hs_ hF
  obtain rfl:l.length=i:=by omega
  have e_:sF=():=hF
  refine a7Z l  l.length hl (Nat.le_refl _) (fun h _=>by simp at h <;> omega) (fun h _=>by simp at h <;> omega) (fun _=>?_)
  first | done | rfl | (rw [e_]; done) | (rw [e_]; rfl)
 | succ r_ ih =>
  intro  i sF hi_  hs_ hF
  refine a7Z l  i hl ow (fun h1 h2=>?_) (fun h1 h2=>?_) (fun h=>by simp at h <;> omega)
  · exact False.elim (by have hb_:=hbad i ow; (try rw [<- hs_] at hb_); exact hb_ (⟨h1,h2⟩))
  · exact ih  (i+1) sF ow  (by rw [a0l,<- hs_] <;> simp only [a6z,h2,if_true,Bool.false_eq_true,if_false]) (by rw [hF] <;> simp only [iter,a6z,h2,if_true,Bool.false_eq_true,if_false])
theorem c3Q (l:l9C) (hl:l.length < 1099511627776) (hr:∀ c∈l,O5 c=true):AC 105 [(sA 9 (mC l)),(AV.func 58 [])] [] ((iI (-1)),[]) :=
 r9 (fn:=Tryz.f105) (ann:=a4s) (Has.o Tryz.func105) (.r (.s (.y 1 (.int .i64 ((List.length (mC l):Nat):Int)) (iN l.length) (Yes.len _ _ _) (.g (.loop (c6w l) (show j6 c5z (some [0,1,7,8]) (some [0,1,7,8]) (mkF 19 [(0,(sA 9 (mC l))),(1,(AV.func 58 [])),(7,(iN l.length)),(8,z_)]) [] (.exit 0) (c6w l) [] from (c3R l hl (fun i hi=>by simp only [b1z]; rw [hr _ (mZ hi)]; simp) l.length 0 () ow rfl rfl)) (.qr 0 (iI (-1))))))))
def b9e:Ann:={ fin:=some 0 }
theorem b3C (l:l9C) (hl:l.length < 1099511627776) (hr:∀ c∈l,O5 c=true):AC 57 [(sA 9 (mC l)),(AV.func 58 [])] [] (bF,[]) :=
 r9 (fn:=Tryz.f57) (ann:=b9e) (Has.o Tryz.func57) (.r (.s (.c 2 ((c3Q l oa oa).lift kr kr []) (.q 0 bF))))
attribute [local irreducible] ofB
def gH (x:Msg):Bool:=decide (x.cards.length=0)&&(decide (x.keys.length=0)&&((x.kind == 0)&&((x.op == 0)&&((x.status == 0)&&((x.code == 0)&&((x.tag == 0)&&((x.n == 0)&&((x.seq == 0)&&(Key.eqb x.key ⟨⟨#[]⟩,⟨#[]⟩⟩&&((x.full == false)&&(x.sum == 0)))))))))))
def L9 (x:Msg):Bool :=
 if x.kind=1 then gH ⟨0,0,0,x.code,0,0,0,⟨⟨#[]⟩,⟨#[]⟩⟩,x.full,x.sum,x.cards,x.keys⟩
 else if x.kind=2 then gH ⟨0,0,x.status,0,0,x.n,0,⟨⟨#[]⟩,⟨#[]⟩⟩,false,0,[],x.keys⟩
 else if x.kind=3\/x.kind=4 then gH ⟨0,x.op,x.status,x.code,x.tag,x.n,x.seq,x.key,x.full,x.sum,[],x.keys⟩
 else if x.kind=5 then gH ⟨0,x.op,x.status,x.code,x.tag,x.n,x.seq,x.key,x.full,x.sum,x.cards,[]⟩
 else gH ⟨0,x.op,x.status,x.code,x.tag,x.n,x.seq,x.key,x.full,x.sum,x.cards,x.keys⟩
def Q6 (k:Key):Bool:=bJ k.app&&bJ k.id
def opM (x:Msg):Bool:=if x.kind=1\/x.kind=2 then (if x.op=5 then Key.eqb x.key ⟨⟨#[]⟩,⟨#[]⟩⟩ else decide (1<=x.op)&&(decide (x.op < 5)&&Q6 x.key)) else true
def I6 (n:Int):Bool:=decide (0<=n)&&decide (n<=255)
def R4 (x:Msg):Bool:=(decide (1<=x.kind)&&decide (x.kind<=5))&&(L9 x&&(opM x&&((I6 x.code&&(I6 x.status&&decide (-1<=x.seq)))&&((decide (x.cards.length<=64)&&decide (x.keys.length<=64))&&(x.cards.all O5&&x.keys.all Q6)))))
def b3A:Ann:={ refs:=[2,3],fin:=some 0 }
theorem pE {p:Prop} (h:p:=by simp only [gH]; simp_all):p:=h
theorem bR (x:Msg) :AC 103 [(AV.agg (Msg.row x)),(AV.agg [z_,z_,z_,z_,z_,z_,z_,e_,e_,bF,(AV.int .u32 0),(AV.sl .nil 0 []),(AV.sl .nil 0 [])])] [] ((bB (gH x)),[]) :=
 r9 (fn:=Tryz.f103) (ann:=b3A) (Has.o Tryz.func103) (.r (.s (.c 4 ((c0l x.cards).lift kr kr []) (.two (!(decide (x.cards.length=0))) (fun h1 h1'=>(.u5 (.g (.u (.qr 0 bF pE))))) (fun h1 h1'=>(.n4 (.c 11 ((c0i x.keys).lift kr kr []) (.n (.g (.two (!(decide (x.keys.length=0))) (fun h2 h2'=>(.qr 0 bF pE)) (fun h2 h2'=>(.r (.two (x.kind == 0) (fun h3 h3'=>(.u4 (.two (x.op == 0) (fun h4 h4'=>(.u4 (.two (x.status == 0) (fun h5 h5'=>(.u4 (.two (x.code == 0) (fun h6 h6'=>(.u4 (.two (x.tag == 0) (fun h7 h7'=>(.u4 (.two (x.n == 0) (fun h8 h8'=>(.u4 (.two (x.seq == 0) (fun h9 h9'=>(.u4 (.two (Key.eqb x.key (Key.mk (ByteArray.mk #[]) (ByteArray.mk #[]))) (fun h10 h10'=>(.u4 (.two (x.full == false) (fun h11 h11'=>(.u4 (.q 0 (bB (x.sum == 0)) pE))) (fun h11 h11'=>(.n4 (.q 0 bF pE)))))) (fun h10 h10'=>(.n6 (.n3 (.q 0 bF pE))))))) (fun h9 h9'=>(.n6 (.n6 (.n2 (.q 0 bF pE)))))))) (fun h8 h8'=>(.n6 (.n6 (.n6 (.n (.q 0 bF pE))))))))) (fun h7 h7'=>(.n6 (.n6 (.n6 (.n6 (.q 0 bF pE))))))))) (fun h6 h6'=>(.n6 (.n6 (.n6 (.n6 (.n5 (.q 0 bF pE)))))))))) (fun h5 h5'=>(.n6 (.n6 (.n6 (.n6 (.n6 (.n4 (.q 0 bF pE))))))))))) (fun h4 h4'=>(.n6 (.n6 (.n6 (.n6 (.n6 (.n6 (.n3 (.q 0 bF pE)))))))))))) (fun h3 h3'=>(.n6 (.n6 (.n6 (.n6 (.n6 (.n6 (.n6 (.n2 (.q 0 bF pE)))))))))))))))))))))))
attribute [local irreducible] gH
def b8N:Ann:={ fin:=some 0 }
@[simp] abbrev d0x (a:Msg):=[z_,(iI a.op),(iI a.status),(iI a.code),(iI a.tag),(iI a.n),(iI a.seq),(AV.str a.key.app),(AV.str a.key.id),(bB a.full),(AV.int .u32 a.sum),(AV.sl .nil 0 []),(sA 2 (mK a.keys))]
@[simp] abbrev c6v (a:Msg):Heap:=[(o_ 0 13 [(d0x a)])]
@[simp] abbrev d0w (a:Msg):=[z_,(iI a.op),(iI a.status),(iI a.code),(iI a.tag),(iI a.n),(iI a.seq),(AV.str a.key.app),(AV.str a.key.id),(bB a.full),(AV.int .u32 a.sum),(sA 9 (mC a.cards)),(AV.sl .nil 0 [])]
@[simp] abbrev c6u (a:Msg):Heap:=[(o_ 0 13 [(d0w a)])]
@[simp] abbrev d0v (a:Msg):=[z_,(iI a.op),(iI a.status),(iI a.code),(iI a.tag),(iI a.n),(iI a.seq),(AV.str a.key.app),(AV.str a.key.id),(bB a.full),(AV.int .u32 a.sum),(sA 9 (mC a.cards)),(sA 2 (mK a.keys))]
@[simp] abbrev c6t (a:Msg):Heap:=[(o_ 0 13 [(d0v a)])]
theorem zO {p:Prop} (h:p:=by (try delta c6v c6u c6t); simp only [L9]; simp_all):p:=h
@[simp] abbrev d4v (a:Msg):=(bB (gH (Msg.mk 0 0 0 a.code 0 0 0 (Key.mk (ByteArray.mk #[]) (ByteArray.mk #[])) a.full a.sum a.cards a.keys)))
@[simp] abbrev d4u (a:Msg):=(bB (gH (Msg.mk 0 0 a.status 0 0 a.n 0 (Key.mk (ByteArray.mk #[]) (ByteArray.mk #[])) false 0 [] a.keys)))
@[simp] abbrev d1s (a:Msg):=(AV.agg (Msg.row (Msg.mk 0 a.op a.status a.code a.tag a.n a.seq a.key a.full a.sum [] a.keys)))
@[simp] abbrev d1r (a:Msg):=(AV.agg (d0x a))
@[simp] abbrev d1q (a:Msg):=(bB (gH (Msg.mk 0 a.op a.status a.code a.tag a.n a.seq a.key a.full a.sum [] a.keys)))
@[simp] abbrev d1p (a:Msg):=(AV.agg (Msg.row (Msg.mk 0 a.op a.status a.code a.tag a.n a.seq a.key a.full a.sum a.cards [])))
@[simp] abbrev d1o (a:Msg):=(AV.agg (d0w a))
@[simp] abbrev d1n (a:Msg):=(bB (gH (Msg.mk 0 a.op a.status a.code a.tag a.n a.seq a.key a.full a.sum a.cards [])))
@[simp] abbrev d1m (a:Msg):=(AV.agg (Msg.row (Msg.mk 0 a.op a.status a.code a.tag a.n a.seq a.key a.full a.sum a.cards a.keys)))
@[simp] abbrev d1l (a:Msg):=(AV.agg (d0v a))
@[simp] abbrev d1k (a:Msg):=(bB (gH (Msg.mk 0 a.op a.status a.code a.tag a.n a.seq a.key a.full a.sum a.cards a.keys)))
theorem b3z (x:Msg) :AC 54 [(AV.agg (Msg.row x))] [] ((bB (L9 x)),[]) :=
 r9 (fn:=Tryz.f54) (ann:=b8N) (Has.o Tryz.func54) (.r (.s (.s (.g (.two (x.kind == 1) (fun h1 h1'=>(.r (.s (.s (.c 2 (l6.pre (args:=[(AV.agg (Msg.row (Msg.mk 0 0 0 x.code 0 0 0 (Key.mk (ByteArray.mk #[]) (ByteArray.mk #[])) x.full x.sum x.cards x.keys))),(AV.agg [z_,z_,z_,z_,z_,z_,z_,e_,e_,bF,(AV.int .u32 0),(AV.sl .nil 0 []),(AV.sl .nil 0 [])])]) (args':=[(AV.agg [z_,z_,z_,(iI x.code),z_,z_,z_,e_,e_,(bB x.full),(AV.int .u32 x.sum),(sA 9 (mC x.cards)),(sA 2 (mK x.keys))]),(AV.agg [z_,z_,z_,z_,z_,z_,z_,e_,e_,bF,(AV.int .u32 0),(AV.sl .nil 0 []),(AV.sl .nil 0 [])])]) ((bR (Msg.mk 0 0 0 x.code 0 0 0 (Key.mk (ByteArray.mk #[]) (ByteArray.mk #[])) x.full x.sum x.cards x.keys)).lift kr kr [(o_ 0 13 [[z_,z_,z_,(iI x.code),z_,z_,z_,e_,e_,(bB x.full),(AV.int .u32 x.sum),(sA 9 (mC x.cards)),(sA 2 (mK x.keys))]])]) ⟨⟨AV.j4 _,AV.j4 _,AV.j4 _,AV.j4 _,AV.j4 _,AV.j4 _,AV.j4 _,AV.j4 _,AV.j4 _,AV.j4 _,AV.j4 _,⟨rfl,rfl,.inl rfl⟩,⟨rfl,rfl,.inl rfl⟩,trivial⟩,⟨AV.j4 _,AV.j4 _,AV.j4 _,AV.j4 _,AV.j4 _,AV.j4 _,AV.j4 _,AV.j4 _,AV.j4 _,AV.j4 _,AV.j4 _,⟨rfl,rfl,.inl rfl⟩,⟨rfl,rfl,.inl rfl⟩,trivial⟩,trivial⟩) (.q 0 (d4v x) zO)))))) (fun h1 h1'=>(.r (.g (.two (x.kind == 2) (fun h2 h2'=>(.r (.s (.s (.c 2 (l6.pre (args:=[(AV.agg (Msg.row (Msg.mk 0 0 x.status 0 0 x.n 0 (Key.mk (ByteArray.mk #[]) (ByteArray.mk #[])) false 0 [] x.keys))),(AV.agg [z_,z_,z_,z_,z_,z_,z_,e_,e_,bF,(AV.int .u32 0),(AV.sl .nil 0 []),(AV.sl .nil 0 [])])]) (args':=[(AV.agg [z_,z_,(iI x.status),z_,z_,(iI x.n),z_,e_,e_,bF,(AV.int .u32 0),(AV.sl .nil 0 []),(sA 2 (mK x.keys))]),(AV.agg [z_,z_,z_,z_,z_,z_,z_,e_,e_,bF,(AV.int .u32 0),(AV.sl .nil 0 []),(AV.sl .nil 0 [])])]) ((bR (Msg.mk 0 0 x.status 0 0 x.n 0 (Key.mk (ByteArray.mk #[]) (ByteArray.mk #[])) false 0 [] x.keys)).lift kr kr [(o_ 0 13 [[z_,z_,(iI x.status),z_,z_,(iI x.n),z_,e_,e_,bF,(AV.int .u32 0),(AV.sl .nil 0 []),(sA 2 (mK x.keys))]])]) ⟨⟨AV.j4 _,AV.j4 _,AV.j4 _,AV.j4 _,AV.j4 _,AV.j4 _,AV.j4 _,AV.j4 _,AV.j4 _,AV.j4 _,AV.j4 _,⟨rfl,rfl,.inr rfl⟩,⟨rfl,rfl,.inl rfl⟩,trivial⟩,⟨AV.j4 _,AV.j4 _,AV.j4 _,AV.j4 _,AV.j4 _,AV.j4 _,AV.j4 _,AV.j4 _,AV.j4 _,AV.j4 _,AV.j4 _,⟨rfl,rfl,.inl rfl⟩,⟨rfl,rfl,.inl rfl⟩,trivial⟩,trivial⟩) (.q 0 (d4u x) zO)))))) (fun h2 h2'=>(.r (.g (.two (x.kind == 3) (fun h3 h3'=>(.two (x.kind == 3) (fun h4 h4'=>(.r (.s (.s (.c 2 (l6.pre (args:=[(d1s x),(AV.agg [z_,z_,z_,z_,z_,z_,z_,e_,e_,bF,(AV.int .u32 0),(AV.sl .nil 0 []),(AV.sl .nil 0 [])])]) (args':=[(d1r x),(AV.agg [z_,z_,z_,z_,z_,z_,z_,e_,e_,bF,(AV.int .u32 0),(AV.sl .nil 0 []),(AV.sl .nil 0 [])])]) ((bR (Msg.mk 0 x.op x.status x.code x.tag x.n x.seq x.key x.full x.sum [] x.keys)).lift kr kr (c6v x)) ⟨⟨AV.j4 _,AV.j4 _,AV.j4 _,AV.j4 _,AV.j4 _,AV.j4 _,AV.j4 _,AV.j4 _,AV.j4 _,AV.j4 _,AV.j4 _,⟨rfl,rfl,.inr rfl⟩,⟨rfl,rfl,.inl rfl⟩,trivial⟩,⟨AV.j4 _,AV.j4 _,AV.j4 _,AV.j4 _,AV.j4 _,AV.j4 _,AV.j4 _,AV.j4 _,AV.j4 _,AV.j4 _,AV.j4 _,⟨rfl,rfl,.inl rfl⟩,⟨rfl,rfl,.inl rfl⟩,trivial⟩,trivial⟩) (.q 0 (d1q x) zO)))))) (fun h4 h4'=>(.r (.g (.two (x.kind == 5) (fun h5 h5'=>(.r (.s (.s (.c 2 (l6.pre (args:=[(d1p x),(AV.agg [z_,z_,z_,z_,z_,z_,z_,e_,e_,bF,(AV.int .u32 0),(AV.sl .nil 0 []),(AV.sl .nil 0 [])])]) (args':=[(d1o x),(AV.agg [z_,z_,z_,z_,z_,z_,z_,e_,e_,bF,(AV.int .u32 0),(AV.sl .nil 0 []),(AV.sl .nil 0 [])])]) ((bR (Msg.mk 0 x.op x.status x.code x.tag x.n x.seq x.key x.full x.sum x.cards [])).lift kr kr (c6u x)) ⟨⟨AV.j4 _,AV.j4 _,AV.j4 _,AV.j4 _,AV.j4 _,AV.j4 _,AV.j4 _,AV.j4 _,AV.j4 _,AV.j4 _,AV.j4 _,⟨rfl,rfl,.inl rfl⟩,⟨rfl,rfl,.inr rfl⟩,trivial⟩,⟨AV.j4 _,AV.j4 _,AV.j4 _,AV.j4 _,AV.j4 _,AV.j4 _,AV.j4 _,AV.j4 _,AV.j4 _,AV.j4 _,AV.j4 _,⟨rfl,rfl,.inl rfl⟩,⟨rfl,rfl,.inl rfl⟩,trivial⟩,trivial⟩) (.q 0 (d1n x) zO)))))) (fun h5 h5'=>(.r (.s (.c 2 (l6.pre (args:=[(d1m x),(AV.agg [z_,z_,z_,z_,z_,z_,z_,e_,e_,bF,(AV.int .u32 0),(AV.sl .nil 0 []),(AV.sl .nil 0 [])])]) (args':=[(d1l x),(AV.agg [z_,z_,z_,z_,z_,z_,z_,e_,e_,bF,(AV.int .u32 0),(AV.sl .nil 0 []),(AV.sl .nil 0 [])])]) ((bR (Msg.mk 0 x.op x.status x.code x.tag x.n x.seq x.key x.full x.sum x.cards x.keys)).lift kr kr (c6t x)) ⟨⟨AV.j4 _,AV.j4 _,AV.j4 _,AV.j4 _,AV.j4 _,AV.j4 _,AV.j4 _,AV.j4 _,AV.j4 _,AV.j4 _,AV.j4 _,⟨rfl,rfl,.inl rfl⟩,⟨rfl,rfl,.inl rfl⟩,trivial⟩,⟨AV.j4 _,AV.j4 _,AV.j4 _,AV.j4 _,AV.j4 _,AV.j4 _,AV.j4 _,AV.j4 _,AV.j4 _,AV.j4 _,AV.j4 _,⟨rfl,rfl,.inl rfl⟩,⟨rfl,rfl,.inl rfl⟩,trivial⟩,trivial⟩) (.q 0 (d1k x) zO))))))))))) (fun h3 h3'=>(.r (.g (.two (x.kind == 4) (fun h4 h4'=>(.r (.s (.s (.c 2 (l6.pre (args:=[(d1s x),(AV.agg [z_,z_,z_,z_,z_,z_,z_,e_,e_,bF,(AV.int .u32 0),(AV.sl .nil 0 []),(AV.sl .nil 0 [])])]) (args':=[(d1r x),(AV.agg [z_,z_,z_,z_,z_,z_,z_,e_,e_,bF,(AV.int .u32 0),(AV.sl .nil 0 []),(AV.sl .nil 0 [])])]) ((bR (Msg.mk 0 x.op x.status x.code x.tag x.n x.seq x.key x.full x.sum [] x.keys)).lift kr kr (c6v x)) ⟨⟨AV.j4 _,AV.j4 _,AV.j4 _,AV.j4 _,AV.j4 _,AV.j4 _,AV.j4 _,AV.j4 _,AV.j4 _,AV.j4 _,AV.j4 _,⟨rfl,rfl,.inr rfl⟩,⟨rfl,rfl,.inl rfl⟩,trivial⟩,⟨AV.j4 _,AV.j4 _,AV.j4 _,AV.j4 _,AV.j4 _,AV.j4 _,AV.j4 _,AV.j4 _,AV.j4 _,AV.j4 _,AV.j4 _,⟨rfl,rfl,.inl rfl⟩,⟨rfl,rfl,.inl rfl⟩,trivial⟩,trivial⟩) (.q 0 (d1q x) zO)))))) (fun h4 h4'=>(.r (.g (.two (x.kind == 5) (fun h5 h5'=>(.r (.s (.s (.c 2 (l6.pre (args:=[(d1p x),(AV.agg [z_,z_,z_,z_,z_,z_,z_,e_,e_,bF,(AV.int .u32 0),(AV.sl .nil 0 []),(AV.sl .nil 0 [])])]) (args':=[(d1o x),(AV.agg [z_,z_,z_,z_,z_,z_,z_,e_,e_,bF,(AV.int .u32 0),(AV.sl .nil 0 []),(AV.sl .nil 0 [])])]) ((bR (Msg.mk 0 x.op x.status x.code x.tag x.n x.seq x.key x.full x.sum x.cards [])).lift kr kr (c6u x)) ⟨⟨AV.j4 _,AV.j4 _,AV.j4 _,AV.j4 _,AV.j4 _,AV.j4 _,AV.j4 _,AV.j4 _,AV.j4 _,AV.j4 _,AV.j4 _,⟨rfl,rfl,.inl rfl⟩,⟨rfl,rfl,.inr rfl⟩,trivial⟩,⟨AV.j4 _,AV.j4 _,AV.j4 _,AV.j4 _,AV.j4 _,AV.j4 _,AV.j4 _,AV.j4 _,AV.j4 _,AV.j4 _,AV.j4 _,⟨rfl,rfl,.inl rfl⟩,⟨rfl,rfl,.inl rfl⟩,trivial⟩,trivial⟩) (.q 0 (d1n x) zO)))))) (fun h5 h5'=>(.r (.s (.c 2 (l6.pre (args:=[(d1m x),(AV.agg [z_,z_,z_,z_,z_,z_,z_,e_,e_,bF,(AV.int .u32 0),(AV.sl .nil 0 []),(AV.sl .nil 0 [])])]) (args':=[(d1l x),(AV.agg [z_,z_,z_,z_,z_,z_,z_,e_,e_,bF,(AV.int .u32 0),(AV.sl .nil 0 []),(AV.sl .nil 0 [])])]) ((bR (Msg.mk 0 x.op x.status x.code x.tag x.n x.seq x.key x.full x.sum x.cards x.keys)).lift kr kr (c6t x)) ⟨⟨AV.j4 _,AV.j4 _,AV.j4 _,AV.j4 _,AV.j4 _,AV.j4 _,AV.j4 _,AV.j4 _,AV.j4 _,AV.j4 _,AV.j4 _,⟨rfl,rfl,.inl rfl⟩,⟨rfl,rfl,.inl rfl⟩,trivial⟩,⟨AV.j4 _,AV.j4 _,AV.j4 _,AV.j4 _,AV.j4 _,AV.j4 _,AV.j4 _,AV.j4 _,AV.j4 _,AV.j4 _,AV.j4 _,⟨rfl,rfl,.inl rfl⟩,⟨rfl,rfl,.inl rfl⟩,trivial⟩,trivial⟩) (.q 0 (d1k x) zO))))))))))))))))))))))))))
theorem Z8 (x:Msg)  (H:Heap):AC 54 [(AV.agg (Msg.row x))] H ((bB (L9 x)),H):=(b3z x ).lift kr kr H
def b3G:Ann:={ refs:=[1],fin:=some 0 }
theorem b0s (x:Msg) :AC 104 [(AV.agg (Msg.row x))] [] ((bB (decide (x.kind=1\/x.kind=2))),[]) :=
 r9 (fn:=Tryz.f104) (ann:=b3G) (Has.o Tryz.func104) (.r (.s (.two (x.kind == 1) (fun h1 h1'=>(.u2 (.q 0 bT (by simp_all; all_goals first | done | rfl | (intros; omega))))) (fun h1 h1'=>(.n2 (.q 0 (bB (x.kind == 2)) (by simp_all; all_goals first | done | rfl | (intros; omega))))))))
def b3B:Ann:={ refs:=[1],fin:=some 0 }
theorem a1q (k:Key) :AC 62 [(AV.agg (Key.row k))] [] ((bB (Q6 k)),[]) :=
 r9 (fn:=Tryz.f62) (ann:=b3B) (Has.o Tryz.func62) (.r (.s (.c 2 ((uH k.app).lift kr kr []) (.two (bJ k.app) (fun h1 h1'=>(.u2 (.c 6 ((uH k.id).lift kr kr []) (.q 0 (bB (bJ k.id)) (by simp only [Q6]; simp_all))))) (fun h1 h1'=>(.n2 (.q 0 bF (by simp only [Q6]; simp_all))))))))
def c9B:Ann:={ refs:=[1],fin:=some 0 }
theorem a6X {p:Prop} (h:p:=by simp only [opM]; simp_all; all_goals first | done | rfl | (intros; omega)):p:=h
theorem c3P (x:Msg) :AC 55 [(AV.agg (Msg.row x))] [] ((bB (opM x)),[]) :=
 r9 (fn:=Tryz.f55) (ann:=c9B) (Has.o Tryz.func55) (.r (.s (.c 1 ((b0s x).lift kr kr []) (.g (.two (!(decide (x.kind=1\/x.kind=2))) (fun h1 h1'=>(.qr 0 bT a6X)) (fun h1 h1'=>(.r (.g (.two (x.op == 5) (fun h2 h2'=>(.qr 0 (bB (Key.eqb x.key (Key.mk (ByteArray.mk #[]) (ByteArray.mk #[])))) a6X)) (fun h2 h2'=>(.r (.two (decide (x.op >= 1)) (fun h3 h3'=>(.u2 (.two (decide (x.op < 5)) (fun h4 h4'=>(.u2 (.c 11 ((a1q x.key).lift kr kr []) (.q 0 (bB (Q6 x.key)) a6X)))) (fun h4 h4'=>(.n2 (.q 0 bF a6X)))))) (fun h3 h3'=>(.n5 (.q 0 bF a6X)))))))))))))))
theorem fJ (x:Msg)  (H:Heap):AC 55 [(AV.agg (Msg.row x))] H ((bB (opM x)),H):=(c3P x ).lift kr kr H
def b0p:Ann:={ fin:=some 0 }
theorem a7Y (n:Int) :AC 56 [(iI n)] [] ((bB (I6 n)),[]) :=
 r9 (fn:=Tryz.f56) (ann:=b0p) (Has.o Tryz.func56) (.r (.s (.two (decide (n >= 0)) (fun h1 h1'=>(.u (.q 0 (bB (decide (n<=255))) (by simp only [I6]; simp_all; all_goals first | done | rfl | (intros; omega))))) (fun h1 h1'=>(.n (.q 0 bF (by simp only [I6]; simp_all; all_goals first | done | rfl | (intros; omega))))))))
theorem O7 (n:Int)  (H:Heap):AC 56 [(iI n)] H ((bB (I6 n)),H):=(a7Y n ).lift kr kr H
attribute [local irreducible] L9 opM I6 Q6
def b9f:Ann:={ refs:=[1],fin:=some 0 }
theorem b3E (k:Key) :AC 61 [(AV.agg (Key.row k))] [] ((bB (!(Q6 k))),[]) :=
 r9 (fn:=Tryz.f61) (ann:=b9f) (Has.o Tryz.func61) (.r (.s (.c 1 ((a1q k).lift kr kr []) (.q 0 (bB (!(Q6 k)))))))
theorem a8g (k:Key)  (H:Heap):AC 61 [(AV.agg (Key.row k))] H ((bB (!(Q6 k))),H):=(b3E k ).lift kr kr H
def a1T:Ann:={ fin:=some 0,live:=[(2,[0,1,7,8])],out:=[(2,[0,1,7,8])] }
@[simp] abbrev b6C (a:l9K) (b:Nat):Fr:=(mkF 19 [(0,(sA 2 (mK a))),(1,(AV.func 61 [])),(7,(iN a.length)),(8,(iN b))])
@[simp] abbrev c5y :=(l9 Tryz.prog (X a1T) (x9 Tryz.f108 0))
theorem a5z (l:l9K)  (i:Nat) (hl:l.length < 1099511627776) (hle_:i<=l.length) {eX:Ex} {FX:Fr} {HX:Heap} (k1:(decide ((i:Int) < (l.length:Int)))=true->(!(Q6 (nth l i)))=true->((.ret:Ex),(b6C l i),[])=(eX,FX,HX)) (k2:(decide ((i:Int) < (l.length:Int)))=true->(!(Q6 (nth l i)))=false->j6 c5y (some [0,1,7,8]) (some [0,1,7,8]) (mkF 19 [(0,(sA 2 (mK l))),(1,(AV.func 61 [])),(7,(iN l.length)),(8,(iN (i+1)))]) [] eX FX HX) (k3:(decide ((i:Int) < (l.length:Int)))=false->((.exit 0:Ex),(b6C l i),[])=(eX,FX,HX)):j6 c5y (some [0,1,7,8]) (some [0,1,7,8]) (b6C l i) [] eX FX HX :=
 I9 (.r (.g (.two (decide ((i:Int) < (l.length:Int))) (fun h1 h1'=>(.r (.s (.is 3 2 2 (mK l) (i:Int) (Key.row (nth l i)) (N7.mk _ ow ow) (.c 5 (a8g (nth l i)  ([]:Heap)) (.g (.two (!(Q6 (nth l i))) (fun h2 h2'=>(.r (.g (.l (k1 h1 h2))))) (fun h2 h2'=>(.r (.y 0 (.int .i64 (cb_ i)) (iN (i+1)) Yes.o (.g (.l (k2 h1 h2))))))))))))) (fun h1 h1'=>(.l (k3 h1))))))
def a3g (l:List Key) (i:Nat) (s:Unit):Unit:=()
def a8b (l:List Key)  (i:Nat):Prop:=(((decide ((i:Int) < (l.length:Int)))=true)/\((!(Q6 (nth l i)))=true))
@[simp] abbrev c6s (a:l9K):Fr:=(mkF 19 [(0,(sA 2 (mK a))),(1,(AV.func 61 [])),(7,(iN a.length)),(8,(iN a.length))])
theorem b8U (l:l9K) (hl:l.length < 1099511627776)  (hbad:∀ (i:Nat),i < l.length->¬ a8b l  i) (r_:Nat):∀  (i:Nat) (sF:Unit),i+r_=l.length->()=(iter (a3g l) i 0 ())->sF=iter (a3g l) r_ i () ->
 j6 (l9 Tryz.prog (X a1T) (x9 Tryz.f108 0)) (some [0,1,7,8]) (some [0,1,7,8]) (b6C l i) [] (.exit 0) (c6s l) []:=by
 induction r_ with
 | zero =>
  intro  i sF hi_  hs_ hF
  obtain rfl:l.length=i:=by omega
  have e_:sF=():=hF
  refine a5z l  l.length hl (Nat.le_refl _) (fun h _=>by simp at h <;> omega) (fun h _=>by simp at h <;> omega) (fun _=>?_)
  first | done | rfl | (rw [e_]; done) | (rw [e_]; rfl)
 | succ r_ ih =>
  intro  i sF hi_  hs_ hF
  refine a5z l  i hl ow (fun h1 h2=>?_) (fun h1 h2=>?_) (fun h=>by simp at h <;> omega)
  · exact False.elim (by have hb_:=hbad i ow; (try rw [<- hs_] at hb_); exact hb_ (⟨h1,h2⟩))
  · exact ih  (i+1) sF ow  (by rw [a0l,<- hs_] <;> simp only [a3g,h2,if_true,Bool.false_eq_true,if_false]) (by rw [hF] <;> simp only [iter,a3g,h2,if_true,Bool.false_eq_true,if_false])
theorem b8T (l:l9K) (hl:l.length < 1099511627776) (hr:∀ k∈l,Q6 k=true):AC 108 [(sA 2 (mK l)),(AV.func 61 [])] [] ((iI (-1)),[]) :=
 r9 (fn:=Tryz.f108) (ann:=a1T) (Has.o Tryz.func108) (.r (.s (.y 1 (.int .i64 ((List.length (mK l):Nat):Int)) (iN l.length) (Yes.len _ _ _) (.g (.loop (c6s l) (show j6 c5y (some [0,1,7,8]) (some [0,1,7,8]) (mkF 19 [(0,(sA 2 (mK l))),(1,(AV.func 61 [])),(7,(iN l.length)),(8,z_)]) [] (.exit 0) (c6s l) [] from (b8U l hl (fun i hi=>by simp only [a8b]; rw [hr _ (mZ hi)]; simp) l.length 0 () ow rfl rfl)) (.qr 0 (iI (-1))))))))
def b3D:Ann:={ fin:=some 0 }
theorem b0r (l:l9K) (hl:l.length < 1099511627776) (hr:∀ k∈l,Q6 k=true):AC 60 [(sA 2 (mK l)),(AV.func 61 [])] [] (bF,[]) :=
 r9 (fn:=Tryz.f60) (ann:=b3D) (Has.o Tryz.func60) (.r (.s (.c 2 ((b8T l oa oa).lift kr kr []) (.q 0 bF))))
theorem a1S {x:Msg} (h:R4 x=true):(1<=x.kind/\x.kind<=5)/\L9 x=true/\opM x=true/\I6 x.code=true/\I6 x.status=true/\-1<=x.seq/\x.cards.length<=64/\x.keys.length<=64/\(∀ c∈x.cards,O5 c=true)/\∀ k∈x.keys,Q6 k=true:=by
 simp only [R4,Bool.and_eq_true,decide_eq_true_eq,List.all_eq_true] at h
 obtain ⟨⟨a1,a2⟩,a3,a4,⟨a5,a6,a7⟩,⟨a8,a9⟩,a10,a11⟩:=h
 exact ⟨⟨a1,a2⟩,a3,a4,a5,a6,a7,a8,a9,a10,a11⟩
def b0q:Ann:={ refs:=[1],fin:=some 0 }
@[simp] abbrev iO (a:Msg):=(bB (decide (a.kind < 1)))
@[simp] abbrev jN (a:Msg):=(bB (decide (a.kind > 5)))
@[simp] abbrev a2k (a:Msg):=(bB (decide (a.seq < (-1))))
@[simp] abbrev a9f (a:Msg):=(bB (decide ((a.cards.length:Int) > 64)))
@[simp] abbrev b5F (a:Msg):=(bB (decide ((a.keys.length:Int) > 64)))
theorem bX (x:Msg) (h:R4 x=true):AC 30 [(AV.agg (Msg.row x))] [] (AV.nili,[]):=by
 obtain ⟨⟨a1,a2⟩,a3,a4,a5,a6,a7,a8,a9,a10,a11⟩:=a1S h
 exact r9 (fn:=Tryz.f30) (ann:=b0q) (Has.o Tryz.func30) (.r (.s (.y 2 (iO x) bF (Yes.b yg_) (.n3 (.y 6 (jN x) bF (Yes.b yg_) (.rn (.c 1 (Z8 x  ([]:Heap)) (.y 2 (bB (!(L9 x))) bF (Yes.b (by rw [a3]; rfl)) (.rn (.c 1 (fJ x  ([]:Heap)) (.y 2 (bB (!(opM x))) bF (Yes.b (by rw [a4]; rfl)) (.rn (.c 2 (O7 x.code  ([]:Heap)) (.y 3 (bB (!(I6 x.code))) bF (Yes.b (by rw [a5]; rfl)) (.n3 (.c 7 (O7 x.status  ([]:Heap)) (.n (.y 8 (bB (!(I6 x.status))) bF (Yes.b (by rw [a6]; rfl)) (.n3 (.y 13 (a2k x) bF (Yes.b yg_) (.rn (.y 2 (.int .i64 ((List.length (mC x.cards):Nat):Int)) (iN x.cards.length) (Yes.len _ _ _) (.y 3 (a9f x) bF (Yes.b yg_) (.n3 (.y 7 (.int .i64 ((List.length (mK x.keys):Nat):Int)) (iN x.keys.length) (Yes.len _ _ _) (.n (.y 8 (b5F x) bF (Yes.b yg_) (.rn (.c 2 ((b3C x.cards oa oa).lift kr kr []) (.s (.n3 (.c 4 ((b0r x.keys oa oa).lift kr kr []) (.g (.n (.qr 0 AV.nili)))))))))))))))))))))))))))))))))))
def X4 (x:Entry) (now:Int):Entry:=⟨x.card,max x.seen now⟩
def G5 (x:Entry) (s:p9) (now:Int):Entry:=⟨{ x.card with gone:=true,stamp:=s },now⟩
def Y3 (x:Entry) (o:Int) (s:p9):Entry:=⟨{ x.card with over:=o,stamp:=s },x.seen⟩
def dD (old:Entry) (inn:Bool) (c:j5) (now:Int):Entry:=⟨{ c with over:=if inn=true/\old.card.gone=false then old.card.over else 0,gone:=false },now⟩
def maxS (a b:p9):p9:=if L8 b a < 0 then a else b
def C8 (a:p9) (now nd:Int):p9:=⟨max a.t now,nd,if a.n < 9223372036854775807 then IntKind.i64.wrap (a.n+1) else a.n⟩
def b3H:Ann:={ fin:=some 0 }
@[simp] abbrev c6r (a:Entry):Heap:=[(o_ 0 10 [[e_,e_,z_,z_,z_,z_,z_,z_,bF,z_]]),(o_ 0 10 [(Entry.row a)])]
@[simp] abbrev d4t (a:Entry) (b:Int):=(AV.tup [(AV.agg [(AV.str a.card.key.app),(AV.str a.card.key.id),(iI a.card.status),(iI a.card.over),(iI a.card.lease),(iI a.card.stamp.t),(iI a.card.stamp.node),(iI a.card.stamp.n),(bB a.card.gone),(iI (max a.seen b))]),bT])
theorem b0t (x:Entry) (now:Int) (hg:x.card.gone=false):AC 112 [(AV.agg (Entry.row x)),(iI now)] [] ((AV.tup [(AV.agg (Entry.row (X4 x now))),bT]),[]) :=
 r9 (fn:=Tryz.f112) (ann:=b3H) (Has.o Tryz.func112) (.r (.s (.h' (c6r x) (.y 2 (bB x.card.gone) bF (Yes.b (hg)) (.rn (.y 3 (.int .i64 (if now > x.seen then now else x.seen)) (iI (max x.seen now)) (Yes.int yv_) (.s (.g (.h' [] (.q 0 (d4t x now) (by (try delta c6r); unfold X4; rfl)))))))))))
def b0v:Ann:={ refs:=[4],fin:=some 0 }
@[simp] abbrev d4s (a:Entry) (b:p9) (c:Int):=(AV.tup [(AV.agg [(AV.str a.card.key.app),(AV.str a.card.key.id),(iI a.card.status),(iI a.card.over),(iI a.card.lease),(iI b.t),(iI b.node),(iI b.n),bT,(iI c)]),bT])
theorem sO (x:Entry) (s:p9) (now:Int) (hg:x.card.gone=false):AC 114 [(AV.agg (Entry.row x)),(AV.agg (p9.row s)),(iI now)] [] ((AV.tup [(AV.agg (Entry.row (G5 x s now))),bT]),[]) :=
 r9 (fn:=Tryz.f114) (ann:=b0v) (Has.o Tryz.func114) (.r (.s (.h' (c6r x) (.y 2 (bB x.card.gone) bF (Yes.b (hg)) (.rn (.s (.g (.h' [] (.q 0 (d4s x s now))))))))))
def b9j:Ann:={ refs:=[5],fin:=some 0 }
theorem b1L {p:Prop} (h:p:=by first | rfl | (exfalso; simp only [hg,decide_eq_true_eq,Bool.false_eq_true] at * <;> omega)):p:=h
@[simp] abbrev d4r (a:Entry) (b:Int) (c:p9):=(AV.tup [(AV.agg [(AV.str a.card.key.app),(AV.str a.card.key.id),(iI a.card.status),(iI b),(iI a.card.lease),(iI c.t),(iI c.node),(iI c.n),(bB a.card.gone),(iI a.seen)]),bT])
theorem b3I (x:Entry) (o:Int) (s:p9) (hg:x.card.gone=false) (h0:0<=o) (h3:o<=3):AC 116 [(AV.agg (Entry.row x)),(iI o),(AV.agg (p9.row s))] [] ((AV.tup [(AV.agg (Entry.row (Y3 x o s))),bT]),[]) :=
 r9 (fn:=Tryz.f116) (ann:=b9j) (Has.o Tryz.func116) (.r (.s (.two x.card.gone (fun h1 h1'=>(.u3 (.g (.u (.qr 0 (AV.tup [(AV.agg [e_,e_,z_,z_,z_,z_,z_,z_,bF,z_]),bF]) b1L))))) (fun h1 h1'=>(.n (.two (decide (o < 0)) (fun h2 h2'=>(.u (.g (.u (.qr 0 (AV.tup [(AV.agg [e_,e_,z_,z_,z_,z_,z_,z_,bF,z_]),bF]) b1L))))) (fun h2 h2'=>(.n (.g (.two (decide (o > 3)) (fun h3 h3'=>(.qr 0 (AV.tup [(AV.agg [e_,e_,z_,z_,z_,z_,z_,z_,bF,z_]),bF]) b1L)) (fun h3 h3'=>(.r (.g (.qr 0 (d4r x o s) b1L))))))))))))))
def c4q:Ann:={ refs:=[4],fin:=some 0 }
theorem a5B (old:Entry) (inn:Bool) (c:j5) (now:Int) :AC 163 [(AV.agg (Entry.row old)),(AV.bool inn),(AV.agg (j5.row c)),(AV.int .i64 now)] [] ((AV.agg (Entry.row (dD old inn c now))),[]) :=
 r9 (fn:=Tryz.f163) (ann:=c4q) (Has.o Tryz.func163) (.r (.s (.s (.two inn (fun h1 h1'=>(.u3 (.g (.two (!old.card.gone) (fun h2 h2'=>(.r (.g (.qr 0 (AV.agg [(AV.str c.key.app),(AV.str c.key.id),(AV.int .i64 c.status),(AV.int .i64 old.card.over),(AV.int .i64 c.lease),(AV.int .i64 c.stamp.t),(AV.int .i64 c.stamp.node),(AV.int .i64 c.stamp.n),(AV.bool false),(AV.int .i64 now)]) (by unfold dD; (rw [if_pos ⟨h1,by simpa using h2⟩]); rfl))))) (fun h2 h2'=>(.qr 0 (AV.agg [(AV.str c.key.app),(AV.str c.key.id),(AV.int .i64 c.status),(AV.int .i64 0),(AV.int .i64 c.lease),(AV.int .i64 c.stamp.t),(AV.int .i64 c.stamp.node),(AV.int .i64 c.stamp.n),(AV.bool false),(AV.int .i64 now)]) (by unfold dD; (rw [if_neg (fun q=>by rw [q.2] at h2; simp at h2)]); rfl))))))) (fun h1 h1'=>(.n3 (.g (.n (.qr 0 (AV.agg [(AV.str c.key.app),(AV.str c.key.id),(AV.int .i64 c.status),(AV.int .i64 0),(AV.int .i64 c.lease),(AV.int .i64 c.stamp.t),(AV.int .i64 c.stamp.node),(AV.int .i64 c.stamp.n),(AV.bool false),(AV.int .i64 now)]) (by unfold dD; (rw [if_neg (fun q=>by rw [q.1] at h1; simp at h1)]); rfl))))))))))
def b7N:Ann:={ refs:=[3],fin:=some 0 }
theorem b2t (a:p9) (now nd:Int) :AC 164 [(AV.agg (p9.row a)),(AV.int .i64 now),(AV.int .i64 nd)] [] ((AV.agg (p9.row (C8 a now nd))),[]) :=
 r9 (fn:=Tryz.f164) (ann:=b7N) (Has.o Tryz.func164) (.r (.s (.s (.g (.two (decide (a.n < 9223372036854775807)) (fun h1 h1'=>(.r (.s (.h' tQ (.y 3 (.int .i64 (if now > a.t then now else a.t)) (AV.int .i64 (max a.t now)) (Yes.int yv_) (.g (.h' [] (.q 0 (AV.agg [(AV.int .i64 (max a.t now)),(AV.int .i64 nd),(iW (a.n+1))]) (by (try delta tQ); unfold C8; rw [if_pos (of_decide_eq_true h1)]; first | done | rfl))))))))) (fun h1 h1'=>(.r (.h' tQ (.y 3 (.int .i64 (if now > a.t then now else a.t)) (AV.int .i64 (max a.t now)) (Yes.int yv_) (.g (.h' [] (.q 0 (AV.agg [(AV.int .i64 (max a.t now)),(AV.int .i64 nd),(AV.int .i64 a.n)]) (by (try delta tQ); unfold C8; rw [if_neg (of_decide_eq_false h1)]; first | done | rfl)))))))))))))
theorem a2z {a b:p9} (h:p9.eqb a b=true):a=b:=by
 cases a; cases b
 simp [p9.eqb] at h
 simp [h]
def c2R:Ann:={ refs:=[2,3],fin:=some 0 }
theorem b7S (a b:p9) :AC 165 [(AV.agg (p9.row a)),(AV.agg (p9.row b))] [] ((AV.agg (p9.row (maxS a b))),[]) :=
 r9 (fn:=Tryz.f165) (ann:=c2R) (Has.o Tryz.func165) (.r (.s (.c 2 ((vE b a).lift kr kr tQ) (.g (.two (decide (L8 b a < 0)) (fun h1 h1'=>(.qr 0 (AV.agg (p9.row a)) (by (try delta tQ); unfold maxS; rw [if_pos (of_decide_eq_true h1)]))) (fun h1 h1'=>(.r (.g (.two (p9.eqb a b) (fun h2 h2'=>(.qr 0 (AV.agg (p9.row a)) (by (try delta tQ); unfold maxS; rw [if_neg (of_decide_eq_false h1)]; (obtain rfl:=a2z h2); first | done | rfl))) (fun h2 h2'=>(.qr 0 (AV.agg (p9.row b)) (by (try delta tQ); unfold maxS; rw [if_neg (of_decide_eq_false h1)]; first | done | rfl))))))))))))
def b4d:Ann:={ base:=1,fin:=some 1 }
@[simp] abbrev d2n (a:Int) (b:Int) (c:Int):Heap:=[(o_ 0 3 (gT a b c))]
@[simp] abbrev c6q (a:Int) (b:Int) (c:Int):Heap:=[(o_ 0 3 [[(iI a),(iI b),(iI (min (c+1) 1048576))]])]
theorem b0C (a b c:Int) (h1:0<=c) (h2:c < 4611686018427387904):AC 113 [(oO 0 0 0 0)] (d2n a b c) ((AV.tup []),(c6q a b c)) :=
 r9 (fn:=Tryz.f113) (ann:=b4d) (Has.o Tryz.func113) (.r (.y 5 (.int .i64 (a2l c)) (iI (c+1)) Yes.o (.y 6 (.int .i64 (if 1048576 < (c+1) then 1048576 else (c+1))) (iI (min (c+1) 1048576)) (Yes.int yv_) (.g (.h' (c6q a b c) (.q 1 (AV.tup []) (by (try delta d2n c6q); first | rfl | (simp [Int.min_comm]; done))))))))
end Go.Proofs.YtmghjcbabebanaaGreat.AM
