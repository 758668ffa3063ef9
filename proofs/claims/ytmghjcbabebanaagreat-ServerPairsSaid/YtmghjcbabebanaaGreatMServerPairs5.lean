/-
  Texts of this claim, part 5 of 7: an abstract machine over the model; what functions come to; plain laws.
-/
import Derived.Test.YtmghjcbabebanaaGreatMServerPairs4
import Derived.Deep.OwnRows
set_option maxRecDepth 100000
set_option linter.unusedVariables false
set_option linter.unusedSimpArgs false
namespace Go.Proofs.YtmghjcbabebanaaGreat.AM
open Go Go.Proofs.YtmghjcbabebanaaGreat
attribute [local irreducible] A8 C9 D7 F3 F7 G7 M0 M5 M8 N8 O6 O7 P9 Q6 Q7 Tp.F9 Tp.G8 Tp.card Tp.cards Tp.key Tp.keyT Tp.next Tp.step cmpL j6 l7 l9 sink z8
def nX:Ann:={ fin:=some 0,live:=[(2,[0,1,7,8])],out:=[(2,[4])] }
theorem uM (p:j5->Bool) (f:Nat) (xs:List AV) (l:l9C) (i:Nat) (hc:∀ (x:j5) (H:Heap),AC f ([AV.agg (j5.row x)]++xs) H (bB (p x),H)) (hl:l.length < 1099511627776) (hi:i<=l.length) {eX:Ex} {FX:Fr} {HX:Heap} (k1:(decide ((i:Int) < (l.length:Int)))=true->(p (nth l i))=true->((.ret:Ex),(mkF 19 [(4,(iN i))]),[])=(eX,FX,HX)) (k2:(decide ((i:Int) < (l.length:Int)))=true->(p (nth l i))=false->l7 (l9 Tryz.prog (X nX) (y7 Tryz.f105 0)) (some [0,1,7,8]) (some [4]) (mkF 19 [(0,(sA 9 (mC l))),(1,(AV.func f xs)),(7,(iN l.length)),(8,(iN (i+1)))]) [] eX FX HX) (k3:(decide ((i:Int) < (l.length:Int)))=false->((.exit 0:Ex),(mkF 19 []),[])=(eX,FX,HX)):l7 (l9 Tryz.prog (X nX) (y7 Tryz.f105 0)) (some [0,1,7,8]) (some [4]) (mkF 19 [(0,(sA 9 (mC l))),(1,(AV.func f xs)),(7,(iN l.length)),(8,(iN i))]) [] eX FX HX :=
 K7 (.r (.g (.two (decide ((i:Int) < (l.length:Int))) (fun h1 h1'=>(.r (.s (.is 3 9 9 (mC l) (i:Int) (j5.row (nth l i)) (O9.mk _ ow ow) (.c 5 (hc (nth l i) []) (.g (.two (p (nth l i)) (fun h2 h2'=>(.r (.g (.l (k1 h1 h2))))) (fun h2 h2'=>(.r (.y 0 (.int .i64 (ca_ i)) (iN (i+1)) Yes.o (.g (.l (k2 h1 h2))))))))))))) (fun h1 h1'=>(.l (k3 h1))))))
theorem b9U (p:j5->Bool) (f:Nat) (xs:List AV) (l:l9C) (hc:∀ (x:j5) (H:Heap),AC f ([AV.agg (j5.row x)]++xs) H (bB (p x),H)) (hl:l.length < 1099511627776) (n:Nat) (hn:n < l.length) (hp:p (nth l n)=true) (r:Nat):∀ (i:Nat),i+r=n->(∀ j,i<=j->j < n->p (nth l j)=false) ->
 l7 (l9 Tryz.prog (X nX) (y7 Tryz.f105 0)) (some [0,1,7,8]) (some [4]) (mkF 19 [(0,(sA 9 (mC l))),(1,(AV.func f xs)),(7,(iN l.length)),(8,(iN i))]) [] (.ret) (mkF 19 [(4,(iN n))]) []:=by
 induction r with
 | zero =>
  intro i hi h
  obtain rfl:i=n:=by omega
  refine uM p f xs l i hc hl ow (fun _ _=>rfl) (fun _ h2=>?_) (fun h1=>?_)
  · rw [hp] at h2; simp at h2
  · simp at h1; omega
 | succ r ih =>
  intro i hi h
  refine uM p f xs l i hc hl ow (fun _ h2=>?_) (fun _ h2=>?_) (fun h1=>?_)
  · rw [h i (Nat.le_refl _) ow] at h2; simp at h2
  · exact ih (i+1) ow (fun j h3 h4=>h j ow h4)
  · simp at h1; omega
theorem b9V (p:j5->Bool) (f:Nat) (xs:List AV) (l:l9C) (hc:∀ (x:j5) (H:Heap),AC f ([AV.agg (j5.row x)]++xs) H (bB (p x),H)) (hl:l.length < 1099511627776) (r:Nat):∀ (i:Nat),i+r=l.length->(∀ j,i<=j->j < l.length->p (nth l j)=false) ->
 l7 (l9 Tryz.prog (X nX) (y7 Tryz.f105 0)) (some [0,1,7,8]) (some [4]) (mkF 19 [(0,(sA 9 (mC l))),(1,(AV.func f xs)),(7,(iN l.length)),(8,(iN i))]) [] (.exit 0) (mkF 19 []) []:=by
 induction r with
 | zero =>
  intro i hi h
  refine uM p f xs l i hc hl ow (fun h1 _=>?_) (fun h1 h2=>?_) (fun h1=>rfl)
  · simp at h1; omega
  · simp at h1; omega
 | succ r ih =>
  intro i hi h
  refine uM p f xs l i hc hl ow (fun _ h2=>?_) (fun _ h2=>?_) (fun h1=>?_)
  · rw [h i (Nat.le_refl _) ow] at h2; simp at h2
  · exact ih (i+1) ow (fun j h3 h4=>h j ow h4)
  · simp at h1; omega
@[simp] abbrev c8l (a:l9C) (b:Nat) (c:List AV):Fr:=(mkF 19 [(0,(sA 9 (mC a))),(1,(AV.func b c)),(7,(iN a.length)),(8,z_)])
theorem b5r (p:j5->Bool) (f:Nat) (xs:List AV) (l:l9C) (n:Nat) (hc:∀ (x:j5) (H:Heap),AC f ([AV.agg (j5.row x)]++xs) H (bB (p x),H)) (hxs:AV.bdds 0 xs=true) (hl:l.length < 1099511627776) (hn:n < l.length) (hp:p (nth l n)=true) (h:∀ j,0<=j->j < n->p (nth l j)=false):AC 105 [(sA 9 (mC l)),(AV.func f xs)] [] ((iN n),[]) :=
 q9 (fn:=Tryz.f105) (ann:=nX) (Has.o Tryz.func105) (.r (.s (.y 1 (.int .i64 ((List.length (mC l):Nat):Int)) (iN l.length) (Yes.len _ _ _) (.g (.loop (mkF 19 [(4,(iN n))]) (b9U p f xs l hc hl n hn hp n 0 ow h) (.q 0 (iN n)))))))
theorem b5s (p:j5->Bool) (f:Nat) (xs:List AV) (l:l9C) (hc:∀ (x:j5) (H:Heap),AC f ([AV.agg (j5.row x)]++xs) H (bB (p x),H)) (hxs:AV.bdds 0 xs=true) (hl:l.length < 1099511627776) (h:∀ j,0<=j->j < l.length->p (nth l j)=false):AC 105 [(sA 9 (mC l)),(AV.func f xs)] [] ((iI (-1)),[]) :=
 q9 (fn:=Tryz.f105) (ann:=nX) (Has.o Tryz.func105) (.r (.s (.y 1 (.int .i64 ((List.length (mC l):Nat):Int)) (iN l.length) (Yes.len _ _ _) (.g (.loop (mkF 19 []) (b9V p f xs l hc hl l.length 0 ow h) (.qr 0 (iI (-1))))))))
theorem a0C (p:j5->Bool) (f:Nat) (xs:List AV) (l:l9C) (hc:∀ (x:j5) (H:Heap),AC f ([AV.agg (j5.row x)]++xs) H (bB (p x),H)) (hxs:AV.bdds 0 xs=true) (hl:l.length < 1099511627776):AC 105 [(sA 9 (mC l)),(AV.func f xs)] [] ((iI (ixI p l)),[]):=by
 unfold ixI
 cases h:eF p l 0 with
 | none=>exact b5s p f xs l hc hxs hl (fun j _ hj=>iQ l 0 h j hj)
 | some n =>
  obtain ⟨_,h2,h3,h4⟩:=dD l 0 n h
  exact b5r p f xs l n hc hxs hl ow h3 (fun j _ hj=>h4 j hj)
theorem b5q (p:j5->Bool) (f:Nat) (xs:List AV) (l:l9C) (hc:∀ (x:j5) (H:Heap),AC f ([AV.agg (j5.row x)]++xs) H (bB (p x),H)) (hxs:AV.bdds 0 xs=true) (hl:l.length < 1099511627776) (H:Heap):AC 105 [(sA 9 (mC l)),(AV.func f xs)] H ((iI (ixI p l)),H):=(a0C p f xs l hc hxs hl).lift vQ kr H
def a9y:j5:=⟨⟨⟨#[]⟩,⟨#[]⟩⟩,0,0,0,⟨0,0,0⟩,false⟩
def isKey (k:Key) (x:j5):Bool:=Key.eqb x.key k
def U0 (l:List j5) (k:Key):j5:=if ixI (isKey k) l < 0 then a9y else nth l (ixI (isKey k) l).toNat
def inC (l:List j5) (k:Key):Bool:=!decide (ixI (isKey k) l < 0)
def b1u:Ann:={ refs:=[2],fin:=some 0 }
theorem a8r (x:j5) (k:Key) :AC 129 [(AV.agg (j5.row x)),(AV.ref (Key.row k) 0)] [] ((bB (isKey k x)),[]) :=
 q9 (fn:=Tryz.f129) (ann:=b1u) (Has.o Tryz.func129) (.r (.g (.qr 0 (bB (Key.eqb x.key k)))))
theorem b5J (x:j5) (k:Key)  (H:Heap):AC 129 [(AV.agg (j5.row x)),(AV.ref (Key.row k) 0)] H ((bB (isKey k x)),H):=(a8r x k ).lift kr kr H
def b5K:Ann:={ refs:=[3],fin:=some 0 }
@[simp] abbrev b3B :Heap:=[(o_ 0 9 [[e_,e_,z_,z_,z_,z_,z_,z_,bF]])]
theorem a1G (l:l9C) (k:Key) (hl:l.length < 1099511627776):AC 72 [(sA 9 (mC l)),(AV.agg (Key.row k))] [] ((AV.tup [(AV.agg (j5.row (U0 l k))),(bB (inC l k))]),[]):=by
 have h1:=c5f (isKey k) l
 have h2:=c5g (isKey k) l
 exact q9 (fn:=Tryz.f72) (ann:=b5K) (Has.o Tryz.func72) (.r (.s (.c 2 (b5q (isKey k) 129 [(AV.ref (Key.row k) 0)] l (fun x H=>b5J x k H) (rfl) oa b3B) (.s (.g (.two (decide ((ixI (isKey k) l) < 0)) (fun h1 h1'=>(.qr 0 (AV.tup [(AV.agg [e_,e_,z_,z_,z_,z_,z_,z_,bF]),bF]) (by (try delta b3B); by_cases h0:ixI (isKey k) l < 0 <;> first | (simp_all [U0,inC,j5.row,Key.row,l8.row,a9y]; done) | (exfalso; omega) | (simp only [U0,inC,if_neg h0,decide_eq_false h0]; rfl)))) (fun h1 h1'=>(.r (.h' b3B (.is 2 9 9 (mC l) (ixI (isKey k) l) (j5.row (nth l (Int.toNat (ixI (isKey k) l)))) (O9.mk _ ow ow) (.g (.h' [] (.q 0 (AV.tup [(AV.agg (j5.row (nth l (Int.toNat (ixI (isKey k) l))))),bT]) (by (try delta b3B); by_cases h0:ixI (isKey k) l < 0 <;> first | (simp_all [U0,inC,j5.row,Key.row,l8.row,a9y]; done) | (exfalso; omega) | (simp only [U0,inC,if_neg h0,decide_eq_false h0]; rfl)))))))))))))))
attribute [local irreducible] I7 U0 inC isKey ixI
theorem a3U {α β:Type} (p:α->Bool) (f:α->β) (l:List α):∀ (out:List β) (k g:Nat),
 l.foldl (fun (s:List β × Nat × Nat) c=>if p c=true then (s.1++[f c],s.2.1+1,s.2.2+1) else s) (out,k,g)=(out++(l.filter p).map f,k+((l.filter p).map f).length,g+((l.filter p).map f).length):=by
 induction l with
 | nil=>intro out k g; simp
 | cons c l ih =>
  intro out k g
  rw [List.foldl_cons]
  by_cases h:p c=true
  · rw [if_pos h,ih]; simp [List.filter_cons,h]; omega
  · rw [if_neg h,ih]; simp [List.filter_cons,h]
def sO (other:List j5) (c:j5):Bool:=!(inC other c.key) || decide (I7 (U0 other c.key).stamp c.stamp < 0)
def E5 (l other:List j5):List j5:=l.filter (sO other)
theorem gJ (l other:l9C):(E5 l other).length<=l.length:=List.length_filter_le _ _
def xE:Ann:={ gha:=[(1,.vir 5 9),(8,.cut 1),(9,.frz 4)],fin:=some 0,live:=[(3,[1,5,10,11,12])],out:=[(3,[1,5,10,11,12])] }
@[simp] abbrev c6O (a:l9C) (b:Nat) (c:Nat) (d:l9C) (e:Nat):Fr:=(mkF 38 [(1,(sA 9 (mC a))),(5,(cm_ b c)),(10,(sA 9 (mC d))),(11,(iN d.length)),(12,(iN (e+1)))])
@[simp] abbrev c2g (a:l9C) (b:Nat) (c:Nat) (d:l9C) (e:Nat):Fr:=(mkF 38 [(1,(sA 9 (mC a))),(5,(AV.osl 0 b 9 0 c)),(10,(sA 9 (mC d))),(11,(iN d.length)),(12,(iN e))])
@[simp] abbrev c3R (a:l9C) (b:l9C) (c:Nat):Ob:=(o_ 0 9 [(j5.row (U0 a (nth b c).key))])
@[simp] abbrev b3z (a:Nat) (b:l9C) (c:l9C) (d:Nat) (e:l9C):Heap:=[(o_ a 9 (mC b)),(o_ 0 9 [(j5.row (nth c d))]),c3R e c d]
@[simp] abbrev c6N (a:Nat) (b:l9C) (c:l9C) (d:Nat) (e:l9C):Heap:=[a2k a b c d,(o_ 0 9 [(j5.row (nth c d))]),c3R e c d]
@[simp] abbrev b2t :=(l9 Tryz.prog (X xE) (y7 Tryz.f127 0))
theorem a1T (l:l9C) (other:l9C) (out:l9C) (k:Nat) (g:Nat) (i:Nat) (hl:l.length < 1048576) (ho:other.length < 1048576) (hk:k=out.length) (hki:k<=i) (hle_:i<=l.length) {eX:Ex} {FX:Fr} {HX:Heap} (k1:(decide ((i:Int) < (l.length:Int)))=true->(!(inC other (nth l i).key))=true->l7 b2t (some [1,5,10,11,12]) (some [1,5,10,11,12]) (c6O other g k l i) (xV g out l i) eX FX HX) (k2:(decide ((i:Int) < (l.length:Int)))=true->(!(inC other (nth l i).key))=false->(decide (I7 (U0 other (nth l i).key).stamp (nth l i).stamp < 0))=true->l7 b2t (some [1,5,10,11,12]) (some [1,5,10,11,12]) (c6O other g k l i) (xV g out l i) eX FX HX) (k3:(decide ((i:Int) < (l.length:Int)))=true->(!(inC other (nth l i).key))=false->(decide (I7 (U0 other (nth l i).key).stamp (nth l i).stamp < 0))=false->l7 b2t (some [1,5,10,11,12]) (some [1,5,10,11,12]) (mkF 38 [(1,(sA 9 (mC other))),(5,(AV.osl 0 g 9 0 k)),(10,(sA 9 (mC l))),(11,(iN l.length)),(12,(iN (i+1)))]) [(o_ g 9 (mC out))] eX FX HX) (k4:(decide ((i:Int) < (l.length:Int)))=false->((.exit 0:Ex),(c2g other g k l i),[(o_ g 9 (mC out))])=(eX,FX,HX)):l7 b2t (some [1,5,10,11,12]) (some [1,5,10,11,12]) (c2g other g k l i) [(o_ g 9 (mC out))] eX FX HX :=
 K7 (.r (.g (.two (decide ((i:Int) < (l.length:Int))) (fun h1 h1'=>(.r (.h' [(o_ g 9 (mC out)),(o_ 0 9 [[e_,e_,z_,z_,z_,z_,z_,z_,bF]])] (.is 0 9 9 (mC l) (i:Int) (j5.row (nth l i)) (O9.mk _ ow ow) (.s (.c 3 ((a1G other (nth l i).key oa).lift kr kr [(o_ g 9 (mC out)),(o_ 0 9 [(j5.row (nth l i))]),(o_ 0 9 [[e_,e_,z_,z_,z_,z_,z_,z_,bF]])]) (.s (.two (!(inC other (nth l i).key)) (fun h2 h2'=>(.u4 (.ru (.h' (b3z g out l i other) (.ap 3 30 (AV.osl 0 g 9 0 k) (co_ l i) (cm_ g k) (c6N g out l i other) (K3 (row:=j5.row) (l:=out) (x:=(nth l i)) (T:=tt) (e:=50) (te:=bP) (z:=1) (b:=24) (y:=[.sl .nil 0 []]) kr kr rfl E9 E9 kr fB rfl rfl iV) (.s (.y 0 (.int .i64 (ca_ i)) (iN (i+1)) Yes.o (.h' (xV g out l i) (.b 1 (.g (.l (k1 h1 h2)))))))))))) (fun h2 h2'=>(.n4 (.c 7 ((qJ (U0 other (nth l i).key).stamp (nth l i).stamp).lift kr kr (b3z g out l i other)) (.g (.two (decide (I7 (U0 other (nth l i).key).stamp (nth l i).stamp < 0)) (fun h3 h3'=>(.r (.h' (b3z g out l i other) (.ap 3 30 (AV.osl 0 g 9 0 k) (co_ l i) (cm_ g k) (c6N g out l i other) (K3 (row:=j5.row) (l:=out) (x:=(nth l i)) (T:=tt) (e:=50) (te:=bP) (z:=1) (b:=24) (y:=[.sl .nil 0 []]) kr kr rfl E9 E9 kr fB rfl rfl iV) (.s (.y 0 (.int .i64 (ca_ i)) (iN (i+1)) Yes.o (.h' (xV g out l i) (.b 1 (.g (.l (k2 h1 h2 h3))))))))))) (fun h3 h3'=>(.r (.h' (b3z g out l i other) (.y 0 (.int .i64 (ca_ i)) (iN (i+1)) Yes.o (.h' [(o_ g 9 (mC out))] (.b 1 (.g (.l (k3 h1 h2 h3)))))))))))))))))))))) (fun h1 h1'=>(.l (k4 h1))))))
def kZ (l:List j5) (other:List j5) (i:Nat) (s:(List j5) × Nat × Nat):(List j5) × Nat × Nat:=(if (!(inC other (nth l i).key))=true then (s.1++[(nth l i)],(s.2.1+1),(s.2.2+1)) else (if (decide (I7 (U0 other (nth l i).key).stamp (nth l i).stamp < 0))=true then (s.1++[(nth l i)],(s.2.1+1),(s.2.2+1)) else (s.1,s.2.1,s.2.2)))
theorem b2F (l:l9C) (other:l9C) (hl:l.length < 1048576) (ho:other.length < 1048576)  (r_:Nat):∀ (out:l9C) (k:Nat) (g:Nat) (i:Nat) (sF:(l9C) × Nat × Nat),i+r_=l.length->k=out.length->k<=i->sF=iter (kZ l other) r_ i (out,k,g) ->
 l7 (l9 Tryz.prog (X xE) (y7 Tryz.f127 0)) (some [1,5,10,11,12]) (some [1,5,10,11,12]) (c2g other g k l i) [(o_ g 9 (mC out))] (.exit 0) (mkF 38 [(1,(sA 9 (mC other))),(5,(AV.osl 0 sF.2.2 9 0 sF.2.1)),(10,(sA 9 (mC l))),(11,(iN l.length)),(12,(iN l.length))]) [(o_ sF.2.2 9 (mC sF.1))]:=by
 induction r_ with
 | zero =>
  intro out k g i sF hi_ hk hki  hF
  obtain rfl:l.length=i:=by omega
  have e_:sF=(out,k,g):=hF
  refine a1T l other out k g l.length hl ho hk hki (Nat.le_refl _) (fun h _=>by simp at h <;> omega) (fun h _ _=>by simp at h <;> omega) (fun h _ _=>by simp at h <;> omega) (fun _=>?_)
  first | done | rfl | (rw [e_]; done) | (rw [e_]; rfl)
 | succ r_ ih =>
  intro out k g i sF hi_ hk hki  hF
  refine a1T l other out k g i hl ho hk hki ow (fun h1 h2=>?_) (fun h1 h2 h3=>?_) (fun h1 h2 h3=>?_) (fun h=>by simp at h <;> omega)
  · exact ih (out++[(nth l i)]) (k+1) (g+1) (i+1) sF ow R6 R6  (by rw [hF] <;> simp only [iter,kZ,h2,if_true,Bool.false_eq_true,if_false])
  · exact ih (out++[(nth l i)]) (k+1) (g+1) (i+1) sF ow R6 R6  (by rw [hF] <;> simp only [iter,kZ,h2,h3,if_true,Bool.false_eq_true,if_false])
  · exact ih out k g (i+1) sF ow R6 R6  (by rw [hF] <;> simp only [iter,kZ,h2,h3,if_true,Bool.false_eq_true,if_false])
theorem b2G (l other:l9C):(E5 l other,(E5 l other).length,(E5 l other).length)=iter (kZ l other) l.length 0 ([],0,0):=by
 rw [fI (kZ l other) (fun s c=>if sO other c=true then (s.1++[c],s.2.1+1,s.2.2+1) else s) l (fun i s hi=>?_)]
 · rw [a3U (sO other) (fun c=>c) l]; simp [E5]
 · simp only [kZ,sO]
   by_cases h1:inC other (nth l i).key=true <;> by_cases h2:I7 (U0 other (nth l i).key).stamp (nth l i).stamp < 0 <;> simp [h1,h2]
@[simp] abbrev c8g (a:l9C) (b:l9C):Fr:=(mkF 38 [(1,(sA 9 (mC a))),(5,(AV.osl 0 (E5 b a).length 9 0 (E5 b a).length)),(10,(sA 9 (mC b))),(11,(iN b.length)),(12,(iN b.length))])
@[simp] abbrev c8f (a:l9C) (b:l9C):Heap:=[(o_ ((E5 a b).length) 9 (mC (E5 a b)))]
theorem a1U (l other:l9C) (hl:l.length < 1048576) (ho:other.length < 1048576):AC 127 [(sA 9 (mC l)),(sA 9 (mC other))] [] ((sA 9 (mC (E5 l other))),[]):=by
 have hk:=gJ l other
 exact q9 (fn:=Tryz.f127) (ann:=xE) (Has.o Tryz.func127) (.r (.s (.s (.h' [(o_ 0 9 (mC []))] (.y 1 (.int .i64 ((List.length (mC l):Nat):Int)) (iN l.length) (Yes.len _ _ _) (.g (.loop (c8g other l) (b2F l other hl ho (List.length l) [] 0 0 0 ((E5 l other),(E5 l other).length,(E5 l other).length) ow rfl ow (b2G l other)) (.r (.w' 4 (mC (E5 l other)) (And.intro (G9 (room:=none) kr om) (j5.y8 _ _):F5 (c8f l other) 9 (AV.osl 0 (E5 l other).length 9 0 (E5 l other).length)=some (mC (E5 l other))/\AV.D5 0 (mC (E5 l other))=true) (.g (.h' [] (.q 0 (sA 9 (mC (E5 l other)))))))))))))))
theorem a6A (l:l9C) (hl:l.length < 1099511627776):AC 137 [(sA 9 (mC l))] [] ((sA 9 (mC l)),[]):=by
 have h1:=(qX l hl).a2K (xs:=l.map j5.row) (G9 (room:=none) kr (by first | omega | simp)) (j5.y8 _ _)
 exact j6.forget (H2:=[]) (X:=[(o_ 1 9 [])]) h1 rfl kr (fun id o ho=>by simp at ho)
def a0L:Ann:={ gh:=[(8,.frz 8)],gha:=[(2,.vir 8 2),(7,.cut 1)],fin:=some 0,live:=[(4,[6,7,8,17,18,19])],out:=[(4,[6,7,8,17,18,19])] }
@[simp] abbrev c6M (a:Nat) (b:l9K) (c:l9C) (d:Nat):Heap:=[(o_ (a+1) 2 (mK (b++[(nth c d).key])))]
@[simp] abbrev c2f (a:l9C) (b:l9C) (c:Nat) (d:Nat) (e:l9C) (f:Nat):Fr:=(mkF 33 [(6,(sA 9 (mC a))),(7,(sA 9 (mC b))),(8,(AV.osl 0 c 2 0 d)),(17,(sA 9 (mC e))),(18,(iN e.length)),(19,(iN f))])
@[simp] abbrev c0Y :=(l9 Tryz.prog (X a0L) (y7 Tryz.f70 0))
theorem a4e (l:l9C) (a:l9C) (b:l9C) (out:l9K) (k:Nat) (g:Nat) (i:Nat) (hl:l.length < 1048576) (hk:k=out.length) (hki:k<=i) (hle_:i<=l.length) {eX:Ex} {FX:Fr} {HX:Heap} (k1:(decide ((i:Int) < (l.length:Int)))=true->l7 c0Y (some [6,7,8,17,18,19]) (some [6,7,8,17,18,19]) (mkF 33 [(6,(sA 9 (mC a))),(7,(sA 9 (mC b))),(8,(AV.osl 0 (g+1) 2 0 (k+1))),(17,(sA 9 (mC l))),(18,(iN l.length)),(19,(iN (i+1)))]) (c6M g out l i) eX FX HX) (k2:(decide ((i:Int) < (l.length:Int)))=false->((.exit 0:Ex),(c2f a b g k l i),[(o_ g 2 (mK out))])=(eX,FX,HX)):l7 c0Y (some [6,7,8,17,18,19]) (some [6,7,8,17,18,19]) (c2f a b g k l i) [(o_ g 2 (mK out))] eX FX HX :=
 K7 (.r (.g (.two (decide ((i:Int) < (l.length:Int))) (fun h1 h1'=>(.r (.h' [(o_ g 2 (mK out)),(o_ 0 9 [[e_,e_,z_,z_,z_,z_,z_,z_,bF]])] (.is 0 9 9 (mC l) (i:Int) (j5.row (nth l i)) (O9.mk _ ow ow) (.s (.h' [(o_ g 2 (mK out)),(o_ 0 9 [(j5.row (nth l i))])] (.ap 4 31 (AV.osl 0 g 2 0 k) (AV.sl .clip 2 [(Key.row (nth l i).key)]) (AV.osl 0 (g+1) 2 0 (k+1)) [(o_ (g+1) 2 (mK (out++[(nth l i).key]))),(o_ 0 9 [(j5.row (nth l i))])] (K3 (row:=Key.row) (l:=out) (x:=(nth l i).key) (T:=tt) (e:=28) (te:=a9K) (z:=1) (b:=24) (y:=[.sl .nil 0 []]) kr kr rfl E9 E9 kr fB rfl rfl (by first | omega | (show _ * 32<=_; omega) | (simp; omega))) (.s (.y 0 (.int .i64 (ca_ i)) (iN (i+1)) Yes.o (.h' (c6M g out l i) (.b 1 (.g (.l (k1 h1)))))))))))))) (fun h1 h1'=>(.l (k2 h1))))))
def wV (l:List j5) (a:List j5) (b:List j5) (i:Nat) (s:(List Key) × Nat × Nat):(List Key) × Nat × Nat:=(s.1++[(nth l i).key],(s.2.1+1),(s.2.2+1))
theorem b6i (l:l9C) (a:l9C) (b:l9C) (hl:l.length < 1048576)  (r_:Nat):∀ (out:l9K) (k:Nat) (g:Nat) (i:Nat) (sF:(l9K) × Nat × Nat),i+r_=l.length->k=out.length->k<=i->sF=iter (wV l a b) r_ i (out,k,g) ->
 l7 (l9 Tryz.prog (X a0L) (y7 Tryz.f70 0)) (some [6,7,8,17,18,19]) (some [6,7,8,17,18,19]) (c2f a b g k l i) [(o_ g 2 (mK out))] (.exit 0) (mkF 33 [(6,(sA 9 (mC a))),(7,(sA 9 (mC b))),(8,(AV.osl 0 sF.2.2 2 0 sF.2.1)),(17,(sA 9 (mC l))),(18,(iN l.length)),(19,(iN l.length))]) [(o_ sF.2.2 2 (mK sF.1))]:=by
 induction r_ with
 | zero =>
  intro out k g i sF hi_ hk hki  hF
  obtain rfl:l.length=i:=by omega
  have e_:sF=(out,k,g):=hF
  refine a4e l a b out k g l.length hl hk hki (Nat.le_refl _) (fun h=>by simp at h <;> omega) (fun _=>?_)
  first | done | rfl | (rw [e_]; done) | (rw [e_]; rfl)
 | succ r_ ih =>
  intro out k g i sF hi_ hk hki  hF
  refine a4e l a b out k g i hl hk hki ow (fun h1=>?_) (fun h=>by simp at h <;> omega)
  · exact ih (out++[(nth l i).key]) (k+1) (g+1) (i+1) sF ow R6 R6  (by rw [hF] <;> simp only [iter,wV,if_true,Bool.false_eq_true,if_false])
theorem a8t {α:Type} (l:List α):l.filter (fun _=>true)=l:=by induction l with | nil=>rfl | cons x l ih=>simp [List.filter_cons]
def I6 (l:List j5):List Key:=l.map (·.key)
theorem wI (l:l9C):(I6 l).length=l.length:=by simp [I6]
theorem b6j (l a b:l9C):(I6 l,(I6 l).length,(I6 l).length)=iter (wV l a b) l.length 0 ([],0,0):=by
 rw [fI (wV l a b) (fun s c=>if (fun _=>true) c=true then (s.1++[c.key],s.2.1+1,s.2.2+1) else s) l (fun i s hi=>by simp [wV])]
 rw [a3U (fun _=>true) (fun c:j5=>c.key) l,a8t]; simp [I6]
def N9 (mine dig:List j5):List Key:=I6 (E5 (A8 dig) (A8 mine))
def O1 (mine dig:List j5):List j5:=E5 (A8 mine) (A8 dig)
def R8 (l:List j5):List j5:=(F3 l).take (min (F3 l).length 64)
def uW:Ann:={ gh:=[(10,.frz 6)],gha:=[(2,.vir 6 9),(9,.cut 1)],fin:=some 0,live:=[(4,[1,5,6,13,14,15])],out:=[(4,[1,5,6,13,14,15])] }
@[simp] abbrev c3T (a:Nat) (b:l9C) (c:l9C) (d:l9K) (e:Nat):Heap:=[(o_ (a+1) 9 (mC (b++[(U0 c (nth d e))])))]
@[simp] abbrev c3S (a:l9K) (b:l9C) (c:Nat) (d:Nat) (e:Nat):Fr:=(mkF 41 [(1,(sA 2 (mK a))),(5,(sA 9 (mC b))),(6,(AV.osl 0 c 9 0 d)),(13,(sA 2 (mK a))),(14,(iN a.length)),(15,(iN (e+1)))])
@[simp] abbrev b3A (a:l9K) (b:l9C) (c:Nat) (d:Nat) (e:Nat):Fr:=(mkF 41 [(1,(sA 2 (mK a))),(5,(sA 9 (mC b))),(6,(AV.osl 0 c 9 0 d)),(13,(sA 2 (mK a))),(14,(iN a.length)),(15,(iN e))])
@[simp] abbrev vE (a:Nat) (b:l9C) (c:l9K) (d:Nat) (e:l9C):Heap:=[(o_ a 9 (mC b)),(o_ 0 2 [(Key.row (nth c d))]),(o_ 0 9 [(j5.row (U0 e (nth c d)))])]
@[simp] abbrev a6P :=(l9 Tryz.prog (X uW) (y7 Tryz.f36 0))
theorem zY (keys:l9K) (l:l9C) (out:l9C) (k:Nat) (g:Nat) (i:Nat) (hl:l.length < 1048576) (hks:keys.length < 1048576) (hk:k=out.length) (hki:k<=i) (hle_:i<=keys.length) {eX:Ex} {FX:Fr} {HX:Heap} (k1:(decide ((i:Int) < (keys.length:Int)))=true->(inC l (nth keys i))=true->(!(aW (keys.take i) (nth keys i)))=true->l7 a6P (some [1,5,6,13,14,15]) (some [1,5,6,13,14,15]) (mkF 41 [(1,(sA 2 (mK keys))),(5,(sA 9 (mC l))),(6,(cm_ g k)),(13,(sA 2 (mK keys))),(14,(iN keys.length)),(15,(iN (i+1)))]) (c3T g out l keys i) eX FX HX) (k2:(decide ((i:Int) < (keys.length:Int)))=true->(inC l (nth keys i))=true->(!(aW (keys.take i) (nth keys i)))=false->l7 a6P (some [1,5,6,13,14,15]) (some [1,5,6,13,14,15]) (c3S keys l g k i) [(o_ g 9 (mC out))] eX FX HX) (k3:(decide ((i:Int) < (keys.length:Int)))=true->(inC l (nth keys i))=false->l7 a6P (some [1,5,6,13,14,15]) (some [1,5,6,13,14,15]) (c3S keys l g k i) [(o_ g 9 (mC out))] eX FX HX) (k4:(decide ((i:Int) < (keys.length:Int)))=false->((.exit 0:Ex),(b3A keys l g k i),[(o_ g 9 (mC out))])=(eX,FX,HX)):l7 a6P (some [1,5,6,13,14,15]) (some [1,5,6,13,14,15]) (b3A keys l g k i) [(o_ g 9 (mC out))] eX FX HX :=
 K7 (.r (.g (.two (decide ((i:Int) < (keys.length:Int))) (fun h1 h1'=>(.r (.h' [(o_ g 9 (mC out)),(o_ 0 2 [[e_,e_]])] (.is 1 2 2 (mK keys) (i:Int) (Key.row (nth keys i)) (O9.mk _ ow ow) (.s (.c 2 ((a1G l (nth keys i) oa).lift kr kr [(o_ g 9 (mC out)),(o_ 0 2 [(Key.row (nth keys i))]),(o_ 0 9 [[e_,e_,z_,z_,z_,z_,z_,z_,bF]])]) (.s (.two (inC l (nth keys i)) (fun h2 h2'=>(.u2 (.t 4 (sA 2 (mK (keys.take i))) (vE g out keys i l) (a0g (l:=0) (h:=i) om om om om a9D:Option.map (fun a=>(a,(vE g out keys i l))) (if 2=2\/((mK keys)).isEmpty=true then (bounds 0 (i:Int) (List.length (mK keys))).map fun p=>sA 2 ((List.take p.2 (mK keys)).drop p.1) else none)=some ((sA 2 (mK (keys.take i))),(vE g out keys i l))) (.u2 (.c 6 ((zQ (keys.take i) (nth keys i) oa).lift kr kr (vE g out keys i l)) (.u (.g (.two (!(aW (keys.take i) (nth keys i))) (fun h3 h3'=>(.r (.h' (vE g out keys i l) (.ap 3 30 (AV.osl 0 g 9 0 k) (AV.sl .clip 9 [(j5.row (U0 l (nth keys i)))]) (cm_ g k) [(o_ (g+1) 9 (mC (out++[(U0 l (nth keys i))]))),(o_ 0 2 [(Key.row (nth keys i))]),(o_ 0 9 [(j5.row (U0 l (nth keys i)))])] (K3 (row:=j5.row) (l:=out) (x:=(U0 l (nth keys i))) (T:=tt) (e:=50) (te:=bP) (z:=1) (b:=24) (y:=[.sl .nil 0 []]) kr kr rfl E9 E9 kr fB rfl rfl iV) (.s (.y 0 (.int .i64 (ca_ i)) (iN (i+1)) Yes.o (.h' (c3T g out l keys i) (.b 1 (.g (.l (k1 h1 h2 h3))))))))))) (fun h3 h3'=>(.r (.h' (vE g out keys i l) (.y 0 (.int .i64 (ca_ i)) (iN (i+1)) Yes.o (.h' [(o_ g 9 (mC out))] (.b 1 (.g (.l (k2 h1 h2 h3))))))))))))))))) (fun h2 h2'=>(.n5 (.rn (.h' (vE g out keys i l) (.y 0 (.int .i64 (ca_ i)) (iN (i+1)) Yes.o (.h' [(o_ g 9 (mC out))] (.b 1 (.g (.l (k3 h1 h2)))))))))))))))))) (fun h1 h1'=>(.l (k4 h1))))))
def iK (keys:List Key) (l:List j5) (i:Nat) (s:(List j5) × Nat × Nat):(List j5) × Nat × Nat:=(if (inC l (nth keys i))=true then (if (!(aW (keys.take i) (nth keys i)))=true then (s.1++[(U0 l (nth keys i))],(s.2.1+1),(s.2.2+1)) else (s.1,s.2.1,s.2.2)) else (s.1,s.2.1,s.2.2))
theorem a8S (keys:l9K) (l:l9C) (hl:l.length < 1048576) (hks:keys.length < 1048576)  (r_:Nat):∀ (out:l9C) (k:Nat) (g:Nat) (i:Nat) (sF:(l9C) × Nat × Nat),i+r_=keys.length->k=out.length->k<=i->sF=iter (iK keys l) r_ i (out,k,g) ->
 l7 (l9 Tryz.prog (X uW) (y7 Tryz.f36 0)) (some [1,5,6,13,14,15]) (some [1,5,6,13,14,15]) (b3A keys l g k i) [(o_ g 9 (mC out))] (.exit 0) (mkF 41 [(1,(sA 2 (mK keys))),(5,(sA 9 (mC l))),(6,(AV.osl 0 sF.2.2 9 0 sF.2.1)),(13,(sA 2 (mK keys))),(14,(iN keys.length)),(15,(iN keys.length))]) [(o_ sF.2.2 9 (mC sF.1))]:=by
 induction r_ with
 | zero =>
  intro out k g i sF hi_ hk hki  hF
  obtain rfl:keys.length=i:=by omega
  have e_:sF=(out,k,g):=hF
  refine zY keys l out k g keys.length hl hks hk hki (Nat.le_refl _) (fun h _ _=>by simp at h <;> omega) (fun h _ _=>by simp at h <;> omega) (fun h _=>by simp at h <;> omega) (fun _=>?_)
  first | done | rfl | (rw [e_]; done) | (rw [e_]; rfl)
 | succ r_ ih =>
  intro out k g i sF hi_ hk hki  hF
  refine zY keys l out k g i hl hks hk hki ow (fun h1 h2 h3=>?_) (fun h1 h2 h3=>?_) (fun h1 h2=>?_) (fun h=>by simp at h <;> omega)
  · exact ih (out++[(U0 l (nth keys i))]) (k+1) (g+1) (i+1) sF ow R6 R6  (by rw [hF] <;> simp only [iter,iK,h2,h3,if_true,Bool.false_eq_true,if_false])
  · exact ih out k g (i+1) sF ow R6 R6  (by rw [hF] <;> simp only [iter,iK,h2,h3,if_true,Bool.false_eq_true,if_false])
  · exact ih out k g (i+1) sF ow R6 R6  (by rw [hF] <;> simp only [iter,iK,h2,if_true,Bool.false_eq_true,if_false])
def V9 (l:List j5):List Key->List Key->List j5
 | _,[]=>[]
 | seen,k :: ks=>if inC l k=true then if (!(aW seen k))=true then U0 l k :: V9 l (seen++[k]) ks else V9 l (seen++[k]) ks else V9 l (seen++[k]) ks
theorem b8A {α:Type} [Inhabited α] {l:List α} {i:Nat} (h:i < l.length):l.take (i+1)=l.take i++[nth l i]:=by
 rw [List.take_add_one,List.getElem?_eq_getElem h]
 simp [nth,List.getD_eq_getElem?_getD,List.getElem?_eq_getElem h]
theorem c1r (l:l9C) (ks:l9K):∀ (seen:l9K),(V9 l seen ks).length<=ks.length:=by
 induction ks with
 | nil=>intro s; simp [V9]
 | cons k ks ih =>
  intro s
  have:=ih (s++[k])
  simp only [V9]
  split
  · split
    · simp only [List.length_cons]; omega
    · simp only [List.length_cons]; omega
  · simp only [List.length_cons]; omega
theorem a7a (keys:l9K) (l:l9C) (r:Nat):∀ (i:Nat) (out:l9C) (k g:Nat),i+r=keys.length ->
 iter (iK keys l) r i (out,k,g)=(out++V9 l (keys.take i) (keys.drop i),k+(V9 l (keys.take i) (keys.drop i)).length,g+(V9 l (keys.take i) (keys.drop i)).length):=by
 induction r with
 | zero =>
  intro i out k g hi
  have:keys.drop i=[]:=List.drop_of_length_le ow
  rw [this]; simp [iter,V9]
 | succ r ih =>
  intro i out k g hi
  rw [aY ow]
  simp only [iter,V9,iK]
  rw [<- b8A ow]
  split
  · split
    · rw [ih (i+1) _ _ _ ow]; simp; omega
    · rw [ih (i+1) _ _ _ ow]
  · rw [ih (i+1) _ _ _ ow]
def aA (l:List j5) (keys:List Key):List j5:=V9 (A8 l) [] keys
theorem a8T (keys:l9K) (l:l9C):(V9 l [] keys,(V9 l [] keys).length,(V9 l [] keys).length)=iter (iK keys l) keys.length 0 ([],0,0):=by
 rw [a7a keys l keys.length 0 [] 0 0 ow]; simp
attribute [local irreducible] E5 R8 V9 sO
@[simp] abbrev c6b (a:l9C):Fr:=(mkF 40 [(3,(AV.osl 0 (M8 (F3 a)).2 9 0 (M8 (F3 a)).1.length)),(8,(sA 9 (mC (F3 a)))),(9,(iN ((F3 a).length))),(10,(iN ((F3 a).length)))])
@[simp] abbrev c1y (a:l9C):Heap:=[(o_ ((M8 (F3 a)).2) 9 (mC (M8 (F3 a)).1))]
theorem uK (l:l9C) (hl:l.length < 1000):AC 71 [(sA 9 (mC l))] [] ((sA 9 (mC (A8 l))),[]):=by
 have hs:=lW l
 exact q9 (fn:=Tryz.f71) (ann:=a0B) (Has.o Tryz.func71) (.r (.s (.s (.c 1 ((kG l oa).lift kr kr [(o_ 0 9 (mC []))]) (.h' [(o_ 0 9 (mC []))] (.y 2 (.int .i64 ((List.length (mC (F3 l)):Nat):Int)) (iN ((F3 l).length)) (Yes.len _ _ _) (.g (.loop (c6b l) (show l7 cn_ (some [3,8,9,10]) (some [3,8,9,10]) (mkF 40 [(3,(AV.osl 0 0 9 0 0)),(8,(sA 9 (mC (F3 l)))),(9,(iN ((F3 l).length))),(10,z_)]) [(o_ 0 9 (mC []))] (.exit 0) (c6b l) (c1y l) from (b5i (F3 l) (List.length (F3 l)) [] 0 0 0 _ ow rfl ow ow (by unfold M8; rfl))) (.r (.w' 2 (mC (M8 (F3 l)).1) (And.intro (G9 (room:=none) kr om) (j5.y8 _ _):F5 (c1y l) 9 (AV.osl 0 (M8 (F3 l)).2 9 0 (M8 (F3 l)).1.length)=some (mC (M8 (F3 l)).1)/\AV.D5 0 (mC (M8 (F3 l)).1)=true) (.g (.h' [] (.q 0 (sA 9 (mC (M8 (F3 l)).1)) (by (try delta c1y); with_unfolding_all rfl))))))))))))))
@[simp] abbrev c6a (a:l9C) (b:l9C):Fr:=(mkF 33 [(6,(sA 9 (mC (A8 a)))),(7,(sA 9 (mC (A8 b)))),(8,(AV.osl 0 (I6 (E5 (A8 b) (A8 a))).length 2 0 (I6 (E5 (A8 b) (A8 a))).length)),(17,(sA 9 (mC (E5 (A8 b) (A8 a))))),(18,(iN ((E5 (A8 b) (A8 a)).length))),(19,(iN ((E5 (A8 b) (A8 a)).length)))])
@[simp] abbrev c1x (a:l9C) (b:l9C):Heap:=[(o_ ((I6 (E5 (A8 a) (A8 b))).length) 2 (mK (I6 (E5 (A8 a) (A8 b)))))]
theorem uQ (mine dig:l9C) (hm:mine.length < 1000) (hd:dig.length < 1000):AC 70 [(sA 9 (mC mine)),(sA 9 (mC dig))] [] ((AV.tup [(sA 2 (mK (N9 mine dig))),(sA 9 (mC (O1 mine dig)))]),[]):=by
 have h1:=wH mine
 have h2:=wH dig
 have h3:=gJ (A8 dig) (A8 mine)
 have h4:=wI (E5 (A8 dig) (A8 mine))
 exact q9 (fn:=Tryz.f70) (ann:=a0L) (Has.o Tryz.func70) (.r (.s (.c 1 ((uK mine oa).lift kr kr []) (.c 3 ((uK dig oa).lift kr kr []) (.s (.s (.c 2 ((a1U (A8 dig) (A8 mine) oa oa).lift kr kr [(o_ 0 2 (mK []))]) (.h' [(o_ 0 2 (mK []))] (.y 3 (.int .i64 ((List.length (mC (E5 (A8 dig) (A8 mine))):Nat):Int)) (iN ((E5 (A8 dig) (A8 mine)).length)) (Yes.len _ _ _) (.g (.loop (c6a mine dig) (show l7 c0Y (some [6,7,8,17,18,19]) (some [6,7,8,17,18,19]) (mkF 33 [(6,(sA 9 (mC (A8 mine)))),(7,(sA 9 (mC (A8 dig)))),(8,(AV.osl 0 0 2 0 0)),(17,(sA 9 (mC (E5 (A8 dig) (A8 mine))))),(18,(iN ((E5 (A8 dig) (A8 mine)).length))),(19,z_)]) [(o_ 0 2 (mK []))] (.exit 0) (c6a mine dig) (c1x dig mine) from (b6i (E5 (A8 dig) (A8 mine)) (A8 mine) (A8 dig) ow (List.length (E5 (A8 dig) (A8 mine))) [] 0 0 0 (I6 (E5 (A8 dig) (A8 mine)),(I6 (E5 (A8 dig) (A8 mine))).length,(I6 (E5 (A8 dig) (A8 mine))).length) ow rfl ow (b6j _ _ _))) (.r (.w 8 (mK (I6 (E5 (A8 dig) (A8 mine)))) (And.intro (G9 (room:=none) kr om) (Key.y8 _ _):F5 (c1x dig mine) 2 (AV.osl 0 (I6 (E5 (A8 dig) (A8 mine))).length 2 0 (I6 (E5 (A8 dig) (A8 mine))).length)=some (mK (I6 (E5 (A8 dig) (A8 mine))))/\AV.D5 0 (mK (I6 (E5 (A8 dig) (A8 mine))))=true) (.c 3 ((a1U (A8 mine) (A8 dig) oa oa).lift kr kr [(o_ ((I6 (E5 (A8 dig) (A8 mine))).length+1) 2 [])]) (.g (.h' [] (.q 0 (AV.tup [(sA 2 (mK (I6 (E5 (A8 dig) (A8 mine))))),(sA 9 (mC (E5 (A8 mine) (A8 dig))))]) (by (try delta c1x); with_unfolding_all rfl))))))))))))))))))
def a8x:Ann:={ fin:=some 0 }
@[simp] abbrev a0T :Heap:=[(o_ 0 13 [[z_,z_,z_,z_,z_,z_,z_,e_,e_,bF,(AV.int .u32 0),(AV.sl .nil 0 []),(AV.sl .nil 0 [])]])]
@[simp] abbrev c0X (a:l9C):=(sA 9 (mC ((F3 a).take (min (F3 a).length 64))))
theorem a6l (l:l9C) (hl:l.length < 1000):AC 78 [(sA 9 (mC l))] [] ((AV.agg [(iI 4),z_,z_,z_,z_,z_,z_,e_,e_,bF,(AV.int .u32 0),(sA 9 (mC (R8 l))),(AV.sl .nil 0 [])]),[]):=by
 have h1:=lW l
 exact q9 (fn:=Tryz.f78) (ann:=a8x) (Has.o Tryz.func78) (.r (.s (.c 1 ((kG l oa).lift kr kr a0T) (.s (.h' a0T (.y 2 (.int .i64 ((List.length (mC (F3 l)):Nat):Int)) (iN ((F3 l).length)) (Yes.len _ _ _) (.y 3 (.int .i64 (if 64 < (((F3 l).length:Nat):Int) then 64 else (((F3 l).length:Nat):Int))) (iN (min (F3 l).length 64)) (Yes.int eD) (.t 4 (c0X l) a0T (a0g (l:=0) (h:=min (F3 l).length 64) om om om om a9D:Option.map (fun a=>(a,a0T)) (if 9=9\/((mC (F3 l))).isEmpty=true then (bounds 0 ((min (F3 l).length 64:Nat):Int) (List.length (mC (F3 l)))).map fun p=>sA 9 ((List.take p.2 (mC (F3 l))).drop p.1) else none)=some ((c0X l),a0T)) (.c 5 ((a6A ((F3 l).take (min (F3 l).length 64)) oa).lift kr kr a0T) (.g (.h' [] (.q 0 (AV.agg [(iI 4),z_,z_,z_,z_,z_,z_,e_,e_,bF,(AV.int .u32 0),(c0X l),(AV.sl .nil 0 [])]) (by (try delta a0T); with_unfolding_all rfl)))))))))))))
@[simp] abbrev c5Z (a:l9K) (b:l9C):Fr:=(mkF 41 [(1,(sA 2 (mK a))),(5,(sA 9 (mC (A8 b)))),(6,(AV.osl 0 (V9 (A8 b) [] a).length 9 0 (V9 (A8 b) [] a).length)),(13,(sA 2 (mK a))),(14,(iN a.length)),(15,(iN a.length))])
@[simp] abbrev c1w (a:l9C) (b:l9K):Heap:=[(o_ ((V9 (A8 a) [] b).length) 9 (mC (V9 (A8 a) [] b)))]
theorem a7b (mine:l9C) (keys:l9K) (hm:mine.length < 1000) (hks:keys.length < 1048576):AC 36 [(sA 9 (mC mine)),(sA 2 (mK keys))] [] ((sA 9 (mC (aA mine keys))),[]):=by
 have h1:=wH mine
 have h2:=c1r (A8 mine) keys []
 exact q9 (fn:=Tryz.f36) (ann:=uW) (Has.o Tryz.func36) (.r (.s (.c 1 ((uK mine oa).lift kr kr []) (.s (.s (.h' [(o_ 0 9 (mC []))] (.y 1 (.int .i64 ((List.length (mK keys):Nat):Int)) (iN keys.length) (Yes.len _ _ _) (.g (.loop (c5Z keys mine) (show l7 a6P (some [1,5,6,13,14,15]) (some [1,5,6,13,14,15]) (mkF 41 [(1,(sA 2 (mK keys))),(5,(sA 9 (mC (A8 mine)))),(6,(AV.osl 0 0 9 0 0)),(13,(sA 2 (mK keys))),(14,(iN keys.length)),(15,z_)]) [(o_ 0 9 (mC []))] (.exit 0) (c5Z keys mine) (c1w mine keys) from (a8S keys (A8 mine) ow ow (List.length keys) [] 0 0 0 (V9 (A8 mine) [] keys,(V9 (A8 mine) [] keys).length,(V9 (A8 mine) [] keys).length) ow rfl ow (a8T _ _))) (.r (.w 6 (mC (V9 (A8 mine) [] keys)) (And.intro (G9 (room:=none) kr om) (j5.y8 _ _):F5 (c1w mine keys) 9 (AV.osl 0 (V9 (A8 mine) [] keys).length 9 0 (V9 (A8 mine) [] keys).length)=some (mC (V9 (A8 mine) [] keys))/\AV.D5 0 (mC (V9 (A8 mine) [] keys))=true) (.g (.h' [] (.q 0 (sA 9 (mC (V9 (A8 mine) [] keys))) (by (try delta c1w); with_unfolding_all rfl)))))))))))))))
theorem VR.rows {G:Nat->Prop} {w:World} {C:Cx} {k:Nat} {xs ys:List (List AV)} {v:Value} (h:VR G w C (.sl .any k xs) v) (hl:xs.length=ys.length) (hw:∀ i,i < xs.length->AV.wks (xs.getD i []) (ys.getD i [])):VR G w C (.sl .any k ys) v:=by
 cases h with
 | nils _ _ _ hg =>
  obtain rfl:ys=[]:=List.eq_nil_of_length_eq_zero hl.symm
  exact .nils _ _ _ hg
 | sl _ _ _ _ ad cap hg hclip hle hs cv hk hc h1 h =>
  rw [hl]
  refine .sl C .any ys k ad cap yf_ yf_ ya_ (fun hn=>hs fun e=>hn (List.eq_nil_of_length_eq_zero (by rw [<- hl,e]; rfl))) cv (fun i hi=>?_) (fun i j hi hj=>hc i j ya_ hj) (fun i j hi hj=>h1 i j ya_ hj) fun i j hi hj=>?_
  · rw [<- (AV.nT (hw i ya_)).1]; exact hk i ya_
  · exact (h i j ya_ hj).wk ((AV.nT (hw i ya_)).2 j (by rw [hk i ya_]; exact hj))
theorem a7V {α:Type} {row:α->List AV} {H:Heap} {id g k n:Nat} {l:List α} {room:Option Nat} (ho:H[id]?=some ⟨g,k,l.map row,room⟩) (hn:n<=l.length):F5 H k (.osl id g k 0 n)=some ((l.take n).map row):=by
 simp [F5,ho,List.map_take]
 exact hn
def mkN (o:Oper):Operand:=match o.op with
 | .makeSlice _ x _=>x
 | _=>.tmp 0
def mkC (o:Oper):Operand:=match o.op with
 | .makeSlice _ _ x=>x
 | _=>.tmp 0
theorem a9S {P:Program} {F:Fr} {H:Heap} {dst:Option Tmp} {x y:Operand} {t e0:TypeId} {type:TypeId} {pos:String} {after:Array Edge} {guard:Option (Nat × Bool)} {c:Nat} {i:TypeInfo} {z:Value} {kl kc:IntKind} {a0:AV}
 (ht:P.underlying t=some (.slice e0)) (hi:P.info? e0=some i) (hz:i.zero=some z) (hs:i.size=1) (hz1:z.cells = #[z]) (hz2:z.oneCell'=true) (hz3:∀ G w C,VR G w C a0 z)
 (hx:opv F x=some (.int kl (c:Int))) (hy:opv F y=some (.int kc (c:Int))) (hby:i.bytes * c<=281474976710656) (h63:c<=9223372036854775807) :
 iL P F H ⟨dst,.makeSlice t x y,type,pos,after,guard⟩ (.osl H.length 0 1 0 c,H++[⟨0,1,List.replicate c [a0],none⟩]):=by
 intro G w C f hf hH
 have hvx:=hf x yp_ _ hx
 have hvy:=hf y yp_ _ hy
 generalize hux:f x=ux at hvx
 generalize huy:f y=uy at hvy
 cases hvx
 cases hvy
 have hr:=run_make_row (P:=P) t e0 i z ht hi hz hs hz1 kl kc c hby h63 w
 have hsz:(madeCells #[z] c).size=c:=size_madeCells _ _
 have hnone:=hH.out H.length (Nat.le_refl _)
 have hget:∀ q,q < c->(madeCells #[z] c).getD q undef=z:=fun q hq=>by
  rw [Array.getD_eq_getD_getElem?]
  simp [madeCells,hq,Nat.mod_one]
 have hrow:∀ q,q < c->(List.replicate c [a0]).getD q []=[a0]:=fun q hq=>by simp [List.getD_eq_getElem?_getD,List.getElem?_replicate,hq]
 have hm:=hH.made (w':=w.alloc (.cells (madeCells #[z] c) e0)) (H':=H++[⟨0,1,List.replicate c [a0],none⟩]) H.length 1 (List.replicate c [a0]) (madeCells #[z] c) e0 rfl rfl rfl rfl c 0 yf_ (by rw [hsz]; omega)
  (fun q hq=>by rw [hrow q (by simpa using hq)]; rfl) ya_ (fun _=>hnone.2) (fun j hj=>by
   rcases Nat.lt_or_ge j H.length with h' | h'
   · rw [List.getElem?_append_left h']
   · rw [List.getElem?_eq_none yh_,List.getElem?_eq_none ya_]) yf_ yf_ (Nat.le_refl _) fun q j hq hj=>by
     obtain rfl:j=0:=by omega
     have hq':q < c:=by simpa using hq
     rw [Nat.mul_one,Nat.add_zero,hget q hq',hrow q hq']
     exact ⟨hz2,hz3 ..⟩
 refine ⟨.slice (some ⟨w.heap.size,0,none⟩) c c,w.alloc (.cells (madeCells #[z] c) e0),by simp [execOp,hux,huy,hr],G,_,hm.1,hm.2,.osl _ _ _ _ _ _ _ _ (Nat.le_refl _) yj_ fun _=>⟨_,_,Cx.M7 ..,rfl,rfl,by simp,by simp,fun _=>by simp⟩,by simp,fun id hl _ hιd=>?_⟩
 have hne:id≠H.length:=by omega
 exact ⟨by rw [(Cx.H8 _ _ _ _ hne).1]; exact hιd,(Cx.H8 _ _ _ _ hne).2,by rw [List.getElem?_append_left hl]⟩
theorem a3s {P:Program} {X:Env} {F:Fr} {H H2:Heap} {ar:Nat} {o:Oper} (hT:TOk P X.T) {t e0:TypeId} {ti te:TI} {c:Nat} {kl kc:IntKind} {a0:AV} {els':List (List AV)} (hop:o.op=.makeSlice t (mkN o) (mkC o)) (hsem:aH X o=true)
 (ht:X.T t=some ti) (htd:ti.d=.slice e0) (hte:X.T e0=some te) (hs:te.size=1) (hz:te.zero=[a0]) (ha:te.agg=false)
 (hx:opv F (mkN o)=some (.int kl (c:Int))) (hy:opv F (mkC o)=some (.int kc (c:Int))) (hby:te.bytes * c<=281474976710656) (h63:c<=9223372036854775807) (hels:List.replicate c [a0]=els') (hH:H++[⟨0,1,els',none⟩]=H2) :
 Sat P X F H ar o (.osl H.length 0 1 0 c) H2:=by
 refine Sat.sem hsem ?_
 subst hels hH
 obtain ⟨dst,op,type,pos,after,guard⟩:=o
 simp only at hop
 generalize mkN _=x at hop hx
 generalize mkC _=y at hop hy
 subst hop
 obtain ⟨i,hi,hsz,hbt,z,hzz,hzs,hzl,hza⟩:=(hT _ _ hte).info
 have hna:∀ cs,z≠.agg cs:=fun cs e=>by
  have:=hza.1 ⟨cs,e⟩
  rw [ha] at this; simp at this
 have hc:z.cells = #[z]:=by
  cases z with
  | agg cs=>exact absurd rfl (hna cs)
  | _=>rfl
 rw [hz,hc] at hzs
 have hv:∀ G w C,z.oneCell'=true/\VR G w C a0 z:=fun G w C=>by
  have:=(Z8 (G:=G) (w:=w) (C:=C) hzs).2 0 yf_
  simpa using this
 exact a9S (aL hT ht htd) hi hzz (by rw [hsz,hs]) hc (hv (fun _=>True) default Cx.none).1 (fun G w C=>(hv G w C).2) hx hy (by rw [hbt]; exact hby) h63
theorem c7e {α β:Type} (row:α->β) (l:List α) {j:Nat} (hj:j<=l.length):(l.map row).take 0++((l.map row).drop j).take (l.length - j)++(l.map row).drop (0+(l.length - j))=(l.drop j++l.drop (l.length - j)).map row:=by
 rw [List.take_of_length_le (l:=(l.map row).drop j) yf_,Nat.zero_add]
 simp [List.map_drop]
theorem c7d {α β:Type} (row:α->β) (u:β) (l:List α) {j:Nat} (hj:j<=l.length):((l.drop j++l.drop (l.length - j)).map row).take (l.length - j)++List.replicate j u++((l.drop j++l.drop (l.length - j)).map row).drop (l.length - j+j)=(l.drop j).map row++List.replicate j u:=by
 have hl:((l.drop j).map row).length=l.length - j:=by simp
 have h2:((l.drop j++l.drop (l.length - j)).map row).drop (l.length - j+j)=[]:=List.drop_of_length_le (by rw [List.map_append,List.length_append,hl,List.length_map,List.length_drop]; omega)
 rw [h2,List.map_append,List.take_append_of_le_length ya_,List.take_of_length_le ya_]
 simp
theorem c7Q {α β:Type} (row:α->β) (u:β) (a:List α) (n:Nat) {q:Nat} (hla:a.length=n) (hq:q<=n):(a.map row).take q++List.replicate (n - q) u++(a.map row).drop (q+(n - q))=(a.take q).map row++List.replicate (n - q) u:=by
 rw [List.drop_of_length_le yh_]
 simp [List.map_take]
def b9T:Ann:={ fin:=some 0 }
theorem b5n (x:Int) :AC 102 [(AV.sl .nil 0 []),(iI x)] [] ((iI (-1)),[]) :=
 q9 (fn:=Tryz.f102) (ann:=b9T) (Has.o Tryz.func102) (.r (.s (.g (.roll 1 (.r (.g (.n (.qr 0 (iI (-1))))))))))
def b6h:Ann:={ fin:=some 0 }
theorem b1T (x:Int) :AC 50 [(AV.sl .nil 0 []),(iI x)] [] (bF,[]) :=
 q9 (fn:=Tryz.f50) (ann:=b6h) (Has.o Tryz.func50) (.r (.s (.c 2 ((b5n x).lift kr kr []) (.q 0 bF))))
def a3z:Ann:={ own:=[36],gha:=[(8,.virf 46 0 9)],fin:=some 4 }
@[simp] abbrev c2W :Ob:=(o_ 0 3 [[(AV.sl .nil 0 []),(AV.sl .nil 0 []),z_]])
@[simp] abbrev c1D :Heap:=[c2W]
@[simp] abbrev c6n (a:Int):Heap:=[(o_ 0 3 [[(AV.osl 1 0 1 0 1),(AV.sl .nil 0 []),z_]]),(o_ 0 1 (List.map x9 [a])),(o_ 0 1 [[(AV.sl .nil 0 [])]])]
@[reducible] def c4T:TI:={ d:=.int .i64,size:=1,bytes:=8,zero:=[.int .i64 0] }
@[reducible] def c4S:TI:={ d:=.slice 50,size:=1,bytes:=24,zero:=[.sl .nil 0 []] }
theorem b0C (p:Int) :AC 25 [(sA 1 [[(iI p)]])] [] ((oO 0 0 0 0),[(o_ 0 3 [[(AV.osl 1 0 1 0 1),(AV.osl 2 0 1 0 1),z_]]),(o_ 0 1 (List.map x9 [p])),(o_ 0 1 [[(AV.osl 3 0 9 0 (List.length ([]:l9C)))]]),(o_ 0 9 (mC ([]:l9C)))]) :=
 q9 (fn:=Tryz.f25) (ann:=a3z) (Has.o Tryz.func25) (.r (.s (.s (.g (.roll 2 (.r (.ru (.s (.u6 (.c 12 ((b1T p).lift kr kr c1D) (.u (.ru (.h' c1D (.ao 7 22 (AV.sl .nil 0 []) (AV.sl .clip 1 [[(iI p)]]) (AV.osl 1 0 1 0 1) [(o_ 0 3 [[(AV.sl .nil 0 []),(AV.sl .nil 0 []),z_]]),(o_ 0 1 (List.map x9 [p]))] (bM (T:=tt) (e:=3) (te:=c4T) (z:=1) (b:=24) (y:=[.sl .nil 0 []]) (row:=x9) kr kr rfl E9 E9 yf_ aR rfl rfl rfl om) (.s (.s (.rn (.t 6 (AV.osl 2 0 1 0 1) (c6n p) (a3s (t:=102) (ti:={ d:=.slice 30,size:=1,bytes:=24,zero:=[.sl .nil 0 []] }) (te:=c4S) (kl:=.i64) (kc:=.i64) (c:=1) dF kr kr kr rfl kr rfl rfl rfl kr kr E9 E9 rfl rfl:Sat Tryz.prog (X a3z) (mkF 50 [(0,(sA 1 [[(iI p)]])),(2,AV.nilp),(3,(oO 0 0 0 0)),(5,(iI p)),(6,(AV.agg [(AV.sl .nil 0 []),(AV.sl .nil 0 []),z_])),(7,(oO 0 0 0 0)),(8,(sA 1 [[(iI p)]])),(9,(iI 1)),(10,(iI 1)),(11,bF),(12,(AV.ref [(iI p)] 0)),(13,(iI p)),(14,(oO 0 0 0 0)),(15,(oO 0 0 0 0)),(16,(oO 0 0 0 0)),(17,(AV.sl .nil 0 [])),(18,z_),(19,bT),(20,bT),(21,(oO 0 0 0 0)),(22,(oO 0 0 0 0)),(23,(oO 0 0 0 0)),(24,(AV.sl .nil 0 [])),(25,(iI p)),(26,bF),(27,bT),(28,bT),(29,(oO 0 0 0 0)),(30,(oO 0 0 0 0)),(31,(oO 0 0 0 0)),(32,(oO 0 0 0 0)),(33,(AV.sl .nil 0 [])),(34,(iI p)),(35,(AV.sl .clip 1 [[(iI p)]])),(36,(AV.osl 1 0 1 0 1)),(37,(oO 0 0 0 0)),(38,(oO 0 0 0 0)),(39,(iI 1)),(40,(oO 0 0 0 0)),(41,(oO 0 0 0 0)),(42,(oO 0 0 0 0)),(43,(oO 0 0 0 0)),(44,(AV.osl 1 0 1 0 1)),(45,(iI 1))]) [(o_ 0 3 [[(AV.osl 1 0 1 0 1),(AV.sl .nil 0 []),z_]]),(o_ 0 1 (List.map x9 [p]))] 2 (X6 Tryz.f25 8 6) (AV.osl 2 0 1 0 1) (c6n p)) (.o (rfl:0=0) (.s (.g (.h' [(o_ 0 3 [[(AV.osl 1 0 1 0 1),(AV.osl 2 0 1 0 1),z_]]),(o_ 0 1 (List.map x9 [p])),(o_ 0 1 [[(AV.osl 3 0 9 0 0)]]),(o_ 0 9 (mC []))] (.q 4 (oO 0 0 0 0))))))))))))))))))))))))
def a3A:Ann:={ fin:=some 2 }
@[simp] abbrev a7t :Heap:=[(o_ 0 3 [[(AV.sl .nil 0 []),(AV.osl 1 0 1 0 0),z_]]),(o_ 0 1 [])]
@[simp] abbrev c6m :Heap:=[c2W,(o_ 0 1 [])]
theorem b0D  :AC 25 [(AV.sl .nil 0 [])] [] ((oO 0 0 0 0),a7t) :=
 q9 (fn:=Tryz.f25) (ann:=a3A) (Has.o Tryz.func25) (.r (.s (.s (.g (.roll 1 (.r (.rn (.t 6 (AV.osl 1 0 1 0 0) c6m (a3s (t:=102) (ti:={ d:=.slice 30,size:=1,bytes:=24,zero:=[.sl .nil 0 []] }) (te:=c4S) (kl:=.i64) (kc:=.i64) (c:=0) dF kr kr kr rfl kr rfl rfl rfl kr kr E9 E9 rfl rfl:Sat Tryz.prog (X a3A) (mkF 50 [(0,(AV.sl .nil 0 [])),(2,AV.nilp),(3,(oO 0 0 0 0)),(6,(AV.agg [(AV.sl .nil 0 []),(AV.sl .nil 0 []),z_])),(7,(oO 0 0 0 0)),(8,(AV.sl .nil 0 [])),(9,z_),(10,z_),(11,bF),(40,(oO 0 0 0 0)),(41,(oO 0 0 0 0)),(42,(oO 0 0 0 0)),(43,(oO 0 0 0 0)),(44,(AV.sl .nil 0 [])),(45,z_)]) c1D 1 (X6 Tryz.f25 8 6) (AV.osl 1 0 1 0 0) c6m) (.s (.g (.h' a7t (.q 2 (oO 0 0 0 0)))))))))))))
def gI (j:Nat) (l:List j5):List j5:=l.drop j
theorem wT (j:Nat) (l:l9C):(gI j l).length=l.length - j:=List.length_drop ..
def R7 (l:List j5) (c:j5):List j5:=l.filter (fun x=>!(Key.eqb x.key c.key))
theorem tY (l:l9C) (c:j5):(R7 l c).length<=l.length:=List.length_filter_le ..
def qD:Ann:={ big:=[13,31],base:=1 }
@[simp] abbrev b2X (a:Nat) (b:l9C) (c:Nat):Heap:=[(o_ a 9 (mC (b.drop c)++List.replicate c (List.replicate 9 AV.unk)))]
@[simp] abbrev a7s (a:Nat) (b:l9C) (c:Nat):Heap:=[(o_ a 9 (mC (b.drop c++b.drop (b.length - c))))]
@[simp] abbrev V8 (a:Nat) (b:l9C):=(AV.osl 0 a 9 0 b.length)
@[simp] abbrev oU (a:Nat) (b:l9C) (c:Nat):=(AV.osl 0 a 9 0 (b.length - c))
theorem b3K (l:l9C) (g j:Nat) (hj0:0 < j) (hj:j<=l.length) (hl:l.length < 1048576):AC 120 [(V8 g l),z_,(iN j)] [(o_ g 9 (mC l))] ((oU g l j),(b2X g l j)) :=
 q9 (fn:=Tryz.f120) (ann:=qD) (Has.o Tryz.func120) (.r (.s (.t 5 AV.unk [(o_ g 9 (mC l))] (a1m (o:=(X6 Tryz.f120 1 5)) (t:=30) (e0:=50) (ti:={ d:=.slice 50,size:=1,bytes:=24,zero:=[.sl .nil 0 []] }) (id:=0) (g:=g) (e:=0) (n:=l.length) (te:=bP) (k:=9) (l:=0) (h:=j) (c:=l.length) dF kr kr kr rfl kr rfl kr kr kr kr om om om:Sat Tryz.prog (X qD) (mkF 33 [(0,(V8 g l)),(1,z_),(2,(iN j)),(6,(AV.sl .nil 0 [])),(8,(V8 g l)),(9,z_),(10,(iN j)),(11,(V8 g l)),(12,(iN l.length))]) [(o_ g 9 (mC l))] 1 (X6 Tryz.f120 1 5) AV.unk [(o_ g 9 (mC l))]) (.s (.y 2 (bB (0 == (j:Int))) bF (Yes.b yh_) (.rn (.s (.so 2 0 g 9 0 l.length 0 0 (AV.osl 0 g 9 0 0) (M4 (l:=0) (h:=0) om om om om om om) (.so 5 0 g 9 0 l.length (j:Int) (l.length:Int) (AV.osl 0 g 9 j (l.length - j)) (M4 (l:=j) (h:=l.length) om om om om om om) (.ap 6 30 (AV.osl 0 g 9 0 0) (AV.osl 0 g 9 j (l.length - j)) (oU g l j) (a7s g l j) (a4x (els:=(mC l)) (ti:={ d:=.slice 50,size:=1,bytes:=24,zero:=[.sl .nil 0 []] }) (te:=bP) (e0:=50) kr rfl kr rfl E9 kr om om (c7e j5.row l hj) om rfl) (.s (.t 4 (AV.osl 0 g 9 (l.length - j) j) (a7s g l j) (b0j (o:=(X6 Tryz.f120 6 4)) (t:=30) (e0:=50) (ti:={ d:=.slice 50,size:=1,bytes:=24,zero:=[.sl .nil 0 []] }) (id:=0) (g:=g) (e:=0) (n:=(l.length - j)) (te:=bP) (k:=9) (room:=none) (l:=(l.length - j)) (h:=l.length) (els:=(mC (l.drop j++l.drop (l.length - j)))) dF kr kr kr rfl kr rfl kr kr kr kr om om om om:Sat Tryz.prog (X qD) (mkF 33 [(0,(oU g l j)),(1,z_),(2,(iN j)),(6,(AV.sl .nil 0 [])),(7,(iN l.length)),(8,(V8 g l)),(9,z_),(10,(iN j)),(11,(V8 g l)),(12,(iN l.length)),(13,AV.unk),(14,z_),(15,(iN j)),(16,bF),(18,(V8 g l)),(19,(iN l.length)),(20,(V8 g l)),(21,z_),(22,(AV.osl 0 g 9 0 0)),(23,(V8 g l)),(24,(iN j)),(25,(AV.osl 0 g 9 j (l.length - j))),(26,(oU g l j)),(27,(oU g l j)),(28,(oU g l j)),(29,(iN ((l.length - j)))),(30,(iN l.length))]) (a7s g l j) 1 (X6 Tryz.f120 6 4) (AV.osl 0 g 9 (l.length - j) j) (a7s g l j)) (.t 5 AV.unk (b2X g l j) (a3t (o:=(X6 Tryz.f120 6 5)) (t:=30) (e0:=50) (ti:={ d:=.slice 50,size:=1,bytes:=24,zero:=[.sl .nil 0 []] }) (id:=0) (g:=g) (e:=(l.length - j)) (n:=j) (te:=bP) (k:=9) (els:=(mC (l.drop j++l.drop (l.length - j)))) (els':=(mC (l.drop j)++List.replicate j (List.replicate 9 AV.unk))) (room:=none) dF kr kr kr rfl kr rfl E9 kr kr om yf_ (c7d j5.row (List.replicate 9 AV.unk) l hj) rfl:Sat Tryz.prog (X qD) (mkF 33 [(0,(oU g l j)),(1,z_),(2,(iN j)),(6,(AV.sl .nil 0 [])),(7,(iN l.length)),(8,(V8 g l)),(9,z_),(10,(iN j)),(11,(V8 g l)),(12,(iN l.length)),(13,AV.unk),(14,z_),(15,(iN j)),(16,bF),(18,(V8 g l)),(19,(iN l.length)),(20,(V8 g l)),(21,z_),(22,(AV.osl 0 g 9 0 0)),(23,(V8 g l)),(24,(iN j)),(25,(AV.osl 0 g 9 j (l.length - j))),(26,(oU g l j)),(27,(oU g l j)),(28,(oU g l j)),(29,(iN ((l.length - j)))),(30,(iN l.length)),(31,(AV.osl 0 g 9 (l.length - j) j))]) (a7s g l j) 1 (X6 Tryz.f120 6 5) AV.unk (b2X g l j)) (.s (.g (.h' (b2X g l j) (.e (oU g l j))))))))))))))))))
def a4l:Ann:={ big:=[13,31],base:=1 }
theorem b3J (l:l9C) (g:Nat) (hl:l.length < 1048576):AC 120 [(V8 g l),z_,z_] [(o_ g 9 (mC l))] ((V8 g l),[(o_ g 9 (mC l))]) :=
 q9 (fn:=Tryz.f120) (ann:=a4l) (Has.o Tryz.func120) (.r (.s (.t 5 AV.unk [(o_ g 9 (mC l))] (a1m (o:=(X6 Tryz.f120 1 5)) (t:=30) (e0:=50) (ti:={ d:=.slice 50,size:=1,bytes:=24,zero:=[.sl .nil 0 []] }) (id:=0) (g:=g) (e:=0) (n:=l.length) (te:=bP) (k:=9) (l:=0) (h:=0) (c:=l.length) dF kr kr kr rfl kr rfl kr kr kr kr om om om:Sat Tryz.prog (X a4l) (mkF 33 [(0,(V8 g l)),(1,z_),(2,z_),(6,(AV.sl .nil 0 [])),(8,(V8 g l)),(9,z_),(10,z_),(11,(V8 g l)),(12,(iN l.length))]) [(o_ g 9 (mC l))] 1 (X6 Tryz.f120 1 5) AV.unk [(o_ g 9 (mC l))]) (.s (.ru (.g (.e (V8 g l))))))))
theorem a4k (l:l9C) (g j n:Nat) (hn:n=l.length) (hj:j<=l.length) (hl:l.length < 1048576):AC 120 [(AV.osl 0 g 9 0 n),z_,(iN j)] [(o_ g 9 (mC l))] ((AV.osl 0 g 9 0 (n - j)),[(o_ g 9 (mC (gI j l)))]):=by
 subst hn
 unfold gI
 rcases Nat.eq_zero_or_pos j with rfl | h
 · exact b3J l g hl
 · exact (b3K l g j h hj hl).delete (by rw [List.take_append_of_le_length yf_,List.take_of_length_le yf_])
def b4A:Ann:={ refs:=[2],fin:=some 0 }
theorem b0B (x c:j5) :AC 119 [(AV.agg (j5.row x)),(AV.ref (j5.row c) 0)] [] ((bB (Key.eqb x.key c.key)),[]) :=
 q9 (fn:=Tryz.f119) (ann:=b4A) (Has.o Tryz.func119) (.r (.g (.qr 0 (bB (Key.eqb x.key c.key)))))
theorem a0q (x c:j5)  (H:Heap):AC 119 [(AV.agg (j5.row x)),(AV.ref (j5.row c) 0)] H ((bB (Key.eqb x.key c.key)),H):=(b0B x c ).lift kr kr H
def sS:Ann:={ gha:=[(6,.cut 1)],base:=1,live:=[(5,[0,1,5,6])],out:=[(5,[0,5])] }
@[simp] abbrev kX (a:j5):=(AV.func 119 [(AV.ref (j5.row a) 0)])
@[simp] abbrev c6l (a:Nat) (b:Nat) (c:j5) (d:Nat) (e:Nat):Fr:=(mkF 42 [(0,(AV.osl 0 a 9 0 b)),(1,(kX c)),(5,(iN d)),(6,(iN e))])
@[simp] abbrev a7r (a:Nat) (b:l9C):Heap:=[(o_ a 9 (mC b)),(o_ 0 9 [[e_,e_,z_,z_,z_,z_,z_,z_,bF]])]
@[simp] abbrev c1C (a:Nat) (b:l9C) (c:Nat):Heap:=[(o_ a 9 (mC b)),(o_ 0 9 [(j5.row (nth b c))])]
@[simp] abbrev c0W :=(l9 Tryz.prog (X sS) (y7 Tryz.f118 0))
theorem a7B (c:j5) (n:Nat) (g:Nat) (a:l9C) (q:Nat) (i:Nat) (hn:n < 1048576) (hk:n=a.length) (hq:q<=i) (hle_:i<=n) {eX:Ex} {FX:Fr} {HX:Heap} (k1:(decide ((i:Int) < (n:Int)))=true->(!(Key.eqb (nth a i).key c.key))=true->l7 c0W (some [0,1,5,6]) (some [0,5]) (mkF 42 [(0,(AV.osl 0 g 9 0 n)),(1,(kX c)),(5,(iN (q+1))),(6,(iN (i+1)))]) [(o_ g 9 (mC (a.set q (nth a i))))] eX FX HX) (k2:(decide ((i:Int) < (n:Int)))=true->(!(Key.eqb (nth a i).key c.key))=false->l7 c0W (some [0,1,5,6]) (some [0,5]) (mkF 42 [(0,(AV.osl 0 g 9 0 n)),(1,(kX c)),(5,(iN q)),(6,(iN (i+1)))]) [(o_ g 9 (mC a))] eX FX HX) (k3:(decide ((i:Int) < (n:Int)))=false->((.exit 0:Ex),(mkF 42 [(0,(AV.osl 0 g 9 0 n)),(5,(iN q))]),[(o_ g 9 (mC a))])=(eX,FX,HX)):l7 c0W (some [0,1,5,6]) (some [0,5]) (c6l g n c q i) [(o_ g 9 (mC a))] eX FX HX :=
 K7 (.r (.g (.two (decide ((i:Int) < (n:Int))) (fun h1 h1'=>(.r (.h' (a7r g a) (.io 2 0 g 9 9 0 n (i:Int) i (G6.mk _ ow ow) (.t 3 (ci_ a i) (a7r g a) (K9 (F4 (row:=j5.row) (l:=a) (k:=9) (room:=none) kr om) kr:P8 tt 50 0 (a7r g a) (rowAt (a7r g a) 0 g i)=some ((ci_ a i),(a7r g a))) (.s (.c 2 (a0q (nth a i) c  (c1C g a i)) (.g (.two (!(Key.eqb (nth a i).key c.key)) (fun h2 h2'=>(.r (.h' (c1C g a i) (.io 3 0 g 9 9 0 n (q:Int) q (G6.mk _ ow ow) (.st 4 0 g q 9 0 (ci_ a i) [(o_ g 9 (mC (a.set q (nth a i)))),(o_ 0 9 [(j5.row (nth a i))])] (U1 (us:=(j5.row (nth a i))) (F4 (row:=j5.row) (l:=a) (k:=9) (room:=none) kr om) kr iY iX) (.s (.y 1 (.int .i64 (ca_ q)) (iN (q+1)) Yes.o (.s (.y 1 (.int .i64 (ca_ i)) (iN (i+1)) Yes.o (.h' [(o_ g 9 (mC (a.set q (nth a i))))] (.b 1 (.g (.l (k1 h1 h2)))))))))))))) (fun h2 h2'=>(.r (.h' (c1C g a i) (.y 1 (.int .i64 (ca_ i)) (iN (i+1)) Yes.o (.h' [(o_ g 9 (mC a))] (.b 1 (.g (.l (k2 h1 h2)))))))))))))))))) (fun h1 h1'=>(.l (k3 h1))))))
def bY (c:j5) (n:Nat) (g:Nat) (i:Nat) (s:(List j5) × Nat):(List j5) × Nat:=(if (!(Key.eqb (nth s.1 i).key c.key))=true then (s.1.set s.2 (nth s.1 i),s.2+1) else (s.1,s.2))
theorem c2o (c:j5) (n:Nat) (g:Nat) (hn:n < 1048576)  (r_:Nat):∀ (a:l9C) (q:Nat) (i:Nat) (sF:(l9C) × Nat),i+r_=n->n=a.length->q<=i->sF=iter (bY c n g) r_ i (a,q) ->
 l7 (l9 Tryz.prog (X sS) (y7 Tryz.f118 0)) (some [0,1,5,6]) (some [0,5]) (c6l g n c q i) [(o_ g 9 (mC a))] (.exit 0) (mkF 42 [(0,(AV.osl 0 g 9 0 n)),(5,(iN sF.2))]) [(o_ g 9 (mC sF.1))]:=by
 induction r_ with
 | zero =>
  intro a q i sF hi_ hk hq  hF
  obtain rfl:n=i:=by omega
  have e_:sF=(a,q):=hF
  refine a7B c n g a q n hn hk hq (Nat.le_refl _) (fun h _=>by simp at h <;> omega) (fun h _=>by simp at h <;> omega) (fun _=>?_)
  first | done | rfl | (rw [e_]; done) | (rw [e_]; rfl)
 | succ r_ ih =>
  intro a q i sF hi_ hk hq  hF
  refine a7B c n g a q i hn hk hq ow (fun h1 h2=>?_) (fun h1 h2=>?_) (fun h=>by simp at h <;> omega)
  · exact ih (a.set q (nth a i)) (q+1) (i+1) sF ow R6 R6  (by rw [hF] <;> simp only [iter,bY,h2,if_true,Bool.false_eq_true,if_false])
  · exact ih a q (i+1) sF ow R6 R6  (by rw [hF] <;> simp only [iter,bY,h2,if_true,Bool.false_eq_true,if_false])
theorem b5o (c:j5) (l:l9C) (n:Nat) (hl:l.length < 1099511627776) (hn:ixI (fun x:j5=>Key.eqb x.key c.key) l=(n:Int)):AC 105 [(sA 9 (mC l)),(AV.func 119 [(AV.ref (j5.row c) 0)])] [] ((iN n),[]):=by
 have e:=a0C (fun x:j5=>Key.eqb x.key c.key) _ _ l (fun x H=>a0q x c H) rfl hl
 rw [hn] at e; exact e
theorem b5p (c:j5) (l:l9C) (hl:l.length < 1099511627776) (hn:ixI (fun x:j5=>Key.eqb x.key c.key) l = -1):AC 105 [(sA 9 (mC l)),(AV.func 119 [(AV.ref (j5.row c) 0)])] [] ((iI (-1)),[]):=by
 have e:=a0C (fun x:j5=>Key.eqb x.key c.key) _ _ l (fun x H=>a0q x c H) rfl hl
 rw [hn] at e; exact e
theorem a9A {p:Prop} (h:p:=by first | omega | (simp [List.length_set]; done) | (simp [List.length_set]; omega)):p:=h
theorem b8j (c:j5) (l:l9C) (g:Nat) (hl:l.length < 1048576) (hi:ixI (fun x:j5=>Key.eqb x.key c.key) l = -1):AC 118 [(V8 g l),(kX c)] [(o_ g 9 (mC l))] ((V8 g l),[(o_ g 9 (mC l))]) :=
 q9 (fn:=Tryz.f118) (ann:=sS) (Has.o Tryz.func118) (.r (.s (.c 2 (j6.borrow (args:=[(sA 9 (mC l)),(kX c)]) (args':=[(V8 g l),(kX c)]) (H:=([(o_ g 9 (mC l))]:Heap)) (b5p c l oa (hi)) rfl (show Brs ([(o_ g 9 (mC l))]:Heap) [(V8 g l),(kX c)] [(sA 9 (mC l)),(kX c)] from ⟨Br.osl (G9 (room:=none) kr a9A) (j5.y8 _ _),Br.same kr,trivial⟩)) (.s (.ru (.g (.e (V8 g l))))))))
@[simp] abbrev a4K (a:Nat) (b:Nat) (c:l9C) (d:l9C):Heap:=[(o_ a 9 (mC (List.take b c)++List.replicate (d.length - b) (List.replicate 9 AV.unk)))]
@[simp] abbrev c7o (a:Nat) (b:l9C) (c:Nat):Fr:=(mkF 42 [(0,(V8 a b)),(5,(iN c))])
theorem b8i (c:j5) (l a2:l9C) (g q1 q2:Nat) (hl:l.length < 1048576) (hi:ixI (fun x:j5=>Key.eqb x.key c.key) l=(q1:Int)) (hq1:q1 < l.length) (ha2:(a2,q2)=iter (bY c l.length g) (l.length - (q1+1)) (q1+1) (l,q1)) (hla:a2.length=l.length) (hq2:q2 < l.length):AC 118 [(V8 g l),(kX c)] [(o_ g 9 (mC l))] ((AV.osl 0 g 9 0 q2),(a4K g q2 a2 l)):=by
 have hm:(mC a2).length=l.length:=by rw [List.length_map,hla]
 exact q9 (fn:=Tryz.f118) (ann:=sS) (Has.o Tryz.func118) (.r (.s (.c 2 (j6.borrow (args:=[(sA 9 (mC l)),(kX c)]) (args':=[(V8 g l),(kX c)]) (H:=([(o_ g 9 (mC l))]:Heap)) (b5o c l q1 oa (hi)) rfl (show Brs ([(o_ g 9 (mC l))]:Heap) [(V8 g l),(kX c)] [(sA 9 (mC l)),(kX c)] from ⟨Br.osl (G9 (room:=none) kr a9A) (j5.y8 _ _),Br.same kr,trivial⟩)) (.s (.y 1 (bB ((q1:Int) == (-1))) bF (Yes.b a2u) (.rn (.y 1 (iW ((q1:Int)+1)) (iN (q1+1)) Yes.o (.g (.loop (c7o g l q2) (c2o c l.length g hl (l.length - (q1+1)) l q1 (q1+1) (a2,q2) ow rfl ow ha2) (.r (.so 2 0 g 9 0 l.length (q2:Int) (l.length:Int) (AV.osl 0 g 9 q2 (l.length - q2)) (M4 (l:=q2) (h:=l.length) om om om om om om) (.t 3 AV.unk (a4K g q2 a2 l) (a3t (o:=(X6 Tryz.f118 11 3)) (t:=30) (e0:=50) (ti:={ d:=.slice 50,size:=1,bytes:=24,zero:=[.sl .nil 0 []] }) (id:=0) (g:=g) (e:=q2) (n:=(l.length - q2)) (te:=bP) (k:=9) (els:=(mC a2)) (els':=(mC (List.take q2 a2)++List.replicate (l.length - q2) (List.replicate 9 AV.unk))) (room:=none) dF kr kr kr rfl kr rfl E9 kr kr om ow (c7Q j5.row (List.replicate 9 AV.unk) a2 l.length hla (Nat.le_of_lt hq2)) rfl:Sat Tryz.prog (X sS) (mkF 42 [(0,(V8 g l)),(5,(iN q2)),(36,(V8 g l)),(37,(iN q2)),(38,(AV.osl 0 g 9 q2 (l.length - q2)))]) [(o_ g 9 (mC a2))] 1 (X6 Tryz.f118 11 3) AV.unk (a4K g q2 a2 l)) (.s (.h' (a4K g q2 a2 l) (.so 2 0 g 9 0 l.length 0 (q2:Int) (AV.osl 0 g 9 0 q2) (M4 (l:=0) (h:=q2) om om om om om om) (.g (.e (AV.osl 0 g 9 0 q2))))))))))))))))))
theorem c2p (c:j5) (n g:Nat) (r:Nat):∀ (i q:Nat) (a:l9C),i+r=n->n=a.length->q<=i ->
 (iter (bY c n g) r i (a,q)).1.length=n/\(iter (bY c n g) r i (a,q)).2<=q+r/\(iter (bY c n g) r i (a,q)).1.take (iter (bY c n g) r i (a,q)).2=a.take q++(a.drop i).filter (fun x=>!(Key.eqb x.key c.key)):=by
 induction r with
 | zero =>
  intro i q a hi hn hq
  simp only [iter]
  refine ⟨hn.symm,by omega,?_⟩
  rw [List.drop_of_length_le ow]; simp
 | succ r ih =>
  intro i q a hi hn hq
  have hlt:i < a.length:=by omega
  have e:iter (bY c n g) (r+1) i (a,q)=iter (bY c n g) r (i+1) (bY c n g i (a,q)):=rfl
  rw [e]
  cases hp:Key.eqb (nth a i).key c.key with
  | true =>
   have e2:bY c n g i (a,q)=(a,q):=by unfold bY; simp [hp]
   rw [e2]
   obtain ⟨h1,h2,h3⟩:=ih (i+1) q a ow hn ow
   refine ⟨h1,by omega,?_⟩
   rw [h3,aY hlt,List.filter_cons,if_neg (by simp [hp])]
  | false =>
   have e2:bY c n g i (a,q)=(a.set q (nth a i),q+1):=by unfold bY; simp [hp]
   rw [e2]
   obtain ⟨h1,h2,h3⟩:=ih (i+1) (q+1) (a.set q (nth a i)) ow (by simpa using hn) ow
   refine ⟨h1,by omega,?_⟩
   rw [h3,aY hlt,List.filter_cons,if_pos (by simp [hp]),List.drop_set_of_lt ow]
   have e3:(a.set q (nth a i)).take (q+1)=a.take q++[nth a i]:=by
    rw [List.set_eq_take_append_cons_drop,if_pos ow,List.take_append]
    have e4:(a.take q).length=q:=by simp; omega
    rw [e4,List.take_of_length_le ow]
    simp
   rw [e3]; simp
theorem a7C (c:j5) (l:l9C) (g n:Nat) (hn:n=l.length) (hl:l.length < 1048576):AC 118 [(AV.osl 0 g 9 0 n),(AV.func 119 [(AV.ref (j5.row c) 0)])] [(o_ g 9 (mC l))] ((AV.osl 0 g 9 0 (R7 l c).length),[(o_ g 9 (mC (R7 l c)))]):=by
 subst hn
 unfold R7
 cases h:eF (fun x:j5=>Key.eqb x.key c.key) l 0 with
 | none =>
  have hi:ixI (fun x:j5=>Key.eqb x.key c.key) l = -1:=by with_unfolding_all (unfold ixI; rw [h])
  have e:l.filter (fun x=>!(Key.eqb x.key c.key))=l:=List.filter_eq_self.2 fun x hx=>by
   obtain ⟨j,hj,rfl⟩:=U6 hx
   have:=iQ l 0 h j hj; change Key.eqb (nth l j).key c.key=false at this; rw [this]; rfl
  rw [e]
  exact b8j c l g hl hi
 | some q1 =>
  obtain ⟨_,h2,h3,h4⟩:=dD l 0 q1 h
  have hi:ixI (fun x:j5=>Key.eqb x.key c.key) l=(q1:Int):=by with_unfolding_all (unfold ixI; rw [h])
  have hq1:q1 < l.length:=by omega
  obtain ⟨k1,k2,k3⟩:=c2p c l.length g (l.length - (q1+1)) (q1+1) q1 l ow rfl ow
  have e:l.filter (fun x=>!(Key.eqb x.key c.key))=l.take q1++(l.drop (q1+1)).filter (fun x=>!(Key.eqb x.key c.key)):=by
   conv=>lhs; rw [<- List.take_append_drop q1 l]
   rw [List.filter_append,aY hq1,List.filter_cons,if_neg (by simpa using h3)]
   congr 1
   refine List.filter_eq_self.2 fun x hx=>?_
   obtain ⟨j,hj,rfl⟩:=U6 hx
   have hj':j < q1:=by simp at hj; omega
   have:=h4 j ow; change Key.eqb (nth l j).key c.key=false at this; rw [bR hj',this]; rfl
  have h5:=b8i c l _ g q1 _ hl hi hq1 rfl k1 ow
  have hlen:(l.filter (fun x=>!(Key.eqb x.key c.key))).length=(iter (bY c l.length g) (l.length - (q1+1)) (q1+1) (l,q1)).2:=by
   rw [e,<- k3,List.length_take,k1]; omega
  rw [hlen,e,<- k3]
  exact h5.delete (by rw [List.take_append_of_le_length yh_,List.take_of_length_le yh_])
attribute [local irreducible] Key.eqb
attribute [local irreducible] R7 gI
def dH (l:List j5) (c:j5):List j5:=if 16 < (R7 l c).length+1 then gI 1 (R7 l c++[c]) else R7 l c++[c]
def yD (l:List j5) (c:j5) (n:Int):Int:=if 16 < (R7 l c).length+1 then IntKind.i64.wrap (n+1) else n
theorem a0r (l:l9C) (c:j5):(dH l c).length=if 16 < (R7 l c).length+1 then (R7 l c).length else (R7 l c).length+1:=by
 unfold dH; split <;> simp [wT]
def b4E:Ann:={ refs:=[5],base:=4,fin:=some 4 }
@[simp] abbrev a2W (a:Int):=[[(AV.osl 1 0 1 0 1),(AV.osl 2 0 1 0 1),(iI a)]]
@[simp] abbrev qC (a:Int):Ob:=(o_ 0 3 (a2W a))
@[simp] abbrev uZ (a:Nat) (b:l9C):Ob:=(o_ 0 1 [[(AV.osl 3 a 9 0 (List.length b))]])
@[simp] abbrev bW (a:Int) (b:Int) (c:Nat) (d:l9C):Heap:=[qC a,(o_ 0 1 (List.map x9 [b])),uZ c d,(o_ c 9 (mC d))]
@[simp] abbrev c2V (a:Nat) (b:l9C) (c:j5):Ob:=(o_ (a+1) 9 (mC ((R7 b c)++[c])))
@[simp] abbrev c3c (a:Int) (b:Int) (c:Nat) (d:l9C) (e:j5):Heap:=[qC a,(o_ 0 1 (List.map x9 [b])),(o_ 0 1 [[(AV.osl 3 (c+1) 9 0 ((R7 d e).length+1))]]),c2V c d e]
@[simp] abbrev a4J (a:Int) (b:Int) (c:Nat) (d:l9C) (e:j5):Heap:=[qC a,(o_ 0 1 (List.map x9 [b])),uZ c d,(o_ c 9 (mC (R7 d e)))]
@[simp] abbrev b2Z (a:Int) (b:Int) (c:Nat) (d:l9C) (e:j5):Heap:=[qC a,(o_ 0 1 (List.map x9 [b])),uZ c d,c2V c d e]
theorem b0G (p lost:Int) (g:Nat) (l:l9C) (c:j5) (hl:l.length < 1000) (h:¬ 16 < (R7 l c).length+1):AC 65 [(oO 0 0 0 0),z_,(AV.agg (j5.row c))] (bW lost p g l) ((AV.tup []),(c3c lost p g l c)):=by
 have hf:=tY l c
 exact q9 (fn:=Tryz.f65) (ann:=b4E) (Has.o Tryz.func65) (.r (.s (.ch 8 (a4J lost p g l c) (j6.put2 [3] (bW lost p g l) (AV.osl 3 g 9 0 (R7 l c).length) (a4J lost p g l c) (a7C c l g (List.length l) oa oa) (⟨Ob.ren0 (j5.y8 0 _),trivial⟩) (⟨Ob.ren0 (j5.y8 0 _),trivial⟩)) (.s (.ap 3 30 (AV.osl 3 g 9 0 (R7 l c).length) (AV.sl .clip 9 [(j5.row c)]) (AV.osl 3 (g+1) 9 0 ((R7 l c).length+1)) (b2Z lost p g l c) (K3 (row:=j5.row) (l:=(R7 l c)) (x:=c) (T:=tt) (e:=50) (te:=bP) (z:=1) (b:=24) (y:=[.sl .nil 0 []]) kr kr rfl E9 E9 kr fB rfl rfl iV) (.s (.y 2 (bB (decide ((((R7 l c).length+1:Nat):Int) > 16))) bF (Yes.b (by exact decide_eq_false ow)) (.rn (.g (.h' (c3c lost p g l c) (.q 4 (AV.tup []))))))))))))
def b4D:Ann:={ refs:=[5],base:=4,fin:=some 4 }
@[simp] abbrev c3b (a:Int) (b:Int) (c:Nat) (d:l9C) (e:j5):Heap:=[qC a,(o_ 0 1 (List.map x9 [b])),uZ c d,(o_ (c+1) 9 (mC (gI 1 ((R7 d e)++[e]))))]
theorem b0F (p lost:Int) (g:Nat) (l:l9C) (c:j5) (hl:l.length < 1000) (h:16 < (R7 l c).length+1):AC 65 [(oO 0 0 0 0),z_,(AV.agg (j5.row c))] (bW lost p g l) ((AV.tup []),[(o_ 0 3 [[(AV.osl 1 0 1 0 1),(AV.osl 2 0 1 0 1),(iI (IntKind.i64.wrap (lost+1)))]]),(o_ 0 1 (List.map x9 [p])),(o_ 0 1 [[(AV.osl 3 (g+1) 9 0 ((R7 l c).length+1 - 1))]]),(o_ (g+1) 9 (mC (gI 1 ((R7 l c)++[c]))))]):=by
 have hf:=tY l c
 exact q9 (fn:=Tryz.f65) (ann:=b4D) (Has.o Tryz.func65) (.r (.s (.ch 8 (a4J lost p g l c) (j6.put2 [3] (bW lost p g l) (AV.osl 3 g 9 0 (R7 l c).length) (a4J lost p g l c) (a7C c l g (List.length l) oa oa) (⟨Ob.ren0 (j5.y8 0 _),trivial⟩) (⟨Ob.ren0 (j5.y8 0 _),trivial⟩)) (.s (.ap 3 30 (AV.osl 3 g 9 0 (R7 l c).length) (AV.sl .clip 9 [(j5.row c)]) (AV.osl 3 (g+1) 9 0 ((R7 l c).length+1)) (b2Z lost p g l c) (K3 (row:=j5.row) (l:=(R7 l c)) (x:=c) (T:=tt) (e:=50) (te:=bP) (z:=1) (b:=24) (y:=[.sl .nil 0 []]) kr kr rfl E9 E9 kr fB rfl rfl iV) (.s (.y 2 (bB (decide ((((R7 l c).length+1:Nat):Int) > 16))) bT (Yes.b (by exact decide_eq_true ow)) (.ru (.ch 1 (c3b lost p g l c) (j6.put2 [3] (b2Z lost p g l c) (AV.osl 3 (g+1) 9 0 (((R7 l c).length+1) - 1)) (c3b lost p g l c) (a4k ((R7 l c)++[c]) (g+1) 1 ((R7 l c).length+1) oa oa oa) (⟨Ob.ren0 (j5.y8 0 _),trivial⟩) (⟨Ob.ren0 (j5.y8 0 _),trivial⟩)) (.s (.s (.g (.h' [(o_ 0 3 [[(AV.osl 1 0 1 0 1),(AV.osl 2 0 1 0 1),(iI (IntKind.i64.wrap (lost+1)))]]),(o_ 0 1 (List.map x9 [p])),(o_ 0 1 [[(AV.osl 3 (g+1) 9 0 (((R7 l c).length+1) - 1))]]),(o_ (g+1) 9 (mC (gI 1 ((R7 l c)++[c]))))] (.q 4 (AV.tup [])))))))))))))))
theorem b4C (p lost:Int) (g:Nat) (l:l9C) (c:j5) (hl:l.length < 1000):AC 65 [(oO 0 0 0 0),z_,(AV.agg (j5.row c))] [(o_ 0 3 [[(AV.osl 1 0 1 0 1),(AV.osl 2 0 1 0 1),(iI lost)]]),(o_ 0 1 (List.map x9 [p])),(o_ 0 1 [[(AV.osl 3 g 9 0 (List.length l))]]),(o_ g 9 (mC l))] ((AV.tup []),[(o_ 0 3 [[(AV.osl 1 0 1 0 1),(AV.osl 2 0 1 0 1),(iI (yD l c lost))]]),(o_ 0 1 (List.map x9 [p])),(o_ 0 1 [[(AV.osl 3 (g+1) 9 0 (List.length (dH l c)))]]),(o_ (g+1) 9 (mC (dH l c)))]):=by
 rw [show List.length (dH l c)=_ from a0r l c]
 unfold dH yD
 by_cases h:16 < (R7 l c).length+1
 · rw [if_pos h,if_pos h,if_pos h]; exact b0F p lost g l c hl h
 · rw [if_neg h,if_neg h,if_neg h]; exact b0G p lost g l c hl h
def b5m:Ann:={ fin:=some 0 }
theorem b1i (p:Int) :AC 102 [(sA 1 [[(iI p)]]),(iI p)] [] (z_,[]) :=
 q9 (fn:=Tryz.f102) (ann:=b5m) (Has.o Tryz.func102) (.r (.s (.g (.roll 2 (.r (.ru (.s (.y 5 (bB (p == p)) bT (Yes.b yf_) (.g (.u (.qr 0 z_)))))))))))
theorem b1j (p:Int) :AC 102 [(sA 1 (List.map x9 [p])),(iI p)] [] (z_,[]):=b1i p
def V7 (l:List j5):List j5:=l.take (min l.length 4)
def eZ (l:List j5):List j5:=gI (min l.length 4) l
def b0A:Ann:={ gha:=[(5,.frz 7)],base:=4,fin:=some 4 }
@[simp] abbrev c3a (a:Int) (b:Int) (c:Nat) (d:l9C):Heap:=[qC a,(o_ 0 1 (List.map x9 [b])),uZ c d,(o_ c 9 (mC d)),(o_ 0 9 (mC (List.take (min (List.length d) 4) d)))]
@[simp] abbrev b2Y (a:Int) (b:Int) (c:Nat) (d:l9C):Heap:=[qC a,(o_ 0 1 (List.map x9 [b])),uZ c d,(o_ c 9 (mC (gI (min d.length 4) d))),(o_ 1 9 [])]
@[simp] abbrev c0V (a:l9C):=(sA 9 (mC (List.take (min (List.length a) 4) a)))
theorem a7Z (p lost:Int) (g:Nat) (l:l9C) (hl:l.length < 1000):AC 79 [(oO 0 0 0 0),(iI p)] (bW lost p g l) ((sA 9 (mC (List.take (min l.length 4) l))),[(o_ 0 3 (a2W lost)),(o_ 0 1 (List.map x9 [p])),(o_ 0 1 [[(AV.osl 3 g 9 0 (l.length - (min l.length 4)))]]),(o_ g 9 (mC (gI (min l.length 4) l)))]) :=
 q9 (fn:=Tryz.f79) (ann:=b0A) (Has.o Tryz.func79) (.r (.s (.c 5 (j6.borrow (args:=[(sA 1 (List.map x9 [p])),(iI p)]) (args':=[(AV.osl 1 0 1 0 1),(iI p)]) (H:=(bW lost p g l)) (b1j p ) rfl (show Brs (bW lost p g l) [(AV.osl 1 0 1 0 1),(iI p)] [(sA 1 (List.map x9 [p])),(iI p)] from ⟨Br.osl (G9 (room:=none) kr a9A) (iC _ _),Br.same kr,trivial⟩)) (.s (.rn (.y 8 (.int .i64 (if 4 < (((List.length l):Nat):Int) then 4 else (((List.length l):Nat):Int))) (iN (min (List.length l) 4)) (Yes.int eD) (.s (.so 8 3 g 9 0 (List.length l) 0 ((min (List.length l) 4:Nat):Int) (AV.osl 3 g 9 0 (min (List.length l) 4)) (M4 (l:=0) (h:=min (List.length l) 4) om om om om om om) (.ch 9 (c3a lost p g l) (j6.uT (args:=[(c0V l)]) (args':=[(AV.osl 3 g 9 0 (min (List.length l) 4))]) (H:=(bW lost p g l)) (qX (List.take (min (List.length l) 4) l) oa) (tK (fun _=>rfl) _) (show Brs (bW lost p g l) [(AV.osl 3 g 9 0 (min (List.length l) 4))] [(c0V l)] from ⟨Br.osl (a7V (room:=none) kr (by first | omega | (simp; omega))) (j5.y8 _ _),trivial⟩)) (.w' 7 (mC (List.take (min (List.length l) 4) l)) (And.intro (G9 (room:=none) kr om) (j5.y8 _ _):F5 (c3a lost p g l) 9 (AV.osl 4 0 9 0 (List.take (min (List.length l) 4) l).length)=some (mC (List.take (min (List.length l) 4) l))/\AV.D5 0 (mC (List.take (min (List.length l) 4) l))=true) (.s (.ch 13 (b2Y lost p g l) (j6.put2 [3] [(o_ 0 3 (a2W lost)),(o_ 0 1 (List.map x9 [p])),(o_ 0 1 [[(AV.osl 3 g 9 0 (List.length l))]]),(o_ g 9 (mC l)),(o_ 1 9 [])] (AV.osl 3 g 9 0 ((List.length l) - (min l.length 4))) (b2Y lost p g l) (a4k l g (min l.length 4) (List.length l) oa oa oa) (⟨Ob.ren0 (j5.y8 0 _),trivial⟩) (⟨Ob.ren0 (j5.y8 0 _),trivial⟩)) (.rd (AV.osl 2 0 1 0 1) (b2Y lost p g l) (.s (.g (.h' [(o_ 0 3 (a2W lost)),(o_ 0 1 (List.map x9 [p])),(o_ 0 1 [[(AV.osl 3 g 9 0 ((List.length l) - (min l.length 4)))]]),(o_ g 9 (mC (gI (min l.length 4) l)))] (.q 4 (c0V l))))))))))))))))))
theorem a1w (p lost:Int) (g:Nat) (l:l9C) (hl:l.length < 1000):AC 79 [(oO 0 0 0 0),(iI p)] [(o_ 0 3 [[(AV.osl 1 0 1 0 1),(AV.osl 2 0 1 0 1),(iI lost)]]),(o_ 0 1 (List.map x9 [p])),(o_ 0 1 [[(AV.osl 3 g 9 0 (List.length l))]]),(o_ g 9 (mC l))] ((sA 9 (mC (V7 l))),[(o_ 0 3 [[(AV.osl 1 0 1 0 1),(AV.osl 2 0 1 0 1),(iI lost)]]),(o_ 0 1 (List.map x9 [p])),(o_ 0 1 [[(AV.osl 3 g 9 0 (List.length (eZ l)))]]),(o_ g 9 (mC (eZ l)))]):=by
 unfold eZ V7
 rw [show List.length (gI (min l.length 4) l)=_ from wT _ l]
 exact a7Z p lost g l hl
def tZ:Ann:={ gha:=[(8,.cut 4)],base:=4,fin:=some 4,live:=[(1,[0,7,8,9])],out:=[(1,[])] }
attribute [local irreducible] dH yD
theorem a9b (l:l9C) (c:j5):(dH l c).length<=l.length+1:=by
 have:=tY l c
 with_unfolding_all rw [a0r]
 split <;> omega
@[simp] abbrev c2U (a:l9C) (b:l9C) (c:Nat) (d:Int):Ob:=(o_ 0 3 [[(AV.osl 1 0 1 0 1),(AV.osl 2 0 1 0 1),(iI (yD a (nth b c) d))]])
@[simp] abbrev c2T (a:Nat) (b:l9C) (c:l9C) (d:Nat):Ob:=(o_ 0 1 [[(AV.osl 3 (a+1) 9 0 (List.length (dH b (nth c d))))]])
@[simp] abbrev c2S (a:Nat) (b:l9C) (c:l9C) (d:Nat):Ob:=(o_ (a+1) 9 (mC (dH b (nth c d))))
@[simp] abbrev c2Z (a:l9C) (b:l9C) (c:Nat) (d:Int) (e:Int) (f:Nat):Heap:=[c2U a b c d,(o_ 0 1 (List.map x9 [e])),c2T f a b c,c2S f a b c]
@[simp] abbrev c2Y (a:l9C) (b:Nat):Fr:=(mkF 27 [(0,(oO 0 0 0 0)),(7,(sA 9 (mC a))),(8,(iN a.length)),(9,(iN b))])
@[simp] abbrev c2X (a:l9C) (b:l9C) (c:Nat) (d:Int) (e:Int) (f:Nat):Heap:=[c2U a b c d,(o_ 0 1 (List.map x9 [e])),c2T f a b c,c2S f a b c,(o_ 0 9 [(j5.row (nth b c))])]
theorem a3B (p:Int) (cs:l9C) (l:l9C) (g:Nat) (lost:Int) (i:Nat) (hcs:cs.length < 100) (hl:l.length<=100+i) (hle_:i<=cs.length) {eX:Ex} {FX:Fr} {HX:Heap} (k1:(decide ((i:Int) < (cs.length:Int)))=true->l7 (l9 Tryz.prog (X tZ) (y7 Tryz.f32 0)) (some [0,7,8,9]) (some []) (mkF 27 [(0,(oO 0 0 0 0)),(7,(sA 9 (mC cs))),(8,(iN cs.length)),(9,(iN (i+1)))]) (c2Z l cs i lost p g) eX FX HX) (k2:(decide ((i:Int) < (cs.length:Int)))=false->((.exit 0:Ex),(mkF 27 []),(bW lost p g l))=(eX,FX,HX)):l7 (l9 Tryz.prog (X tZ) (y7 Tryz.f32 0)) (some [0,7,8,9]) (some []) (c2Y cs i) (bW lost p g l) eX FX HX:=by
 have hq:=a9b l (nth cs i)
 exact K7 (.r (.g (.two (decide ((i:Int) < (cs.length:Int))) (fun h1 h1'=>(.r (.h' [(o_ 0 3 (a2W lost)),(o_ 0 1 (List.map x9 [p])),(o_ 0 1 [[(AV.osl 3 g 9 0 (List.length l))]]),(o_ g 9 (mC l)),(o_ 0 9 [[e_,e_,z_,z_,z_,z_,z_,z_,bF]])] (.is 0 9 9 (mC cs) (i:Int) (j5.row (nth cs i)) (O9.mk _ ow ow) (.s (.g (.roll 2 (.r (.ru (.s (.ch 3 (c2X l cs i lost p g) (j6.put2 [0,1,2,3] [(o_ 0 3 (a2W lost)),(o_ 0 1 (List.map x9 [p])),(o_ 0 1 [[(AV.osl 3 g 9 0 (List.length l))]]),(o_ g 9 (mC l)),(o_ 0 9 [(j5.row (nth cs i))])] (AV.tup []) (c2X l cs i lost p g) (b4C p lost g l (nth cs i) oa) (rlC) (rlC)) (.s (.s (.rn (.y 0 (.int .i64 (ca_ i)) (iN (i+1)) Yes.o (.h' (c2Z l cs i lost p g) (.b 4 (.g (.l (k1 h1)))))))))))))))))))) (fun h1 h1'=>(.l (k2 h1))))))
def a1x (p:Int) (cs:List j5) (i:Nat) (s:(List j5) × Nat × Int):(List j5) × Nat × Int:=(dH s.1 (nth cs i),(s.2.1+1),(yD s.1 (nth cs i) s.2.2))
theorem b4B (p:Int) (cs:l9C) (hcs:cs.length < 100)  (r_:Nat):∀ (l:l9C) (g:Nat) (lost:Int) (i:Nat) (sF:(l9C) × Nat × Int),i+r_=cs.length->l.length<=100+i->sF=iter (a1x p cs) r_ i (l,g,lost) ->
 l7 (l9 Tryz.prog (X tZ) (y7 Tryz.f32 0)) (some [0,7,8,9]) (some []) (c2Y cs i) (bW lost p g l) (.exit 0) (mkF 27 []) [(o_ 0 3 [[(AV.osl 1 0 1 0 1),(AV.osl 2 0 1 0 1),(iI sF.2.2)]]),(o_ 0 1 (List.map x9 [p])),(o_ 0 1 [[(AV.osl 3 sF.2.1 9 0 (List.length sF.1))]]),(o_ sF.2.1 9 (mC sF.1))]:=by
 induction r_ with
 | zero =>
  intro l g lost i sF hi_ hl  hF
  obtain rfl:cs.length=i:=by omega
  have e_:sF=(l,g,lost):=hF
  refine a3B p cs l g lost cs.length hcs hl (Nat.le_refl _) (fun h=>by simp at h <;> omega) (fun _=>?_)
  first | done | rfl | (rw [e_]; done) | (rw [e_]; rfl)
 | succ r_ ih =>
  intro l g lost i sF hi_ hl  hF
  refine a3B p cs l g lost i hcs hl ow (fun h1=>?_) (fun h=>by simp at h <;> omega)
  · exact ih (dH l (nth cs i)) (g+1) (yD l (nth cs i) lost) (i+1) sF ow (by have hq:=a9b l (nth cs i); first | omega | assumption | (simp; done) | (simp; omega) | (simp [*]; done) | (simp [*]; omega))  (by rw [hF] <;> simp only [iter,a1x,if_true,Bool.false_eq_true,if_false])
def qA (p:Int) (cs l:List j5) (g:Nat) (lost:Int):List j5 × Nat × Int:=iter (a1x p cs) cs.length 0 (l,g,lost)
theorem c4n {l:l9C} (c:j5) (h:l.length<=16):(dH l c).length<=16:=by
 have:=tY l c
 with_unfolding_all rw [a0r]
 split <;> omega
theorem c4Y (p:Int) (cs l:l9C) (g:Nat) (lost:Int) (h:l.length<=16):(qA p cs l g lost).1.length<=16 :=
 kR (a1x p cs) (fun i s=>s.1.length<=16) cs.length (fun i s _ hs=>c4n _ hs) cs.length 0 (l,g,lost) ow h
@[simp] abbrev c7n (a:Int) (b:l9C) (c:l9C) (d:Nat) (e:Int):Heap:=[(o_ 0 3 [[(AV.osl 1 0 1 0 1),(AV.osl 2 0 1 0 1),(iI (qA a b c d e).2.2)]]),(o_ 0 1 (List.map x9 [a])),(o_ 0 1 [[(AV.osl 3 (qA a b c d e).2.1 9 0 (List.length (qA a b c d e).1))]]),(o_ ((qA a b c d e).2.1) 9 (mC (qA a b c d e).1))]
theorem b0E (cs:l9C) (p lost:Int) (g:Nat) (l:l9C) (hl:l.length<=16) (hcs:cs.length < 100):AC 32 [(oO 0 0 0 0),(sA 9 (mC cs))] (bW lost p g l) ((AV.tup []),(c7n p cs l g lost)) :=
 q9 (fn:=Tryz.f32) (ann:=tZ) (Has.o Tryz.func32) (.r (.y 1 (.int .i64 ((List.length (mC cs):Nat):Int)) (iN cs.length) (Yes.len _ _ _) (.g (.loop (mkF 27 []) (b4B p cs hcs cs.length l g lost 0 (qA p cs l g lost) ow ow rfl) (.q 4 (AV.tup []))))))
attribute [local irreducible] F8 aG stR
structure Msg where
 kind:Int
 op:Int
 status:Int
 code:Int
 tag:Int
 n:Int
 seq:Int
 key:Key
 full:Bool
 sum:Int
 cards:List j5
 keys:List Key
 deriving Inhabited
def Msg.row (x:Msg):List AV:=[(iI x.kind),(iI x.op),(iI x.status),(iI x.code),(iI x.tag),(iI x.n),(iI x.seq),(AV.str x.key.app),(AV.str x.key.id),(bB x.full),(AV.int .u32 x.sum),(sA 9 (mC x.cards)),(sA 2 (mK x.keys))]
@[simp] theorem Msg.O4 (n:Nat) (x:Msg):AV.bdds n x.row=true:=by simp [Msg.row,AV.bdds,AV.bdd]
@[simp] theorem Msg.y8 (n:Nat) (l:List Msg):AV.D5 n (l.map Msg.row)=true:=by induction l with | nil=>rfl | cons x l ih=>simp [AV.D5,Msg.O4,ih]
def b5Z:Ann:={ fin:=some 0 }
theorem b1I (l:l9C) (h:¬ l.length=0):AC 158 [(sA 9 (mC l)),(AV.sl .nil 0 [])] [] ((bB (decide (l.length=0))),[]) :=
 q9 (fn:=Tryz.f158) (ann:=b5Z) (Has.o Tryz.func158) (.r (.s (.y 1 (.int .i64 ((List.length (mC l):Nat):Int)) (iN l.length) (Yes.len _ _ _) (.y 4 (bB ((l.length:Int) != 0)) bT (Yes.b (by simp; intro q; subst q; exact h rfl)) (.g (.u (.qr 0 bF (by simp [h]))))))))
def b5Y:Ann:={ fin:=some 0 }
theorem b1H  :AC 158 [(sA 9 []),(AV.sl .nil 0 [])] [] (bT,[]) :=
 q9 (fn:=Tryz.f158) (ann:=b5Y) (Has.o Tryz.func158) (.r (.s (.rn (.g (.roll 1 (.r (.g (.n (.qr 0 bT)))))))))
theorem b5X (l:l9C) :AC 158 [(sA 9 (mC l)),(AV.sl .nil 0 [])] [] ((bB (decide (l.length=0))),[]):=by
 by_cases h:l.length=0
 · obtain rfl:l=[]:=List.eq_nil_of_length_eq_zero h
   exact b1H
 · exact b1I l h
def b5W:Ann:={ fin:=some 0 }
theorem b1G (l:l9K) (h:¬ l.length=0):AC 159 [(sA 2 (mK l)),(AV.sl .nil 0 [])] [] ((bB (decide (l.length=0))),[]) :=
 q9 (fn:=Tryz.f159) (ann:=b5W) (Has.o Tryz.func159) (.r (.s (.y 1 (.int .i64 ((List.length (mK l):Nat):Int)) (iN l.length) (Yes.len _ _ _) (.y 4 (bB ((l.length:Int) != 0)) bT (Yes.b (by simp; intro q; subst q; exact h rfl)) (.g (.u (.qr 0 bF (by simp [h]))))))))
def b5V:Ann:={ fin:=some 0 }
theorem b1F  :AC 159 [(sA 2 []),(AV.sl .nil 0 [])] [] (bT,[]) :=
 q9 (fn:=Tryz.f159) (ann:=b5V) (Has.o Tryz.func159) (.r (.s (.rn (.g (.roll 1 (.r (.g (.n (.qr 0 bT)))))))))
theorem b5U (l:l9K) :AC 159 [(sA 2 (mK l)),(AV.sl .nil 0 [])] [] ((bB (decide (l.length=0))),[]):=by
 by_cases h:l.length=0
 · obtain rfl:l=[]:=List.eq_nil_of_length_eq_zero h
   exact b1F
 · exact b1G l h
def b5f:Ann:={ refs:=[1],fin:=some 0 }
theorem b0X (c:j5) :AC 58 [(AV.agg (j5.row c))] [] ((bB (!(F8 c))),[]) :=
 q9 (fn:=Tryz.f58) (ann:=b5f) (Has.o Tryz.func58) (.r (.s (.c 1 ((zT c).lift kr kr []) (.q 0 (bB (!(F8 c)))))))
theorem a5U (c:j5)  (H:Heap):AC 58 [(AV.agg (j5.row c))] H ((bB (!(F8 c))),H):=(b0X c ).lift kr kr H
def a2H:Ann:={ fin:=some 0,live:=[(2,[0,1,7,8])],out:=[(2,[0,1,7,8])] }
@[simp] abbrev b3h (a:l9C) (b:Nat):Fr:=(mkF 19 [(0,(sA 9 (mC a))),(1,(AV.func 58 [])),(7,(iN a.length)),(8,(iN b))])
@[simp] abbrev c0U :=(l9 Tryz.prog (X a2H) (y7 Tryz.f105 0))
theorem a5M (l:l9C)  (i:Nat) (hl:l.length < 1099511627776) (hle_:i<=l.length) {eX:Ex} {FX:Fr} {HX:Heap} (k1:(decide ((i:Int) < (l.length:Int)))=true->(!(F8 (nth l i)))=true->((.ret:Ex),(b3h l i),[])=(eX,FX,HX)) (k2:(decide ((i:Int) < (l.length:Int)))=true->(!(F8 (nth l i)))=false->l7 c0U (some [0,1,7,8]) (some [0,1,7,8]) (mkF 19 [(0,(sA 9 (mC l))),(1,(AV.func 58 [])),(7,(iN l.length)),(8,(iN (i+1)))]) [] eX FX HX) (k3:(decide ((i:Int) < (l.length:Int)))=false->((.exit 0:Ex),(b3h l i),[])=(eX,FX,HX)):l7 c0U (some [0,1,7,8]) (some [0,1,7,8]) (b3h l i) [] eX FX HX :=
 K7 (.r (.g (.two (decide ((i:Int) < (l.length:Int))) (fun h1 h1'=>(.r (.s (.is 3 9 9 (mC l) (i:Int) (j5.row (nth l i)) (O9.mk _ ow ow) (.c 5 (a5U (nth l i)  ([]:Heap)) (.g (.two (!(F8 (nth l i))) (fun h2 h2'=>(.r (.g (.l (k1 h1 h2))))) (fun h2 h2'=>(.r (.y 0 (.int .i64 (ca_ i)) (iN (i+1)) Yes.o (.g (.l (k2 h1 h2))))))))))))) (fun h1 h1'=>(.l (k3 h1))))))
def a4B (l:List j5) (i:Nat) (s:Unit):Unit:=()
def a9h (l:List j5)  (i:Nat):Prop:=(((decide ((i:Int) < (l.length:Int)))=true)/\((!(F8 (nth l i)))=true))
@[simp] abbrev c1Q (a:l9C):Fr:=(mkF 19 [(0,(sA 9 (mC a))),(1,(AV.func 58 [])),(7,(iN a.length)),(8,(iN a.length))])
theorem b9u (l:l9C) (hl:l.length < 1099511627776)  (hbad:∀ (i:Nat),i < l.length->¬ a9h l  i) (r_:Nat):∀  (i:Nat) (sF:Unit),i+r_=l.length->()=(iter (a4B l) i 0 ())->sF=iter (a4B l) r_ i () ->
 l7 (l9 Tryz.prog (X a2H) (y7 Tryz.f105 0)) (some [0,1,7,8]) (some [0,1,7,8]) (b3h l i) [] (.exit 0) (c1Q l) []:=by
 induction r_ with
 | zero =>
  intro  i sF hi_  hs_ hF
  obtain rfl:l.length=i:=by omega
  have e_:sF=():=hF
  refine a5M l  l.length hl (Nat.le_refl _) (fun h _=>by simp at h <;> omega) (fun h _=>by simp at h <;> omega) (fun _=>?_)
  first | done | rfl | (rw [e_]; done) | (rw [e_]; rfl)
 | succ r_ ih =>
  intro  i sF hi_  hs_ hF
  refine a5M l  i hl ow (fun h1 h2=>?_) (fun h1 h2=>?_) (fun h=>by simp at h <;> omega)
  · exact False.elim (by have hb_:=hbad i ow; (try rw [<- hs_] at hb_); exact hb_ (⟨h1,h2⟩))
  · exact ih  (i+1) sF ow  (by rw [wJ,<- hs_] <;> simp only [a4B,h2,if_true,Bool.false_eq_true,if_false]) (by rw [hF] <;> simp only [iter,a4B,h2,if_true,Bool.false_eq_true,if_false])
theorem b9t (l:l9C) (hl:l.length < 1099511627776) (hr:∀ c∈l,F8 c=true):AC 105 [(sA 9 (mC l)),(AV.func 58 [])] [] ((iI (-1)),[]) :=
 q9 (fn:=Tryz.f105) (ann:=a2H) (Has.o Tryz.func105) (.r (.s (.y 1 (.int .i64 ((List.length (mC l):Nat):Int)) (iN l.length) (Yes.len _ _ _) (.g (.loop (c1Q l) (show l7 c0U (some [0,1,7,8]) (some [0,1,7,8]) (mkF 19 [(0,(sA 9 (mC l))),(1,(AV.func 58 [])),(7,(iN l.length)),(8,z_)]) [] (.exit 0) (c1Q l) [] from (b9u l hl (fun i hi=>by simp only [a9h]; rw [hr _ (iO hi)]; simp) l.length 0 () ow rfl rfl)) (.qr 0 (iI (-1))))))))
def b5d:Ann:={ fin:=some 0 }
theorem b0U (l:l9C) (hl:l.length < 1099511627776) (hr:∀ c∈l,F8 c=true):AC 57 [(sA 9 (mC l)),(AV.func 58 [])] [] (bF,[]) :=
 q9 (fn:=Tryz.f57) (ann:=b5d) (Has.o Tryz.func57) (.r (.s (.c 2 ((b9t l oa oa).lift kr kr []) (.q 0 bF))))
attribute [local irreducible] ofB
end Go.Proofs.YtmghjcbabebanaaGreat.AM
namespace Go.Proofs.YtmghjcbabebanaaGreat.AM
open Go Go.Proofs.YtmghjcbabebanaaGreat
attribute [local irreducible] D7 F8 G7 I7 aG j6 l7 l9 stR
def eU (x:Msg):Bool:=decide (x.cards.length=0)&&(decide (x.keys.length=0)&&((x.kind == 0)&&((x.op == 0)&&((x.status == 0)&&((x.code == 0)&&((x.tag == 0)&&((x.n == 0)&&((x.seq == 0)&&(Key.eqb x.key ⟨⟨#[]⟩,⟨#[]⟩⟩&&((x.full == false)&&(x.sum == 0)))))))))))
def J3 (x:Msg):Bool :=
 if x.kind=1 then eU ⟨0,0,0,x.code,0,0,0,⟨⟨#[]⟩,⟨#[]⟩⟩,x.full,x.sum,x.cards,x.keys⟩
 else if x.kind=2 then eU ⟨0,0,x.status,0,0,x.n,0,⟨⟨#[]⟩,⟨#[]⟩⟩,false,0,[],x.keys⟩
 else if x.kind=3\/x.kind=4 then eU ⟨0,x.op,x.status,x.code,x.tag,x.n,x.seq,x.key,x.full,x.sum,[],x.keys⟩
 else if x.kind=5 then eU ⟨0,x.op,x.status,x.code,x.tag,x.n,x.seq,x.key,x.full,x.sum,x.cards,[]⟩
 else eU ⟨0,x.op,x.status,x.code,x.tag,x.n,x.seq,x.key,x.full,x.sum,x.cards,x.keys⟩
def L9 (k:Key):Bool:=aG k.app&&aG k.id
def opM (x:Msg):Bool:=if x.kind=1\/x.kind=2 then (if x.op=5 then Key.eqb x.key ⟨⟨#[]⟩,⟨#[]⟩⟩ else decide (1<=x.op)&&(decide (x.op < 5)&&L9 x.key)) else true
def G5 (n:Int):Bool:=decide (0<=n)&&decide (n<=255)
def I8 (x:Msg):Bool:=(decide (1<=x.kind)&&decide (x.kind<=5))&&(J3 x&&(opM x&&((G5 x.code&&(G5 x.status&&decide (-1<=x.seq)))&&((decide (x.cards.length<=64)&&decide (x.keys.length<=64))&&(x.cards.all F8&&x.keys.all L9)))))
def b0S:Ann:={ refs:=[2,3],fin:=some 0 }
theorem mO {p:Prop} (h:p:=by simp only [eU]; simp_all):p:=h
theorem aP (x:Msg) :AC 103 [(AV.agg (Msg.row x)),(AV.agg [z_,z_,z_,z_,z_,z_,z_,e_,e_,bF,(AV.int .u32 0),(AV.sl .nil 0 []),(AV.sl .nil 0 [])])] [] ((bB (eU x)),[]) :=
 q9 (fn:=Tryz.f103) (ann:=b0S) (Has.o Tryz.func103) (.r (.s (.c 4 ((b5X x.cards).lift kr kr []) (.two (!(decide (x.cards.length=0))) (fun h1 h1'=>(.u5 (.g (.u (.qr 0 bF mO))))) (fun h1 h1'=>(.n4 (.c 11 ((b5U x.keys).lift kr kr []) (.n (.g (.two (!(decide (x.keys.length=0))) (fun h2 h2'=>(.qr 0 bF mO)) (fun h2 h2'=>(.r (.two (x.kind == 0) (fun h3 h3'=>(.u4 (.two (x.op == 0) (fun h4 h4'=>(.u4 (.two (x.status == 0) (fun h5 h5'=>(.u4 (.two (x.code == 0) (fun h6 h6'=>(.u4 (.two (x.tag == 0) (fun h7 h7'=>(.u4 (.two (x.n == 0) (fun h8 h8'=>(.u4 (.two (x.seq == 0) (fun h9 h9'=>(.u4 (.two (Key.eqb x.key (Key.mk (ByteArray.mk #[]) (ByteArray.mk #[]))) (fun h10 h10'=>(.u4 (.two (x.full == false) (fun h11 h11'=>(.u4 (.q 0 (bB (x.sum == 0)) mO))) (fun h11 h11'=>(.n4 (.q 0 bF mO)))))) (fun h10 h10'=>(.n6 (.n3 (.q 0 bF mO))))))) (fun h9 h9'=>(.n6 (.n6 (.n2 (.q 0 bF mO)))))))) (fun h8 h8'=>(.n6 (.n6 (.n6 (.n (.q 0 bF mO))))))))) (fun h7 h7'=>(.n6 (.n6 (.n6 (.n6 (.q 0 bF mO))))))))) (fun h6 h6'=>(.n6 (.n6 (.n6 (.n6 (.n5 (.q 0 bF mO)))))))))) (fun h5 h5'=>(.n6 (.n6 (.n6 (.n6 (.n6 (.n4 (.q 0 bF mO))))))))))) (fun h4 h4'=>(.n6 (.n6 (.n6 (.n6 (.n6 (.n6 (.n3 (.q 0 bF mO)))))))))))) (fun h3 h3'=>(.n6 (.n6 (.n6 (.n6 (.n6 (.n6 (.n6 (.n2 (.q 0 bF mO)))))))))))))))))))))))
attribute [local irreducible] eU
def b4O:Ann:={ fin:=some 0 }
@[simp] abbrev c5n (a:Msg):=[z_,(iI a.op),(iI a.status),(iI a.code),(iI a.tag),(iI a.n),(iI a.seq),(AV.str a.key.app),(AV.str a.key.id),(bB a.full),(AV.int .u32 a.sum),(AV.sl .nil 0 []),(sA 2 (mK a.keys))]
@[simp] abbrev c1P (a:Msg):Heap:=[(o_ 0 13 [(c5n a)])]
@[simp] abbrev c5m (a:Msg):=[z_,(iI a.op),(iI a.status),(iI a.code),(iI a.tag),(iI a.n),(iI a.seq),(AV.str a.key.app),(AV.str a.key.id),(bB a.full),(AV.int .u32 a.sum),(sA 9 (mC a.cards)),(AV.sl .nil 0 [])]
@[simp] abbrev c1O (a:Msg):Heap:=[(o_ 0 13 [(c5m a)])]
@[simp] abbrev c5l (a:Msg):=[z_,(iI a.op),(iI a.status),(iI a.code),(iI a.tag),(iI a.n),(iI a.seq),(AV.str a.key.app),(AV.str a.key.id),(bB a.full),(AV.int .u32 a.sum),(sA 9 (mC a.cards)),(sA 2 (mK a.keys))]
@[simp] abbrev c1N (a:Msg):Heap:=[(o_ 0 13 [(c5l a)])]
theorem vP {p:Prop} (h:p:=by (try delta c1P c1O c1N); simp only [J3]; simp_all):p:=h
@[simp] abbrev c7X (a:Msg):=(bB (eU (Msg.mk 0 0 0 a.code 0 0 0 (Key.mk (ByteArray.mk #[]) (ByteArray.mk #[])) a.full a.sum a.cards a.keys)))
@[simp] abbrev c7W (a:Msg):=(bB (eU (Msg.mk 0 0 a.status 0 0 a.n 0 (Key.mk (ByteArray.mk #[]) (ByteArray.mk #[])) false 0 [] a.keys)))
@[simp] abbrev c5L (a:Msg):=(AV.agg (Msg.row (Msg.mk 0 a.op a.status a.code a.tag a.n a.seq a.key a.full a.sum [] a.keys)))
@[simp] abbrev c5K (a:Msg):=(AV.agg (c5n a))
@[simp] abbrev c5J (a:Msg):=(bB (eU (Msg.mk 0 a.op a.status a.code a.tag a.n a.seq a.key a.full a.sum [] a.keys)))
@[simp] abbrev c5I (a:Msg):=(AV.agg (Msg.row (Msg.mk 0 a.op a.status a.code a.tag a.n a.seq a.key a.full a.sum a.cards [])))
@[simp] abbrev c5H (a:Msg):=(AV.agg (c5m a))
@[simp] abbrev c5G (a:Msg):=(bB (eU (Msg.mk 0 a.op a.status a.code a.tag a.n a.seq a.key a.full a.sum a.cards [])))
@[simp] abbrev c5F (a:Msg):=(AV.agg (Msg.row (Msg.mk 0 a.op a.status a.code a.tag a.n a.seq a.key a.full a.sum a.cards a.keys)))
@[simp] abbrev c5E (a:Msg):=(AV.agg (c5l a))
@[simp] abbrev c5D (a:Msg):=(bB (eU (Msg.mk 0 a.op a.status a.code a.tag a.n a.seq a.key a.full a.sum a.cards a.keys)))
theorem b0R (x:Msg) :AC 54 [(AV.agg (Msg.row x))] [] ((bB (J3 x)),[]) :=
 q9 (fn:=Tryz.f54) (ann:=b4O) (Has.o Tryz.func54) (.r (.s (.s (.g (.two (x.kind == 1) (fun h1 h1'=>(.r (.s (.s (.c 2 (j6.pre (args:=[(AV.agg (Msg.row (Msg.mk 0 0 0 x.code 0 0 0 (Key.mk (ByteArray.mk #[]) (ByteArray.mk #[])) x.full x.sum x.cards x.keys))),(AV.agg [z_,z_,z_,z_,z_,z_,z_,e_,e_,bF,(AV.int .u32 0),(AV.sl .nil 0 []),(AV.sl .nil 0 [])])]) (args':=[(AV.agg [z_,z_,z_,(iI x.code),z_,z_,z_,e_,e_,(bB x.full),(AV.int .u32 x.sum),(sA 9 (mC x.cards)),(sA 2 (mK x.keys))]),(AV.agg [z_,z_,z_,z_,z_,z_,z_,e_,e_,bF,(AV.int .u32 0),(AV.sl .nil 0 []),(AV.sl .nil 0 [])])]) ((aP (Msg.mk 0 0 0 x.code 0 0 0 (Key.mk (ByteArray.mk #[]) (ByteArray.mk #[])) x.full x.sum x.cards x.keys)).lift kr kr [(o_ 0 13 [[z_,z_,z_,(iI x.code),z_,z_,z_,e_,e_,(bB x.full),(AV.int .u32 x.sum),(sA 9 (mC x.cards)),(sA 2 (mK x.keys))]])]) ⟨⟨AV.d9 _,AV.d9 _,AV.d9 _,AV.d9 _,AV.d9 _,AV.d9 _,AV.d9 _,AV.d9 _,AV.d9 _,AV.d9 _,AV.d9 _,⟨rfl,rfl,.inl rfl⟩,⟨rfl,rfl,.inl rfl⟩,trivial⟩,⟨AV.d9 _,AV.d9 _,AV.d9 _,AV.d9 _,AV.d9 _,AV.d9 _,AV.d9 _,AV.d9 _,AV.d9 _,AV.d9 _,AV.d9 _,⟨rfl,rfl,.inl rfl⟩,⟨rfl,rfl,.inl rfl⟩,trivial⟩,trivial⟩) (.q 0 (c7X x) vP)))))) (fun h1 h1'=>(.r (.g (.two (x.kind == 2) (fun h2 h2'=>(.r (.s (.s (.c 2 (j6.pre (args:=[(AV.agg (Msg.row (Msg.mk 0 0 x.status 0 0 x.n 0 (Key.mk (ByteArray.mk #[]) (ByteArray.mk #[])) false 0 [] x.keys))),(AV.agg [z_,z_,z_,z_,z_,z_,z_,e_,e_,bF,(AV.int .u32 0),(AV.sl .nil 0 []),(AV.sl .nil 0 [])])]) (args':=[(AV.agg [z_,z_,(iI x.status),z_,z_,(iI x.n),z_,e_,e_,bF,(AV.int .u32 0),(AV.sl .nil 0 []),(sA 2 (mK x.keys))]),(AV.agg [z_,z_,z_,z_,z_,z_,z_,e_,e_,bF,(AV.int .u32 0),(AV.sl .nil 0 []),(AV.sl .nil 0 [])])]) ((aP (Msg.mk 0 0 x.status 0 0 x.n 0 (Key.mk (ByteArray.mk #[]) (ByteArray.mk #[])) false 0 [] x.keys)).lift kr kr [(o_ 0 13 [[z_,z_,(iI x.status),z_,z_,(iI x.n),z_,e_,e_,bF,(AV.int .u32 0),(AV.sl .nil 0 []),(sA 2 (mK x.keys))]])]) ⟨⟨AV.d9 _,AV.d9 _,AV.d9 _,AV.d9 _,AV.d9 _,AV.d9 _,AV.d9 _,AV.d9 _,AV.d9 _,AV.d9 _,AV.d9 _,⟨rfl,rfl,.inr rfl⟩,⟨rfl,rfl,.inl rfl⟩,trivial⟩,⟨AV.d9 _,AV.d9 _,AV.d9 _,AV.d9 _,AV.d9 _,AV.d9 _,AV.d9 _,AV.d9 _,AV.d9 _,AV.d9 _,AV.d9 _,⟨rfl,rfl,.inl rfl⟩,⟨rfl,rfl,.inl rfl⟩,trivial⟩,trivial⟩) (.q 0 (c7W x) vP)))))) (fun h2 h2'=>(.r (.g (.two (x.kind == 3) (fun h3 h3'=>(.two (x.kind == 3) (fun h4 h4'=>(.r (.s (.s (.c 2 (j6.pre (args:=[(c5L x),(AV.agg [z_,z_,z_,z_,z_,z_,z_,e_,e_,bF,(AV.int .u32 0),(AV.sl .nil 0 []),(AV.sl .nil 0 [])])]) (args':=[(c5K x),(AV.agg [z_,z_,z_,z_,z_,z_,z_,e_,e_,bF,(AV.int .u32 0),(AV.sl .nil 0 []),(AV.sl .nil 0 [])])]) ((aP (Msg.mk 0 x.op x.status x.code x.tag x.n x.seq x.key x.full x.sum [] x.keys)).lift kr kr (c1P x)) ⟨⟨AV.d9 _,AV.d9 _,AV.d9 _,AV.d9 _,AV.d9 _,AV.d9 _,AV.d9 _,AV.d9 _,AV.d9 _,AV.d9 _,AV.d9 _,⟨rfl,rfl,.inr rfl⟩,⟨rfl,rfl,.inl rfl⟩,trivial⟩,⟨AV.d9 _,AV.d9 _,AV.d9 _,AV.d9 _,AV.d9 _,AV.d9 _,AV.d9 _,AV.d9 _,AV.d9 _,AV.d9 _,AV.d9 _,⟨rfl,rfl,.inl rfl⟩,⟨rfl,rfl,.inl rfl⟩,trivial⟩,trivial⟩) (.q 0 (c5J x) vP)))))) (fun h4 h4'=>(.r (.g (.two (x.kind == 5) (fun h5 h5'=>(.r (.s (.s (.c 2 (j6.pre (args:=[(c5I x),(AV.agg [z_,z_,z_,z_,z_,z_,z_,e_,e_,bF,(AV.int .u32 0),(AV.sl .nil 0 []),(AV.sl .nil 0 [])])]) (args':=[(c5H x),(AV.agg [z_,z_,z_,z_,z_,z_,z_,e_,e_,bF,(AV.int .u32 0),(AV.sl .nil 0 []),(AV.sl .nil 0 [])])]) ((aP (Msg.mk 0 x.op x.status x.code x.tag x.n x.seq x.key x.full x.sum x.cards [])).lift kr kr (c1O x)) ⟨⟨AV.d9 _,AV.d9 _,AV.d9 _,AV.d9 _,AV.d9 _,AV.d9 _,AV.d9 _,AV.d9 _,AV.d9 _,AV.d9 _,AV.d9 _,⟨rfl,rfl,.inl rfl⟩,⟨rfl,rfl,.inr rfl⟩,trivial⟩,⟨AV.d9 _,AV.d9 _,AV.d9 _,AV.d9 _,AV.d9 _,AV.d9 _,AV.d9 _,AV.d9 _,AV.d9 _,AV.d9 _,AV.d9 _,⟨rfl,rfl,.inl rfl⟩,⟨rfl,rfl,.inl rfl⟩,trivial⟩,trivial⟩) (.q 0 (c5G x) vP)))))) (fun h5 h5'=>(.r (.s (.c 2 (j6.pre (args:=[(c5F x),(AV.agg [z_,z_,z_,z_,z_,z_,z_,e_,e_,bF,(AV.int .u32 0),(AV.sl .nil 0 []),(AV.sl .nil 0 [])])]) (args':=[(c5E x),(AV.agg [z_,z_,z_,z_,z_,z_,z_,e_,e_,bF,(AV.int .u32 0),(AV.sl .nil 0 []),(AV.sl .nil 0 [])])]) ((aP (Msg.mk 0 x.op x.status x.code x.tag x.n x.seq x.key x.full x.sum x.cards x.keys)).lift kr kr (c1N x)) ⟨⟨AV.d9 _,AV.d9 _,AV.d9 _,AV.d9 _,AV.d9 _,AV.d9 _,AV.d9 _,AV.d9 _,AV.d9 _,AV.d9 _,AV.d9 _,⟨rfl,rfl,.inl rfl⟩,⟨rfl,rfl,.inl rfl⟩,trivial⟩,⟨AV.d9 _,AV.d9 _,AV.d9 _,AV.d9 _,AV.d9 _,AV.d9 _,AV.d9 _,AV.d9 _,AV.d9 _,AV.d9 _,AV.d9 _,⟨rfl,rfl,.inl rfl⟩,⟨rfl,rfl,.inl rfl⟩,trivial⟩,trivial⟩) (.q 0 (c5D x) vP))))))))))) (fun h3 h3'=>(.r (.g (.two (x.kind == 4) (fun h4 h4'=>(.r (.s (.s (.c 2 (j6.pre (args:=[(c5L x),(AV.agg [z_,z_,z_,z_,z_,z_,z_,e_,e_,bF,(AV.int .u32 0),(AV.sl .nil 0 []),(AV.sl .nil 0 [])])]) (args':=[(c5K x),(AV.agg [z_,z_,z_,z_,z_,z_,z_,e_,e_,bF,(AV.int .u32 0),(AV.sl .nil 0 []),(AV.sl .nil 0 [])])]) ((aP (Msg.mk 0 x.op x.status x.code x.tag x.n x.seq x.key x.full x.sum [] x.keys)).lift kr kr (c1P x)) ⟨⟨AV.d9 _,AV.d9 _,AV.d9 _,AV.d9 _,AV.d9 _,AV.d9 _,AV.d9 _,AV.d9 _,AV.d9 _,AV.d9 _,AV.d9 _,⟨rfl,rfl,.inr rfl⟩,⟨rfl,rfl,.inl rfl⟩,trivial⟩,⟨AV.d9 _,AV.d9 _,AV.d9 _,AV.d9 _,AV.d9 _,AV.d9 _,AV.d9 _,AV.d9 _,AV.d9 _,AV.d9 _,AV.d9 _,⟨rfl,rfl,.inl rfl⟩,⟨rfl,rfl,.inl rfl⟩,trivial⟩,trivial⟩) (.q 0 (c5J x) vP)))))) (fun h4 h4'=>(.r (.g (.two (x.kind == 5) (fun h5 h5'=>(.r (.s (.s (.c 2 (j6.pre (args:=[(c5I x),(AV.agg [z_,z_,z_,z_,z_,z_,z_,e_,e_,bF,(AV.int .u32 0),(AV.sl .nil 0 []),(AV.sl .nil 0 [])])]) (args':=[(c5H x),(AV.agg [z_,z_,z_,z_,z_,z_,z_,e_,e_,bF,(AV.int .u32 0),(AV.sl .nil 0 []),(AV.sl .nil 0 [])])]) ((aP (Msg.mk 0 x.op x.status x.code x.tag x.n x.seq x.key x.full x.sum x.cards [])).lift kr kr (c1O x)) ⟨⟨AV.d9 _,AV.d9 _,AV.d9 _,AV.d9 _,AV.d9 _,AV.d9 _,AV.d9 _,AV.d9 _,AV.d9 _,AV.d9 _,AV.d9 _,⟨rfl,rfl,.inl rfl⟩,⟨rfl,rfl,.inr rfl⟩,trivial⟩,⟨AV.d9 _,AV.d9 _,AV.d9 _,AV.d9 _,AV.d9 _,AV.d9 _,AV.d9 _,AV.d9 _,AV.d9 _,AV.d9 _,AV.d9 _,⟨rfl,rfl,.inl rfl⟩,⟨rfl,rfl,.inl rfl⟩,trivial⟩,trivial⟩) (.q 0 (c5G x) vP)))))) (fun h5 h5'=>(.r (.s (.c 2 (j6.pre (args:=[(c5F x),(AV.agg [z_,z_,z_,z_,z_,z_,z_,e_,e_,bF,(AV.int .u32 0),(AV.sl .nil 0 []),(AV.sl .nil 0 [])])]) (args':=[(c5E x),(AV.agg [z_,z_,z_,z_,z_,z_,z_,e_,e_,bF,(AV.int .u32 0),(AV.sl .nil 0 []),(AV.sl .nil 0 [])])]) ((aP (Msg.mk 0 x.op x.status x.code x.tag x.n x.seq x.key x.full x.sum x.cards x.keys)).lift kr kr (c1N x)) ⟨⟨AV.d9 _,AV.d9 _,AV.d9 _,AV.d9 _,AV.d9 _,AV.d9 _,AV.d9 _,AV.d9 _,AV.d9 _,AV.d9 _,AV.d9 _,⟨rfl,rfl,.inl rfl⟩,⟨rfl,rfl,.inl rfl⟩,trivial⟩,⟨AV.d9 _,AV.d9 _,AV.d9 _,AV.d9 _,AV.d9 _,AV.d9 _,AV.d9 _,AV.d9 _,AV.d9 _,AV.d9 _,AV.d9 _,⟨rfl,rfl,.inl rfl⟩,⟨rfl,rfl,.inl rfl⟩,trivial⟩,trivial⟩) (.q 0 (c5D x) vP))))))))))))))))))))))))))
theorem X7 (x:Msg)  (H:Heap):AC 54 [(AV.agg (Msg.row x))] H ((bB (J3 x)),H):=(b0R x ).lift kr kr H
def b0Y:Ann:={ refs:=[1],fin:=some 0 }
theorem a8i (x:Msg) :AC 104 [(AV.agg (Msg.row x))] [] ((bB (decide (x.kind=1\/x.kind=2))),[]) :=
 q9 (fn:=Tryz.f104) (ann:=b0Y) (Has.o Tryz.func104) (.r (.s (.two (x.kind == 1) (fun h1 h1'=>(.u2 (.q 0 bT (by simp_all; all_goals first | done | rfl | (intros; omega))))) (fun h1 h1'=>(.n2 (.q 0 (bB (x.kind == 2)) (by simp_all; all_goals first | done | rfl | (intros; omega))))))))
def b0T:Ann:={ refs:=[1],fin:=some 0 }
theorem zK (k:Key) :AC 62 [(AV.agg (Key.row k))] [] ((bB (L9 k)),[]) :=
 q9 (fn:=Tryz.f62) (ann:=b0T) (Has.o Tryz.func62) (.r (.s (.c 2 ((pO k.app).lift kr kr []) (.two (aG k.app) (fun h1 h1'=>(.u2 (.c 6 ((pO k.id).lift kr kr []) (.q 0 (bB (aG k.id)) (by simp only [L9]; simp_all))))) (fun h1 h1'=>(.n2 (.q 0 bF (by simp only [L9]; simp_all))))))))
def c4y:Ann:={ refs:=[1],fin:=some 0 }
theorem a4X {p:Prop} (h:p:=by simp only [opM]; simp_all; all_goals first | done | rfl | (intros; omega)):p:=h
theorem b9s (x:Msg) :AC 55 [(AV.agg (Msg.row x))] [] ((bB (opM x)),[]) :=
 q9 (fn:=Tryz.f55) (ann:=c4y) (Has.o Tryz.func55) (.r (.s (.c 1 ((a8i x).lift kr kr []) (.g (.two (!(decide (x.kind=1\/x.kind=2))) (fun h1 h1'=>(.qr 0 bT a4X)) (fun h1 h1'=>(.r (.g (.two (x.op == 5) (fun h2 h2'=>(.qr 0 (bB (Key.eqb x.key (Key.mk (ByteArray.mk #[]) (ByteArray.mk #[])))) a4X)) (fun h2 h2'=>(.r (.two (decide (x.op >= 1)) (fun h3 h3'=>(.u2 (.two (decide (x.op < 5)) (fun h4 h4'=>(.u2 (.c 11 ((zK x.key).lift kr kr []) (.q 0 (bB (L9 x.key)) a4X)))) (fun h4 h4'=>(.n2 (.q 0 bF a4X)))))) (fun h3 h3'=>(.n5 (.q 0 bF a4X)))))))))))))))
theorem dS (x:Msg)  (H:Heap):AC 55 [(AV.agg (Msg.row x))] H ((bB (opM x)),H):=(b9s x ).lift kr kr H
def a8f:Ann:={ fin:=some 0 }
theorem a5K (n:Int) :AC 56 [(iI n)] [] ((bB (G5 n)),[]) :=
 q9 (fn:=Tryz.f56) (ann:=a8f) (Has.o Tryz.func56) (.r (.s (.two (decide (n >= 0)) (fun h1 h1'=>(.u (.q 0 (bB (decide (n<=255))) (by simp only [G5]; simp_all; all_goals first | done | rfl | (intros; omega))))) (fun h1 h1'=>(.n (.q 0 bF (by simp only [G5]; simp_all; all_goals first | done | rfl | (intros; omega))))))))
theorem K8 (n:Int)  (H:Heap):AC 56 [(iI n)] H ((bB (G5 n)),H):=(a5K n ).lift kr kr H
attribute [local irreducible] J3 opM G5 L9
def b5e:Ann:={ refs:=[1],fin:=some 0 }
theorem b0W (k:Key) :AC 61 [(AV.agg (Key.row k))] [] ((bB (!(L9 k))),[]) :=
 q9 (fn:=Tryz.f61) (ann:=b5e) (Has.o Tryz.func61) (.r (.s (.c 1 ((zK k).lift kr kr []) (.q 0 (bB (!(L9 k)))))))
theorem a5T (k:Key)  (H:Heap):AC 61 [(AV.agg (Key.row k))] H ((bB (!(L9 k))),H):=(b0W k ).lift kr kr H
def a0x:Ann:={ fin:=some 0,live:=[(2,[0,1,7,8])],out:=[(2,[0,1,7,8])] }
@[simp] abbrev b3g (a:l9K) (b:Nat):Fr:=(mkF 19 [(0,(sA 2 (mK a))),(1,(AV.func 61 [])),(7,(iN a.length)),(8,(iN b))])
@[simp] abbrev c0T :=(l9 Tryz.prog (X a0x) (y7 Tryz.f108 0))
theorem a3G (l:l9K)  (i:Nat) (hl:l.length < 1099511627776) (hle_:i<=l.length) {eX:Ex} {FX:Fr} {HX:Heap} (k1:(decide ((i:Int) < (l.length:Int)))=true->(!(L9 (nth l i)))=true->((.ret:Ex),(b3g l i),[])=(eX,FX,HX)) (k2:(decide ((i:Int) < (l.length:Int)))=true->(!(L9 (nth l i)))=false->l7 c0T (some [0,1,7,8]) (some [0,1,7,8]) (mkF 19 [(0,(sA 2 (mK l))),(1,(AV.func 61 [])),(7,(iN l.length)),(8,(iN (i+1)))]) [] eX FX HX) (k3:(decide ((i:Int) < (l.length:Int)))=false->((.exit 0:Ex),(b3g l i),[])=(eX,FX,HX)):l7 c0T (some [0,1,7,8]) (some [0,1,7,8]) (b3g l i) [] eX FX HX :=
 K7 (.r (.g (.two (decide ((i:Int) < (l.length:Int))) (fun h1 h1'=>(.r (.s (.is 3 2 2 (mK l) (i:Int) (Key.row (nth l i)) (O9.mk _ ow ow) (.c 5 (a5T (nth l i)  ([]:Heap)) (.g (.two (!(L9 (nth l i))) (fun h2 h2'=>(.r (.g (.l (k1 h1 h2))))) (fun h2 h2'=>(.r (.y 0 (.int .i64 (ca_ i)) (iN (i+1)) Yes.o (.g (.l (k2 h1 h2))))))))))))) (fun h1 h1'=>(.l (k3 h1))))))
def a1D (l:List Key) (i:Nat) (s:Unit):Unit:=()
def a5P (l:List Key)  (i:Nat):Prop:=(((decide ((i:Int) < (l.length:Int)))=true)/\((!(L9 (nth l i)))=true))
@[simp] abbrev c1M (a:l9K):Fr:=(mkF 19 [(0,(sA 2 (mK a))),(1,(AV.func 61 [])),(7,(iN a.length)),(8,(iN a.length))])
theorem b4T (l:l9K) (hl:l.length < 1099511627776)  (hbad:∀ (i:Nat),i < l.length->¬ a5P l  i) (r_:Nat):∀  (i:Nat) (sF:Unit),i+r_=l.length->()=(iter (a1D l) i 0 ())->sF=iter (a1D l) r_ i () ->
 l7 (l9 Tryz.prog (X a0x) (y7 Tryz.f108 0)) (some [0,1,7,8]) (some [0,1,7,8]) (b3g l i) [] (.exit 0) (c1M l) []:=by
 induction r_ with
 | zero =>
  intro  i sF hi_  hs_ hF
  obtain rfl:l.length=i:=by omega
  have e_:sF=():=hF
  refine a3G l  l.length hl (Nat.le_refl _) (fun h _=>by simp at h <;> omega) (fun h _=>by simp at h <;> omega) (fun _=>?_)
  first | done | rfl | (rw [e_]; done) | (rw [e_]; rfl)
 | succ r_ ih =>
  intro  i sF hi_  hs_ hF
  refine a3G l  i hl ow (fun h1 h2=>?_) (fun h1 h2=>?_) (fun h=>by simp at h <;> omega)
  · exact False.elim (by have hb_:=hbad i ow; (try rw [<- hs_] at hb_); exact hb_ (⟨h1,h2⟩))
  · exact ih  (i+1) sF ow  (by rw [wJ,<- hs_] <;> simp only [a1D,h2,if_true,Bool.false_eq_true,if_false]) (by rw [hF] <;> simp only [iter,a1D,h2,if_true,Bool.false_eq_true,if_false])
theorem b4S (l:l9K) (hl:l.length < 1099511627776) (hr:∀ k∈l,L9 k=true):AC 108 [(sA 2 (mK l)),(AV.func 61 [])] [] ((iI (-1)),[]) :=
 q9 (fn:=Tryz.f108) (ann:=a0x) (Has.o Tryz.func108) (.r (.s (.y 1 (.int .i64 ((List.length (mK l):Nat):Int)) (iN l.length) (Yes.len _ _ _) (.g (.loop (c1M l) (show l7 c0T (some [0,1,7,8]) (some [0,1,7,8]) (mkF 19 [(0,(sA 2 (mK l))),(1,(AV.func 61 [])),(7,(iN l.length)),(8,z_)]) [] (.exit 0) (c1M l) [] from (b4T l hl (fun i hi=>by simp only [a5P]; rw [hr _ (iO hi)]; simp) l.length 0 () ow rfl rfl)) (.qr 0 (iI (-1))))))))
def b0V:Ann:={ fin:=some 0 }
theorem a8h (l:l9K) (hl:l.length < 1099511627776) (hr:∀ k∈l,L9 k=true):AC 60 [(sA 2 (mK l)),(AV.func 61 [])] [] (bF,[]) :=
 q9 (fn:=Tryz.f60) (ann:=b0V) (Has.o Tryz.func60) (.r (.s (.c 2 ((b4S l oa oa).lift kr kr []) (.q 0 bF))))
theorem a0w {x:Msg} (h:I8 x=true):(1<=x.kind/\x.kind<=5)/\J3 x=true/\opM x=true/\G5 x.code=true/\G5 x.status=true/\-1<=x.seq/\x.cards.length<=64/\x.keys.length<=64/\(∀ c∈x.cards,F8 c=true)/\∀ k∈x.keys,L9 k=true:=by
 simp only [I8,Bool.and_eq_true,decide_eq_true_eq,List.all_eq_true] at h
 obtain ⟨⟨a1,a2⟩,a3,a4,⟨a5,a6,a7⟩,⟨a8,a9⟩,a10,a11⟩:=h
 exact ⟨⟨a1,a2⟩,a3,a4,a5,a6,a7,a8,a9,a10,a11⟩
def a8g:Ann:={ refs:=[1],fin:=some 0 }
@[simp] abbrev gP (a:Msg):=(bB (decide (a.kind < 1)))
@[simp] abbrev iJ (a:Msg):=(bB (decide (a.kind > 5)))
@[simp] abbrev a0N (a:Msg):=(bB (decide (a.seq < (-1))))
@[simp] abbrev a6O (a:Msg):=(bB (decide ((a.cards.length:Int) > 64)))
@[simp] abbrev b2s (a:Msg):=(bB (decide ((a.keys.length:Int) > 64)))
theorem aV (x:Msg) (h:I8 x=true):AC 30 [(AV.agg (Msg.row x))] [] (AV.nili,[]):=by
 obtain ⟨⟨a1,a2⟩,a3,a4,a5,a6,a7,a8,a9,a10,a11⟩:=a0w h
 exact q9 (fn:=Tryz.f30) (ann:=a8g) (Has.o Tryz.func30) (.r (.s (.y 2 (gP x) bF (Yes.b yh_) (.n3 (.y 6 (iJ x) bF (Yes.b yh_) (.rn (.c 1 (X7 x  ([]:Heap)) (.y 2 (bB (!(J3 x))) bF (Yes.b (by rw [a3]; rfl)) (.rn (.c 1 (dS x  ([]:Heap)) (.y 2 (bB (!(opM x))) bF (Yes.b (by rw [a4]; rfl)) (.rn (.c 2 (K8 x.code  ([]:Heap)) (.y 3 (bB (!(G5 x.code))) bF (Yes.b (by rw [a5]; rfl)) (.n3 (.c 7 (K8 x.status  ([]:Heap)) (.n (.y 8 (bB (!(G5 x.status))) bF (Yes.b (by rw [a6]; rfl)) (.n3 (.y 13 (a0N x) bF (Yes.b yh_) (.rn (.y 2 (.int .i64 ((List.length (mC x.cards):Nat):Int)) (iN x.cards.length) (Yes.len _ _ _) (.y 3 (a6O x) bF (Yes.b yh_) (.n3 (.y 7 (.int .i64 ((List.length (mK x.keys):Nat):Int)) (iN x.keys.length) (Yes.len _ _ _) (.n (.y 8 (b2s x) bF (Yes.b yh_) (.rn (.c 2 ((b0U x.cards oa oa).lift kr kr []) (.s (.n3 (.c 4 ((a8h x.keys oa oa).lift kr kr []) (.g (.n (.qr 0 AV.nili)))))))))))))))))))))))))))))))))))
def aT (x:Entry) (now:Int):Entry:=⟨x.card,max x.seen now⟩
def Q9 (x:Entry) (s:l8) (now:Int):Entry:=⟨{ x.card with gone:=true,stamp:=s },now⟩
def Y8 (x:Entry) (o:Int) (s:l8):Entry:=⟨{ x.card with over:=o,stamp:=s },x.seen⟩
def bD (old:Entry) (inn:Bool) (c:j5) (now:Int):Entry:=⟨{ c with over:=if inn=true/\old.card.gone=false then old.card.over else 0,gone:=false },now⟩
def maxS (a b:l8):l8:=if I7 b a < 0 then a else b
def D8 (a:l8) (now nd:Int):l8:=⟨max a.t now,nd,if a.n < 9223372036854775807 then IntKind.i64.wrap (a.n+1) else a.n⟩
def b0Z:Ann:={ fin:=some 0 }
@[simp] abbrev c1L (a:Entry):Heap:=[(o_ 0 10 [[e_,e_,z_,z_,z_,z_,z_,z_,bF,z_]]),(o_ 0 10 [(Entry.row a)])]
@[simp] abbrev c7V (a:Entry) (b:Int):=(AV.tup [(AV.agg [(AV.str a.card.key.app),(AV.str a.card.key.id),(iI a.card.status),(iI a.card.over),(iI a.card.lease),(iI a.card.stamp.t),(iI a.card.stamp.node),(iI a.card.stamp.n),(bB a.card.gone),(iI (max a.seen b))]),bT])
theorem a8j (x:Entry) (now:Int) (hg:x.card.gone=false):AC 112 [(AV.agg (Entry.row x)),(iI now)] [] ((AV.tup [(AV.agg (Entry.row (aT x now))),bT]),[]) :=
 q9 (fn:=Tryz.f112) (ann:=b0Z) (Has.o Tryz.func112) (.r (.s (.h' (c1L x) (.y 2 (bB x.card.gone) bF (Yes.b (hg)) (.rn (.y 3 (.int .i64 (if now > x.seen then now else x.seen)) (iI (max x.seen now)) (Yes.int eD) (.s (.g (.h' [] (.q 0 (c7V x now) (by (try delta c1L); unfold aT; rfl)))))))))))
def a8l:Ann:={ refs:=[4],fin:=some 0 }
@[simp] abbrev c7U (a:Entry) (b:l8) (c:Int):=(AV.tup [(AV.agg [(AV.str a.card.key.app),(AV.str a.card.key.id),(iI a.card.status),(iI a.card.over),(iI a.card.lease),(iI b.t),(iI b.node),(iI b.n),bT,(iI c)]),bT])
theorem wG (x:Entry) (s:l8) (now:Int) (hg:x.card.gone=false):AC 114 [(AV.agg (Entry.row x)),(AV.agg (l8.row s)),(iI now)] [] ((AV.tup [(AV.agg (Entry.row (Q9 x s now))),bT]),[]) :=
 q9 (fn:=Tryz.f114) (ann:=a8l) (Has.o Tryz.func114) (.r (.s (.h' (c1L x) (.y 2 (bB x.card.gone) bF (Yes.b (hg)) (.rn (.s (.g (.h' [] (.q 0 (c7U x s now))))))))))
def b5h:Ann:={ refs:=[5],fin:=some 0 }
theorem a9z {p:Prop} (h:p:=by first | rfl | (exfalso; simp only [hg,decide_eq_true_eq,Bool.false_eq_true] at * <;> omega)):p:=h
@[simp] abbrev c7T (a:Entry) (b:Int) (c:l8):=(AV.tup [(AV.agg [(AV.str a.card.key.app),(AV.str a.card.key.id),(iI a.card.status),(iI b),(iI a.card.lease),(iI c.t),(iI c.node),(iI c.n),(bB a.card.gone),(iI a.seen)]),bT])
theorem b1a (x:Entry) (o:Int) (s:l8) (hg:x.card.gone=false) (h0:0<=o) (h3:o<=3):AC 116 [(AV.agg (Entry.row x)),(iI o),(AV.agg (l8.row s))] [] ((AV.tup [(AV.agg (Entry.row (Y8 x o s))),bT]),[]) :=
 q9 (fn:=Tryz.f116) (ann:=b5h) (Has.o Tryz.func116) (.r (.s (.two x.card.gone (fun h1 h1'=>(.u3 (.g (.u (.qr 0 (AV.tup [(AV.agg [e_,e_,z_,z_,z_,z_,z_,z_,bF,z_]),bF]) a9z))))) (fun h1 h1'=>(.n (.two (decide (o < 0)) (fun h2 h2'=>(.u (.g (.u (.qr 0 (AV.tup [(AV.agg [e_,e_,z_,z_,z_,z_,z_,z_,bF,z_]),bF]) a9z))))) (fun h2 h2'=>(.n (.g (.two (decide (o > 3)) (fun h3 h3'=>(.qr 0 (AV.tup [(AV.agg [e_,e_,z_,z_,z_,z_,z_,z_,bF,z_]),bF]) a9z)) (fun h3 h3'=>(.r (.g (.qr 0 (c7T x o s) a9z))))))))))))))
def b9N:Ann:={ refs:=[4],fin:=some 0 }
theorem a3H (old:Entry) (inn:Bool) (c:j5) (now:Int) :AC 163 [(AV.agg (Entry.row old)),(AV.bool inn),(AV.agg (j5.row c)),(AV.int .i64 now)] [] ((AV.agg (Entry.row (bD old inn c now))),[]) :=
 q9 (fn:=Tryz.f163) (ann:=b9N) (Has.o Tryz.func163) (.r (.s (.s (.two inn (fun h1 h1'=>(.u3 (.g (.two (!old.card.gone) (fun h2 h2'=>(.r (.g (.qr 0 (AV.agg [(AV.str c.key.app),(AV.str c.key.id),(AV.int .i64 c.status),(AV.int .i64 old.card.over),(AV.int .i64 c.lease),(AV.int .i64 c.stamp.t),(AV.int .i64 c.stamp.node),(AV.int .i64 c.stamp.n),(AV.bool false),(AV.int .i64 now)]) (by unfold bD; (rw [if_pos ⟨h1,by simpa using h2⟩]); rfl))))) (fun h2 h2'=>(.qr 0 (AV.agg [(AV.str c.key.app),(AV.str c.key.id),(AV.int .i64 c.status),(AV.int .i64 0),(AV.int .i64 c.lease),(AV.int .i64 c.stamp.t),(AV.int .i64 c.stamp.node),(AV.int .i64 c.stamp.n),(AV.bool false),(AV.int .i64 now)]) (by unfold bD; (rw [if_neg (fun q=>by rw [q.2] at h2; simp at h2)]); rfl))))))) (fun h1 h1'=>(.n3 (.g (.n (.qr 0 (AV.agg [(AV.str c.key.app),(AV.str c.key.id),(AV.int .i64 c.status),(AV.int .i64 0),(AV.int .i64 c.lease),(AV.int .i64 c.stamp.t),(AV.int .i64 c.stamp.node),(AV.int .i64 c.stamp.n),(AV.bool false),(AV.int .i64 now)]) (by unfold bD; (rw [if_neg (fun q=>by rw [q.1] at h1; simp at h1)]); rfl))))))))))
def b3Y:Ann:={ refs:=[3],fin:=some 0 }
@[simp] abbrev xS :Heap:=[(o_ 0 3 [[z_,z_,z_]])]
theorem a9X (a:l8) (now nd:Int) :AC 164 [(AV.agg (l8.row a)),(AV.int .i64 now),(AV.int .i64 nd)] [] ((AV.agg (l8.row (D8 a now nd))),[]) :=
 q9 (fn:=Tryz.f164) (ann:=b3Y) (Has.o Tryz.func164) (.r (.s (.s (.g (.two (decide (a.n < 9223372036854775807)) (fun h1 h1'=>(.r (.s (.h' xS (.y 3 (.int .i64 (if now > a.t then now else a.t)) (AV.int .i64 (max a.t now)) (Yes.int eD) (.g (.h' [] (.q 0 (AV.agg [(AV.int .i64 (max a.t now)),(AV.int .i64 nd),(iW (a.n+1))]) (by (try delta xS); unfold D8; rw [if_pos (of_decide_eq_true h1)]; first | done | rfl))))))))) (fun h1 h1'=>(.r (.h' xS (.y 3 (.int .i64 (if now > a.t then now else a.t)) (AV.int .i64 (max a.t now)) (Yes.int eD) (.g (.h' [] (.q 0 (AV.agg [(AV.int .i64 (max a.t now)),(AV.int .i64 nd),(AV.int .i64 a.n)]) (by (try delta xS); unfold D8; rw [if_neg (of_decide_eq_false h1)]; first | done | rfl)))))))))))))
theorem a1a {a b:l8} (h:l8.eqb a b=true):a=b:=by
 cases a; cases b
 simp [l8.eqb] at h
 simp [h]
def b8K:Ann:={ refs:=[2,3],fin:=some 0 }
theorem b4d (a b:l8) :AC 165 [(AV.agg (l8.row a)),(AV.agg (l8.row b))] [] ((AV.agg (l8.row (maxS a b))),[]) :=
 q9 (fn:=Tryz.f165) (ann:=b8K) (Has.o Tryz.func165) (.r (.s (.c 2 ((qJ b a).lift kr kr xS) (.g (.two (decide (I7 b a < 0)) (fun h1 h1'=>(.qr 0 (AV.agg (l8.row a)) (by (try delta xS); unfold maxS; rw [if_pos (of_decide_eq_true h1)]))) (fun h1 h1'=>(.r (.g (.two (l8.eqb a b) (fun h2 h2'=>(.qr 0 (AV.agg (l8.row a)) (by (try delta xS); unfold maxS; rw [if_neg (of_decide_eq_false h1)]; (obtain rfl:=a1a h2); first | done | rfl))) (fun h2 h2'=>(.qr 0 (AV.agg (l8.row b)) (by (try delta xS); unfold maxS; rw [if_neg (of_decide_eq_false h1)]; first | done | rfl))))))))))))
def b1s:Ann:={ base:=1,fin:=some 1 }
@[simp] abbrev c6z (a:Int) (b:Int) (c:Int):Heap:=[(o_ 0 3 [[(iI a),(iI b),(iI c)]])]
@[simp] abbrev c1K (a:Int) (b:Int) (c:Int):Heap:=[(o_ 0 3 [[(iI a),(iI b),(iI (min (c+1) 1048576))]])]
theorem a8q (a b c:Int) (h1:0<=c) (h2:c < 4611686018427387904):AC 113 [(oO 0 0 0 0)] (c6z a b c) ((AV.tup []),(c1K a b c)) :=
 q9 (fn:=Tryz.f113) (ann:=b1s) (Has.o Tryz.func113) (.r (.y 5 (iW (c+1)) (iI (c+1)) Yes.o (.y 6 (.int .i64 (if 1048576 < (c+1) then 1048576 else (c+1))) (iI (min (c+1) 1048576)) (Yes.int eD) (.g (.h' (c1K a b c) (.q 1 (AV.tup []) (by (try delta c6z c1K); first | rfl | (simp [Int.min_comm]; done))))))))
attribute [local irreducible] D8 F6 H7 I5 J5 P7 maxS
def b6e:Ann:={ refs:=[4],base:=6,fin:=some 6 }
@[simp] abbrev b2r (a:Int) (b:l8):=[[(iI a),(iI b.t),(iI b.node),(iI b.n),(oO 0 0 0 0),(oO 2 0 0 0),(oO 3 0 0 0)]]
@[simp] abbrev U7 (a:Int) (b:l8):Ob:=(o_ 0 7 (b2r a b))
@[simp] abbrev O5 (a:Nat) (b:l9E) (c:Int) (d:Int) (e:Int) (f:l9K) (g:Nat) (h:Int) (i:l8):Heap:=[R4 a b,(o_ a 10 (mE b)),I9 c d e,M9 f g,(o_ g 2 (mK (l5 f))),U7 h i]
@[simp] abbrev c1J (a:Nat) (b:l9E) (c:Int) (d:Int) (e:Int) (f:l9K) (g:Nat) (h:Int) (i:l8):Heap:=[R4 a b,(o_ a 10 (mE b)),I9 c d e,M9 f g,(o_ g 2 (mK (l5 f))),U7 h i,(o_ 0 3 [[z_,z_,z_]])]
theorem jD (l:l9E) (g:Nat) (al:l9K) (ga:Nat) (gf gl gt nd:Int) (st:l8) (c:j5) (now:Int) :AC 115 [(oO 5 0 0 0),(AV.agg (j5.row c)),(iI now)] (O5 g l gf gl gt al ga nd st) ((AV.agg (l8.row (D8 (maxS st c.stamp) now nd))),(O5 g l gf gl gt al ga nd st)) :=
 q9 (fn:=Tryz.f115) (ann:=b6e) (Has.o Tryz.func115) (.r (.s (.c 6 ((b4d st c.stamp).lift kr kr (c1J g l gf gl gt al ga nd st)) (.c 12 ((a9X (maxS st c.stamp) now nd).lift kr kr (c1J g l gf gl gt al ga nd st)) (.rd (iI nd) (c1J g l gf gl gt al ga nd st) (.q 6 (AV.agg (l8.row (D8 (maxS st c.stamp) now nd)))))))))
def mQ (l:List Entry) (x:Entry):List j5:=if (H7 (p9 32) l x == 0)=true then [x.card] else []
def bS (l:List Entry) (x:Entry) (st:l8):l8:=if (H7 (p9 32) l x == 0)=true then x.card.stamp else st
def b1Q:Ann:={ refs:=[3],gha:=[(3,.any 4 9),(5,.any 4 9)],base:=6,fin:=some 6 }
@[simp] abbrev c3w (a:l9E) (b:Entry) (c:l9K) (d:Nat):Ob:=(o_ 0 2 [[(iN ((List.length (J5 a b c)))),(AV.osl 4 (P7 a b d) 2 0 (List.length (l5 (J5 a b c))))]])
@[simp] abbrev c3v (a:l9E) (b:Entry) (c:Nat) (d:l9K):Ob:=(o_ (P7 a b c) 2 (mK (l5 (J5 a b d))))
@[simp] abbrev c6y (a:l9E) (b:Entry) (c:Nat) (d:Int) (e:Int) (f:Int) (g:l9K) (h:Nat) (i:Int):Heap:=[a4T a b c,a4S a b c,I9 d e f,c3w a b g h,c3v a b h g,(o_ 0 7 [[(iI i),(iI b.card.stamp.t),(iI b.card.stamp.node),(iI b.card.stamp.n),(oO 0 0 0 0),(oO 2 0 0 0),(oO 3 0 0 0)]])]
@[simp] abbrev c1I (a:l9E) (b:Entry) (c:Nat) (d:Int) (e:Int) (f:Int) (g:l9K) (h:Nat) (i:Int) (j:l8):Heap:=[a4T a b c,a4S a b c,I9 d e f,c3w a b g h,c3v a b h g,U7 i j]
theorem a8z (l:l9E) (g:Nat) (al:l9K) (ga:Nat) (gf gl gt nd:Int) (st:l8) (x:Entry) (hl:l.length < 1000) (ha:al.length < 100000) (h:((H7 (p9 32) l x) == 0)=true):AC 117 [(oO 5 0 0 0),(AV.agg (Entry.row x))] (O5 g l gf gl gt al ga nd st) ((AV.tup [(sA 9 (mC [x.card])),z_]),(c6y l x g gf gl gt al ga nd)) :=
 q9 (fn:=Tryz.f117) (ann:=b1Q) (Has.o Tryz.func117) (.r (.s (.ch 2 (c1I l x g gf gl gt al ga nd st) (a9k l g al ga gf gl gt nd st.t st.node st.n x oa oa []) (.s (.y 1 (bB ((H7 (p9 32) l x) != 0)) bF (Yes.b (by have q:=eq_of_beq h; rw [q]; rfl)) (.rn (.s (.g (.h' (c6y l x g gf gl gt al ga nd) (.q 6 (AV.tup [(sA 9 [(j5.row x.card)]),z_])))))))))))
def b1R:Ann:={ refs:=[3],gha:=[(3,.any 4 9),(5,.any 4 9)],base:=6,fin:=some 6 }
theorem a8A (l:l9E) (g:Nat) (al:l9K) (ga:Nat) (gf gl gt nd:Int) (st:l8) (x:Entry) (hl:l.length < 1000) (ha:al.length < 100000) (h:((H7 (p9 32) l x) == 0)=false):AC 117 [(oO 5 0 0 0),(AV.agg (Entry.row x))] (O5 g l gf gl gt al ga nd st) ((AV.tup [(sA 9 (mC ([]:l9C))),(xA l x)]),(c1I l x g gf gl gt al ga nd st)) :=
 q9 (fn:=Tryz.f117) (ann:=b1R) (Has.o Tryz.func117) (.r (.s (.ch 2 (c1I l x g gf gl gt al ga nd st) (a9k l g al ga gf gl gt nd st.t st.node st.n x oa oa []) (.s (.y 1 (bB ((H7 (p9 32) l x) != 0)) bT (Yes.b (by rw [bne,h]; rfl)) (.g (.u (.qr 6 (AV.tup [(sA 9 []),(xA l x)])))))))))
theorem nJ (l:l9E) (g:Nat) (al:l9K) (ga:Nat) (gf gl gt nd:Int) (st:l8) (x:Entry) (hl:l.length < 1000) (ha:al.length < 100000):AC 117 [(oO 5 0 0 0),(AV.agg (Entry.row x))] [(o_ 0 2 [[(iI (p9 32)),(AV.osl 1 g 10 0 (List.length l))]]),(o_ g 10 (mE l)),(o_ 0 3 [[(iI gf),(iI gl),(iI gt)]]),(o_ 0 2 [[(iN ((List.length al))),(AV.osl 4 ga 2 0 (List.length (l5 al)))]]),(o_ ga 2 (mK (l5 al))),(o_ 0 7 [[(iI nd),(iI st.t),(iI st.node),(iI st.n),(oO 0 0 0 0),(oO 2 0 0 0),(oO 3 0 0 0)]])] ((AV.tup [(sA 9 (mC (mQ l x))),(iI (H7 (p9 32) l x))]),[(o_ 0 2 [[(iI (p9 32)),(AV.osl 1 (I5 (p9 32) l x g) 10 0 (List.length (F6 (p9 32) l x)))]]),(o_ (I5 (p9 32) l x g) 10 (mE (F6 (p9 32) l x))),(o_ 0 3 [[(iI gf),(iI gl),(iI gt)]]),(o_ 0 2 [[(iN ((List.length (J5 l x al)))),(AV.osl 4 (P7 l x ga) 2 0 (List.length (l5 (J5 l x al))))]]),(o_ (P7 l x ga) 2 (mK (l5 (J5 l x al)))),(o_ 0 7 [[(iI nd),(iI (bS l x st).t),(iI (bS l x st).node),(iI (bS l x st).n),(oO 0 0 0 0),(oO 2 0 0 0),(oO 3 0 0 0)]])]):=by
 unfold mQ bS
 cases h:(H7 (p9 32) l x == 0) with
 | true=>rw [if_pos rfl,if_pos rfl,eq_of_beq h]; exact a8z l g al ga gf gl gt nd st x hl ha h
 | false=>rw [if_neg yf_,if_neg yf_]; exact a8A l g al ga gf gl gt nd st x hl ha h
def K6 (q:Msg) (old:Entry) (inn:Bool) (st:l8) (now nd:Int):Entry:=bD old inn ⟨q.key,q.status,0,q.n,D8 (maxS st old.card.stamp) now nd,false⟩ now
def iZ (q:Msg):Prop:=1<=q.n/\q.n<=1048576/\(q.status=1\/q.status=2)
instance (q:Msg):Decidable (iZ q):=by unfold iZ; infer_instance
def b6d:Ann:={ refs:=[6,7],gha:=[(2,.any 10 9)],base:=6,fin:=some 6 }
@[simp] abbrev a6N :=(AV.tup [(sA 9 []),(iI 1)])
theorem b1N (l:l9E) (g:Nat) (al:l9K) (ga:Nat) (gf gl gt nd:Int) (st:l8) (q:Msg) (old:Entry) (inn:Bool) (now:Int) (r:¬ iZ q):AC 111 [(oO 5 0 0 0),(AV.agg (Msg.row q)),(AV.agg (Entry.row old)),(bB inn),(iI now)] (O5 g l gf gl gt al ga nd st) ((AV.tup [(sA 9 (mC ([]:l9C))),(iI 1)]),(O5 g l gf gl gt al ga nd st)) :=
 q9 (fn:=Tryz.f111) (ann:=b6d) (Has.o Tryz.func111) (.r (.s (.two (decide (q.n < 1)) (fun h1 h1'=>(.u6 (.u (.g (.u (.qr 6 a6N)))))) (fun h1 h1'=>(.n2 (.two (decide (q.n > 1048576)) (fun h2 h2'=>(.u4 (.g (.u (.qr 6 a6N))))) (fun h2 h2'=>(.n2 (.y 11 (bB (q.status != 1)) bT (Yes.b (bne_iff_ne.2 (fun z=>r ⟨by have a:=of_decide_eq_false h1; omega,by have a:=of_decide_eq_false h2; omega,.inl z⟩))) (.n (.u3 (.y 15 (bB (q.status != 2)) bT (Yes.b (bne_iff_ne.2 (fun z=>r ⟨by have a:=of_decide_eq_false h1; omega,by have a:=of_decide_eq_false h2; omega,.inr z⟩))) (.n (.g (.u (.qr 6 a6N))))))))))))))))
def b6c:Ann:={ refs:=[6,7],base:=6,fin:=some 6 }
@[simp] abbrev b3f (a:Nat) (b:l9E) (c:Int) (d:Int) (e:Int) (f:l9K) (g:Nat) (h:Int) (i:l8):Heap:=[R4 a b,(o_ a 10 (mE b)),I9 c d e,M9 f g,(o_ g 2 (mK (l5 f))),U7 h i,(o_ 0 9 [[e_,e_,z_,z_,z_,z_,z_,z_,bF]])]
@[simp] abbrev c3u (a:Msg) (b:l8) (c:Entry) (d:Int) (e:Int):Ob:=(o_ 0 9 [[(AV.str a.key.app),(AV.str a.key.id),(iI a.status),z_,(iI a.n),(iI (D8 (maxS b c.card.stamp) d e).t),(iI (D8 (maxS b c.card.stamp) d e).node),(iI (D8 (maxS b c.card.stamp) d e).n),bF]])
@[simp] abbrev b3e (a:Nat) (b:l9E) (c:Int) (d:Int) (e:Int) (f:l9K) (g:Nat) (h:Int) (i:l8) (j:Msg) (k:Entry) (l:Int):Heap:=[R4 a b,(o_ a 10 (mE b)),I9 c d e,M9 f g,(o_ g 2 (mK (l5 f))),U7 h i,c3u j i k l h]
@[simp] abbrev b7Y (a:l9E) (b:Entry) (c:Bool) (d:Msg) (e:l8) (f:Int) (g:Int) (h:Nat):Ob:=(o_ 0 2 [[(iI (p9 32)),(AV.osl 1 (I5 (p9 32) a (bD b c (j5.mk d.key d.status 0 d.n (D8 (maxS e b.card.stamp) f g) false) f) h) 10 0 (List.length (F6 (p9 32) a (bD b c (j5.mk d.key d.status 0 d.n (D8 (maxS e b.card.stamp) f g) false) f))))]])
@[simp] abbrev b7X (a:l9E) (b:Entry) (c:Bool) (d:Msg) (e:l8) (f:Int) (g:Int) (h:Nat):Ob:=(o_ (I5 (p9 32) a (bD b c (j5.mk d.key d.status 0 d.n (D8 (maxS e b.card.stamp) f g) false) f) h) 10 (mE (F6 (p9 32) a (bD b c (j5.mk d.key d.status 0 d.n (D8 (maxS e b.card.stamp) f g) false) f))))
@[simp] abbrev b7W (a:l9E) (b:Entry) (c:Bool) (d:Msg) (e:l8) (f:Int) (g:Int) (h:l9K) (i:Nat):Ob:=(o_ 0 2 [[(iN ((List.length (J5 a (bD b c (j5.mk d.key d.status 0 d.n (D8 (maxS e b.card.stamp) f g) false) f) h)))),(AV.osl 4 (P7 a (bD b c (j5.mk d.key d.status 0 d.n (D8 (maxS e b.card.stamp) f g) false) f) i) 2 0 (List.length (l5 (J5 a (bD b c (j5.mk d.key d.status 0 d.n (D8 (maxS e b.card.stamp) f g) false) f) h))))]])
@[simp] abbrev b7V (a:l9E) (b:Entry) (c:Bool) (d:Msg) (e:l8) (f:Int) (g:Int) (h:Nat) (i:l9K):Ob:=(o_ (P7 a (bD b c (j5.mk d.key d.status 0 d.n (D8 (maxS e b.card.stamp) f g) false) f) h) 2 (mK (l5 (J5 a (bD b c (j5.mk d.key d.status 0 d.n (D8 (maxS e b.card.stamp) f g) false) f) i))))
@[simp] abbrev b7U (a:Int) (b:l9E) (c:Entry) (d:Bool) (e:Msg) (f:l8) (g:Int):Ob:=(o_ 0 7 [[(iI a),(iI (bS b (bD c d (j5.mk e.key e.status 0 e.n (D8 (maxS f c.card.stamp) g a) false) g) f).t),(iI (bS b (bD c d (j5.mk e.key e.status 0 e.n (D8 (maxS f c.card.stamp) g a) false) g) f).node),(iI (bS b (bD c d (j5.mk e.key e.status 0 e.n (D8 (maxS f c.card.stamp) g a) false) g) f).n),(oO 0 0 0 0),(oO 2 0 0 0),(oO 3 0 0 0)]])
@[simp] abbrev b3d (a:l9E) (b:Entry) (c:Bool) (d:Msg) (e:l8) (f:Int) (g:Int) (h:Nat) (i:Int) (j:Int) (k:Int) (l:l9K) (m:Nat):Heap:=[b7Y a b c d e f g h,b7X a b c d e f g h,I9 i j k,b7W a b c d e f g l m,b7V a b c d e f g m l,b7U g a b c d e f,c3u d e b f g]
@[simp] abbrev c6x (a:l9E) (b:Entry) (c:Bool) (d:Msg) (e:l8) (f:Int) (g:Int) (h:Nat) (i:Int) (j:Int) (k:Int) (l:l9K) (m:Nat):Heap:=[b7Y a b c d e f g h,b7X a b c d e f g h,I9 i j k,b7W a b c d e f g l m,b7V a b c d e f g m l,b7U g a b c d e f]
@[simp] abbrev b2q (a:l9E) (b:Entry) (c:Bool) (d:Msg) (e:l8) (f g:Int):=(AV.tup [(sA 9 (mC (mQ a (bD b c (j5.mk d.key d.status 0 d.n (D8 (maxS e b.card.stamp) f g) false) f)))),(iI (H7 (p9 32) a (bD b c (j5.mk d.key d.status 0 d.n (D8 (maxS e b.card.stamp) f g) false) f)))])
theorem b1M (l:l9E) (g:Nat) (al:l9K) (ga:Nat) (gf gl gt nd:Int) (st:l8) (q:Msg) (old:Entry) (inn:Bool) (now:Int) (hl:l.length < 1000) (ha:al.length < 100000) (r:iZ q):AC 111 [(oO 5 0 0 0),(AV.agg (Msg.row q)),(AV.agg (Entry.row old)),(bB inn),(iI now)] (O5 g l gf gl gt al ga nd st) ((AV.tup [(sA 9 (mC (mQ l (K6 q old inn st now nd)))),(iI (H7 (p9 32) l (K6 q old inn st now nd)))]),[(o_ 0 2 [[(iI (p9 32)),(AV.osl 1 (I5 (p9 32) l (K6 q old inn st now nd) g) 10 0 (List.length (F6 (p9 32) l (K6 q old inn st now nd))))]]),(o_ (I5 (p9 32) l (K6 q old inn st now nd) g) 10 (mE (F6 (p9 32) l (K6 q old inn st now nd)))),(o_ 0 3 [[(iI gf),(iI gl),(iI gt)]]),(o_ 0 2 [[(iN ((List.length (J5 l (K6 q old inn st now nd) al)))),(AV.osl 4 (P7 l (K6 q old inn st now nd) ga) 2 0 (List.length (l5 (J5 l (K6 q old inn st now nd) al))))]]),(o_ (P7 l (K6 q old inn st now nd) ga) 2 (mK (l5 (J5 l (K6 q old inn st now nd) al)))),(o_ 0 7 [[(iI nd),(iI (bS l (K6 q old inn st now nd) st).t),(iI (bS l (K6 q old inn st now nd) st).node),(iI (bS l (K6 q old inn st now nd) st).n),(oO 0 0 0 0),(oO 2 0 0 0),(oO 3 0 0 0)]])]):=by
 obtain ⟨r1,r2,r3⟩:=r
 exact q9 (fn:=Tryz.f111) (ann:=b6c) (Has.o Tryz.func111) (.r (.s (.y 2 (bB (decide (q.n < 1))) bF (Yes.b (decide_eq_false ow)) (.n3 (.y 6 (bB (decide (q.n > 1048576))) bF (Yes.b (decide_eq_false ow)) (.n4 (.two (q.status != 1) (fun h1 h1'=>(.u2 (.y 15 (bB (q.status != 2)) bF (Yes.b (by rcases r3 with r | r; (rw [r] at h1; simp at h1); (rw [r]; rfl))) (.n (.rn (.c 10 (j6.put2 [0,1,2,3,4,5] (b3f g l gf gl gt al ga nd st) (AV.agg (l8.row (D8 (maxS st old.card.stamp) now nd))) (b3f g l gf gl gt al ga nd st) (jD l g al ga gf gl gt nd st old.card now ) (rlA) (rlA)) (.s (.c 5 ((a3H old inn (j5.mk q.key q.status 0 q.n (D8 (maxS st old.card.stamp) now nd) false) now).lift kr kr (b3e g l gf gl gt al ga nd st q old now)) (.ch 6 (b3d l old inn q st now nd g gf gl gt al ga) (j6.put2 [0,1,2,3,4,5] (b3e g l gf gl gt al ga nd st q old now) (b2q l old inn q st now nd) (b3d l old inn q st now nd g gf gl gt al ga) (nJ l g al ga gf gl gt nd st (bD old inn (j5.mk q.key q.status 0 q.n (D8 (maxS st old.card.stamp) now nd) false) now) oa oa) (rlA) (rlA)) (.g (.h' (c6x l old inn q st now nd g gf gl gt al ga) (.q 6 (b2q l old inn q st now nd))))))))))))) (fun h1 h1'=>(.n3 (.rn (.c 10 (j6.put2 [0,1,2,3,4,5] (b3f g l gf gl gt al ga nd st) (AV.agg (l8.row (D8 (maxS st old.card.stamp) now nd))) (b3f g l gf gl gt al ga nd st) (jD l g al ga gf gl gt nd st old.card now ) (rlA) (rlA)) (.s (.c 5 ((a3H old inn (j5.mk q.key q.status 0 q.n (D8 (maxS st old.card.stamp) now nd) false) now).lift kr kr (b3e g l gf gl gt al ga nd st q old now)) (.ch 6 (b3d l old inn q st now nd g gf gl gt al ga) (j6.put2 [0,1,2,3,4,5] (b3e g l gf gl gt al ga nd st q old now) (b2q l old inn q st now nd) (b3d l old inn q st now nd g gf gl gt al ga) (nJ l g al ga gf gl gt nd st (bD old inn (j5.mk q.key q.status 0 q.n (D8 (maxS st old.card.stamp) now nd) false) now) oa oa) (rlA) (rlA)) (.g (.h' (c6x l old inn q st now nd g gf gl gt al ga) (.q 6 (b2q l old inn q st now nd))))))))))))))))))
def a0o (l:List Entry) (q:Msg) (x:Entry):List j5:=if iZ q then mQ l x else []
def a0n (l:List Entry) (q:Msg) (x:Entry):Int:=if iZ q then H7 (p9 32) l x else 1
def tO (l:List Entry) (q:Msg) (x:Entry):List Entry:=if iZ q then F6 (p9 32) l x else l
def tQ (l:List Entry) (q:Msg) (x:Entry) (g:Nat):Nat:=if iZ q then I5 (p9 32) l x g else g
def oI (l:List Entry) (q:Msg) (x:Entry) (al:List Key):List Key:=if iZ q then J5 l x al else al
def nA (l:List Entry) (q:Msg) (x:Entry) (ga:Nat):Nat:=if iZ q then P7 l x ga else ga
def oH (l:List Entry) (q:Msg) (x:Entry) (st:l8):l8:=if iZ q then bS l x st else st
theorem a3Z (l:l9E) (g:Nat) (al:l9K) (ga:Nat) (gf gl gt nd:Int) (st:l8) (q:Msg) (old:Entry) (inn:Bool) (now:Int) (hl:l.length < 1000) (ha:al.length < 100000):AC 111 [(oO 5 0 0 0),(AV.agg (Msg.row q)),(AV.agg (Entry.row old)),(bB inn),(iI now)] [(o_ 0 2 [[(iI (p9 32)),(AV.osl 1 g 10 0 (List.length l))]]),(o_ g 10 (mE l)),(o_ 0 3 [[(iI gf),(iI gl),(iI gt)]]),(o_ 0 2 [[(iN ((List.length al))),(AV.osl 4 ga 2 0 (List.length (l5 al)))]]),(o_ ga 2 (mK (l5 al))),(o_ 0 7 [[(iI nd),(iI st.t),(iI st.node),(iI st.n),(oO 0 0 0 0),(oO 2 0 0 0),(oO 3 0 0 0)]])] ((AV.tup [(sA 9 (mC (a0o l q (K6 q old inn st now nd)))),(iI (a0n l q (K6 q old inn st now nd)))]),[(o_ 0 2 [[(iI (p9 32)),(AV.osl 1 (tQ l q (K6 q old inn st now nd) g) 10 0 (List.length (tO l q (K6 q old inn st now nd))))]]),(o_ (tQ l q (K6 q old inn st now nd) g) 10 (mE (tO l q (K6 q old inn st now nd)))),(o_ 0 3 [[(iI gf),(iI gl),(iI gt)]]),(o_ 0 2 [[(iN ((List.length (oI l q (K6 q old inn st now nd) al)))),(AV.osl 4 (nA l q (K6 q old inn st now nd) ga) 2 0 (List.length (l5 (oI l q (K6 q old inn st now nd) al))))]]),(o_ (nA l q (K6 q old inn st now nd) ga) 2 (mK (l5 (oI l q (K6 q old inn st now nd) al)))),(o_ 0 7 [[(iI nd),(iI (oH l q (K6 q old inn st now nd) st).t),(iI (oH l q (K6 q old inn st now nd) st).node),(iI (oH l q (K6 q old inn st now nd) st).n),(oO 0 0 0 0),(oO 2 0 0 0),(oO 3 0 0 0)]])]):=by
 unfold a0o a0n tO tQ oI nA oH
 by_cases r:iZ q
 · rw [if_pos r,if_pos r,if_pos r,if_pos r,if_pos r,if_pos r,if_pos r]
   exact b1M l g al ga gf gl gt nd st q old inn now hl ha r
 · rw [if_neg r,if_neg r,if_neg r,if_neg r,if_neg r,if_neg r,if_neg r]
   exact b1N l g al ga gf gl gt nd st q old inn now r
attribute [local irreducible] Q9 Y8 a0n a0o aT bD bS iZ mQ nA oH oI r9 tO tQ y9
def b8s:Ann:={ refs:=[4],gha:=[(6,.any 6 9),(8,.any 6 9),(12,.any 6 9)],base:=6,fin:=some 6 }
@[simp] abbrev jY (a:Nat) (b:l9E) (c:Int) (d:Int) (e:Int) (f:l9K) (g:Nat) (h:Int) (i:l8):Heap:=[R4 a b,(o_ a 10 (mE b)),I9 c d e,M9 f g,(o_ g 2 (mK (l5 f))),U7 h i,a2i]
@[simp] abbrev oV (a:Nat) (b:l9E) (c:Int) (d:Int) (e:Int) (f:l9K) (g:Nat) (h:Int) (i:l8) (j:Msg):Heap:=[R4 a b,(o_ a 10 (mE b)),I9 c d e,M9 f g,(o_ g 2 (mK (l5 f))),U7 h i,(o_ 0 10 [(Entry.row (r9 b j.key))])]
theorem X4 {p:Prop} (h:p:=by rw [ho]; rfl):p:=h
@[simp] abbrev a0M (a:l9E) (b:Msg):=(AV.tup [(AV.agg (Entry.row (r9 a b.key))),(bB (y9 a b.key))])
@[simp] abbrev a6M (a:Msg):=(bB (decide (a.status > 3)))
theorem b3N (l:l9E) (g:Nat) (al:l9K) (ga:Nat) (gf gl gt nd:Int) (st:l8) (q:Msg) (now:Int) (hl:l.length < 1000) (ha:al.length < 100000) (hgt:0<=gt/\gt < 4611686018427387904) (ho:q.op=4) (hs:3 < q.status):AC 64 [(oO 5 0 0 0),(AV.agg (Msg.row q)),(iI now)] (O5 g l gf gl gt al ga nd st) ((AV.tup [(sA 9 (mC ([]:l9C))),(iI 1)]),(O5 g l gf gl gt al ga nd st)) :=
 q9 (fn:=Tryz.f64) (ann:=b8s) (Has.o Tryz.func64) (.r (.s (.c 6 (j6.put2 [0,1] (jY g l gf gl gt al ga nd st) (a0M l q) (jY g l gf gl gt al ga nd st) (dL (p9 32) l q.key g (List.length l) oa oa) (rlF) (rlF)) (.s (.two (y9 l q.key) (fun h1 h1'=>(.u3 (.s (.h' (oV g l gf gl gt al ga nd st q) (.y 2 (bB (q.op == 1)) bF (Yes.b X4) (.rn (.y 2 (bB (q.op == 4)) bT (Yes.b X4) (.u3 (.y 6 (a6M q) bT (Yes.b (decide_eq_true ow)) (.ru (.g (.h' (O5 g l gf gl gt al ga nd st) (.q 6 a6N))))))))))))) (fun h1 h1'=>(.n3 (.s (.h' (oV g l gf gl gt al ga nd st q) (.y 2 (bB (q.op == 1)) bF (Yes.b X4) (.rn (.y 2 (bB (q.op == 4)) bT (Yes.b X4) (.u3 (.y 6 (a6M q) bT (Yes.b (decide_eq_true ow)) (.ru (.g (.h' (O5 g l gf gl gt al ga nd st) (.q 6 a6N))))))))))))))))))
def c3Z:Ann:={ refs:=[4],gha:=[(6,.any 6 9),(8,.any 6 9),(12,.any 6 9)],base:=6,fin:=some 6 }
@[simp] abbrev c3r (a:l9E) (b:Msg) (c:l8) (d:Int) (e:Int) (f:Nat):Ob:=(o_ 0 2 [[(iI (p9 32)),(AV.osl 1 (I5 (p9 32) a (Q9 (r9 a b.key) (D8 (maxS c (r9 a b.key).card.stamp) d e) d) f) 10 0 (List.length (F6 (p9 32) a (Q9 (r9 a b.key) (D8 (maxS c (r9 a b.key).card.stamp) d e) d))))]])
@[simp] abbrev c3q (a:l9E) (b:Msg) (c:l8) (d:Int) (e:Int) (f:Nat):Ob:=(o_ (I5 (p9 32) a (Q9 (r9 a b.key) (D8 (maxS c (r9 a b.key).card.stamp) d e) d) f) 10 (mE (F6 (p9 32) a (Q9 (r9 a b.key) (D8 (maxS c (r9 a b.key).card.stamp) d e) d))))
@[simp] abbrev c3p (a:l9E) (b:Msg) (c:l8) (d:Int) (e:Int) (f:l9K) (g:Nat):Ob:=(o_ 0 2 [[(iN ((List.length (J5 a (Q9 (r9 a b.key) (D8 (maxS c (r9 a b.key).card.stamp) d e) d) f)))),(AV.osl 4 (P7 a (Q9 (r9 a b.key) (D8 (maxS c (r9 a b.key).card.stamp) d e) d) g) 2 0 (List.length (l5 (J5 a (Q9 (r9 a b.key) (D8 (maxS c (r9 a b.key).card.stamp) d e) d) f))))]])
@[simp] abbrev c3o (a:l9E) (b:Msg) (c:l8) (d:Int) (e:Int) (f:Nat) (g:l9K):Ob:=(o_ (P7 a (Q9 (r9 a b.key) (D8 (maxS c (r9 a b.key).card.stamp) d e) d) f) 2 (mK (l5 (J5 a (Q9 (r9 a b.key) (D8 (maxS c (r9 a b.key).card.stamp) d e) d) g))))
@[simp] abbrev b7T (a:Int) (b:l9E) (c:Msg) (d:l8) (e:Int):Ob:=(o_ 0 7 [[(iI a),(iI (bS b (Q9 (r9 b c.key) (D8 (maxS d (r9 b c.key).card.stamp) e a) e) d).t),(iI (bS b (Q9 (r9 b c.key) (D8 (maxS d (r9 b c.key).card.stamp) e a) e) d).node),(iI (bS b (Q9 (r9 b c.key) (D8 (maxS d (r9 b c.key).card.stamp) e a) e) d).n),(oO 0 0 0 0),(oO 2 0 0 0),(oO 3 0 0 0)]])
@[simp] abbrev c6w (a:l9E) (b:Msg) (c:l8) (d:Int) (e:Int) (f:Nat) (g:Int) (h:Int) (i:Int) (j:l9K) (k:Nat):Heap:=[c3r a b c d e f,c3q a b c d e f,I9 g h i,c3p a b c d e j k,c3o a b c d e k j,b7T e a b c d]
@[simp] abbrev vB (a:Nat) (b:l9E) (c:Int) (d:Int) (e:Int) (f:l9K) (g:Nat) (h:Int) (i:l8) (j:Msg):Heap:=[R4 a b,(o_ a 10 (mE b)),I9 c d e,M9 f g,(o_ g 2 (mK (l5 f))),U7 h i,(o_ 0 10 [(Entry.row (r9 b j.key))]),a2i]
@[simp] abbrev b7S (a:l9E) (b:Msg) (c:l8) (d:Int) (e:Int):Ob:=(o_ 0 10 [(Entry.row (Q9 (r9 a b.key) (D8 (maxS c (r9 a b.key).card.stamp) d e) d))])
@[simp] abbrev a0U (a:Nat) (b:l9E) (c:Int) (d:Int) (e:Int) (f:l9K) (g:Nat) (h:Int) (i:l8) (j:Msg) (k:Int):Heap:=[R4 a b,(o_ a 10 (mE b)),I9 c d e,M9 f g,(o_ g 2 (mK (l5 f))),U7 h i,(o_ 0 10 [(Entry.row (r9 b j.key))]),b7S b j i k h]
@[simp] abbrev c6v (a:l9E) (b:Msg) (c:l8) (d:Int) (e:Int) (f:Nat) (g:Int) (h:Int) (i:Int) (j:l9K) (k:Nat):Heap:=[c3r a b c d e f,c3q a b c d e f,I9 g h i,c3p a b c d e j k,c3o a b c d e k j,b7T e a b c d,(o_ 0 10 [(Entry.row (r9 a b.key))]),b7S a b c d e]
@[simp] abbrev c0S (a:l9E) (b:Msg) (c:l8) (d e:Int):=(AV.tup [(sA 9 (mC (mQ a (Q9 (r9 a b.key) (D8 (maxS c (r9 a b.key).card.stamp) d e) d)))),(iI (H7 (p9 32) a (Q9 (r9 a b.key) (D8 (maxS c (r9 a b.key).card.stamp) d e) d)))])
theorem b8t (l:l9E) (g:Nat) (al:l9K) (ga:Nat) (gf gl gt nd:Int) (st:l8) (q:Msg) (now:Int) (hl:l.length < 1000) (ha:al.length < 100000) (hgt:0<=gt/\gt < 4611686018427387904) (ho:q.op=3) (hf:y9 l q.key=true) (hg:(r9 l q.key).card.gone=false):AC 64 [(oO 5 0 0 0),(AV.agg (Msg.row q)),(iI now)] (O5 g l gf gl gt al ga nd st) ((c0S l q st now nd),(c6w l q st now nd g gf gl gt al ga)) :=
 q9 (fn:=Tryz.f64) (ann:=c3Z) (Has.o Tryz.func64) (.r (.s (.c 6 (j6.put2 [0,1] (jY g l gf gl gt al ga nd st) (a0M l q) (jY g l gf gl gt al ga nd st) (dL (p9 32) l q.key g (List.length l) oa oa) (rlF) (rlF)) (.s (.h' (oV g l gf gl gt al ga nd st q) (.y 0 (bB (y9 l q.key)) bT (Yes.b (hf)) (.u3 (.y 4 (bB (r9 l q.key).card.gone) bF (Yes.b (hg)) (.u (.s (.y 2 (bB (q.op == 1)) bF (Yes.b X4) (.rn (.y 2 (bB (q.op == 4)) bF (Yes.b X4) (.n3 (.rn (.rn (.y 2 (bB (q.op == 2)) bF (Yes.b X4) (.rn (.c 5 (j6.put2 [0,1,2,3,4,5] (vB g l gf gl gt al ga nd st q) (AV.agg (l8.row (D8 (maxS st (r9 l q.key).card.stamp) now nd))) (vB g l gf gl gt al ga nd st q) (jD l g al ga gf gl gt nd st (r9 l q.key).card now ) (rlA) (rlA)) (.c 7 ((wG (r9 l q.key) (D8 (maxS st (r9 l q.key).card.stamp) now nd) now oa).lift kr kr (vB g l gf gl gt al ga nd st q)) (.rd (AV.agg (Entry.row (r9 l q.key))) (vB g l gf gl gt al ga nd st q) (.s (.h' (a0U g l gf gl gt al ga nd st q now) (.y 2 (bB (q.op == 4)) bF (Yes.b X4) (.rn (.ch 2 (c6v l q st now nd g gf gl gt al ga) (j6.put2 [0,1,2,3,4,5] (a0U g l gf gl gt al ga nd st q now) (c0S l q st now nd) (c6v l q st now nd g gf gl gt al ga) (nJ l g al ga gf gl gt nd st (Q9 (r9 l q.key) (D8 (maxS st (r9 l q.key).card.stamp) now nd) now) oa oa) (rlA) (rlA)) (.g (.h' (c6w l q st now nd g gf gl gt al ga) (.q 6 (c0S l q st now nd))))))))))))))))))))))))))))))
def c3Y:Ann:={ refs:=[4],gha:=[(6,.any 6 9),(8,.any 6 9),(12,.any 6 9)],base:=6,fin:=some 6 }
@[simp] abbrev b7R (a:l9E) (b:Msg) (c:l8) (d:Int) (e:Int) (f:Nat):Ob:=(o_ 0 2 [[(iI (p9 32)),(AV.osl 1 (I5 (p9 32) a (Y8 (r9 a b.key) b.status (D8 (maxS c (r9 a b.key).card.stamp) d e)) f) 10 0 (List.length (F6 (p9 32) a (Y8 (r9 a b.key) b.status (D8 (maxS c (r9 a b.key).card.stamp) d e)))))]])
@[simp] abbrev b7Q (a:l9E) (b:Msg) (c:l8) (d:Int) (e:Int) (f:Nat):Ob:=(o_ (I5 (p9 32) a (Y8 (r9 a b.key) b.status (D8 (maxS c (r9 a b.key).card.stamp) d e)) f) 10 (mE (F6 (p9 32) a (Y8 (r9 a b.key) b.status (D8 (maxS c (r9 a b.key).card.stamp) d e)))))
@[simp] abbrev b7P (a:l9E) (b:Msg) (c:l8) (d:Int) (e:Int) (f:l9K) (g:Nat):Ob:=(o_ 0 2 [[(iN ((List.length (J5 a (Y8 (r9 a b.key) b.status (D8 (maxS c (r9 a b.key).card.stamp) d e)) f)))),(AV.osl 4 (P7 a (Y8 (r9 a b.key) b.status (D8 (maxS c (r9 a b.key).card.stamp) d e)) g) 2 0 (List.length (l5 (J5 a (Y8 (r9 a b.key) b.status (D8 (maxS c (r9 a b.key).card.stamp) d e)) f))))]])
@[simp] abbrev b7O (a:l9E) (b:Msg) (c:l8) (d:Int) (e:Int) (f:Nat) (g:l9K):Ob:=(o_ (P7 a (Y8 (r9 a b.key) b.status (D8 (maxS c (r9 a b.key).card.stamp) d e)) f) 2 (mK (l5 (J5 a (Y8 (r9 a b.key) b.status (D8 (maxS c (r9 a b.key).card.stamp) d e)) g))))
@[simp] abbrev b7N (a:Int) (b:l9E) (c:Msg) (d:l8) (e:Int):Ob:=(o_ 0 7 [[(iI a),(iI (bS b (Y8 (r9 b c.key) c.status (D8 (maxS d (r9 b c.key).card.stamp) e a)) d).t),(iI (bS b (Y8 (r9 b c.key) c.status (D8 (maxS d (r9 b c.key).card.stamp) e a)) d).node),(iI (bS b (Y8 (r9 b c.key) c.status (D8 (maxS d (r9 b c.key).card.stamp) e a)) d).n),(oO 0 0 0 0),(oO 2 0 0 0),(oO 3 0 0 0)]])
@[simp] abbrev c6u (a:l9E) (b:Msg) (c:l8) (d:Int) (e:Int) (f:Nat) (g:Int) (h:Int) (i:Int) (j:l9K) (k:Nat):Heap:=[b7R a b c d e f,b7Q a b c d e f,I9 g h i,b7P a b c d e j k,b7O a b c d e k j,b7N e a b c d]
@[simp] abbrev c6t (a:l9E) (b:Msg) (c:l8) (d:Int) (e:Int) (f:Nat) (g:Int) (h:Int) (i:Int) (j:l9K) (k:Nat):Heap:=[b7R a b c d e f,b7Q a b c d e f,I9 g h i,b7P a b c d e j k,b7O a b c d e k j,b7N e a b c d,(o_ 0 10 [(Entry.row (r9 a b.key))]),(o_ 0 10 [(Entry.row (Y8 (r9 a b.key) b.status (D8 (maxS c (r9 a b.key).card.stamp) d e)))])]
@[simp] abbrev c0R (a:l9E) (b:Msg) (c:l8) (d e:Int):=(AV.tup [(sA 9 (mC (mQ a (Y8 (r9 a b.key) b.status (D8 (maxS c (r9 a b.key).card.stamp) d e))))),(iI (H7 (p9 32) a (Y8 (r9 a b.key) b.status (D8 (maxS c (r9 a b.key).card.stamp) d e))))])
theorem b8r (l:l9E) (g:Nat) (al:l9K) (ga:Nat) (gf gl gt nd:Int) (st:l8) (q:Msg) (now:Int) (hl:l.length < 1000) (ha:al.length < 100000) (hgt:0<=gt/\gt < 4611686018427387904) (ho:q.op=4) (hs:q.status<=3) (hs0:0<=q.status) (hf:y9 l q.key=true) (hg:(r9 l q.key).card.gone=false):AC 64 [(oO 5 0 0 0),(AV.agg (Msg.row q)),(iI now)] (O5 g l gf gl gt al ga nd st) ((c0R l q st now nd),(c6u l q st now nd g gf gl gt al ga)) :=
 q9 (fn:=Tryz.f64) (ann:=c3Y) (Has.o Tryz.func64) (.r (.s (.c 6 (j6.put2 [0,1] (jY g l gf gl gt al ga nd st) (a0M l q) (jY g l gf gl gt al ga nd st) (dL (p9 32) l q.key g (List.length l) oa oa) (rlF) (rlF)) (.s (.h' (oV g l gf gl gt al ga nd st q) (.y 0 (bB (y9 l q.key)) bT (Yes.b (hf)) (.u3 (.y 4 (bB (r9 l q.key).card.gone) bF (Yes.b (hg)) (.u (.s (.y 2 (bB (q.op == 1)) bF (Yes.b X4) (.rn (.y 2 (bB (q.op == 4)) bT (Yes.b X4) (.u3 (.y 6 (a6M q) bF (Yes.b (decide_eq_false ow)) (.rn (.rn (.y 2 (bB (q.op == 2)) bF (Yes.b X4) (.rn (.c 5 (j6.put2 [0,1,2,3,4,5] (vB g l gf gl gt al ga nd st q) (AV.agg (l8.row (D8 (maxS st (r9 l q.key).card.stamp) now nd))) (vB g l gf gl gt al ga nd st q) (jD l g al ga gf gl gt nd st (r9 l q.key).card now ) (rlA) (rlA)) (.c 7 ((wG (r9 l q.key) (D8 (maxS st (r9 l q.key).card.stamp) now nd) now oa).lift kr kr (vB g l gf gl gt al ga nd st q)) (.rd (AV.agg (Entry.row (r9 l q.key))) (vB g l gf gl gt al ga nd st q) (.s (.h' (a0U g l gf gl gt al ga nd st q now) (.y 2 (bB (q.op == 4)) bT (Yes.b X4) (.ru (.c 7 (j6.put2 [0,1,2,3,4,5] (a0U g l gf gl gt al ga nd st q now) (AV.agg (l8.row (D8 (maxS st (r9 l q.key).card.stamp) now nd))) (a0U g l gf gl gt al ga nd st q now) (jD l g al ga gf gl gt nd st (r9 l q.key).card now ) (rlA) (rlA)) (.c 8 ((b1a (r9 l q.key) q.status (D8 (maxS st (r9 l q.key).card.stamp) now nd) oa oa oa).lift kr kr (a0U g l gf gl gt al ga nd st q now)) (.rd (AV.agg (Entry.row (r9 l q.key))) (a0U g l gf gl gt al ga nd st q now) (.s (.ch 2 (c6t l q st now nd g gf gl gt al ga) (j6.put2 [0,1,2,3,4,5] [(o_ 0 2 (a0O g l)),(o_ g 10 (mE l)),(o_ 0 3 [[(iI gf),(iI gl),(iI gt)]]),(o_ 0 2 (a3b al ga)),(o_ ga 2 (mK (l5 al))),(o_ 0 7 (b2r nd st)),(o_ 0 10 [(Entry.row (r9 l q.key))]),(o_ 0 10 [(Entry.row (Y8 (r9 l q.key) q.status (D8 (maxS st (r9 l q.key).card.stamp) now nd)))])] (c0R l q st now nd) (c6t l q st now nd g gf gl gt al ga) (nJ l g al ga gf gl gt nd st (Y8 (r9 l q.key) q.status (D8 (maxS st (r9 l q.key).card.stamp) now nd)) oa oa) (rlA) (rlA)) (.g (.h' (c6u l q st now nd g gf gl gt al ga) (.q 6 (c0R l q st now nd)))))))))))))))))))))))))))))))))))
def c4a:Ann:={ refs:=[4],gha:=[(6,.any 6 9),(8,.any 6 9),(12,.any 6 9)],base:=6,fin:=some 6 }
@[simp] abbrev b7M (a:l9E) (b:Msg) (c:Int) (d:Nat):Ob:=(o_ 0 2 [[(iI (p9 32)),(AV.osl 1 (I5 (p9 32) a (aT (r9 a b.key) c) d) 10 0 (List.length (F6 (p9 32) a (aT (r9 a b.key) c))))]])
@[simp] abbrev b7L (a:l9E) (b:Msg) (c:Int) (d:Nat):Ob:=(o_ (I5 (p9 32) a (aT (r9 a b.key) c) d) 10 (mE (F6 (p9 32) a (aT (r9 a b.key) c))))
@[simp] abbrev a7w (a:Int) (b:Int) (c:Int):Ob:=(o_ 0 3 [[(iI a),(iI b),(iI (min (c+1) 1048576))]])
@[simp] abbrev c3t (a:l9E) (b:Msg) (c:Int) (d:Nat) (e:Int) (f:Int) (g:Int) (h:l9K) (i:Nat) (j:Int) (k:l8):Heap:=[b7M a b c d,b7L a b c d,a7w e f g,M9 h i,(o_ i 2 (mK (l5 h))),U7 j k]
@[simp] abbrev b7K (a:l9E) (b:Msg) (c:Int):Ob:=(o_ 0 10 [(Entry.row (aT (r9 a b.key) c))])
@[simp] abbrev b3c (a:Nat) (b:l9E) (c:Int) (d:Int) (e:Int) (f:l9K) (g:Nat) (h:Int) (i:l8) (j:Msg) (k:Int):Heap:=[R4 a b,(o_ a 10 (mE b)),a7w c d e,M9 f g,(o_ g 2 (mK (l5 f))),U7 h i,(o_ 0 10 [(Entry.row (r9 b j.key))]),b7K b j k]
@[simp] abbrev c3s (a:l9E) (b:Msg) (c:Int) (d:Nat) (e:Int) (f:Int) (g:Int) (h:l9K) (i:Nat) (j:Int) (k:l8):Heap:=[b7M a b c d,b7L a b c d,a7w e f g,M9 h i,(o_ i 2 (mK (l5 h))),U7 j k,(o_ 0 10 [(Entry.row (r9 a b.key))]),b7K a b c]
@[simp] abbrev c0Q (a:l9E) (b:Msg) (c:Int):=(iI (H7 (p9 32) a (aT (r9 a b.key) c)))
theorem b8u (l:l9E) (g:Nat) (al:l9K) (ga:Nat) (gf gl gt nd:Int) (st:l8) (q:Msg) (now:Int) (hl:l.length < 1000) (ha:al.length < 100000) (hgt:0<=gt/\gt < 4611686018427387904) (ho:q.op=2) (hf:y9 l q.key=true) (hg:(r9 l q.key).card.gone=false):AC 64 [(oO 5 0 0 0),(AV.agg (Msg.row q)),(iI now)] (O5 g l gf gl gt al ga nd st) ((AV.tup [(sA 9 (mC ([]:l9C))),(c0Q l q now)]),(c3t l q now g gf gl gt al ga nd st)) :=
 q9 (fn:=Tryz.f64) (ann:=c4a) (Has.o Tryz.func64) (.r (.s (.c 6 (j6.put2 [0,1] (jY g l gf gl gt al ga nd st) (a0M l q) (jY g l gf gl gt al ga nd st) (dL (p9 32) l q.key g (List.length l) oa oa) (rlF) (rlF)) (.s (.h' (oV g l gf gl gt al ga nd st q) (.y 0 (bB (y9 l q.key)) bT (Yes.b (hf)) (.u3 (.y 4 (bB (r9 l q.key).card.gone) bF (Yes.b (hg)) (.u (.s (.y 2 (bB (q.op == 1)) bF (Yes.b X4) (.rn (.y 2 (bB (q.op == 4)) bF (Yes.b X4) (.n3 (.rn (.rn (.y 2 (bB (q.op == 2)) bT (Yes.b X4) (.ru (.c 2 ((a8j (r9 l q.key) now oa).lift kr kr (vB g l gf gl gt al ga nd st q)) (.s (.ch 4 (b3c g l gf gl gt al ga nd st q now) (j6.put2 [2] [(o_ 0 2 (a0O g l)),(o_ g 10 (mE l)),(o_ 0 3 [[(iI gf),(iI gl),(iI gt)]]),(o_ 0 2 (a3b al ga)),(o_ ga 2 (mK (l5 al))),(o_ 0 7 (b2r nd st)),(o_ 0 10 [(Entry.row (r9 l q.key))]),(o_ 0 10 [(Entry.row (aT (r9 l q.key) now))])] (AV.tup []) (b3c g l gf gl gt al ga nd st q now) (a8q gf gl gt oa oa) (⟨rfl,trivial⟩) (⟨rfl,trivial⟩)) (.s (.ch 5 (c3s l q now g gf gl gt al ga nd st) (j6.put2 [0,1] (b3c g l gf gl gt al ga nd st q now) (c0Q l q now) (c3s l q now g gf gl gt al ga nd st) (uD (p9 32) l (aT (r9 l q.key) now) g (List.length l) oa oa) (rlF) (rlF)) (.g (.h' (c3t l q now g gf gl gt al ga nd st) (.q 6 (AV.tup [(sA 9 []),(c0Q l q now)])))))))))))))))))))))))))))
def c4b:Ann:={ refs:=[4],gha:=[(6,.any 6 9),(8,.any 6 9),(12,.any 6 9)],base:=6,fin:=some 6 }
@[simp] abbrev b7J (a:l9E) (b:Msg) (c:l8) (d:Int) (e:Int) (f:Nat):Ob:=(o_ 0 2 [[(iI (p9 32)),(AV.osl 1 (tQ a b (K6 b (r9 a b.key) (y9 a b.key) c d e) f) 10 0 (List.length (tO a b (K6 b (r9 a b.key) (y9 a b.key) c d e))))]])
@[simp] abbrev b7I (a:l9E) (b:Msg) (c:l8) (d:Int) (e:Int) (f:Nat):Ob:=(o_ (tQ a b (K6 b (r9 a b.key) (y9 a b.key) c d e) f) 10 (mE (tO a b (K6 b (r9 a b.key) (y9 a b.key) c d e))))
@[simp] abbrev b7H (a:l9E) (b:Msg) (c:l8) (d:Int) (e:Int) (f:l9K) (g:Nat):Ob:=(o_ 0 2 [[(iN ((List.length (oI a b (K6 b (r9 a b.key) (y9 a b.key) c d e) f)))),(AV.osl 4 (nA a b (K6 b (r9 a b.key) (y9 a b.key) c d e) g) 2 0 (List.length (l5 (oI a b (K6 b (r9 a b.key) (y9 a b.key) c d e) f))))]])
@[simp] abbrev b7G (a:l9E) (b:Msg) (c:l8) (d:Int) (e:Int) (f:Nat) (g:l9K):Ob:=(o_ (nA a b (K6 b (r9 a b.key) (y9 a b.key) c d e) f) 2 (mK (l5 (oI a b (K6 b (r9 a b.key) (y9 a b.key) c d e) g))))
@[simp] abbrev b7F (a:Int) (b:l9E) (c:Msg) (d:l8) (e:Int):Ob:=(o_ 0 7 [[(iI a),(iI (oH b c (K6 c (r9 b c.key) (y9 b c.key) d e a) d).t),(iI (oH b c (K6 c (r9 b c.key) (y9 b c.key) d e a) d).node),(iI (oH b c (K6 c (r9 b c.key) (y9 b c.key) d e a) d).n),(oO 0 0 0 0),(oO 2 0 0 0),(oO 3 0 0 0)]])
@[simp] abbrev b3b (a:l9E) (b:Msg) (c:l8) (d:Int) (e:Int) (f:Nat) (g:Int) (h:Int) (i:Int) (j:l9K) (k:Nat):Heap:=[b7J a b c d e f,b7I a b c d e f,I9 g h i,b7H a b c d e j k,b7G a b c d e k j,b7F e a b c d]
@[simp] abbrev a4O (a:l9E) (b:Msg) (c:l8) (d:Int) (e:Int) (f:Nat) (g:Int) (h:Int) (i:Int) (j:l9K) (k:Nat):Heap:=[b7J a b c d e f,b7I a b c d e f,I9 g h i,b7H a b c d e j k,b7G a b c d e k j,b7F e a b c d,(o_ 0 10 [(Entry.row (r9 a b.key))])]
@[simp] abbrev a6L (a:l9E) (b:Msg) (c:l8) (d e:Int):=(AV.tup [(sA 9 (mC (a0o a b (K6 b (r9 a b.key) (y9 a b.key) c d e)))),(iI (a0n a b (K6 b (r9 a b.key) (y9 a b.key) c d e)))])
theorem b8v (l:l9E) (g:Nat) (al:l9K) (ga:Nat) (gf gl gt nd:Int) (st:l8) (q:Msg) (now:Int) (hl:l.length < 1000) (ha:al.length < 100000) (hgt:0<=gt/\gt < 4611686018427387904) (ho:q.op=1):AC 64 [(oO 5 0 0 0),(AV.agg (Msg.row q)),(iI now)] (O5 g l gf gl gt al ga nd st) ((a6L l q st now nd),(b3b l q st now nd g gf gl gt al ga)) :=
 q9 (fn:=Tryz.f64) (ann:=c4b) (Has.o Tryz.func64) (.r (.s (.c 6 (j6.put2 [0,1] (jY g l gf gl gt al ga nd st) (a0M l q) (jY g l gf gl gt al ga nd st) (dL (p9 32) l q.key g (List.length l) oa oa) (rlF) (rlF)) (.s (.two (y9 l q.key) (fun h1 h1'=>(.u3 (.s (.h' (oV g l gf gl gt al ga nd st q) (.y 2 (bB (q.op == 1)) bT (Yes.b X4) (.ru (.ch 5 (a4O l q st now nd g gf gl gt al ga) (j6.put2 [0,1,2,3,4,5] (oV g l gf gl gt al ga nd st q) (a6L l q st now nd) (a4O l q st now nd g gf gl gt al ga) (a3Z l g al ga gf gl gt nd st q (r9 l q.key) (y9 l q.key) now oa oa) (rlA) (rlA)) (.g (.h' (b3b l q st now nd g gf gl gt al ga) (.q 6 (a6L l q st now nd))))))))))) (fun h1 h1'=>(.n3 (.s (.h' (oV g l gf gl gt al ga nd st q) (.y 2 (bB (q.op == 1)) bT (Yes.b X4) (.ru (.ch 5 (a4O l q st now nd g gf gl gt al ga) (j6.put2 [0,1,2,3,4,5] (oV g l gf gl gt al ga nd st q) (a6L l q st now nd) (a4O l q st now nd g gf gl gt al ga) (a3Z l g al ga gf gl gt nd st q (r9 l q.key) (y9 l q.key) now oa oa) (rlA) (rlA)) (.g (.h' (b3b l q st now nd g gf gl gt al ga) (.q 6 (a6L l q st now nd))))))))))))))))
def c3W:Ann:={ refs:=[4],gha:=[(6,.any 6 9),(8,.any 6 9),(12,.any 6 9)],base:=6,fin:=some 6 }
@[simp] abbrev b2p :=(AV.tup [(sA 9 []),(iI 22)])
theorem b8p (l:l9E) (g:Nat) (al:l9K) (ga:Nat) (gf gl gt nd:Int) (st:l8) (q:Msg) (now:Int) (hl:l.length < 1000) (ha:al.length < 100000) (hgt:0<=gt/\gt < 4611686018427387904) (h1:¬ q.op=1) (h4:¬ (q.op=4/\3 < q.status)) (hf:y9 l q.key=false):AC 64 [(oO 5 0 0 0),(AV.agg (Msg.row q)),(iI now)] (O5 g l gf gl gt al ga nd st) ((AV.tup [(sA 9 (mC ([]:l9C))),(iI 22)]),(O5 g l gf gl gt al ga nd st)) :=
 q9 (fn:=Tryz.f64) (ann:=c3W) (Has.o Tryz.func64) (.r (.s (.c 6 (j6.put2 [0,1] (jY g l gf gl gt al ga nd st) (a0M l q) (jY g l gf gl gt al ga nd st) (dL (p9 32) l q.key g (List.length l) oa oa) (rlF) (rlF)) (.s (.h' (oV g l gf gl gt al ga nd st q) (.y 0 (bB (y9 l q.key)) bF (Yes.b (hf)) (.n4 (.s (.y 2 (bB (q.op == 1)) bF (Yes.b yg_) (.rn (.two (q.op == 4) (fun h1 h1'=>(.u2 (.y 6 (a6M q) bF (Yes.b (decide_eq_false (fun z=>h4 ⟨eq_of_beq yb_,z⟩))) (.rn (.ru (.g (.h' (O5 g l gf gl gt al ga nd st) (.q 6 b2p)))))))) (fun h1 h1'=>(.n2 (.rn (.ru (.g (.h' (O5 g l gf gl gt al ga nd st) (.q 6 b2p))))))))))))))))))
def c3X:Ann:={ refs:=[4],gha:=[(6,.any 6 9),(8,.any 6 9),(12,.any 6 9)],base:=6,fin:=some 6 }
theorem b8q (l:l9E) (g:Nat) (al:l9K) (ga:Nat) (gf gl gt nd:Int) (st:l8) (q:Msg) (now:Int) (hl:l.length < 1000) (ha:al.length < 100000) (hgt:0<=gt/\gt < 4611686018427387904) (h1:¬ q.op=1) (h4:¬ (q.op=4/\3 < q.status)) (hf:y9 l q.key=true) (hg:(r9 l q.key).card.gone=true):AC 64 [(oO 5 0 0 0),(AV.agg (Msg.row q)),(iI now)] (O5 g l gf gl gt al ga nd st) ((AV.tup [(sA 9 (mC ([]:l9C))),(iI 22)]),(O5 g l gf gl gt al ga nd st)) :=
 q9 (fn:=Tryz.f64) (ann:=c3X) (Has.o Tryz.func64) (.r (.s (.c 6 (j6.put2 [0,1] (jY g l gf gl gt al ga nd st) (a0M l q) (jY g l gf gl gt al ga nd st) (dL (p9 32) l q.key g (List.length l) oa oa) (rlF) (rlF)) (.s (.h' (oV g l gf gl gt al ga nd st q) (.y 0 (bB (y9 l q.key)) bT (Yes.b (hf)) (.u3 (.y 4 (bB (r9 l q.key).card.gone) bT (Yes.b (hg)) (.u (.s (.y 2 (bB (q.op == 1)) bF (Yes.b yg_) (.rn (.two (q.op == 4) (fun h1 h1'=>(.u2 (.y 6 (a6M q) bF (Yes.b (decide_eq_false (fun z=>h4 ⟨eq_of_beq yb_,z⟩))) (.rn (.ru (.g (.h' (O5 g l gf gl gt al ga nd st) (.q 6 b2p)))))))) (fun h1 h1'=>(.n2 (.rn (.ru (.g (.h' (O5 g l gf gl gt al ga nd st) (.q 6 b2p))))))))))))))))))))
structure TuR where
 c:List j5
 code:Int
 l:List Entry
 g:Nat
 al:List Key
 ga:Nat
 st:l8
 gt:Int
def a0W (l:List Entry) (g:Nat) (al:List Key) (ga:Nat) (gt:Int) (st:l8) (x:Entry):TuR:=⟨mQ l x,H7 (p9 32) l x,F6 (p9 32) l x,I5 (p9 32) l x g,J5 l x al,P7 l x ga,bS l x st,gt⟩
def tuR (l:List Entry) (g:Nat) (al:List Key) (ga:Nat) (gt nd:Int) (st:l8) (q:Msg) (now:Int):TuR :=
 if q.op=1 then ⟨a0o l q (K6 q (r9 l q.key) (y9 l q.key) st now nd),a0n l q (K6 q (r9 l q.key) (y9 l q.key) st now nd),tO l q (K6 q (r9 l q.key) (y9 l q.key) st now nd),tQ l q (K6 q (r9 l q.key) (y9 l q.key) st now nd) g,oI l q (K6 q (r9 l q.key) (y9 l q.key) st now nd) al,nA l q (K6 q (r9 l q.key) (y9 l q.key) st now nd) ga,oH l q (K6 q (r9 l q.key) (y9 l q.key) st now nd) st,gt⟩
 else if q.op=4/\3 < q.status then ⟨[],1,l,g,al,ga,st,gt⟩
 else if y9 l q.key=true/\(r9 l q.key).card.gone=false then
  (if q.op=2 then ⟨[],H7 (p9 32) l (aT (r9 l q.key) now),F6 (p9 32) l (aT (r9 l q.key) now),I5 (p9 32) l (aT (r9 l q.key) now) g,al,ga,st,min (gt+1) 1048576⟩
   else if q.op=4 then a0W l g al ga gt st (Y8 (r9 l q.key) q.status (D8 (maxS st (r9 l q.key).card.stamp) now nd)) else a0W l g al ga gt st (Q9 (r9 l q.key) (D8 (maxS st (r9 l q.key).card.stamp) now nd) now))
 else ⟨[],22,l,g,al,ga,st,gt⟩
theorem b3L (l:l9E) (g:Nat) (al:l9K) (ga:Nat) (gf gl gt nd:Int) (st:l8) (q:Msg) (now:Int) (hl:l.length < 1000) (ha:al.length < 100000) (hgt:0<=gt/\gt < 4611686018427387904) (ho1:1<=q.op) (ho5:q.op < 5) (hs0:0<=q.status):AC 64 [(oO 5 0 0 0),(AV.agg (Msg.row q)),(iI now)] [(o_ 0 2 [[(iI (p9 32)),(AV.osl 1 g 10 0 (List.length l))]]),(o_ g 10 (mE l)),(o_ 0 3 [[(iI gf),(iI gl),(iI gt)]]),(o_ 0 2 [[(iN ((List.length al))),(AV.osl 4 ga 2 0 (List.length (l5 al)))]]),(o_ ga 2 (mK (l5 al))),(o_ 0 7 [[(iI nd),(iI st.t),(iI st.node),(iI st.n),(oO 0 0 0 0),(oO 2 0 0 0),(oO 3 0 0 0)]])] ((AV.tup [(sA 9 (mC (tuR l g al ga gt nd st q now).c)),(iI (tuR l g al ga gt nd st q now).code)]),[(o_ 0 2 [[(iI (p9 32)),(AV.osl 1 (tuR l g al ga gt nd st q now).g 10 0 (List.length (tuR l g al ga gt nd st q now).l))]]),(o_ ((tuR l g al ga gt nd st q now).g) 10 (mE (tuR l g al ga gt nd st q now).l)),(o_ 0 3 [[(iI gf),(iI gl),(iI (tuR l g al ga gt nd st q now).gt)]]),(o_ 0 2 [[(iN ((List.length (tuR l g al ga gt nd st q now).al))),(AV.osl 4 (tuR l g al ga gt nd st q now).ga 2 0 (List.length (l5 (tuR l g al ga gt nd st q now).al)))]]),(o_ ((tuR l g al ga gt nd st q now).ga) 2 (mK (l5 (tuR l g al ga gt nd st q now).al))),(o_ 0 7 [[(iI nd),(iI (tuR l g al ga gt nd st q now).st.t),(iI (tuR l g al ga gt nd st q now).st.node),(iI (tuR l g al ga gt nd st q now).st.n),(oO 0 0 0 0),(oO 2 0 0 0),(oO 3 0 0 0)]])]):=by
 unfold tuR a0W
 by_cases o1:q.op=1
 · rw [if_pos o1]
   exact b8v l g al ga gf gl gt nd st q now hl ha hgt o1
 rw [if_neg o1]
 by_cases o4:q.op=4/\3 < q.status
 · rw [if_pos o4]
   exact b3N l g al ga gf gl gt nd st q now hl ha hgt o4.1 o4.2
 rw [if_neg o4]
 by_cases lv:y9 l q.key=true/\(r9 l q.key).card.gone=false
 · rw [if_pos lv]
   by_cases o2:q.op=2
   · rw [if_pos o2]
     exact b8u l g al ga gf gl gt nd st q now hl ha hgt o2 lv.1 lv.2
   rw [if_neg o2]
   by_cases o3:q.op=4
   · rw [if_pos o3]
     exact b8r l g al ga gf gl gt nd st q now hl ha hgt o3 (Int.not_lt.1 fun z=>o4 ⟨o3,z⟩) hs0 lv.1 lv.2
   · rw [if_neg o3]
     exact b8t l g al ga gf gl gt nd st q now hl ha hgt ow lv.1 lv.2
 · rw [if_neg lv]
   cases hf:y9 l q.key with
   | false=>exact b8p l g al ga gf gl gt nd st q now hl ha hgt o1 o4 hf
   | true=>exact b8q l g al ga gf gl gt nd st q now hl ha hgt o1 o4 hf (by
    rcases Bool.eq_false_or_eq_true (r9 l q.key).card.gone with z | z
    · exact z
    · exact absurd ⟨hf,z⟩ lv)
end Go.Proofs.YtmghjcbabebanaaGreat.AM
namespace Go.Proofs.YtmghjcbabebanaaGreat.AM
open Go Go.Proofs.YtmghjcbabebanaaGreat
attribute [local irreducible] D7 D8 F6 G5 G7 H7 I5 I7 I8 J3 J5 L9 P7 Tp.key Tp.keyT Tp.next Tp.step j6 l7 l9 maxS opM r9 tuR y9
def hdM (q:Msg) (code:Int):Msg:=⟨2,q.op,0,code,q.tag,0,0,q.key,false,0,[],[]⟩
def c4K:Ann:={ refs:=[4],gha:=[(10,.frzf 6 11 9),(10,.frzf 6 12 2)],base:=6,fin:=some 6 }
@[simp] abbrev c3n (a:l9E) (b:Nat) (c:l9K) (d:Nat) (e:Int) (f:Int) (h:l8) (i:Msg) (j:Int):Ob:=(o_ 0 2 [[(iI (p9 32)),(AV.osl 1 (tuR a b c d e f h i (w9 j)).g 10 0 (List.length (tuR a b c d e f h i (w9 j)).l))]])
@[simp] abbrev c3m (a:l9E) (b:Nat) (c:l9K) (d:Nat) (e:Int) (f:Int) (h:l8) (i:Msg) (j:Int):Ob:=(o_ ((tuR a b c d e f h i (w9 j)).g) 10 (mE (tuR a b c d e f h i (w9 j)).l))
@[simp] abbrev c3l (a:Int) (b:Int) (c:l9E) (d:Nat) (e:l9K) (f:Nat) (g:Int) (h:Int) (i:l8) (j:Msg) (k:Int):Ob:=(o_ 0 3 [[(iI a),(iI b),(iI (tuR c d e f g h i j (w9 k)).gt)]])
@[simp] abbrev c3k (a:l9E) (b:Nat) (c:l9K) (d:Nat) (e:Int) (f:Int) (g:l8) (h:Msg) (i:Int):Ob:=(o_ 0 2 [[(iN ((List.length (tuR a b c d e f g h (w9 i)).al))),(AV.osl 4 (tuR a b c d e f g h (w9 i)).ga 2 0 (List.length (l5 (tuR a b c d e f g h (w9 i)).al)))]])
@[simp] abbrev c3j (a:l9E) (b:Nat) (c:l9K) (d:Nat) (e:Int) (f:Int) (g:l8) (h:Msg) (i:Int):Ob:=(o_ ((tuR a b c d e f g h (w9 i)).ga) 2 (mK (l5 (tuR a b c d e f g h (w9 i)).al)))
@[simp] abbrev b7E (a:Int) (b:l9E) (c:Nat) (d:l9K) (e:Nat) (f:Int) (g:l8) (h:Msg) (i:Int):Ob:=(o_ 0 7 [[(iI a),(iI (tuR b c d e f a g h (w9 i)).st.t),(iI (tuR b c d e f a g h (w9 i)).st.node),(iI (tuR b c d e f a g h (w9 i)).st.n),(oO 0 0 0 0),(oO 2 0 0 0),(oO 3 0 0 0)]])
@[simp] abbrev c6s (a:l9E) (b:Nat) (c:l9K) (d:Nat) (e:Int) (f:Int) (g:l8) (h:Msg) (i:Int) (j:Int) (k:Int):Heap:=[c3n a b c d e f g h i,c3m a b c d e f g h i,c3l j k a b c d e f g h i,c3k a b c d e f g h i,c3j a b c d e f g h i,b7E f a b c d e g h i]
@[simp] abbrev Z7 :Ob:=(o_ 0 13 [[z_,z_,z_,z_,z_,z_,z_,e_,e_,bF,(AV.int .u32 0),(AV.sl .nil 0 []),(AV.sl .nil 0 [])]])
@[simp] abbrev c1H (a:Nat) (b:l9E) (c:Int) (d:Int) (e:Int) (f:l9K) (g:Nat) (h:Int) (i:l8):Heap:=[R4 a b,(o_ a 10 (mE b)),I9 c d e,M9 f g,(o_ g 2 (mK (l5 f))),U7 h i,Z7]
@[simp] abbrev c5C (a:Msg):=[[(iI 2),(iI a.op),z_,z_,(iI a.tag),z_,z_,(AV.str a.key.app),(AV.str a.key.id),bF,(AV.int .u32 0),(AV.sl .nil 0 []),(AV.sl .nil 0 [])]]
@[simp] abbrev b7D (a:Msg):Ob:=(o_ 0 13 (c5C a))
@[simp] abbrev a3g (a:Nat) (b:l9E) (c:Int) (d:Int) (e:Int) (f:l9K) (g:Nat) (h:Int) (i:l8) (j:Msg):Heap:=[R4 a b,(o_ a 10 (mE b)),I9 c d e,M9 f g,(o_ g 2 (mK (l5 f))),U7 h i,Z7,b7D j]
@[simp] abbrev c6r (a:l9E) (b:Nat) (c:l9K) (d:Nat) (e:Int) (f:Int) (g:l8) (h:Msg) (i:Int) (j:Int) (k:Int):Heap:=[c3n a b c d e f g h i,c3m a b c d e f g h i,c3l j k a b c d e f g h i,c3k a b c d e f g h i,c3j a b c d e f g h i,b7E f a b c d e g h i,Z7,b7D h]
theorem aB {p:Prop} (h:p:=by rw [hk]; rfl):p:=h
@[simp] abbrev c7S (a:Msg) (b:l9E) (d:Nat) (e:l9K) (f:Nat) (g h:Int) (i:l8) (j:Int):=(AV.tup [(AV.agg [(iI 2),(iI a.op),z_,(iI (tuR b d e f g h i a (w9 j)).code),(iI a.tag),z_,z_,(AV.str a.key.app),(AV.str a.key.id),bF,(AV.int .u32 0),(sA 9 (mC [])),(sA 2 (mK []))]),(sA 9 (mC (tuR b d e f g h i a (w9 j)).c))])
theorem c0d (l:l9E) (g:Nat) (al:l9K) (ga:Nat) (gf gl gt nd:Int) (st:l8) (q:Msg) (now:Int) (hl:l.length < 1000) (ha:al.length < 100000) (hgt:0<=gt/\gt < 4611686018427387904) (ho1:1<=q.op) (ho5:q.op < 5) (hs0:0<=q.status) (hk:q.kind=1) (hr:I8 q=true):AC 31 [(oO 5 0 0 0),(AV.agg (Msg.row q)),(iI now)] (O5 g l gf gl gt al ga nd st) ((AV.tup [(AV.agg (Msg.row (hdM q (tuR l g al ga gt nd st q (w9 now)).code))),(sA 9 (mC (tuR l g al ga gt nd st q (w9 now)).c))]),(c6s l g al ga gt nd st q now gf gl)) :=
 q9 (fn:=Tryz.f31) (ann:=c4K) (Has.o Tryz.func31) (.r (.s (.c 1 ((jE now).lift kr kr (c1H g l gf gl gt al ga nd st)) (.s (.s (.h' (a3g g l gf gl gt al ga nd st q) (.y 2 (bB (q.kind != 1)) bF (Yes.b aB) (.n2 (.c 5 ((aV q oa).lift kr kr (a3g g l gf gl gt al ga nd st q)) (.n (.rn (.y 2 (bB (q.op == 5)) bF (Yes.b (by have z:¬ q.op=5:=ow; simpa using z)) (.rn (.ch 3 (c6r l g al ga gt nd st q now gf gl) (j6.put2 [0,1,2,3,4,5] (a3g g l gf gl gt al ga nd st q) (AV.tup [(sA 9 (mC (tuR l g al ga gt nd st q (w9 now)).c)),(iI (tuR l g al ga gt nd st q (w9 now)).code)]) (c6r l g al ga gt nd st q now gf gl) (b3L l g al ga gf gl gt nd st q (w9 now) oa oa oa oa oa oa) (rlA) (rlA)) (.s (.s (.o (rfl:0=0) (.o (rfl:0=0) (.g (.h' (c6s l g al ga gt nd st q now gf gl) (.q 6 (c7S q l g al ga gt nd st now))))))))))))))))))))))
def c0k:Ann:={ refs:=[11],fin:=some 0 }
theorem U3 (tx:ByteArray) (code:Int) (h:¬ code=0):AC 53 [(AV.str tx),(iI code)] [] ((AV.iface 166 (AV.ref [(AV.str tx),(AV.iface 109 (iI code))] 0)),[]) :=
 q9 (fn:=Tryz.f53) (ann:=c0k) (Has.o Tryz.func53) (.r (.s (.y 1 (bB (code == 0)) bF (Yes.b yk_) (.g (.n (.qr 0 (AV.iface 166 (AV.ref [(AV.str tx),(AV.iface 109 (iI code))] 0))))))))
theorem zZ {q:Msg} (hk:q.kind=1) (h:J3 q=true):q.code=0/\q.full=false/\q.sum=0/\q.cards=[]/\q.keys=[]:=by
 with_unfolding_all
  unfold J3 at h
  rw [if_pos hk] at h
  simp only [eU,Bool.and_eq_true,decide_eq_true_eq,beq_iff_eq,List.length_eq_zero_iff] at h
  obtain ⟨h1,h2,_,_,_,h3,_,_,_,_,h4,h5⟩:=h
  exact ⟨h3,h4,h5,h1,h2⟩
def jC (b:List UInt8) (code:Int):AV:=.ref [.str (ByteArray.mk b.toArray),.iface 109 (.int .i64 code)] 0
def iH (q:Msg):AV:=if J3 q=false then jC [122,101,114,111] 12 else if opM q=false then jC [111,112] 12 else jC [110,117,109,98,101,114] 1
@[simp] theorem c7I (n:Nat) (q:Msg):AV.bdd n (iH q)=true:=by unfold iH jC; split <;> (try split) <;> simp [AV.bdd,AV.bdds]
def c4w:Ann:={ refs:=[1],fin:=some 0 }
theorem kC {p:Prop} (h:p:=by rw [hz]; rfl):p:=h
@[simp] abbrev b2o :=(AV.ref [(AV.str (ByteArray.mk #[122,101,114,111])),(AV.iface 109 (iI 12))] 0)
theorem b9m (q:Msg) (hk:q.kind=1) (hz:J3 q=false):AC 30 [(AV.agg (Msg.row q))] [] ((AV.iface 166 b2o),[]) :=
 q9 (fn:=Tryz.f30) (ann:=c4w) (Has.o Tryz.func30) (.r (.s (.y 2 (gP q) bF (Yes.b aB) (.n3 (.y 6 (iJ q) bF (Yes.b aB) (.rn (.c 1 (X7 q  ([]:Heap)) (.y 2 (bB (!(J3 q))) bT (Yes.b kC) (.ru (.c 0 ((U3 (ByteArray.mk #[122,101,114,111]) 12 oa).lift kr kr []) (.q 0 (AV.iface 166 b2o))))))))))))
def c4x:Ann:={ refs:=[1],fin:=some 0 }
@[simp] abbrev b2n :=(AV.ref [(AV.str (ByteArray.mk #[111,112])),(AV.iface 109 (iI 12))] 0)
theorem b9n (q:Msg) (hk:q.kind=1) (hz:J3 q=true) (ho:opM q=false):AC 30 [(AV.agg (Msg.row q))] [] ((AV.iface 166 b2n),[]) :=
 q9 (fn:=Tryz.f30) (ann:=c4x) (Has.o Tryz.func30) (.r (.s (.y 2 (gP q) bF (Yes.b aB) (.n3 (.y 6 (iJ q) bF (Yes.b aB) (.rn (.c 1 (X7 q  ([]:Heap)) (.y 2 (bB (!(J3 q))) bF (Yes.b kC) (.rn (.c 1 (dS q  ([]:Heap)) (.y 2 (bB (!(opM q))) bT (Yes.b X4) (.ru (.c 0 ((U3 (ByteArray.mk #[111,112]) 12 oa).lift kr kr []) (.q 0 (AV.iface 166 b2n)))))))))))))))
def b9p:Ann:={ refs:=[1],fin:=some 0 }
@[simp] abbrev qY :=(AV.ref [(AV.str (ByteArray.mk #[110,117,109,98,101,114])),(AV.iface 109 (iI 1))] 0)
theorem b4Q (q:Msg) (hk:q.kind=1) (hz:J3 q=true) (ho:opM q=true) (hn:G5 q.status=false):AC 30 [(AV.agg (Msg.row q))] [] ((AV.iface 166 qY),[]) :=
 q9 (fn:=Tryz.f30) (ann:=b9p) (Has.o Tryz.func30) (.r (.s (.y 2 (gP q) bF (Yes.b aB) (.n3 (.y 6 (iJ q) bF (Yes.b aB) (.rn (.c 1 (X7 q  ([]:Heap)) (.y 2 (bB (!(J3 q))) bF (Yes.b kC) (.rn (.c 1 (dS q  ([]:Heap)) (.y 2 (bB (!(opM q))) bF (Yes.b X4) (.rn (.c 2 (K8 q.code  ([]:Heap)) (.y 3 (bB (!(G5 q.code))) bF (Yes.b (by rw [(zZ hk hz).1]; with_unfolding_all rfl)) (.n3 (.c 7 (K8 q.status  ([]:Heap)) (.n (.y 8 (bB (!(G5 q.status))) bT (Yes.b (by rw [hn]; rfl)) (.u3 (.ru (.c 0 ((U3 (ByteArray.mk #[110,117,109,98,101,114]) 1 oa).lift kr kr []) (.q 0 (AV.iface 166 qY)))))))))))))))))))))))
def b9o:Ann:={ refs:=[1],fin:=some 0 }
theorem b4P (q:Msg) (hk:q.kind=1) (hz:J3 q=true) (ho:opM q=true) (hn:G5 q.status=true) (hs:q.seq < -1):AC 30 [(AV.agg (Msg.row q))] [] ((AV.iface 166 qY),[]) :=
 q9 (fn:=Tryz.f30) (ann:=b9o) (Has.o Tryz.func30) (.r (.s (.y 2 (gP q) bF (Yes.b aB) (.n3 (.y 6 (iJ q) bF (Yes.b aB) (.rn (.c 1 (X7 q  ([]:Heap)) (.y 2 (bB (!(J3 q))) bF (Yes.b kC) (.rn (.c 1 (dS q  ([]:Heap)) (.y 2 (bB (!(opM q))) bF (Yes.b X4) (.rn (.c 2 (K8 q.code  ([]:Heap)) (.y 3 (bB (!(G5 q.code))) bF (Yes.b (by rw [(zZ hk hz).1]; with_unfolding_all rfl)) (.n3 (.c 7 (K8 q.status  ([]:Heap)) (.n (.y 8 (bB (!(G5 q.status))) bF (Yes.b (by rw [hn]; rfl)) (.n3 (.y 13 (a0N q) bT (Yes.b (decide_eq_true hs)) (.ru (.c 0 ((U3 (ByteArray.mk #[110,117,109,98,101,114]) 1 oa).lift kr kr []) (.q 0 (AV.iface 166 qY))))))))))))))))))))))))
theorem b9r (q : Msg) (hk : q.kind = 1) (hr : I8 q = false) : AC 30 [(AV.agg (Msg.row q))] [] ((AV.iface 166 (iH q)), []) := by
  cases hz : J3 q with
  | false => have e : iH q = jC [122, 101, 114, 111] 12 := by unfold iH; rw [if_pos hz]
             rw [e]; exact b9m q hk hz
  | true =>
    cases ho : opM q with
    | false => have e : iH q = jC [111, 112] 12 := by unfold iH; rw [if_neg (by rw [hz]; simp), if_pos ho]
               rw [e]; exact b9n q hk hz ho
    | true =>
      have e : iH q = jC [110, 117, 109, 98, 101, 114] 1 := by unfold iH; rw [if_neg (by rw [hz]; simp), if_neg (by rw [ho]; simp)]
      rw [e]
      cases hn : G5 q.status with
      | false => exact b4Q q hk hz ho hn
      | true =>
        refine b4P q hk hz ho hn ?_
        obtain ⟨c1, c2, c3, c4, c5⟩ := zZ hk hz
        have hw : G5 0 = true := by with_unfolding_all rfl
        by_cases h : q.seq < -1
        · exact h
        · have : I8 q = true := by
            with_unfolding_all
              unfold I8
              rw [hz, ho, c1, hw, hn, c4, c5, hk, decide_eq_true (show -1 ≤ q.seq by omega)]
              rfl
          rw [this] at hr; simp at hr
theorem c5d (q:Msg) (hk:q.kind=1) (hr:I8 q=false) (H:Heap):AC 30 [(AV.agg (Msg.row q))] H ((AV.iface 166 (iH q)),H):=(b9r q hk hr).lift kr (by simp [AV.bdd,AV.bdds]) H
attribute [local irreducible] iH
def c4H:Ann:={ refs:=[4],gha:=[(5,.frzf 6 11 9),(5,.frzf 6 12 2),(5,.any 7 9)],base:=6,fin:=some 6 }
@[simp] abbrev c5B (a:Msg):=(AV.tup [(AV.agg [(iI 2),(iI a.op),z_,(iI 1),(iI a.tag),z_,z_,(AV.str a.key.app),(AV.str a.key.id),bF,(AV.int .u32 0),(sA 9 (mC [])),(sA 2 (mK []))]),(sA 9 [])])
theorem b9Y (l:l9E) (g:Nat) (al:l9K) (ga:Nat) (gf gl gt nd:Int) (st:l8) (q:Msg) (now:Int) (hk:¬ q.kind=1):AC 31 [(oO 5 0 0 0),(AV.agg (Msg.row q)),(iI now)] (O5 g l gf gl gt al ga nd st) ((AV.tup [(AV.agg (Msg.row (hdM q 1))),(sA 9 (mC ([]:l9C)))]),(O5 g l gf gl gt al ga nd st)) :=
 q9 (fn:=Tryz.f31) (ann:=c4H) (Has.o Tryz.func31) (.r (.s (.c 1 ((jE now).lift kr kr (c1H g l gf gl gt al ga nd st)) (.s (.s (.h' (a3g g l gf gl gt al ga nd st q) (.y 2 (bB (q.kind != 1)) bT (Yes.b (by simpa using hk)) (.u3 (.ru (.s (.o (rfl:0=0) (.o (rfl:0=0) (.g (.h' (O5 g l gf gl gt al ga nd st) (.q 6 (c5B q))))))))))))))))
def c4J:Ann:={ refs:=[4],gha:=[(5,.frzf 6 11 9),(5,.frzf 6 12 2),(5,.any 7 9)],base:=6,fin:=some 6 }
theorem c0c (l:l9E) (g:Nat) (al:l9K) (ga:Nat) (gf gl gt nd:Int) (st:l8) (q:Msg) (now:Int) (hk:q.kind=1) (hr:I8 q=false):AC 31 [(oO 5 0 0 0),(AV.agg (Msg.row q)),(iI now)] (O5 g l gf gl gt al ga nd st) ((AV.tup [(AV.agg (Msg.row (hdM q 1))),(sA 9 (mC ([]:l9C)))]),(O5 g l gf gl gt al ga nd st)) :=
 q9 (fn:=Tryz.f31) (ann:=c4J) (Has.o Tryz.func31) (.r (.s (.c 1 ((jE now).lift kr kr (c1H g l gf gl gt al ga nd st)) (.s (.s (.h' (a3g g l gf gl gt al ga nd st q) (.y 2 (bB (q.kind != 1)) bF (Yes.b aB) (.n2 (.c 5 (c5d q oa oa (a3g g l gf gl gt al ga nd st q)) (.n (.ru (.s (.o (rfl:0=0) (.o (rfl:0=0) (.g (.h' (O5 g l gf gl gt al ga nd st) (.q 6 (c5B q))))))))))))))))))
end Go.Proofs.YtmghjcbabebanaaGreat.AM
namespace Go.Proofs.YtmghjcbabebanaaGreat.AM
open Go Go.Proofs.YtmghjcbabebanaaGreat
attribute [local irreducible] D7 D9 F3 F6 G7 H7 H9 I5 J6 Q0 T9 aW atC eT j6 l5 l7 l9 lK ofB okS p9 r9 y9
def b2A:Ann:={ base:=4,fin:=some 4 }
@[simp] abbrev wX (a:l9K) (b:Nat):=[[(iN ((List.length a))),(AV.osl 3 b 2 0 (List.length (l5 a)))]]
@[simp] abbrev lU (a:l9K) (b:Nat):Ob:=(o_ 0 2 (wX a b))
@[simp] abbrev rD (a:Int) (b:Nat) (c:Nat) (d:l9E) (e:l9K) (f:Nat):Heap:=[aI a b c,(o_ b 10 (mE d)),lU e f,(o_ f 2 (mK (l5 e)))]
@[simp] abbrev lC (a:Int) (b:Nat) (c:Nat) (d:l9E) (e:l9K) (f:Nat):Heap:=[aI a b c,(o_ b 10 (mE d)),lU e f,(o_ f 2 (mK (l5 e))),Z7]
@[simp] abbrev Y4 (a:l9E):=(AV.int .u32 (ofB (List.map Entry.card a)))
theorem zX (most:Int) (l:l9E) (g n:Nat) (al:l9K) (ga:Nat) (hn:n=l.length) (hl:l.length < 1000) (ha:al.length < 1000000):AC 160 [(oO 0 0 0 0),(oO 2 0 0 0)] (rD most g n l al ga) ((AV.agg [(iI 2),(iI 5),z_,z_,z_,z_,(iN al.length),e_,e_,bF,(Y4 l),(AV.sl .nil 0 []),(AV.sl .nil 0 [])]),(rD most g n l al ga)):=by
 have hm:(List.map Entry.card l).length=l.length:=List.length_map _
 exact q9 (fn:=Tryz.f160) (ann:=b2A) (Has.o Tryz.func160) (.r (.s (.c 1 (j6.put2 [2,3] (lC most g n l al ga) (iN al.length) (lC most g n l al ga) (b8M al ga ) (rlD) (rlD)) (.c 3 (j6.put2 [0,1] (lC most g n l al ga) (sA 9 (mC (l.map (·.card)))) (lC most g n l al ga) (aN most l g n oa oa) (rlF) (rlF)) (.c 4 ((a5q (l.map (·.card)) oa).lift kr kr (lC most g n l al ga)) (.q 4 (AV.agg [(iI 2),(iI 5),z_,z_,z_,z_,(iN al.length),e_,e_,bF,(AV.int .u32 (ofB (l.map (·.card)))),(AV.sl .nil 0 []),(AV.sl .nil 0 [])])))))))
def b1C:Ann:={ base:=4,fin:=some 4 }
@[simp] abbrev b3a (a:Int) (b:Nat) (c:Nat) (d:l9E) (e:l9K) (f:Nat):Heap:=[aI a b c,(o_ b 10 (mE d)),lU e f,(o_ f 2 (mK (l5 e))),Z7,Z7]
@[simp] abbrev c1G (a:Int) (b:Nat) (c:Nat) (d:l9E) (e:l9K) (f:Nat):Heap:=[aI a b c,(o_ b 10 (mE d)),lU e f,(o_ f 2 (mK (l5 e))),Z7,(o_ 0 13 [[(iI 2),(iI 5),z_,z_,z_,z_,(iN e.length),e_,e_,bF,(Y4 d),(AV.sl .nil 0 []),(AV.sl .nil 0 [])]])]
@[simp] abbrev wW (a:l9E):=(sA 9 (mC (T9 (List.map Entry.card a))))
theorem qQ (most:Int) (l:l9E) (g n:Nat) (al:l9K) (ga:Nat) (hn:n=l.length) (hl:l.length < 1000) (ha:al.length < 1000000):AC 109 [(oO 0 0 0 0),(oO 2 0 0 0)] (rD most g n l al ga) ((AV.agg [(iI 2),(iI 5),z_,z_,z_,z_,(iN al.length),e_,e_,bT,(Y4 l),(wW l),(AV.sl .nil 0 [])]),(rD most g n l al ga)):=by
 have hm:(List.map Entry.card l).length=l.length:=List.length_map _
 exact q9 (fn:=Tryz.f109) (ann:=b1C) (Has.o Tryz.func109) (.r (.s (.n2 (.rn (.c 2 (j6.put2 [0,1,2,3] (b3a most g n l al ga) (AV.agg [(iI 2),(iI 5),z_,z_,z_,z_,(iN al.length),e_,e_,bF,(Y4 l),(AV.sl .nil 0 []),(AV.sl .nil 0 [])]) (b3a most g n l al ga) (zX most l g n al ga oa oa oa) (rlE) (rlE)) (.s (.c 1 (j6.put2 [0,1] (c1G most g n l al ga) (sA 9 (mC (l.map (·.card)))) (c1G most g n l al ga) (aN most l g n oa oa) (rlF) (rlF)) (.c 2 ((a1k (l.map (·.card)) oa).lift kr kr (c1G most g n l al ga)) (.g (.qr 4 (AV.agg [(iI 2),(iI 5),z_,z_,z_,z_,(iN al.length),e_,e_,bT,(Y4 l),(sA 9 (mC (T9 (l.map (·.card))))),(AV.sl .nil 0 [])])))))))))))
def nK:Ann:={ gh:=[(16,.frzf 9 11 9)],gha:=[(6,.virf 9 11 9),(15,.cut 7)],base:=4,fin:=some 4,live:=[(8,[0,6,9,36,37,38])],out:=[(8,[0,6,9,36,37,38])] }
@[simp] abbrev c6q (a:l9K) (b:Nat):Fr:=(mkF 61 [(0,(oO 0 0 0 0)),(6,(oO 4 0 0 0)),(9,(oO 5 0 0 0)),(36,(sA 2 (mK a))),(37,(iN a.length)),(38,(iN (b+1)))])
@[simp] abbrev c3e (a:l9K) (b:l9E) (c:Nat) (d:Nat):Ob:=(o_ 0 13 [[(iI 2),(iI 5),z_,z_,z_,z_,(iN a.length),e_,e_,bF,(Y4 b),(wY c d),(AV.sl .nil 0 [])]])
@[simp] abbrev c6p (a:Int) (b:Nat) (c:Nat) (d:l9E) (e:l9K) (f:Nat) (g:Nat) (h:Nat) (i:l9C) (j:l9K) (k:Nat):Heap:=[aI a b c,(o_ b 10 (mE d)),lU e f,(o_ f 2 (mK (l5 e))),Z7,c3e e d g h,(o_ (g+1) 9 (mC (i++[(r9 d (nth j k)).card])))]
@[simp] abbrev c6o (a:Int) (b:Nat) (c:Nat) (d:l9E) (e:l9K) (f:Nat) (g:Nat) (h:Nat) (i:l9C) (j:l9K) (k:Nat):Heap:=[aI a b c,(o_ b 10 (mE d)),lU e f,(o_ f 2 (mK (l5 e))),Z7,c3e e d g h,(o_ (g+1) 9 (mC (i++[(j5.mk (nth j k) 2 0 1 (l8.mk 0 0 0) true)])))]
@[simp] abbrev c1F (a:l9K) (b:Nat):Fr:=(mkF 61 [(0,(oO 0 0 0 0)),(6,(oO 4 0 0 0)),(9,(oO 5 0 0 0)),(36,(sA 2 (mK a))),(37,(iN a.length)),(38,(iN b))])
@[simp] abbrev c3d (a:l9K) (b:l9E) (c:Nat) (d:Nat):Ob:=(o_ 0 13 [[(iI 2),(iI 5),z_,z_,z_,z_,(iN a.length),e_,e_,bF,(Y4 b),(AV.osl 6 c 9 0 d),(AV.sl .nil 0 [])]])
@[simp] abbrev c1E (a:Int) (b:Nat) (c:Nat) (d:l9E) (e:l9K) (f:Nat) (g:Nat) (h:Nat) (i:l9C):Heap:=[aI a b c,(o_ b 10 (mE d)),lU e f,(o_ f 2 (mK (l5 e))),Z7,c3d e d g h,(o_ g 9 (mC i))]
@[simp] abbrev a6K (a:l9K) (b:Nat):=[[(AV.str (nth a b).app),(AV.str (nth a b).id),(iI 2),z_,(iI 1),z_,z_,z_,bT]]
@[simp] abbrev c3i (a:Int) (b:Nat) (c:Nat) (d:l9E) (e:l9K) (f:Nat) (g:Nat) (h:Nat) (i:l9C) (j:l9K) (k:Nat):Heap:=[aI a b c,(o_ b 10 (mE d)),lU e f,(o_ f 2 (mK (l5 e))),Z7,c3d e d g h,(o_ g 9 (mC i)),(o_ 0 2 [(Key.row (nth j k))]),(o_ 0 9 (a6K j k)),(o_ 0 10 [[e_,e_,z_,z_,z_,z_,z_,z_,bF,z_]])]
@[simp] abbrev b2m :=(l9 Tryz.prog (X nK) (y7 Tryz.f110 0))
theorem zR (most:Int) (l:l9E) (g:Nat) (n:Nat) (al:l9K) (ga:Nat) (ks:l9K) (out:l9C) (k:Nat) (gc:Nat) (i:Nat) (hn:n=l.length) (hl:l.length < 1000) (ha:al.length < 1000000) (hk:ks.length < 1000000) (hko:k=out.length) (hki:k<=i) (hle_:i<=ks.length) {eX:Ex} {FX:Fr} {HX:Heap} (k1:(decide ((i:Int) < (ks.length:Int)))=true->(y9 l (nth ks i))=true->l7 b2m (some [0,6,9,36,37,38]) (some [0,6,9,36,37,38]) (c6q ks i) (c6p most g n l al ga gc k out ks i) eX FX HX) (k2:(decide ((i:Int) < (ks.length:Int)))=true->(y9 l (nth ks i))=false->l7 b2m (some [0,6,9,36,37,38]) (some [0,6,9,36,37,38]) (c6q ks i) (c6o most g n l al ga gc k out ks i) eX FX HX) (k3:(decide ((i:Int) < (ks.length:Int)))=false->((.exit 0:Ex),(c1F ks i),(c1E most g n l al ga gc k out))=(eX,FX,HX)):l7 b2m (some [0,6,9,36,37,38]) (some [0,6,9,36,37,38]) (c1F ks i) (c1E most g n l al ga gc k out) eX FX HX :=
 K7 (.r (.g (.two (decide ((i:Int) < (ks.length:Int))) (fun h1 h1'=>(.r (.h' [(o_ 0 2 (cw_ most g n)),(o_ g 10 (mE l)),(o_ 0 2 (wX al ga)),(o_ ga 2 (mK (l5 al))),(o_ 0 13 [[z_,z_,z_,z_,z_,z_,z_,e_,e_,bF,(AV.int .u32 0),(AV.sl .nil 0 []),(AV.sl .nil 0 [])]]),(o_ 0 13 [[(iI 2),(iI 5),z_,z_,z_,z_,(iN al.length),e_,e_,bF,(Y4 l),(AV.osl 6 gc 9 0 k),(AV.sl .nil 0 [])]]),(o_ gc 9 (mC out)),(o_ 0 2 [[e_,e_]])] (.is 0 2 2 (mK ks) (i:Int) (Key.row (nth ks i)) (O9.mk _ ow ow) (.s (.s (.c 2 (j6.put2 [0,1] (c3i most g n l al ga gc k out ks i) (AV.tup [(AV.agg (Entry.row (r9 l (nth ks i)))),(bB (y9 l (nth ks i)))]) (c3i most g n l al ga gc k out ks i) (dL most l (nth ks i) g n oa oa) (rlF) (rlF)) (.s (.g (.two (y9 l (nth ks i)) (fun h2 h2'=>(.r (.s (.h' [(o_ 0 2 (cw_ most g n)),(o_ g 10 (mE l)),(o_ 0 2 (wX al ga)),(o_ ga 2 (mK (l5 al))),(o_ 0 13 [[z_,z_,z_,z_,z_,z_,z_,e_,e_,bF,(AV.int .u32 0),(AV.sl .nil 0 []),(AV.sl .nil 0 [])]]),(o_ 0 13 [[(iI 2),(iI 5),z_,z_,z_,z_,(iN al.length),e_,e_,bF,(Y4 l),(AV.osl 6 gc 9 0 k),(AV.sl .nil 0 [])]]),(o_ gc 9 (mC out)),(o_ 0 2 [(Key.row (nth ks i))]),(o_ 0 9 [(j5.row (r9 l (nth ks i)).card)]),(o_ 0 10 [(Entry.row (r9 l (nth ks i)))])] (.ap 4 30 (AV.osl 6 gc 9 0 k) (AV.sl .clip 9 [(j5.row (r9 l (nth ks i)).card)]) (wY gc k) [(o_ 0 2 (cw_ most g n)),(o_ g 10 (mE l)),(o_ 0 2 (wX al ga)),(o_ ga 2 (mK (l5 al))),(o_ 0 13 [[z_,z_,z_,z_,z_,z_,z_,e_,e_,bF,(AV.int .u32 0),(AV.sl .nil 0 []),(AV.sl .nil 0 [])]]),(o_ 0 13 [[(iI 2),(iI 5),z_,z_,z_,z_,(iN al.length),e_,e_,bF,(Y4 l),(AV.osl 6 gc 9 0 k),(AV.sl .nil 0 [])]]),(o_ (gc+1) 9 (mC (out++[(r9 l (nth ks i)).card]))),(o_ 0 2 [(Key.row (nth ks i))]),(o_ 0 9 [(j5.row (r9 l (nth ks i)).card)]),(o_ 0 10 [(Entry.row (r9 l (nth ks i)))])] (K3 (row:=j5.row) (l:=out) (x:=(r9 l (nth ks i)).card) (T:=tt) (e:=50) (te:=bP) (z:=1) (b:=24) (y:=[.sl .nil 0 []]) kr kr rfl E9 E9 kr fB rfl rfl iV) (.s (.h' [(o_ 0 2 (cw_ most g n)),(o_ g 10 (mE l)),(o_ 0 2 (wX al ga)),(o_ ga 2 (mK (l5 al))),(o_ 0 13 [[z_,z_,z_,z_,z_,z_,z_,e_,e_,bF,(AV.int .u32 0),(AV.sl .nil 0 []),(AV.sl .nil 0 [])]]),(o_ 0 13 [[(iI 2),(iI 5),z_,z_,z_,z_,(iN al.length),e_,e_,bF,(Y4 l),(wY gc k),(AV.sl .nil 0 [])]]),(o_ (gc+1) 9 (mC (out++[(r9 l (nth ks i)).card]))),(o_ 0 2 [(Key.row (nth ks i))]),(o_ 0 9 [(j5.row (r9 l (nth ks i)).card)]),(o_ 0 10 [(Entry.row (r9 l (nth ks i)))])] (.y 0 (.int .i64 (ca_ i)) (iN (i+1)) Yes.o (.h' (c6p most g n l al ga gc k out ks i) (.b 7 (.g (.l (k1 h1 h2))))))))))))) (fun h2 h2'=>(.r (.h' [(o_ 0 2 (cw_ most g n)),(o_ g 10 (mE l)),(o_ 0 2 (wX al ga)),(o_ ga 2 (mK (l5 al))),(o_ 0 13 [[z_,z_,z_,z_,z_,z_,z_,e_,e_,bF,(AV.int .u32 0),(AV.sl .nil 0 []),(AV.sl .nil 0 [])]]),(o_ 0 13 [[(iI 2),(iI 5),z_,z_,z_,z_,(iN al.length),e_,e_,bF,(Y4 l),(AV.osl 6 gc 9 0 k),(AV.sl .nil 0 [])]]),(o_ gc 9 (mC out)),(o_ 0 2 [(Key.row (nth ks i))]),(o_ 0 9 (a6K ks i)),(o_ 0 10 [(Entry.row (r9 l (nth ks i)))])] (.ap 4 30 (AV.osl 6 gc 9 0 k) (AV.sl .clip 9 (a6K ks i)) (wY gc k) [(o_ 0 2 (cw_ most g n)),(o_ g 10 (mE l)),(o_ 0 2 (wX al ga)),(o_ ga 2 (mK (l5 al))),(o_ 0 13 [[z_,z_,z_,z_,z_,z_,z_,e_,e_,bF,(AV.int .u32 0),(AV.sl .nil 0 []),(AV.sl .nil 0 [])]]),(o_ 0 13 [[(iI 2),(iI 5),z_,z_,z_,z_,(iN al.length),e_,e_,bF,(Y4 l),(AV.osl 6 gc 9 0 k),(AV.sl .nil 0 [])]]),(o_ (gc+1) 9 (mC (out++[(j5.mk (nth ks i) 2 0 1 (l8.mk 0 0 0) true)]))),(o_ 0 2 [(Key.row (nth ks i))]),(o_ 0 9 (a6K ks i)),(o_ 0 10 [(Entry.row (r9 l (nth ks i)))])] (K3 (row:=j5.row) (l:=out) (x:=(j5.mk (nth ks i) 2 0 1 (l8.mk 0 0 0) true)) (T:=tt) (e:=50) (te:=bP) (z:=1) (b:=24) (y:=[.sl .nil 0 []]) kr kr rfl E9 E9 kr fB rfl rfl iV) (.s (.h' [(o_ 0 2 (cw_ most g n)),(o_ g 10 (mE l)),(o_ 0 2 (wX al ga)),(o_ ga 2 (mK (l5 al))),(o_ 0 13 [[z_,z_,z_,z_,z_,z_,z_,e_,e_,bF,(AV.int .u32 0),(AV.sl .nil 0 []),(AV.sl .nil 0 [])]]),(o_ 0 13 [[(iI 2),(iI 5),z_,z_,z_,z_,(iN al.length),e_,e_,bF,(Y4 l),(wY gc k),(AV.sl .nil 0 [])]]),(o_ (gc+1) 9 (mC (out++[(j5.mk (nth ks i) 2 0 1 (l8.mk 0 0 0) true)]))),(o_ 0 2 [(Key.row (nth ks i))]),(o_ 0 9 (a6K ks i)),(o_ 0 10 [(Entry.row (r9 l (nth ks i)))])] (.y 0 (.int .i64 (ca_ i)) (iN (i+1)) Yes.o (.h' (c6o most g n l al ga gc k out ks i) (.b 7 (.g (.l (k2 h1 h2)))))))))))))))))))))) (fun h1 h1'=>(.l (k3 h1))))))
def kW (most:Int) (l:List Entry) (g:Nat) (n:Nat) (al:List Key) (ga:Nat) (ks:List Key) (i:Nat) (s:(List j5) × Nat × Nat):(List j5) × Nat × Nat:=(if (y9 l (nth ks i))=true then (s.1++[(r9 l (nth ks i)).card],(s.2.1+1),(s.2.2+1)) else (s.1++[(j5.mk (nth ks i) 2 0 1 (l8.mk 0 0 0) true)],(s.2.1+1),(s.2.2+1)))
theorem a8F (most:Int) (l:l9E) (g:Nat) (n:Nat) (al:l9K) (ga:Nat) (ks:l9K) (hn:n=l.length) (hl:l.length < 1000) (ha:al.length < 1000000) (hk:ks.length < 1000000)  (r_:Nat):∀ (out:l9C) (k:Nat) (gc:Nat) (i:Nat) (sF:(l9C) × Nat × Nat),i+r_=ks.length->k=out.length->k<=i->sF=iter (kW most l g n al ga ks) r_ i (out,k,gc) ->
 l7 (l9 Tryz.prog (X nK) (y7 Tryz.f110 0)) (some [0,6,9,36,37,38]) (some [0,6,9,36,37,38]) (c1F ks i) (c1E most g n l al ga gc k out) (.exit 0) (mkF 61 [(0,(oO 0 0 0 0)),(6,(oO 4 0 0 0)),(9,(oO 5 0 0 0)),(36,(sA 2 (mK ks))),(37,(iN ks.length)),(38,(iN ks.length))]) [(o_ 0 2 [[(iI most),(AV.osl 1 g 10 0 n)]]),(o_ g 10 (mE l)),(o_ 0 2 [[(iN ((List.length al))),(AV.osl 3 ga 2 0 (List.length (l5 al)))]]),(o_ ga 2 (mK (l5 al))),(o_ 0 13 [[z_,z_,z_,z_,z_,z_,z_,e_,e_,bF,(AV.int .u32 0),(AV.sl .nil 0 []),(AV.sl .nil 0 [])]]),(o_ 0 13 [[(iI 2),(iI 5),z_,z_,z_,z_,(iN al.length),e_,e_,bF,(AV.int .u32 (ofB (List.map Entry.card l))),(AV.osl 6 sF.2.2 9 0 sF.2.1),(AV.sl .nil 0 [])]]),(o_ sF.2.2 9 (mC sF.1))]:=by
 induction r_ with
 | zero =>
  intro out k gc i sF hi_ hko hki  hF
  obtain rfl:ks.length=i:=by omega
  have e_:sF=(out,k,gc):=hF
  refine zR most l g n al ga ks out k gc ks.length hn hl ha hk hko hki (Nat.le_refl _) (fun h _=>by simp at h <;> omega) (fun h _=>by simp at h <;> omega) (fun _=>?_)
  first | done | rfl | (rw [e_]; done) | (rw [e_]; rfl)
 | succ r_ ih =>
  intro out k gc i sF hi_ hko hki  hF
  refine zR most l g n al ga ks out k gc i hn hl ha hk hko hki ow (fun h1 h2=>?_) (fun h1 h2=>?_) (fun h=>by simp at h <;> omega)
  · exact ih (out++[(r9 l (nth ks i)).card]) (k+1) (gc+1) (i+1) sF ow R6 R6  (by rw [hF] <;> simp only [iter,kW,h2,if_true,Bool.false_eq_true,if_false])
  · exact ih (out++[(j5.mk (nth ks i) 2 0 1 (l8.mk 0 0 0) true)]) (k+1) (gc+1) (i+1) sF ow R6 R6  (by rw [hF] <;> simp only [iter,kW,h2,if_true,Bool.false_eq_true,if_false])
theorem a8G (most:Int) (l:l9E) (g n:Nat) (al:l9K) (ga:Nat) (ks:l9K):(ks.map (atC l),(ks.map (atC l)).length,(ks.map (atC l)).length)=iter (kW most l g n al ga ks) ks.length 0 ([],0,0):=by
 rw [fI (kW most l g n al ga ks) (fun s k=>(s.1++[atC l k],s.2.1+1,s.2.2+1)) ks (fun i s hi=>?_)]
 · rw [b5M (atC l) ks]; simp
 · with_unfolding_all simp only [kW,atC,c2u]
   by_cases h1:y9 l (nth ks i)=true <;> simp [h1]
@[simp] abbrev c3h (a:Int) (b:Nat) (c:Nat) (d:l9E) (e:l9K) (f:Nat):Heap:=[aI a b c,(o_ b 10 (mE d)),lU e f,(o_ f 2 (mK (l5 e))),Z7,(o_ 0 13 [[(iI 2),(iI 5),z_,z_,z_,z_,(iN e.length),e_,e_,bF,(Y4 d),(AV.osl 6 0 9 0 0),(AV.sl .nil 0 [])]]),(o_ 0 9 (mC []))]
@[simp] abbrev c3g (a:l9K) (b:Int):Fr:=(mkF 61 [(0,(oO 0 0 0 0)),(6,(oO 4 0 0 0)),(9,(oO 5 0 0 0)),(36,(sA 2 (mK (H9 a b)))),(37,(iN ((H9 a b).length))),(38,(iN ((H9 a b).length)))])
@[simp] abbrev c3f (a:Int) (b:Nat) (c:Nat) (d:l9E) (e:l9K) (f:Nat) (g:Int):Heap:=[aI a b c,(o_ b 10 (mE d)),lU e f,(o_ f 2 (mK (l5 e))),Z7,(o_ 0 13 [[(iI 2),(iI 5),z_,z_,z_,z_,(iN e.length),e_,e_,bF,(Y4 d),(AV.osl 6 (List.map (atC d) (H9 e g)).length 9 0 (List.map (atC d) (H9 e g)).length),(AV.sl .nil 0 [])]]),(o_ ((List.map (atC d) (H9 e g)).length) 9 (mC (List.map (atC d) (H9 e g))))]
theorem a6o (most:Int) (l:l9E) (g n:Nat) (al:l9K) (ga:Nat) (since:Int) (hn:n=l.length) (hl:l.length < 1000) (ha:al.length < 1000000) (hok:okS al since=true):AC 110 [(oO 0 0 0 0),(oO 2 0 0 0),(iI since)] (rD most g n l al ga) ((AV.agg [(iI 2),(iI 5),z_,z_,z_,z_,(iN al.length),e_,e_,bF,(Y4 l),(sA 9 (mC (List.map (atC l) (H9 al since)))),(AV.sl .nil 0 [])]),(rD most g n l al ga)):=by
 have hm:(List.map Entry.card l).length=l.length:=List.length_map _
 have hs:=a1i al since
 have hd:(List.map (atC l) (H9 al since)).length=(H9 al since).length:=List.length_map _
 exact q9 (fn:=Tryz.f110) (ann:=nK) (Has.o Tryz.func110) (.r (.s (.n2 (.rn (.c 2 (j6.put2 [2,3] (lC most g n l al ga) (AV.tup [(sA 2 (mK (H9 al since))),(bB (okS al since))]) (lC most g n l al ga) (a1h al ga since oa) (rlD) (rlD)) (.s (.h' (lC most g n l al ga) (.y 1 (bB (!(okS al since))) bF (Yes.b (by rw [hok]; rfl)) (.rn (.c 2 (j6.put2 [0,1,2,3] (b3a most g n l al ga) (AV.agg [(iI 2),(iI 5),z_,z_,z_,z_,(iN al.length),e_,e_,bF,(Y4 l),(AV.sl .nil 0 []),(AV.sl .nil 0 [])]) (b3a most g n l al ga) (zX most l g n al ga oa oa oa) (rlE) (rlE)) (.o (rfl:0=0) (.s (.h' (c3h most g n l al ga) (.y 1 (.int .i64 ((List.length (mK (H9 al since)):Nat):Int)) (iN ((H9 al since).length)) (Yes.len _ _ _) (.g (.loop (c3g al since) (show l7 b2m (some [0,6,9,36,37,38]) (some [0,6,9,36,37,38]) (mkF 61 [(0,(oO 0 0 0 0)),(6,(oO 4 0 0 0)),(9,(oO 5 0 0 0)),(36,(sA 2 (mK (H9 al since)))),(37,(iN ((H9 al since).length))),(38,z_)]) (c3h most g n l al ga) (.exit 0) (c3g al since) (c3f most g n l al ga since) from (a8F most l g n al ga (H9 al since) ow ow ow ow (List.length (H9 al since)) [] 0 0 0 (List.map (atC l) (H9 al since),(List.map (atC l) (H9 al since)).length,(List.map (atC l) (H9 al since)).length) ow rfl ow (a8G _ _ _ _ _ _ _))) (.r (.w 9 (mC (List.map (atC l) (H9 al since))) (And.intro rfl (And.intro (G9 (room:=none) kr om) (j5.y8 _ _)):0=0/\F5 (c3f most g n l al ga since) 9 (AV.osl 6 (List.map (atC l) (H9 al since)).length 9 0 (List.map (atC l) (H9 al since)).length)=some (mC (List.map (atC l) (H9 al since)))/\AV.D5 0 (mC (List.map (atC l) (H9 al since)))=true) (.g (.h' (rD most g n l al ga) (.q 4 (AV.agg [(iI 2),(iI 5),z_,z_,z_,z_,(iN al.length),e_,e_,bF,(Y4 l),(sA 9 (mC (List.map (atC l) (H9 al since)))),(AV.sl .nil 0 [])]))))))))))))))))))))))
theorem a6p (most:Int) (l:l9E) (g n:Nat) (al:l9K) (ga:Nat) (since:Int) (hn:n=l.length) (hl:l.length < 1000) (ha:al.length < 1000000) (hok:okS al since=false):AC 110 [(oO 0 0 0 0),(oO 2 0 0 0),(iI since)] (rD most g n l al ga) ((AV.agg [(iI 2),(iI 5),z_,z_,z_,z_,(iN al.length),e_,e_,bT,(Y4 l),(wW l),(AV.sl .nil 0 [])]),(rD most g n l al ga)):=by
 have hm:(List.map Entry.card l).length=l.length:=List.length_map _
 have hs:=a1i al since
 have hd:(List.map (atC l) (H9 al since)).length=(H9 al since).length:=List.length_map _
 exact q9 (fn:=Tryz.f110) (ann:=nK) (Has.o Tryz.func110) (.r (.s (.n2 (.rn (.c 2 (j6.put2 [2,3] (lC most g n l al ga) (AV.tup [(sA 2 (mK (H9 al since))),(bB (okS al since))]) (lC most g n l al ga) (a1h al ga since oa) (rlD) (rlD)) (.s (.h' (lC most g n l al ga) (.y 1 (bB (!(okS al since))) bT (Yes.b (by rw [hok]; rfl)) (.ru (.c 2 (j6.put2 [0,1,2,3] (lC most g n l al ga) (AV.agg [(iI 2),(iI 5),z_,z_,z_,z_,(iN al.length),e_,e_,bT,(Y4 l),(wW l),(AV.sl .nil 0 [])]) (lC most g n l al ga) (qQ most l g n al ga oa oa oa) (rlE) (rlE)) (.g (.h' (rD most g n l al ga) (.q 4 (AV.agg [(iI 2),(iI 5),z_,z_,z_,z_,(iN al.length),e_,e_,bT,(Y4 l),(wW l),(AV.sl .nil 0 [])]))))))))))))))
theorem a8E (most:Int) (l:l9E) (g n:Nat) (al:l9K) (ga:Nat) (since:Int) (hn:n=l.length) (hl:l.length < 1000) (ha:al.length < 1000000):AC 110 [(oO 0 0 0 0),(oO 2 0 0 0),(iI since)] [(o_ 0 2 [[(iI most),(AV.osl 1 g 10 0 n)]]),(o_ g 10 (mE l)),(o_ 0 2 [[(iN ((List.length al))),(AV.osl 3 ga 2 0 (List.length (l5 al)))]]),(o_ ga 2 (mK (l5 al)))] ((AV.agg [(iI 2),(iI 5),z_,z_,z_,z_,(iN al.length),e_,e_,(bB (!(okS al since))),(AV.int .u32 (ofB (List.map Entry.card l))),(sA 9 (mC (jF l al since))),(AV.sl .nil 0 [])]),[(o_ 0 2 [[(iI most),(AV.osl 1 g 10 0 n)]]),(o_ g 10 (mE l)),(o_ 0 2 [[(iN ((List.length al))),(AV.osl 3 ga 2 0 (List.length (l5 al)))]]),(o_ ga 2 (mK (l5 al)))]):=by
 cases h:okS al since with
 | true=>have h1:=a6o most l g n al ga since hn hl ha h; unfold jF; rw [if_pos h]; exact h1
 | false=>have h1:=a6p most l g n al ga since hn hl ha h; unfold jF; rw [if_neg (by rw [h]; simp)]; exact h1
def c0m (l:List Entry) (al:List Key) (seq tag:Int):Msg:=⟨2,5,0,0,tag,0,(al.length:Int),⟨⟨#[]⟩,⟨#[]⟩⟩,!(okS al seq),ofB (List.map Entry.card l),jF l al seq,[]⟩
def c0g (l:List Entry) (al:List Key) (tag:Int):Msg:=⟨2,5,0,0,tag,0,(al.length:Int),⟨⟨#[]⟩,⟨#[]⟩⟩,true,ofB (List.map Entry.card l),T9 (List.map Entry.card l),[]⟩
def gN (l:List Entry) (al:List Key) (seq tag:Int):Msg:=if seq = -1 then c0g l al tag else c0m l al seq tag
def a8C:Ann:={ refs:=[3],gha:=[(5,.frzf 4 11 9),(5,.frzf 4 12 2)],base:=6,fin:=some 6 }
@[simp] abbrev a4N (a:Nat) (b:l9E) (c:Int) (d:Int) (e:Int) (f:l9K) (g:Nat) (h:Int) (i:l8):Heap:=[R4 a b,(o_ a 10 (mE b)),I9 c d e,M9 f g,(o_ g 2 (mK (l5 f))),U7 h i,Z7,Z7]
@[simp] abbrev a4M (a:Nat) (b:l9E) (c:Int) (d:Int) (e:Int) (f:l9K) (g:Nat) (h:Int) (i:l8):Heap:=[R4 a b,(o_ a 10 (mE b)),I9 c d e,M9 f g,(o_ g 2 (mK (l5 f))),U7 h i,Z7,(o_ 0 13 [[(iI 2),(iI 5),z_,z_,z_,z_,(iN f.length),e_,e_,bT,(Y4 b),(wW b),(AV.sl .nil 0 [])]])]
theorem a6m (l:l9E) (g:Nat) (al:l9K) (ga:Nat) (gf gl gt nd:Int) (st:l8) (q:Msg) (hl:l.length < 1000) (ha:al.length < 100000) (hs:¬ q.seq = -1):AC 63 [(oO 5 0 0 0),(AV.agg (Msg.row q))] (O5 g l gf gl gt al ga nd st) ((AV.agg (Msg.row (c0m l al q.seq q.tag))),(O5 g l gf gl gt al ga nd st)) :=
 q9 (fn:=Tryz.f63) (ann:=a8C) (Has.o Tryz.func63) (.r (.s (.c 8 (j6.put2 [0,1,3,4] (a4N g l gf gl gt al ga nd st) (AV.agg [(iI 2),(iI 5),z_,z_,z_,z_,(iN al.length),e_,e_,bT,(Y4 l),(wW l),(AV.sl .nil 0 [])]) (a4N g l gf gl gt al ga nd st) (qQ (p9 32) l g (List.length l) al ga oa oa oa) (rlE) (rlE)) (.s (.h' (a4M g l gf gl gt al ga nd st) (.y 2 (bB (q.seq != (-1))) bT (Yes.b (by simpa using hs)) (.ru (.c 10 (j6.put2 [0,1,3,4] (a4M g l gf gl gt al ga nd st) (AV.agg [(iI 2),(iI 5),z_,z_,z_,z_,(iN al.length),e_,e_,(bB (!(okS al q.seq))),(Y4 l),(sA 9 (mC (jF l al q.seq))),(AV.sl .nil 0 [])]) (a4M g l gf gl gt al ga nd st) (a8E (p9 32) l g (List.length l) al ga q.seq oa oa oa) (rlE) (rlE)) (.s (.s (.o (rfl:0=0) (.o (rfl:0=0) (.g (.h' (O5 g l gf gl gt al ga nd st) (.q 6 (AV.agg [(iI 2),(iI 5),z_,z_,(iI q.tag),z_,(iN al.length),e_,e_,(bB (!(okS al q.seq))),(Y4 l),(sA 9 (mC (jF l al q.seq))),(sA 2 (mK []))]))))))))))))))))
def a8D:Ann:={ refs:=[3],gha:=[(5,.frzf 4 11 9),(5,.frzf 4 12 2)],base:=6,fin:=some 6 }
theorem a2n {p:Prop} (h:p:=by rw [hs]; rfl):p:=h
theorem a6n (l:l9E) (g:Nat) (al:l9K) (ga:Nat) (gf gl gt nd:Int) (st:l8) (q:Msg) (hl:l.length < 1000) (ha:al.length < 100000) (hs:q.seq = -1):AC 63 [(oO 5 0 0 0),(AV.agg (Msg.row q))] (O5 g l gf gl gt al ga nd st) ((AV.agg (Msg.row (c0g l al q.tag))),(O5 g l gf gl gt al ga nd st)) :=
 q9 (fn:=Tryz.f63) (ann:=a8D) (Has.o Tryz.func63) (.r (.s (.c 8 (j6.put2 [0,1,3,4] (a4N g l gf gl gt al ga nd st) (AV.agg [(iI 2),(iI 5),z_,z_,z_,z_,(iN al.length),e_,e_,bT,(Y4 l),(wW l),(AV.sl .nil 0 [])]) (a4N g l gf gl gt al ga nd st) (qQ (p9 32) l g (List.length l) al ga oa oa oa) (rlE) (rlE)) (.s (.h' (a4M g l gf gl gt al ga nd st) (.y 2 (bB (q.seq != (-1))) bF (Yes.b a2n) (.rn (.s (.o (rfl:0=0) (.o (rfl:0=0) (.g (.h' (O5 g l gf gl gt al ga nd st) (.q 6 (AV.agg [(iI 2),(iI 5),z_,z_,(iI q.tag),z_,(iN al.length),e_,e_,bT,(Y4 l),(wW l),(sA 2 (mK []))]))))))))))))))
theorem a8B (l:l9E) (g:Nat) (al:l9K) (ga:Nat) (gf gl gt nd:Int) (st:l8) (q:Msg) (hl:l.length < 1000) (ha:al.length < 100000):AC 63 [(oO 5 0 0 0),(AV.agg (Msg.row q))] [(o_ 0 2 [[(iI (p9 32)),(AV.osl 1 g 10 0 (List.length l))]]),(o_ g 10 (mE l)),(o_ 0 3 [[(iI gf),(iI gl),(iI gt)]]),(o_ 0 2 [[(iN ((List.length al))),(AV.osl 4 ga 2 0 (List.length (l5 al)))]]),(o_ ga 2 (mK (l5 al))),(o_ 0 7 [[(iI nd),(iI st.t),(iI st.node),(iI st.n),(oO 0 0 0 0),(oO 2 0 0 0),(oO 3 0 0 0)]])] ((AV.agg (Msg.row (gN l al q.seq q.tag))),[(o_ 0 2 [[(iI (p9 32)),(AV.osl 1 g 10 0 (List.length l))]]),(o_ g 10 (mE l)),(o_ 0 3 [[(iI gf),(iI gl),(iI gt)]]),(o_ 0 2 [[(iN ((List.length al))),(AV.osl 4 ga 2 0 (List.length (l5 al)))]]),(o_ ga 2 (mK (l5 al))),(o_ 0 7 [[(iI nd),(iI st.t),(iI st.node),(iI st.n),(oO 0 0 0 0),(oO 2 0 0 0),(oO 3 0 0 0)]])]):=by
 by_cases hs:q.seq = -1
 · have e:gN l al q.seq q.tag=c0g l al q.tag:=if_pos hs
   rw [e]; exact a6n l g al ga gf gl gt nd st q hl ha hs
 · have e:gN l al q.seq q.tag=c0m l al q.seq q.tag:=if_neg hs
   rw [e]; exact a6m l g al ga gf gl gt nd st q hl ha hs
attribute [local irreducible] gN iH w9
def c4I:Ann:={ refs:=[4],gha:=[(7,.any 7 9)],base:=6,fin:=some 6 }
@[simp] abbrev a4L (a:Nat) (b:l9E) (c:Int) (d:Int) (e:Int) (f:l9K) (g:Nat) (h:Int) (i:l8) (j:Msg):Heap:=[R4 a b,(o_ a 10 (mE b)),I9 c d e,M9 f g,(o_ g 2 (mK (l5 f))),U7 h i,Z7,(o_ 0 13 (c5C j))]
theorem b9Z (l:l9E) (g:Nat) (al:l9K) (ga:Nat) (gf gl gt nd:Int) (st:l8) (q:Msg) (now:Int) (hl:l.length < 1000) (ha:al.length < 100000) (hk:q.kind=1) (hr:I8 q=true) (ho:q.op=5):AC 31 [(oO 5 0 0 0),(AV.agg (Msg.row q)),(iI now)] (O5 g l gf gl gt al ga nd st) ((AV.tup [(AV.agg (Msg.row (gN l al q.seq q.tag))),(sA 9 (mC ([]:l9C)))]),(O5 g l gf gl gt al ga nd st)) :=
 q9 (fn:=Tryz.f31) (ann:=c4I) (Has.o Tryz.func31) (.r (.s (.c 1 ((jE now).lift kr kr [(o_ 0 2 (a0O g l)),(o_ g 10 (mE l)),(o_ 0 3 [[(iI gf),(iI gl),(iI gt)]]),(o_ 0 2 (a3b al ga)),(o_ ga 2 (mK (l5 al))),(o_ 0 7 (b2r nd st)),(o_ 0 13 [[z_,z_,z_,z_,z_,z_,z_,e_,e_,bF,(AV.int .u32 0),(AV.sl .nil 0 []),(AV.sl .nil 0 [])]])]) (.s (.s (.h' (a4L g l gf gl gt al ga nd st q) (.y 2 (bB (q.kind != 1)) bF (Yes.b aB) (.n2 (.c 5 ((aV q oa).lift kr kr (a4L g l gf gl gt al ga nd st q)) (.n (.rn (.y 2 (bB (q.op == 5)) bT (Yes.b X4) (.ru (.c 2 (j6.put2 [0,1,2,3,4,5] (a4L g l gf gl gt al ga nd st q) (AV.agg (Msg.row (gN l al q.seq q.tag))) (a4L g l gf gl gt al ga nd st q) (a8B l g al ga gf gl gt nd st q oa oa) (rlA) (rlA)) (.g (.h' (O5 g l gf gl gt al ga nd st) (.q 6 (AV.tup [(AV.agg (Msg.row (gN l al q.seq q.tag))),(sA 9 [])]))))))))))))))))))
structure DS where
 l:List Entry
 g:Nat
 al:List Key
 ga:Nat
 gf:Int
 gl:Int
 gt:Int
 st:l8
def DS.turn (s:DS) (nd:Int) (q:Msg) (now:Int):DS :=
 ⟨(tuR s.l s.g s.al s.ga s.gt nd s.st q now).l,(tuR s.l s.g s.al s.ga s.gt nd s.st q now).g,(tuR s.l s.g s.al s.ga s.gt nd s.st q now).al,(tuR s.l s.g s.al s.ga s.gt nd s.st q now).ga,s.gf,s.gl,(tuR s.l s.g s.al s.ga s.gt nd s.st q now).gt,(tuR s.l s.g s.al s.ga s.gt nd s.st q now).st⟩
structure HdR where
 m:Msg
 c:List j5
 s:DS
def hdD (nd:Int) (s:DS) (q:Msg) (now:Int):HdR :=
 if q.kind=1/\I8 q=true then
  if q.op=5 then ⟨gN s.l s.al q.seq q.tag,[],s⟩
  else ⟨hdM q (tuR s.l s.g s.al s.ga s.gt nd s.st q (w9 now)).code,(tuR s.l s.g s.al s.ga s.gt nd s.st q (w9 now)).c,s.turn nd q (w9 now)⟩
 else ⟨hdM q 1,[],s⟩
theorem c4v {q:Msg} (h:I8 q=true) (hk:q.kind=1) (h5:¬ q.op=5):1<=q.op/\q.op < 5/\0<=q.status/\q.status<=255:=by
 obtain ⟨a1,a2,a3,a4,a5,a6⟩:=a0w h
 with_unfolding_all
  unfold opM at a3
  unfold G5 at a5
  rw [if_pos (.inl hk),if_neg h5] at a3
  simp only [Bool.and_eq_true,decide_eq_true_eq] at a3 a5
  exact ⟨a3.1,a3.2.1,a5.1,a5.2⟩
theorem c4G (l:l9E) (g:Nat) (al:l9K) (ga:Nat) (gf gl gt nd:Int) (st:l8) (q:Msg) (now:Int) (hl:l.length < 1000) (ha:al.length < 100000) (hgt:0<=gt/\gt < 4611686018427387904):AC 31 [(oO 5 0 0 0),(AV.agg (Msg.row q)),(iI now)] [(o_ 0 2 [[(iI (p9 32)),(AV.osl 1 g 10 0 (List.length l))]]),(o_ g 10 (mE l)),(o_ 0 3 [[(iI gf),(iI gl),(iI gt)]]),(o_ 0 2 [[(iN ((List.length al))),(AV.osl 4 ga 2 0 (List.length (l5 al)))]]),(o_ ga 2 (mK (l5 al))),(o_ 0 7 [[(iI nd),(iI st.t),(iI st.node),(iI st.n),(oO 0 0 0 0),(oO 2 0 0 0),(oO 3 0 0 0)]])] ((AV.tup [(AV.agg (Msg.row (hdD nd (DS.mk l g al ga gf gl gt st) q now).m)),(sA 9 (mC (hdD nd (DS.mk l g al ga gf gl gt st) q now).c))]),[(o_ 0 2 [[(iI (p9 32)),(AV.osl 1 (hdD nd (DS.mk l g al ga gf gl gt st) q now).s.g 10 0 (List.length (hdD nd (DS.mk l g al ga gf gl gt st) q now).s.l))]]),(o_ ((hdD nd (DS.mk l g al ga gf gl gt st) q now).s.g) 10 (mE (hdD nd (DS.mk l g al ga gf gl gt st) q now).s.l)),(o_ 0 3 [[(iI (hdD nd (DS.mk l g al ga gf gl gt st) q now).s.gf),(iI (hdD nd (DS.mk l g al ga gf gl gt st) q now).s.gl),(iI (hdD nd (DS.mk l g al ga gf gl gt st) q now).s.gt)]]),(o_ 0 2 [[(iN ((List.length (hdD nd (DS.mk l g al ga gf gl gt st) q now).s.al))),(AV.osl 4 (hdD nd (DS.mk l g al ga gf gl gt st) q now).s.ga 2 0 (List.length (l5 (hdD nd (DS.mk l g al ga gf gl gt st) q now).s.al)))]]),(o_ ((hdD nd (DS.mk l g al ga gf gl gt st) q now).s.ga) 2 (mK (l5 (hdD nd (DS.mk l g al ga gf gl gt st) q now).s.al))),(o_ 0 7 [[(iI nd),(iI (hdD nd (DS.mk l g al ga gf gl gt st) q now).s.st.t),(iI (hdD nd (DS.mk l g al ga gf gl gt st) q now).s.st.node),(iI (hdD nd (DS.mk l g al ga gf gl gt st) q now).s.st.n),(oO 0 0 0 0),(oO 2 0 0 0),(oO 3 0 0 0)]])]):=by
 by_cases hk:q.kind=1
 · cases hr:I8 q with
   | false =>
    have e:hdD nd (DS.mk l g al ga gf gl gt st) q now=⟨hdM q 1,[],(DS.mk l g al ga gf gl gt st)⟩:=if_neg (by rw [hr]; simp)
    rw [e]; exact c0c l g al ga gf gl gt nd st q now hk hr
   | true =>
    by_cases ho:q.op=5
    · have e:hdD nd (DS.mk l g al ga gf gl gt st) q now=⟨gN l al q.seq q.tag,[],(DS.mk l g al ga gf gl gt st)⟩:=by unfold hdD; rw [if_pos ⟨hk,hr⟩,if_pos ho]
      rw [e]; exact b9Z l g al ga gf gl gt nd st q now hl ha hk hr ho
    · have e:hdD nd (DS.mk l g al ga gf gl gt st) q now=⟨hdM q (tuR l g al ga gt nd st q (w9 now)).code,(tuR l g al ga gt nd st q (w9 now)).c,(DS.mk l g al ga gf gl gt st).turn nd q (w9 now)⟩:=by unfold hdD; rw [if_pos ⟨hk,hr⟩,if_neg ho]
      obtain ⟨o1,o2,o3,_⟩:=c4v hr hk ho
      rw [e]; exact c0d l g al ga gf gl gt nd st q now hl ha hgt o1 o2 o3 hk hr
 · have e:hdD nd (DS.mk l g al ga gf gl gt st) q now=⟨hdM q 1,[],(DS.mk l g al ga gf gl gt st)⟩:=if_neg (fun z=>hk z.1)
   rw [e]; exact b9Y l g al ga gf gl gt nd st q now hk
attribute [local irreducible] Tp.F9 Tp.G8 Tp.card Tp.cards Tp.key Tp.keyT Tp.next Tp.step
structure vG where
 kind:Int
 m:Msg
 more:Int
 late:Int
 c:j5
 deriving Inhabited
def vG.row (x:vG):List AV:=[(iI x.kind),(iI x.m.kind),(iI x.m.op),(iI x.m.status),(iI x.m.code),(iI x.m.tag),(iI x.m.n),(iI x.m.seq),(AV.str x.m.key.app),(AV.str x.m.key.id),(bB x.m.full),(AV.int .u32 x.m.sum),(sA 9 (mC x.m.cards)),(sA 2 (mK x.m.keys)),(iI x.more),(iI x.late),(AV.str x.c.key.app),(AV.str x.c.key.id),(iI x.c.status),(iI x.c.over),(iI x.c.lease),(iI x.c.stamp.t),(iI x.c.stamp.node),(iI x.c.stamp.n),(bB x.c.gone)]
@[simp] theorem vG.O4 (n:Nat) (x:vG):AV.bdds n x.row=true:=by simp [vG.row,AV.bdds,AV.bdd]
@[simp] theorem vG.y8 (n:Nat) (l:List vG):AV.D5 n (l.map vG.row)=true:=by induction l with | nil=>rfl | cons x l ih=>simp [AV.D5,vG.O4,ih]
end Go.Proofs.YtmghjcbabebanaaGreat.AM
namespace Go.Proofs.YtmghjcbabebanaaGreat.AM
open Go
def kE (e:Entry):Key:=e.card.key
abbrev c6J (l:List Key):Prop:=List.Pairwise (fun a b:Key=>C9 a b=true) l
abbrev Y7 (l:List Entry):Prop:=c6J (l.map kE)
theorem a0e {l:l9E} (h:Y7 l) {i j:Nat} (hij:i < j) (hj:j < l.length):C9 (nth l i).card.key (nth l j).card.key=true:=by
 have h1:List.Pairwise (fun a b:Entry=>C9 a.card.key b.card.key=true) l:=List.pairwise_map.1 h
 exact wB.1 h1 i j hij hj
theorem a3W {l:l9E} (hs:Y7 l) {i:Nat} (hi:i < l.length):D9 l (nth l i).card.key=i :=
 b5P (Nat.le_of_lt hi) (fun j hj=>a0e hs hj hi) fun _=>pX _
theorem a6i {l:l9E} (hs:Y7 l) {e:Entry} (he:e∈l):y9 l e.card.key=true/\r9 l e.card.key=e:=by
 obtain ⟨i,hi,rfl⟩:=U6 he
 have h1:=a3W hs hi
 have h2:y9 l (nth l i).card.key=true:=by
  unfold y9; rw [h1]; simp [hi,Key.uP]
 exact ⟨h2,by unfold r9; rw [if_pos h2,h1]⟩
theorem iG {l:l9E} {k:Key} (h:y9 l k=true):r9 l k∈l/\(r9 l k).card.key=k:=by
 have h1:=oP h
 unfold r9; rw [if_pos h]
 refine ⟨iO h1,?_⟩
 unfold y9 at h; rw [Bool.and_eq_true] at h
 exact (Key.sI _ _).1 h.2
theorem c0l {l:l9E} (hs:Y7 l) (k:Key):y9 l k=true↔∃ e∈l,e.card.key=k :=
 ⟨fun h=>⟨_,(iG h).1,(iG h).2⟩,fun ⟨e,he,hk⟩=>hk ▸ (a6i hs he).1⟩
theorem b8L {l:l9E} {e:Entry} (h:y9 l e.card.key=true):(l.set (D9 l e.card.key) e).map kE=l.map kE:=by
 have h1:=oP h
 have h2:=(iG h).2
 unfold r9 at h2; rw [if_pos h] at h2
 rw [List.map_set]
 refine List.ext_getElem yf_ fun i hi hi2=>?_
 rw [List.getElem_set]
 split
 · rename_i e1; subst e1
   rw [List.getElem_map,<- X3 h1]; exact h2.symm
 · rfl
theorem fD {most:Int} {l:l9E} (hs:Y7 l) (e:Entry):Y7 (F6 most l e):=by
 unfold F6
 split
 · rename_i h
   show c6J ((l.set (D9 l e.card.key) e).map kE)
   rw [b8L h]; exact hs
 · rename_i h
   split
   · exact hs
   · have hp:=Y6 l e.card.key
     have hs':List.Pairwise (fun a b:Entry=>C9 a.card.key b.card.key=true) l:=List.pairwise_map.1 hs
     refine List.pairwise_map.2 (List.pairwise_append.2 ⟨hs'.sublist (List.take_sublist _ _),List.pairwise_cons.2 ⟨fun x hx=>?_,hs'.sublist (List.drop_sublist _ _)⟩,fun a ha b hb=>?_⟩)
     · obtain ⟨j,hj,rfl⟩:=U6 hx
       rw [List.length_drop] at hj
       rw [kN]
       have h0:D9 l e.card.key < l.length:=by omega
       have h1:=a0H h0
       have h2:C9 e.card.key (nth l (D9 l e.card.key)).card.key=true:=by
        cases hb:C9 e.card.key (nth l (D9 l e.card.key)).card.key with
        | true=>rfl
        | false =>
         have:=a6V h1 hb
         exfalso; apply h; unfold y9; rw [this,Key.uP]; simp [h0]
       rcases Nat.eq_zero_or_pos j with rfl | hj0
       · exact h2
       · exact a6W h2 (a0e hs ya_ ya_)
     · obtain ⟨i,hi,rfl⟩:=U6 ha
       rw [List.length_take] at hi
       rw [bR ya_]
       rcases List.mem_cons.1 hb with rfl | hb
       · exact a0G (k:=b.card.key) ya_
       · obtain ⟨j,hj,rfl⟩:=U6 hb
         rw [List.length_drop] at hj
         rw [kN]
         exact a0e hs ya_ ya_
theorem a5Q {most:Int} {l:l9E} (hs:Y7 l) {e:Entry} (h:y9 l e.card.key=true\/(l.length:Int) < most) (x:Entry):x∈F6 most l e↔x=e\/(x∈l/\x.card.key≠e.card.key):=by
 have hp:=Y6 l e.card.key
 unfold F6
 split
 · rename_i hb
   have h1:=oP hb
   have h2:=(iG hb).2
   unfold r9 at h2; rw [if_pos hb] at h2
   constructor
   · intro hx
     obtain ⟨i,hi,e1⟩:=List.getElem_of_mem hx
     rw [List.getElem_set] at e1
     split at e1
     · exact .inl e1.symm
     · rename_i hne
       rw [List.length_set] at hi
       refine .inr ⟨e1 ▸ List.getElem_mem _,fun hk=>hne ?_⟩
       rw [<- e1,<- X3 hi] at hk
       rw [<- hk]; exact a3W hs hi
   · rintro (rfl | ⟨hx,hk⟩)
     · exact List.mem_set h1 _
     · obtain ⟨i,hi,e1⟩:=List.getElem_of_mem hx
       have hne:D9 l e.card.key≠i:=fun q=>hk (by rw [<- e1,<- X3 hi,<- q]; exact h2)
       have:(l.set (D9 l e.card.key) e)[i]'yc_=x:=by rw [List.getElem_set,if_neg hne]; exact e1
       exact this ▸ List.getElem_mem _
 · rename_i hb
   have hlt:(l.length:Int) < most:=h.resolve_left hb
   rw [if_neg ya_]
   have hno:∀ y∈l,y.card.key≠e.card.key:=fun y hy hk=>hb ((c0l hs _).2 ⟨y,hy,hk⟩)
   rw [List.mem_append,List.mem_cons]
   constructor
   · rintro (hx | rfl | hx)
     · exact .inr ⟨List.mem_of_mem_take hx,hno _ (List.mem_of_mem_take hx)⟩
     · exact .inl rfl
     · exact .inr ⟨List.mem_of_mem_drop hx,hno _ (List.mem_of_mem_drop hx)⟩
   · rintro (rfl | ⟨hx,_⟩)
     · exact .inr (.inl rfl)
     · rw [<- List.take_append_drop (D9 l e.card.key) l,List.mem_append] at hx
       exact hx.imp id .inr
theorem b5N {most:Int} {l:l9E} (hs:Y7 l) {e:Entry} (h:y9 l e.card.key=true\/(l.length:Int) < most):y9 (F6 most l e) e.card.key=true/\r9 (F6 most l e) e.card.key=e :=
 a6i (fD hs e) ((a5Q hs h e).2 (.inl rfl))
theorem a0f:Y7 []:=List.Pairwise.nil
theorem b2w:p9 32=32:=by unfold p9; omega
theorem a0c (a b:l8):I7 a b < 0↔(a.t < b.t\/(a.t=b.t/\(a.n < b.n\/(a.n=b.n/\a.node < b.node)))):=by
 unfold I7 Z6
 rcases Int.lt_trichotomy a.t b.t with h | h | h
 · rw [if_pos h,if_neg ya_]; omega
 · rw [if_neg (show ¬ a.t < b.t by omega),if_neg (show ¬ a.t > b.t by omega),if_pos rfl]
   rcases Int.lt_trichotomy a.n b.n with h2 | h2 | h2
   · rw [if_pos h2,if_neg ya_]; omega
   · rw [if_neg (show ¬ a.n < b.n by omega),if_neg (show ¬ a.n > b.n by omega),if_pos rfl]
     split
     · omega
     · split <;> omega
   · rw [if_neg (show ¬ a.n < b.n by omega),if_pos h2,if_neg ya_]; omega
 · rw [if_neg (show ¬ a.t < b.t by omega),if_pos h,if_neg ya_]; omega
theorem a7H {a b:l8} (h:I7 a b < 0):¬ I7 b a < 0:=by
 rw [a0c] at *; omega
theorem a2z (a:l8):l8.eqb a a=true:=by simp [l8.eqb]
theorem fV {l:l9E} (h:Y7 l):List.Pairwise StC (l.map Entry.card):=by
 have:List.Pairwise (fun a b:Entry=>C9 a.card.key b.card.key=true) l:=List.pairwise_map.1 h
 exact List.pairwise_map.2 this
attribute [local irreducible] D8 D9 F6 H7 I5 I7 I8 gN maxS r9 w9 y9
theorem b3M (l:l9E) (g:Nat) (al:l9K) (ga:Nat) (gt nd:Int) (st:l8) (q:Msg) (now:Int) :
 ((tuR l g al ga gt nd st q now).c=[]/\(tuR l g al ga gt nd st q now).l=l/\(tuR l g al ga gt nd st q now).al=al/\(tuR l g al ga gt nd st q now).st=st/\(tuR l g al ga gt nd st q now).gt=gt) \/
 (y9 l q.key=true/\(tuR l g al ga gt nd st q now).c=[]/\(tuR l g al ga gt nd st q now).l=F6 (p9 32) l (aT (r9 l q.key) now)/\(tuR l g al ga gt nd st q now).al=al/\(tuR l g al ga gt nd st q now).st=st/\(tuR l g al ga gt nd st q now).gt=min (gt+1) 1048576) \/
 ∃ x:Entry,x.card.key=q.key/\x.card.stamp=D8 (maxS st (r9 l q.key).card.stamp) now nd/\tuR l g al ga gt nd st q now=a0W l g al ga gt st x:=by
 unfold tuR
 by_cases o1:q.op=1
 · rw [if_pos o1]
   by_cases r:iZ q
   · refine .inr (.inr ⟨K6 q (r9 l q.key) (y9 l q.key) st now nd,rfl,rfl,?_⟩)
     unfold a0o a0n tO tQ oI nA oH a0W
     simp only [if_pos r]
   · refine .inl ?_
     unfold a0o a0n tO tQ oI nA oH
     simp only [if_neg r]
     exact ⟨trivial,trivial,trivial,trivial,trivial⟩
 rw [if_neg o1]
 by_cases o4:q.op=4/\3 < q.status
 · rw [if_pos o4]; exact .inl ⟨rfl,rfl,rfl,rfl,rfl⟩
 rw [if_neg o4]
 by_cases lv:y9 l q.key=true/\(r9 l q.key).card.gone=false
 · rw [if_pos lv]
   by_cases o2:q.op=2
   · rw [if_pos o2]; exact .inr (.inl ⟨lv.1,rfl,rfl,rfl,rfl,rfl⟩)
   rw [if_neg o2]
   have hk:=(iG lv.1).2
   by_cases o3:q.op=4
   · rw [if_pos o3]; exact .inr (.inr ⟨Y8 (r9 l q.key) q.status (D8 (maxS st (r9 l q.key).card.stamp) now nd),hk,rfl,rfl⟩)
   · rw [if_neg o3]; exact .inr (.inr ⟨Q9 (r9 l q.key) (D8 (maxS st (r9 l q.key).card.stamp) now nd) now,hk,rfl,rfl⟩)
 · rw [if_neg lv]; exact .inl ⟨rfl,rfl,rfl,rfl,rfl⟩
structure eO (n:Nat) (s:DS):Prop where
 srt:Y7 s.l
 len:s.l.length<=32
 al:s.al.length<=n
 g0:0<=s.gt
 g1:s.gt<=1048576
theorem yE {l:l9E} (x:Entry) (h:l.length<=32):(F6 (p9 32) l x).length<=32:=by
 have:=b4F (most:=p9 32) (l:=l) (e:=x) (by rw [b2w]; omega)
 rw [b2w] at this ⊢
 omega
theorem eO.mono {n m:Nat} {s:DS} (h:eO n s) (hm:n<=m):eO m s:=⟨h.srt,h.len,Nat.le_trans h.al hm,h.g0,h.g1⟩
theorem eO.put {n:Nat} {s:DS} (h:eO n s) (x:Entry):eO (n+1) ⟨F6 (p9 32) s.l x,I5 (p9 32) s.l x s.g,J5 s.l x s.al,P7 s.l x s.ga,s.gf,s.gl,s.gt,bS s.l x s.st⟩ :=
 ⟨fD h.srt x,yE x h.len,Nat.le_trans (tH s.l x s.al) (Nat.succ_le_succ h.al),h.g0,h.g1⟩
theorem eO.turn {n:Nat} {s:DS} (h:eO n s) (nd:Int) (q:Msg) (now:Int):eO (n+1) (s.turn nd q now):=by
 rcases b3M s.l s.g s.al s.ga s.gt nd s.st q now with ⟨_,e2,e3,_,e5⟩ | ⟨_,_,e2,e3,_,e5⟩ | ⟨x,_,_,e⟩
 · refine ⟨?_,?_,?_,?_,?_⟩ <;> simp only [DS.turn,e2,e3,e5]
   · exact h.srt
   · exact h.len
   · exact Nat.le_succ_of_le h.al
   · exact h.g0
   · exact h.g1
 · have g0:=h.g0
   refine ⟨?_,?_,?_,?_,?_⟩ <;> simp only [DS.turn,e2,e3,e5]
   · exact fD h.srt _
   · exact yE _ h.len
   · exact Nat.le_succ_of_le h.al
   · omega
   · omega
 · have e':s.turn nd q now=⟨F6 (p9 32) s.l x,I5 (p9 32) s.l x s.g,J5 s.l x s.al,P7 s.l x s.ga,s.gf,s.gl,s.gt,bS s.l x s.st⟩:=by unfold DS.turn; rw [e]; rfl
   rw [e']; exact h.put x
theorem eO.hd {n:Nat} {s:DS} (h:eO n s) (nd:Int) (q:Msg) (now:Int):eO (n+1) (hdD nd s q now).s:=by
 unfold hdD
 split
 · split
   · exact h.mono (Nat.le_succ _)
   · exact h.turn nd q _
 · exact h.mono (Nat.le_succ _)
theorem c4o {l:l9E} (hs:Y7 l) (x:Entry) (al:l9K) :
 (mQ l x=[]/\J5 l x al=al)\/(mQ l x=[x.card]/\J5 l x al=al++[x.card.key]/\y9 (F6 (p9 32) l x) x.card.key=true/\r9 (F6 (p9 32) l x) x.card.key=x):=by
 unfold mQ J5
 by_cases h:(H7 (p9 32) l x == 0)=true
 · rw [if_pos h,if_pos h]
   refine .inr ⟨rfl,rfl,?_⟩
   apply b5N hs
   have h0:H7 (p9 32) l x=0:=by simpa using h
   with_unfolding_all unfold H7 at h0
   by_cases hf:y9 l x.card.key=true
   · exact .inl hf
   · rw [if_neg hf] at h0
     refine .inr ?_
     split at h0
     · simp at h0
     · omega
 · rw [if_neg h,if_neg h]; exact .inl ⟨rfl,rfl⟩
theorem c5h {n:Nat} {s:DS} (hs:eO n s) (nd:Int) (q:Msg) (now:Int) :
 ((hdD nd s q now).c=[]/\(hdD nd s q now).s.al=s.al)\/∃ c:j5,(hdD nd s q now).c=[c]/\(hdD nd s q now).s.al=s.al++[c.key]/\y9 (hdD nd s q now).s.l c.key=true/\(r9 (hdD nd s q now).s.l c.key).card=c:=by
 unfold hdD
 split
 · split
   · exact .inl ⟨rfl,rfl⟩
   · simp only [DS.turn]
     rcases b3M s.l s.g s.al s.ga s.gt nd s.st q (w9 now) with ⟨e1,e2,e3,_,e5⟩ | ⟨_,e1,e2,e3,_,e5⟩ | ⟨x,_,_,e⟩
     · exact .inl ⟨e1,e3⟩
     · exact .inl ⟨e1,e3⟩
     · rw [e]
       rcases c4o hs.srt x s.al with ⟨h1,h2⟩ | ⟨h1,h2,h3,h4⟩
       · exact .inl ⟨h1,h2⟩
       · exact .inr ⟨x.card,h1,h2,h3,congrArg Entry.card h4⟩
 · exact .inl ⟨rfl,rfl⟩
end Go.Proofs.YtmghjcbabebanaaGreat.AM
namespace Go.Proofs.YtmghjcbabebanaaGreat.AM
open Go
theorem wE {most:Int} {l:l9E} {e x:Entry} (h:x∈F6 most l e):x=e\/x∈l:=by
 unfold F6 at h
 split at h
 · exact (List.mem_or_eq_of_mem_set h).symm
 · split at h
   · exact .inr h
   · rw [List.mem_append,List.mem_cons] at h
     rcases h with h | h | h
     · exact .inr (List.mem_of_mem_take h)
     · exact .inl h
     · exact .inr (List.mem_of_mem_drop h)
def stB (n:Nat) (x:l8):Prop:=0<=x.t/\0<=x.n/\x.n<=(n:Int)
attribute [local irreducible] I8 gN w9 y9 D9 r9 F6 H7 I5 D8 maxS I7
structure c8h (n:Nat) (s:DS):Prop where
 ok:eO n s
 l:∀ e∈s.l,stB (n+9) e.card.stamp
 st:stB (n+9) s.st
open Go.Proofs.YtmghjcbabebanaaGreat
attribute [local irreducible] D7 G5 G7 J3 J5 L9 P7 hdD iH j6 l7 l9 opM tuR
abbrev T16:=DS × Int × Msg × Int
attribute [local irreducible] Tp.card
attribute [local irreducible] C9 F7 M0 M5 O6 O7 P9 Q6 Q7 Tp.F9 Tp.G8 Tp.cards Tp.key Tp.keyT Tp.next Tp.step cmpL sink z8
attribute [local irreducible] A8 F3 M8 N8
attribute [local irreducible] N7 X0 Y9 bsr mAt mg mgL shD shU
attribute [local irreducible] K5 blk fM mix
attribute [local irreducible] lK
def b1P:Ann:={ base:=6,fin:=some 6 }
theorem qW (l:l9E) (g:Nat) (al:l9K) (ga:Nat) (gf gl gt nd:Int) (st:l8) :AC 74 [(oO 5 0 0 0)] (O5 g l gf gl gt al ga nd st) ((oO 2 0 0 0),(O5 g l gf gl gt al ga nd st)) :=
 q9 (fn:=Tryz.f74) (ann:=b1P) (Has.o Tryz.func74) (.r (.g (.qr 6 (oO 2 0 0 0))))
@[simp] abbrev a7v (a:Int) (b:Int) (c:Int):Heap:=[I9 a b c]
def qG (a now:Int):Int:=IntKind.u64.wrap (Int.tdiv (IntKind.u64.wrap ((IntKind.u64.wrap now) - (IntKind.u64.wrap a))) 60)
def tkN (a now:Int):Bool:=decide (now < a) || (qG a now == 0)
def tkF (a now:Int):Int:=if tkN a now=true then a else IntKind.i64.wrap (IntKind.u64.wrap ((IntKind.u64.wrap a)+(IntKind.u64.wrap (qG a now * 60))))
def tkL (a b c now:Int):Int:=if tkN a now=true then b else if (qG a now == 1)=true then c else 0
def tkT (a c now:Int):Int:=if tkN a now=true then c else 0
def b5F:Ann:={ base:=1,fin:=some 1 }
@[simp] abbrev a7u (a:Int) (b:Int) (c:Int) (d:Int):Heap:=[(o_ 0 3 [[(iI (tkF a b)),(iI (tkL a c d b)),(iI (tkT a d b))]])]
theorem a2m {p:Prop} (h:p:=by rw [e]; simp):p:=h
theorem uN (a b c now:Int) :AC 75 [(AV.obj 0 0 0 0),(AV.int .i64 now)] (a7v a b c) ((AV.tup []),(a7u a now b c)) :=
 q9 (fn:=Tryz.f75) (ann:=b5F) (Has.o Tryz.func75) (.r (.g (.two (decide (now < a)) (fun h1 h1'=>(.q 1 (AV.tup []) (by (try delta a7v a7u I9); (have e:tkN a now=true:=by unfold tkN; rw [h1]; rfl); have e1:tkF a now=a:=if_pos e; have e2:tkL a b c now=b:=if_pos e; have e3:tkT a c now=c:=if_pos e; rw [e1,e2,e3]))) (fun h1 h1'=>(.r (.s (.s (.g (.two ((IntKind.u64.wrap (Int.tdiv (IntKind.u64.wrap ((IntKind.u64.wrap now) - (IntKind.u64.wrap a))) 60)) == 0) (fun h2 h2'=>(.q 1 (AV.tup []) (by (try delta a7v a7u I9); (have e:tkN a now=true:=by unfold tkN qG; rw [h1,h2]; rfl); have e1:tkF a now=a:=if_pos e; have e2:tkL a b c now=b:=if_pos e; have e3:tkT a c now=c:=if_pos e; rw [e1,e2,e3]))) (fun h2 h2'=>(.r (.g (.two ((IntKind.u64.wrap (Int.tdiv (IntKind.u64.wrap ((IntKind.u64.wrap now) - (IntKind.u64.wrap a))) 60)) == 1) (fun h3 h3'=>(.r (.s (.s (.g (.h' [(o_ 0 3 [[(iW (IntKind.u64.wrap ((IntKind.u64.wrap a)+(IntKind.u64.wrap ((IntKind.u64.wrap (Int.tdiv (IntKind.u64.wrap ((IntKind.u64.wrap now) - (IntKind.u64.wrap a))) 60)) * 60))))),(AV.int .i64 c),(AV.int .i64 0)]])] (.q 1 (AV.tup []) (by (try delta a7v a7u I9); (have e:tkN a now=false:=by unfold tkN qG; rw [h1,h2]; rfl); (have e1:tkF a now=IntKind.i64.wrap (IntKind.u64.wrap ((IntKind.u64.wrap a)+(IntKind.u64.wrap (qG a now * 60)))):=if_neg a2m); (have e2:tkL a b c now=c:=by unfold tkL; rw [if_neg a2m,if_pos]; unfold qG; rw [h3]); (have e3:tkT a c now=0:=if_neg a2m); rw [e1,e2,e3]; first | done | rfl)))))))) (fun h3 h3'=>(.r (.s (.s (.g (.h' [(o_ 0 3 [[(iW (IntKind.u64.wrap ((IntKind.u64.wrap a)+(IntKind.u64.wrap ((IntKind.u64.wrap (Int.tdiv (IntKind.u64.wrap ((IntKind.u64.wrap now) - (IntKind.u64.wrap a))) 60)) * 60))))),(AV.int .i64 0),(AV.int .i64 0)]])] (.q 1 (AV.tup []) (by (try delta a7v a7u I9); (have e:tkN a now=false:=by unfold tkN qG; rw [h1,h2]; rfl); (have e1:tkF a now=IntKind.i64.wrap (IntKind.u64.wrap ((IntKind.u64.wrap a)+(IntKind.u64.wrap (qG a now * 60)))):=if_neg a2m); (have e2:tkL a b c now=0:=by unfold tkL; rw [if_neg a2m,if_neg]; unfold qG; rw [h3]; simp); (have e3:tkT a c now=0:=if_neg a2m); rw [e1,e2,e3]; first | done | rfl)))))))))))))))))))))
attribute [local irreducible] tkF tkL tkT
def b0O (n:Nat):Int:=Int.tdiv (((min n 1048576) * 6 * 85:Nat):Int) 100
attribute [local irreducible] b0O
def swX (nd now:Int) (s:DS) (k:Key):Entry:=Q9 (r9 s.l k) (D8 (maxS s.st (r9 s.l k).card.stamp) now nd) now
def swS (nd now:Int) (s:DS) (k:Key):DS:=⟨F6 (p9 32) s.l (swX nd now s k),I5 (p9 32) s.l (swX nd now s k) s.g,J5 s.l (swX nd now s k) s.al,P7 s.l (swX nd now s k) s.ga,s.gf,s.gl,s.gt,(swX nd now s k).card.stamp⟩
def swF (nd now:Int):List Key->DS->DS
 | [],s=>s
 | k :: ks,s=>swF nd now ks (swS nd now s k)
def swC (nd now:Int):List Key->DS->List j5
 | [],_=>[]
 | k :: ks,s=>(swX nd now s k).card :: swC nd now ks (swS nd now s k)
def c4V (s:DS):Bool:=decide (s.gl < b0O (lK s.l))
def b3Q (s:DS) (now late:Int):List Key:=if c4V s=true then [] else O7 s.l now late
end Go.Proofs.YtmghjcbabebanaaGreat.AM
