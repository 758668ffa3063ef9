/-
  Part 4 of 8: an abstract machine over the model; walks; plain laws.
-/
import Derived.Test.YtmghjcbabebanaaGreatMServerTicks3
set_option maxRecDepth 100000
set_option linter.unusedVariables false
set_option linter.unusedSimpArgs false
set_option linter.unusedSectionVars false
namespace Go.Proofs.YtmghjcbabebanaaGreat.AM
open Go Go.Proofs.YtmghjcbabebanaaGreat
attribute [local irreducible] A9 E9 F5 F8 F9 G9 H6 K4 K5 M8 Q5 R7 Tp.J5 Tp.K8 Tp.card Tp.cards Tp.key Tp.keyT Tp.next Tp.step V3 cmpL j5 l6 sink
def G6 (l:List Entry) (k:Key):Nat:=(l.takeWhile fun e=>F8 e.card.key k).length
def D7 (l:List Entry) (k:Key):Bool:=decide (G6 l k < l.length)&&Key.eqb (nth l (G6 l k)).card.key k
theorem aD (l:l9E) (k:Key):G6 l k<=l.length:=by
 unfold G6
 have:=List.Sublist.length_le (List.takeWhile_sublist (l:=l) fun e=>F8 e.card.key k)
 exact this
theorem a3E {l:l9E} {k:Key}:∀ {i:Nat},i < G6 l k->F8 (nth l i).card.key k=true:=by
 unfold G6
 induction l with
 | nil=>intro i h; simp at h
 | cons e l ih =>
  intro i h
  rw [List.takeWhile_cons] at h
  by_cases hb:F8 e.card.key k=true
  · rw [if_pos hb] at h
    cases i with
    | zero=>exact hb
    | succ i=>exact ih yj_
  · rw [if_neg hb] at h; simp at h
theorem a3F {l:l9E} {k:Key} (h:G6 l k < l.length):F8 (nth l (G6 l k)).card.key k=false:=by
 unfold G6 at *
 induction l with
 | nil=>simp at h
 | cons e l ih =>
  rw [List.takeWhile_cons] at h ⊢
  by_cases hb:F8 e.card.key k=true
  · rw [if_pos hb] at h ⊢
    exact ih yj_
  · rw [if_neg hb]
    have h3:F8 e.card.key k=false:=by simpa using hb
    exact h3
theorem lI {l:l9E} {k:Key} (h:D7 l k=true):G6 l k < l.length:=by
 unfold D7 at h
 rw [Bool.and_eq_true] at h
 exact of_decide_eq_true h.1
theorem c4A {l:l9E} {k:Key} {i:Nat} (hi:i<=l.length) (h1:∀ j,j < i->F8 (nth l j).card.key k=true) (h2:i < l.length->F8 (nth l i).card.key k=false):G6 l k=i:=by
 rcases Nat.lt_trichotomy (G6 l k) i with h | h | h
 · have:=h1 _ h
   rw [a3F ow] at this; simp at this
 · exact h
 · have:=a3E h
   rw [h2 (by have:=aD l k; omega)] at this; simp at this
def a0d:Ann:={ refs:=[3],base:=2,fin:=some 2,live:=[(2,[0,3,6])],out:=[(2,[0,3,6])] }
@[simp] abbrev xR (a:Int) (b c:Nat):=[[(iI a),(d9 1 b 10 c)]]
@[simp] abbrev bR (a:Int) (b:Nat) (c:Nat):Ob:=(o_ 0 2 (xR a b c))
@[simp] abbrev Q7 (a:Int) (b:Nat) (c:Nat) (d:l9E):Heap:=[bR a b c,(o_ b 10 (mE d))]
@[simp] abbrev d2e (a:Key) (b:Nat):Fr:=(mkF 50 [(0,(j3 0)),(3,(AV.ref (Key.row a) 0)),(6,(iN b))])
theorem a7T (most:Int) (l:l9E) (k:Key) (g n:Nat) (i:Nat) (hn:n=l.length) (hl:l.length < 1048576) (hi:i<=l.length) {eX:Ex} {FX:Fr} {HX:Heap} (k1:(l9 i n)=true->(mO (nth l i).card.key k)=true->l6 (C8 a0d Tryz.f121 0) (some [0,3,6]) (some [0,3,6]) (mkF 50 [(0,(j3 0)),(3,(AV.ref (Key.row k) 0)),(6,(iN (i+1)))]) (Q7 most g n l) eX FX HX) (k2:(l9 i n)=true->(mO (nth l i).card.key k)=false->((.exit 0:Ex),(d2e k i),(Q7 most g n l))=(eX,FX,HX)) (k3:(l9 i n)=false->((.exit 0:Ex),(d2e k i),(Q7 most g n l))=(eX,FX,HX)):l6 (C8 a0d Tryz.f121 0) (some [0,3,6]) (some [0,3,6]) (d2e k i) (Q7 most g n l) eX FX HX :=
 J7 (.r (.two (l9 i n) (fun h1 h1'=>(.u5 (.io 13 1 g 10 10 0 n (i:Int) i (I7.mk _ ow ow) (.u3 (.t 16 (p9 (Key.row (nth l i).card.key)) (Q7 most g n l) (J6 (F7 (row:=Entry.row) (l:=l) (k:=10) (room:=none) kr om) kr:M6 tt 28 0 (Q7 most g n l) (rowAt (Q7 most g n l) 1 g i)=some ((p9 (Key.row (nth l i).card.key)),(Q7 most g n l))) (.u2 (.c 18 ((uZ (nth l i).card.key k).lift kr kr (Q7 most g n l)) (.g (.two (mO (nth l i).card.key k) (fun h2 h2'=>(.r (.y 1 (.int .i64 (cb_ i)) (iN (i+1)) Yes.o (.g (.l (k1 h1 h2)))))) (fun h2 h2'=>(.l (k2 h1 h2)))))))))))) (fun h1 h1'=>(.n6 (.n4 (.g (.n (.l (k3 h1)))))))))
theorem a9l {p:Prop} (h:p:=by have:=of_decide_eq_true h1; omega):p:=h
theorem c4z (most:Int) (l:l9E) (k:Key) (g n:Nat) (hn:n=l.length) (hl:l.length < 1048576) (r:Nat):∀ (i:Nat),i+r=G6 l k ->
 l6 (C8 a0d Tryz.f121 0) (some [0,3,6]) (some [0,3,6]) (mkF 50 [(0,(j3 0)),(3,(AV.ref (Key.row k) 0)),(6,(iN i))]) [(o_ 0 2 [[(iI most),(d9 1 g 10 n)]]),(o_ g 10 (mE l))] (.exit 0) (mkF 50 [(0,(j3 0)),(3,(AV.ref (Key.row k) 0)),(6,(iN ((G6 l k))))]) [(o_ 0 2 [[(iI most),(d9 1 g 10 n)]]),(o_ g 10 (mE l))]:=by
 have hle:=aD l k
 induction r with
 | zero =>
  intro i hi
  obtain rfl:i=G6 l k:=by omega
  refine a7T most l k g n (G6 l k) hn hl ow (fun h1 h2=>?_) (fun _ _=>rfl) (fun _=>rfl)
  rw [iO,a3F a9l] at h2; simp at h2
 | succ r ih =>
  intro i hi
  refine a7T most l k g n i hn hl ow (fun _ _=>ih (i+1) ow) (fun _ h2=>?_) (fun h1=>?_)
  · rw [iO,a3E (show i < G6 l k by omega)] at h2; simp at h2
  · simp at h1; omega
abbrev e1g (a:Key) (b:l9E):Fr:=(mkF 50 [(0,(j3 0)),(3,(AV.ref (Key.row a) 0)),(6,(iN ((G6 b a))))])
theorem a1i (most:Int) (l:l9E) (k:Key) (g n:Nat) (hn:n=l.length) (hl:l.length < 1048576):AC 121 [(AV.obj 0 0 0 0),(p9 (Key.row k))] (Q7 most g n l) ((AV.tup [(AV.int .i64 (((G6 l k):Nat):Int)),(AV.bool (D7 l k))]),(Q7 most g n l)):=by
 have hle:=aD l k
 exact x9 (fn:=Tryz.f121) (ann:=a0d) (Has.o Tryz.func121) (.r (.s (.g (.loop (e1g k l) (c4z most l k g n hn hl (G6 l k) 0 ow) (.r (.two (l9 (G6 l k) n) (fun h1 h1'=>(.u5 (.io 14 1 g 10 10 0 n (((G6 l k):Nat):Int) (G6 l k) (I7.mk _ ow ow) (.u3 (.t 17 (p9 (Key.row (nth l (G6 l k)).card.key)) (Q7 most g n l) (J6 (F7 (row:=Entry.row) (l:=l) (k:=10) (room:=none) kr om) kr:M6 tt 28 0 (Q7 most g n l) (rowAt (Q7 most g n l) 1 g (G6 l k))=some ((p9 (Key.row (nth l (G6 l k)).card.key)),(Q7 most g n l))) (.u2 (.q 2 (AV.tup [(AV.int .i64 (((G6 l k):Nat):Int)),(AV.bool (Key.eqb (nth l (G6 l k)).card.key k))]) (by (try delta Q7 bR); (have hb:D7 l k=Key.eqb (nth l (G6 l k)).card.key k:=by unfold D7; first | (simp_all; done) | (simp_all; omega) | (simp_all; intro h; omega)); rw [hb])))))))) (fun h1 h1'=>(.n6 (.n4 (.q 2 (AV.tup [(AV.int .i64 (((G6 l k):Nat):Int)),(AV.bool false)]) (by (try delta Q7 bR); (have hb:D7 l k=false:=by unfold D7; first | (simp_all; done) | (simp_all; omega) | (simp_all; intro h; omega)); rw [hb])))))))))))
theorem yK (most:Int) (l:l9E) (k:Key) (g n:Nat) (hn:n=l.length) (hl:l.length < 1048576) (H:Heap):AC 121 [(j3 0),(p9 (Key.row k))] ((Q7 most g n l)++H) ((AV.tup [(iN ((G6 l k))),(bB (D7 l k))]),(Q7 most g n l)++H):=(a1i most l k g n hn hl).ext kr kr ob ob kr H
def c3b:Ann:={ refs:=[3],base:=2,fin:=some 2 }
abbrev d8S (a:Int) (b:Nat) (c:Nat) (d:l9E) (e:Entry):Heap:=[bR a b c,(o_ b 10 (mE (d.set (G6 d e.card.key) e)))]
theorem b6C (most:Int) (l:l9E) (e:Entry) (g n:Nat) (hn:n=l.length) (hl:l.length < 1048576) (hb:D7 l e.card.key=true):AC 69 [(j3 0),(p9 (Entry.row e))] (Q7 most g n l) (z_,(d8S most g n l e)):=by
 have hle:=aD l e.card.key
 have hlt:=lI hb
 exact x9 (fn:=Tryz.f69) (ann:=c3b) (Has.o Tryz.func69) (.r (.s (.c 4 (yK most l e.card.key g n oa oa []) (.s (.y 0 (bB (D7 l e.card.key)) bT (Yes.b hb) (.ru (.io 6 1 g 10 10 0 n (((G6 l e.card.key):Nat):Int) (G6 l e.card.key) (I7.mk _ ow ow) (.st 7 1 g (G6 l e.card.key) 10 0 (p9 (Entry.row e)) (d8S most g n l e) (U0 (us:=(Entry.row e)) (F7 (row:=Entry.row) (l:=l) (k:=10) (room:=none) kr om) kr yY yX) (.g (.qr 2 z_))))))))))
def b3r:Ann:={ refs:=[3],base:=2,fin:=some 2 }
theorem b0a (most:Int) (l:l9E) (e:Entry) (g n:Nat) (hn:n=l.length) (hl:l.length < 1048576) (hb:D7 l e.card.key=false) (hm:most<=(n:Int)):AC 69 [(j3 0),(p9 (Entry.row e))] [(o_ 0 2 [[(iI most),(d9 1 g 10 n)]]),(o_ g 10 (mE l))] ((iI 24),[(o_ 0 2 [[(iI most),(d9 1 g 10 n)]]),(o_ g 10 (mE l))]):=by
 have hle:=aD l e.card.key
 exact x9 (fn:=Tryz.f69) (ann:=b3r) (Has.o Tryz.func69) (.r (.s (.c 4 (yK most l e.card.key g n oa oa []) (.s (.y 0 (bB (D7 l e.card.key)) bF (Yes.b hb) (.rn (.y 9 (bB (decide ((n:Int) >= most))) bT (Yes.b om) (.g (.u (.qr 2 (iI 24)))))))))))
def b6B:Ann:={ refs:=[3],base:=2,fin:=some 2 }
theorem b3q (most:Int) (l:l9E) (e:Entry) (g n:Nat) (hn:n=l.length) (hl:l.length < 1048576) (hb:D7 l e.card.key=false) (hm:(n:Int) < most):AC 69 [(j3 0),(p9 (Entry.row e))] [(o_ 0 2 [[(iI most),(d9 1 g 10 n)]]),(o_ g 10 (mE l))] (z_,[(o_ 0 2 [[(iI most),(d9 1 (g+1) 10 (n+1))]]),(o_ (g+1) 10 (mE (l.take (G6 l e.card.key)++e :: l.drop (G6 l e.card.key))))]):=by
 have hle:=aD l e.card.key
 exact x9 (fn:=Tryz.f69) (ann:=b6B) (Has.o Tryz.func69) (.r (.s (.c 4 (yK most l e.card.key g n oa oa []) (.s (.y 0 (bB (D7 l e.card.key)) bF (Yes.b hb) (.rn (.y 9 (bB (decide ((n:Int) >= most))) bF (Yes.b yg_) (.rn (.ch 8 [(o_ 0 2 [[(iI most),(d9 1 g 10 n)]]),(o_ (g+1) 10 (mE (l.take (G6 l e.card.key)++e :: l.drop (G6 l e.card.key))))] (j5.pre (args:=[(d9 1 g 10 n),(iN ((G6 l e.card.key))),(bO e)]) (args':=[(d9 1 g 10 n),(iN ((G6 l e.card.key))),(bO e)]) (j5.put2 [1] [(o_ 0 2 [[(iI most),(d9 1 g 10 n)]]),(o_ g 10 (mE l))] (d9 1 (g+1) 10 (n+1)) [(o_ 0 2 [[(iI most),(d9 1 g 10 n)]]),(o_ (g+1) 10 (mE (l.take (G6 l e.card.key)++e :: l.drop (G6 l e.card.key))))] (c7C l e g (G6 l e.card.key) n oa oa oa) (⟨Ob.ren0 (Entry.z8 0 _),trivial⟩) (⟨Ob.ren0 (Entry.z8 0 _),trivial⟩)) ⟨AV.l5 _,AV.l5 _,⟨rfl,rfl,.inl rfl⟩,trivial⟩) (.s (.g (.h' [(o_ 0 2 [[(iI most),(d9 1 (g+1) 10 (n+1))]]),(o_ (g+1) 10 (mE (l.take (G6 l e.card.key)++e :: l.drop (G6 l e.card.key))))] (.q 2 z_)))))))))))))
def K3 (most:Int) (l:List Entry) (e:Entry):Int:=if D7 l e.card.key=true then 0 else if most<=(l.length:Int) then 24 else 0
def J2 (most:Int) (l:List Entry) (e:Entry):List Entry:=if D7 l e.card.key=true then l.set (G6 l e.card.key) e else if most<=(l.length:Int) then l else l.take (G6 l e.card.key)++e :: l.drop (G6 l e.card.key)
def J9 (most:Int) (l:List Entry) (e:Entry) (g:Nat):Nat:=if D7 l e.card.key=true then g else if most<=(l.length:Int) then g else g+1
theorem jH (most:Int) (l:l9E) (e:Entry):(J2 most l e).length<=l.length+1:=by
 have:=aD l e.card.key
 unfold J2; split
 · simp
 · split
   · omega
   · simp; omega
theorem c3a {most:Int} {l:l9E} {e:Entry} (h:(l.length:Int)<=most):((J2 most l e).length:Int)<=most:=by
 have:=aD l e.card.key
 unfold J2; split
 · simpa using h
 · split
   · exact h
   · simp; omega
def zE:Entry:=⟨⟨⟨⟨#[]⟩,⟨#[]⟩⟩,0,0,0,⟨0,0,0⟩,false⟩,0⟩
def X6 (l:List Entry) (k:Key):List Entry:=if D7 l k=true then l.take (G6 l k)++l.drop (G6 l k+1) else l
def q9 (l:List Entry) (k:Key):Entry:=if D7 l k=true then nth l (G6 l k) else zE
theorem a7W (l:l9E) (k:Key):(X6 l k).length<=l.length:=by
 unfold X6; split
 · simp; omega
 · omega
theorem zN (most:Int) (l:l9E) (e:Entry) (g n:Nat) (hn:n=l.length) (hl:l.length < 1048576):AC 69 [(j3 0),(p9 (Entry.row e))] [(o_ 0 2 [[(iI most),(d9 1 g 10 n)]]),(o_ g 10 (mE l))] ((iI (K3 most l e)),[(o_ 0 2 [[(iI most),(d9 1 (J9 most l e g) 10 (J2 most l e).length)]]),(o_ (J9 most l e g) 10 (mE (J2 most l e)))]):=by
 subst hn
 have hle:=aD l e.card.key
 cases hb:D7 l e.card.key with
 | true =>
  have h1:K3 most l e=0:=by simp [K3,hb]
  have h2:J2 most l e=l.set (G6 l e.card.key) e:=by simp [J2,hb]
  have h3:J9 most l e g=g:=by simp [J9,hb]
  rw [h1,h2,h3,List.length_set]
  exact b6C most l e g l.length rfl hl hb
 | false =>
  by_cases hm:most<=(l.length:Int)
  · have h1:K3 most l e=24:=by simp [K3,hb,hm]
    have h2:J2 most l e=l:=by simp [J2,hb,hm]
    have h3:J9 most l e g=g:=by simp [J9,hb,hm]
    rw [h1,h2,h3]
    exact b0a most l e g l.length rfl hl hb hm
  · have h1:K3 most l e=0:=by simp [K3,hb,hm]
    have h2:J2 most l e=l.take (G6 l e.card.key)++e :: l.drop (G6 l e.card.key):=by simp [J2,hb,hm]
    have h3:J9 most l e g=g+1:=by simp [J9,hb,hm]
    have h4:(l.take (G6 l e.card.key)++e :: l.drop (G6 l e.card.key)).length=l.length+1:=by simp; omega
    rw [h1,h2,h3,h4]
    exact b3q most l e g l.length rfl hl hb ow
theorem d6D (most:Int) (l:l9E) (e:Entry) (g n:Nat) (hn:n=l.length) (hl:l.length < 1048576) (H:Heap):AC 69 [(j3 0),(p9 (Entry.row e))] ((Q7 most g n l)++H) ((iI (K3 most l e)),([(o_ 0 2 [[(iI most),(d9 1 (J9 most l e g) 10 (J2 most l e).length)]]),(o_ (J9 most l e g) 10 (mE (J2 most l e)))]:Heap)++H):=(zN most l e g n hn hl).ext kr kr ob ob kr H
def b7W:Ann:={ refs:=[3],base:=2,fin:=some 2 }
abbrev d4p (a:Nat) (b:l9E) (c:Key):Ob:=(o_ a 10 (mE (b.take (G6 b c)++b.drop ((G6 b c)+1))))
abbrev d8R (a:Int) (b:Nat) (c:Nat) (d:l9E) (e:Key):Heap:=[(o_ 0 2 [[(iI a),(d9 1 b 10 (c - 1))]]),d4p b d e]
abbrev d8Q (a:Int) (b:Nat) (c:Nat) (d:l9E) (e:Key):Heap:=[bR a b c,d4p b d e]
theorem b3P (most:Int) (l:l9E) (k:Key) (g n:Nat) (hn:n=l.length) (hl:l.length < 1048576) (hb:D7 l k=true):AC 136 [(j3 0),(p9 (Key.row k))] (Q7 most g n l) (bT,(d8R most g n l k)):=by
 have hle:=aD l k
 have hlt:=lI hb
 exact x9 (fn:=Tryz.f136) (ann:=b7W) (Has.o Tryz.func136) (.r (.s (.c 2 (yK most l k g n oa oa []) (.s (.y 0 (bB (D7 l k)) bT (Yes.b hb) (.ru (.y 7 (iW ((((G6 l k):Nat):Int)+1)) (iN ((G6 l k)+1)) Yes.o (.ch 8 (d8Q most g n l k) (j5.put2 [1] (Q7 most g n l) (d9 1 g 10 (n - 1)) (d8Q most g n l k) (c7G l g (G6 l k) n oa oa oa) (⟨Ob.ren0 (Entry.z8 0 _),trivial⟩) (⟨Ob.ren0 (Entry.z8 0 _),trivial⟩)) (.s (.h' (d8R most g n l k) (.y 0 (bB (D7 l k)) bT (Yes.b hb) (.q 2 bT))))))))))))
def b3O:Ann:={ refs:=[3],base:=2,fin:=some 2 }
theorem b0L (most:Int) (l:l9E) (k:Key) (g n:Nat) (hn:n=l.length) (hl:l.length < 1048576) (hb:D7 l k=false):AC 136 [(j3 0),(p9 (Key.row k))] (Q7 most g n l) (bF,(Q7 most g n l)):=by
 have hle:=aD l k
 exact x9 (fn:=Tryz.f136) (ann:=b3O) (Has.o Tryz.func136) (.r (.s (.c 2 (yK most l k g n oa oa []) (.s (.y 0 (bB (D7 l k)) bF (Yes.b hb) (.rn (.y 0 (bB (D7 l k)) bF (Yes.b hb) (.q 2 bF))))))))
theorem c4N (most:Int) (l:l9E) (k:Key) (g n:Nat) (hn:n=l.length) (hl:l.length < 1048576):AC 136 [(j3 0),(p9 (Key.row k))] [(o_ 0 2 [[(iI most),(d9 1 g 10 n)]]),(o_ g 10 (mE l))] ((bB (D7 l k)),[(o_ 0 2 [[(iI most),(d9 1 g 10 (X6 l k).length)]]),(o_ g 10 (mE (X6 l k)))]):=by
 subst hn
 have hle:=aD l k
 cases hb:D7 l k with
 | true =>
  have hlt:=lI hb
  have h2:X6 l k=l.take (G6 l k)++l.drop (G6 l k+1):=by simp [X6,hb]
  have h4:(l.take (G6 l k)++l.drop (G6 l k+1)).length=l.length - 1:=by simp; omega
  rw [h2,h4]
  exact b3P most l k g l.length rfl hl hb
 | false =>
  have h2:X6 l k=l:=by simp [X6,hb]
  rw [h2]
  exact b0L most l k g l.length rfl hl hb
def c4v:Ann:={ refs:=[3],base:=2,fin:=some 2 }
@[simp] abbrev a0z :Ob:=(o_ 0 10 [[e_,e_,z_,z_,z_,z_,z_,z_,bF,z_]])
abbrev lQ (a:Int) (b:Nat) (c:Nat) (d:l9E):Heap:=[bR a b c,(o_ b 10 (mE d)),a0z]
abbrev d7K (a:l9E) (b:Key):=(AV.tup [(p9 (Entry.row (nth a (G6 a b)))),bT])
theorem b7F (most:Int) (l:l9E) (k:Key) (g n:Nat) (hn:n=l.length) (hl:l.length < 1048576) (hb:D7 l k=true):AC 66 [(j3 0),(p9 (Key.row k))] (Q7 most g n l) ((d7K l k),(Q7 most g n l)):=by
 have hle:=aD l k
 have hlt:=lI hb
 exact x9 (fn:=Tryz.f66) (ann:=c4v) (Has.o Tryz.func66) (.r (.s (.c 2 (j5.put2 [0,1] (lQ most g n l) (AV.tup [(iN ((G6 l k))),(bB (D7 l k))]) (lQ most g n l) (a1i most l k g n oa oa) rlF rlF) (.s (.h' (lQ most g n l) (.y 1 (bB (!(D7 l k))) bF (Yes.b (by rw [hb]; rfl)) (.rn (.io 5 1 g 10 10 0 n (((G6 l k):Nat):Int) (G6 l k) (I7.mk _ ow ow) (.t 6 (p9 (Entry.row (nth l (G6 l k)))) (lQ most g n l) (J6 (F7 (row:=Entry.row) (l:=l) (k:=10) (room:=none) kr om) kr:M6 tt 93 0 (lQ most g n l) (rowAt (lQ most g n l) 1 g (G6 l k))=some ((p9 (Entry.row (nth l (G6 l k)))),(lQ most g n l))) (.g (.h' (Q7 most g n l) (.q 2 (d7K l k)))))))))))))
def b7E:Ann:={ refs:=[3],base:=2,fin:=some 2 }
theorem b3J (most:Int) (l:l9E) (k:Key) (g n:Nat) (hn:n=l.length) (hl:l.length < 1048576) (hb:D7 l k=false):AC 66 [(j3 0),(p9 (Key.row k))] (Q7 most g n l) ((AV.tup [(p9 (Entry.row zE)),bF]),(Q7 most g n l)):=by
 have hle:=aD l k
 exact x9 (fn:=Tryz.f66) (ann:=b7E) (Has.o Tryz.func66) (.r (.s (.c 2 (j5.put2 [0,1] (lQ most g n l) (AV.tup [(iN ((G6 l k))),(bB (D7 l k))]) (lQ most g n l) (a1i most l k g n oa oa) rlF rlF) (.s (.h' (lQ most g n l) (.y 1 (bB (!(D7 l k))) bT (Yes.b (by rw [hb]; rfl)) (.ru (.g (.h' (Q7 most g n l) (.q 2 (AV.tup [(p9 [e_,e_,z_,z_,z_,z_,z_,z_,bF,z_]),bF])))))))))))
theorem a0b (most:Int) (l:l9E) (k:Key) (g n:Nat) (hn:n=l.length) (hl:l.length < 1048576):AC 66 [(j3 0),(p9 (Key.row k))] [(o_ 0 2 [[(iI most),(d9 1 g 10 n)]]),(o_ g 10 (mE l))] ((AV.tup [(p9 (Entry.row (q9 l k))),(bB (D7 l k))]),[(o_ 0 2 [[(iI most),(d9 1 g 10 n)]]),(o_ g 10 (mE l))]):=by
 cases hb:D7 l k with
 | true =>
  have h2:q9 l k=nth l (G6 l k):=by simp [q9,hb]
  rw [h2]
  exact b7F most l k g n hn hl hb
 | false =>
  have h2:q9 l k=zE:=by simp [q9,hb]
  rw [h2]
  exact b3J most l k g n hn hl hb
theorem get_at (most:Int) (l:l9E) (k:Key) (g n:Nat) (hn:n=l.length) (hl:l.length < 1048576) (H:Heap):AC 66 [(j3 0),(p9 (Key.row k))] ((Q7 most g n l)++H) ((AV.tup [(p9 (Entry.row (q9 l k))),(bB (D7 l k))]),(Q7 most g n l)++H):=(a0b most l k g n hn hl).ext kr kr ob ob kr H
def b4g:Ann:={ gha:=[(2,.vir 2 10)],fin:=some 1 }
theorem b1a  :AC 183 [w9] [] ((d9 0 0 10 0),[(o_ 0 10 (mE []))]) :=
 x9 (fn:=Tryz.f183) (ann:=b4g) (Has.o Tryz.func183) (.r (.s (.ru (.g (.h' [(o_ 0 10 (mE []))] (.q 1 (d9 0 0 10 0)))))))
def b4f:Ann:={ own:=[7],fin:=some 1 }
theorem b0Z (l:l9E) (hl:l.length < 1099511627776):AC 183 [(AV.sl .op 10 (mE l))] [] ((d9 0 0 10 l.length),[(o_ 0 10 (mE l))]) :=
 x9 (fn:=Tryz.f183) (ann:=b4f) (Has.o Tryz.func183) (.r (.s (.rn (.ao 2 89 (AV.sl .clip 10 []) (AV.sl .op 10 (mE l)) (d9 0 0 10 l.length) [(o_ 0 10 (mE l))] (aI (T:=tt) (e:=93) (te:=kZ) (z:=1) (b:=24) (y:=[.sl .nil 0 []]) (row:=Entry.row) kr kr rfl D8 D8 ye_ Y3 rfl rfl rfl om) (.q 1 (d9 0 0 10 l.length))))))
theorem b4e (l:l9E) (hl:l.length < 1099511627776):AC 183 [(sA 10 (mE l))] [] ((d9 0 0 10 l.length),[(o_ 0 10 (mE l))]):=j5.a2q (fun h=>by
 have h2:l=[]:=by simpa using h
 subst h2; exact b1a) (b0Z l hl)
def c8m:Ann:={ gha:=[(1,.frz 2)],base:=2,fin:=some 2 }
abbrev d8P (a:Int) (b:Nat) (c:Nat) (d:l9E):Heap:=[bR a b c,(o_ b 10 (mE d)),(o_ 0 10 (mE d))]
theorem uG {p:Prop} (h:p:=by first | omega | (simp [List.length_set]; done) | (simp [List.length_set]; omega)):p:=h
theorem a7p (most:Int) (l:l9E) (g n:Nat) (hn:n=l.length) (hl:l.length < 1048576):AC 134 [(j3 0)] (Q7 most g n l) ((sA 10 (mE l)),(Q7 most g n l)) :=
 x9 (fn:=Tryz.f134) (ann:=c8m) (Has.o Tryz.func134) (.r (.s (.ch 4 (d8P most g n l) (j5.iC (args:=[(sA 10 (mE l))]) (args':=[(d9 1 g 10 n)]) (H:=(Q7 most g n l)) (b4e l oa) (gW (fun _=>rfl) _) (show Brs (Q7 most g n l) [(d9 1 g 10 n)] [(sA 10 (mE l))] from ⟨Br.osl (G5 (room:=none) kr uG) (Entry.z8 _ _),trivial⟩)) (.w' 2 (mE l) (And.intro (G5 (room:=none) kr om) (Entry.z8 _ _):I5 (d8P most g n l) 10 (d9 2 0 10 l.length)=some (mE l)/\AV.F3 0 (mE l)=true) (.g (.h' (Q7 most g n l) (.q 2 (sA 10 (mE l)))))))))
def bQ (l:List Entry):Nat:=l.foldl (fun s e=>if (!e.card.gone)=true then s+1 else s) 0
theorem d0a {α β:Type} (f:α->β) (l:List α):∀ (out:List β) (k g:Nat),l.foldl (fun (s:List β × Nat × Nat) c=>(s.1++[f c],s.2.1+1,s.2.2+1)) (out,k,g)=(out++l.map f,k+l.length,g+l.length):=by
 induction l with
 | nil=>intro out k g; simp
 | cons c l ih=>intro out k g; rw [List.foldl_cons,ih]; simp; omega
def a0N:Ann:={ gha:=[(7,.cut 2)],base:=2,fin:=some 2,live:=[(3,[3,9,10,11])],out:=[(3,[3,9,10,11])] }
@[simp] abbrev d2d (a:Nat) (b:Nat) (c:Nat) (d:Nat):Fr:=(mkF 23 [(3,(iN a)),(9,(d9 1 b 10 c)),(10,(iN c)),(11,(iN d))])
abbrev d4r (a:Int) (b:Nat) (c:Nat) (d:l9E) (e:Nat):Heap:=[bR a b c,(o_ b 10 (mE d)),(o_ 0 10 [(Entry.row (nth d e))])]
@[simp] abbrev d1k :=(C8 a0N Tryz.f132 0)
theorem a4g (most:Int) (l:l9E) (g:Nat) (n:Nat) (k:Nat) (i:Nat) (hn:n=l.length) (hl:l.length < 1048576) (hk:k<=i) (hle_:i<=n) {eX:Ex} {FX:Fr} {HX:Heap} (k1:(l9 i n)=true->(!(nth l i).card.gone)=true->l6 d1k (some [3,9,10,11]) (some [3,9,10,11]) (mkF 23 [(3,(iN (k+1))),(9,(d9 1 g 10 n)),(10,(iN n)),(11,(iN (i+1)))]) (Q7 most g n l) eX FX HX) (k2:(l9 i n)=true->(!(nth l i).card.gone)=false->l6 d1k (some [3,9,10,11]) (some [3,9,10,11]) (mkF 23 [(3,(iN k)),(9,(d9 1 g 10 n)),(10,(iN n)),(11,(iN (i+1)))]) (Q7 most g n l) eX FX HX) (k3:(l9 i n)=false->((.exit 0:Ex),(d2d k g n i),(Q7 most g n l))=(eX,FX,HX)):l6 d1k (some [3,9,10,11]) (some [3,9,10,11]) (d2d k g n i) (Q7 most g n l) eX FX HX :=
 J7 (.r (.g (.two (l9 i n) (fun h1 h1'=>(.r (.h' (lQ most g n l) (.io 0 1 g 10 10 0 n (i:Int) i (I7.mk _ ow ow) (.t 1 (cl_ l i) (lQ most g n l) (J6 (F7 (row:=Entry.row) (l:=l) (k:=10) (room:=none) kr om) kr:M6 tt 93 0 (lQ most g n l) (rowAt (lQ most g n l) 1 g i)=some ((cl_ l i),(lQ most g n l))) (.s (.g (.two (!(nth l i).card.gone) (fun h2 h2'=>(.r (.h' (d4r most g n l i) (.y 1 (.int .i64 (cb_ k)) (iN (k+1)) Yes.o (.s (.y 0 (.int .i64 (cb_ i)) (iN (i+1)) Yes.o (.h' (Q7 most g n l) (.b 2 (.g (.l (k1 h1 h2))))))))))) (fun h2 h2'=>(.r (.h' (d4r most g n l i) (.y 0 (.int .i64 (cb_ i)) (iN (i+1)) Yes.o (.h' (Q7 most g n l) (.b 2 (.g (.l (k2 h1 h2))))))))))))))))) (fun h1 h1'=>(.l (k3 h1))))))
def yA (most:Int) (l:List Entry) (g:Nat) (n:Nat) (i:Nat) (s:Nat):Nat:=(if (!(nth l i).card.gone)=true then (s+1) else (s))
theorem X0 {p:Prop} (h:p:=by first | omega | assumption | (simp; done) | (simp; omega) | (simp [*]; done) | (simp [*]; omega)):p:=h
theorem b5B (most:Int) (l:l9E) (g:Nat) (n:Nat) (hn:n=l.length) (hl:l.length < 1048576)  (r_:Nat):∀ (k:Nat) (i:Nat) (sF:Nat),i+r_=n->k<=i->sF=iter (yA most l g n) r_ i k ->
 l6 (C8 a0N Tryz.f132 0) (some [3,9,10,11]) (some [3,9,10,11]) (d2d k g n i) (Q7 most g n l) (.exit 0) (mkF 23 [(3,(iN sF)),(9,(d9 1 g 10 n)),(10,(iN n)),(11,(iN n))]) (Q7 most g n l):=by
 induction r_ with
 | zero =>
  intro k i sF hi_ hk  hF
  obtain rfl:n=i:=by omega
  have e_:sF=k:=hF
  refine a4g most l g n k n hn hl hk J8 (fun h _=>by simp at h <;> omega) (fun h _=>by simp at h <;> omega) (fun _=>?_)
  first | done | rfl | (rw [e_]; done) | (rw [e_]; rfl)
 | succ r_ ih =>
  intro k i sF hi_ hk  hF
  refine a4g most l g n k i hn hl hk ow (fun h1 h2=>?_) (fun h1 h2=>?_) (fun h=>by simp at h <;> omega)
  · exact ih (k+1) (i+1) sF ow X0  (by rw [hF] <;> simp only [iter,yA,h2,if_true,Bool.false_eq_true,if_false])
  · exact ih k (i+1) sF ow X0  (by rw [hF] <;> simp only [iter,yA,h2,if_true,Bool.false_eq_true,if_false])
theorem b6Z (most:Int) (l:l9E) (g:Nat):bQ l=iter (yA most l g l.length) l.length 0 0:=by
 rw [fO (yA most l g l.length) (fun s e=>if (!e.card.gone)=true then s+1 else s) l (fun i s hi=>rfl)]; rfl
attribute [local irreducible] bQ
abbrev e0g (a:l9E) (b:Nat) (c:Nat):Fr:=(mkF 23 [(3,(iN ((bQ a)))),(9,(d9 1 b 10 c)),(10,(iN c)),(11,(iN c))])
theorem b5A (most:Int) (l:l9E) (g n:Nat) (hn:n=l.length) (hl:l.length < 1048576):AC 132 [(j3 0)] (Q7 most g n l) ((iN ((bQ l))),(Q7 most g n l)) :=
 x9 (fn:=Tryz.f132) (ann:=a0N) (Has.o Tryz.func132) (.r (.s (.s (.g (.loop (e0g l g n) (b5B most l g n hn hl n 0 0 (bQ l) ow ow (by subst hn; exact b6Z most l g)) (.qr 2 (iN ((bQ l)))))))))
def sN:Ann:={ gha:=[(1,.vir 3 9),(6,.cut 3),(7,.frz 2)],base:=2,fin:=some 2,live:=[(3,[3,9,10,11])],out:=[(3,[3,9,10,11])] }
@[simp] abbrev d4q (a:Int) (b:Nat) (c:Nat) (d:l9E) (e:Nat) (f:l9C) (g:Nat):Heap:=[bR a b c,(o_ b 10 (mE d)),(o_ (e+1) 9 (mC (f++[(nth d g).card])))]
@[simp] abbrev c0N (a:Nat) (b:Nat) (c:Nat) (d:Nat) (e:Nat):Fr:=(mkF 22 [(3,(d9 2 a 9 b)),(9,(d9 1 c 10 d)),(10,(iN d)),(11,(iN e))])
@[simp] abbrev c0M (a:Int) (b:Nat) (c:Nat) (d:l9E) (e:Nat) (f:l9C):Heap:=[bR a b c,(o_ b 10 (mE d)),(o_ e 9 (mC f))]
abbrev a5B (a:Int) (b:Nat) (c:Nat) (d:l9E) (e:Nat) (f:l9C):Heap:=[bR a b c,(o_ b 10 (mE d)),(o_ e 9 (mC f)),a0z]
theorem a2O (most:Int) (l:l9E) (g:Nat) (n:Nat) (out:l9C) (k:Nat) (h:Nat) (i:Nat) (hn:n=l.length) (hl:l.length < 1048576) (hk:k=out.length) (hki:k<=i) (hle_:i<=n) {eX:Ex} {FX:Fr} {HX:Heap} (k1:(l9 i n)=true->l6 (C8 sN Tryz.f18 0) (some [3,9,10,11]) (some [3,9,10,11]) (mkF 22 [(3,(d9 2 (h+1) 9 (k+1))),(9,(d9 1 g 10 n)),(10,(iN n)),(11,(iN (i+1)))]) (d4q most g n l h out i) eX FX HX) (k2:(l9 i n)=false->((.exit 0:Ex),(c0N h k g n i),(c0M most g n l h out))=(eX,FX,HX)):l6 (C8 sN Tryz.f18 0) (some [3,9,10,11]) (some [3,9,10,11]) (c0N h k g n i) (c0M most g n l h out) eX FX HX :=
 J7 (.r (.g (.two (l9 i n) (fun h1 h1'=>(.r (.h' (a5B most g n l h out) (.io 0 1 g 10 10 0 n (i:Int) i (I7.mk _ ow ow) (.t 1 (cl_ l i) (a5B most g n l h out) (J6 (F7 (row:=Entry.row) (l:=l) (k:=10) (room:=none) kr om) kr:M6 tt 93 0 (a5B most g n l h out) (rowAt (a5B most g n l h out) 1 g i)=some ((cl_ l i),(a5B most g n l h out))) (.s (.h' [(o_ 0 2 (xR most g n)),(o_ g 10 (mE l)),(o_ h 9 (mC out)),(o_ 0 10 [(Entry.row (nth l i))])] (.ap 4 30 (d9 2 h 9 k) (AV.sl .clip 9 [(j4.row (nth l i).card)]) (d9 2 (h+1) 9 (k+1)) [(o_ 0 2 (xR most g n)),(o_ g 10 (mE l)),(o_ (h+1) 9 (mC (out++[(nth l i).card]))),(o_ 0 10 [(Entry.row (nth l i))])] (I4 (row:=j4.row) (l:=out) (x:=(nth l i).card) (T:=tt) (e:=50) (te:=bZ) (z:=1) (b:=24) (y:=[.sl .nil 0 []]) kr kr rfl D8 D8 kr Z0 rfl rfl gV) (.s (.y 0 (.int .i64 (cb_ i)) (iN (i+1)) Yes.o (.h' (d4q most g n l h out i) (.b 3 (.g (.l (k1 h1))))))))))))))) (fun h1 h1'=>(.l (k2 h1))))))
def zG (most:Int) (l:List Entry) (g:Nat) (n:Nat) (i:Nat) (s:(List j4) × Nat × Nat):(List j4) × Nat × Nat:=(s.1++[(nth l i).card],(s.2.1+1),(s.2.2+1))
theorem b2Z (most:Int) (l:l9E) (g:Nat) (n:Nat) (hn:n=l.length) (hl:l.length < 1048576)  (r_:Nat):∀ (out:l9C) (k:Nat) (h:Nat) (i:Nat) (sF:l9C × Nat × Nat),i+r_=n->k=out.length->k<=i->sF=iter (zG most l g n) r_ i (out,k,h) ->
 l6 (C8 sN Tryz.f18 0) (some [3,9,10,11]) (some [3,9,10,11]) (c0N h k g n i) (c0M most g n l h out) (.exit 0) (mkF 22 [(3,(d9 2 sF.2.2 9 sF.2.1)),(9,(d9 1 g 10 n)),(10,(iN n)),(11,(iN n))]) [(o_ 0 2 [[(iI most),(d9 1 g 10 n)]]),(o_ g 10 (mE l)),(o_ sF.2.2 9 (mC sF.1))]:=by
 induction r_ with
 | zero =>
  intro out k h i sF hi_ hk hki  hF
  obtain rfl:n=i:=by omega
  have e_:sF=(out,k,h):=hF
  refine a2O most l g n out k h n hn hl hk hki J8 (fun h=>by simp at h <;> omega) (fun _=>?_)
  first | done | rfl | (rw [e_]; done) | (rw [e_]; rfl)
 | succ r_ ih =>
  intro out k h i sF hi_ hk hki  hF
  refine a2O most l g n out k h i hn hl hk hki ow (fun h1=>?_) (fun h=>by simp at h <;> omega)
  · exact ih (out++[(nth l i).card]) (k+1) (h+1) (i+1) sF ow X0 X0  (by rw [hF] <;> simp only [iter,zG,if_true,Bool.false_eq_true,if_false])
theorem b3a (most:Int) (l:l9E) (g:Nat):(l.map (·.card),l.length,l.length)=iter (zG most l g l.length) l.length 0 ([],0,0):=by
 rw [fO (zG most l g l.length) (fun s e=>(s.1++[e.card],s.2.1+1,s.2.2+1)) l (fun i s hi=>rfl),d0a (fun e:Entry=>e.card)]; simp
abbrev e0f (a:l9E) (b:Nat) (c:Nat):Fr:=(mkF 22 [(3,(d9 2 a.length 9 a.length)),(9,(d9 1 b 10 c)),(10,(iN c)),(11,(iN c))])
abbrev e0e (a:Int) (b:Nat) (c:Nat) (d:l9E):Heap:=[bR a b c,(o_ b 10 (mE d)),(o_ d.length 9 (mC (d.map (·.card))))]
theorem bS (most:Int) (l:l9E) (g n:Nat) (hn:n=l.length) (hl:l.length < 1048576):AC 18 [(j3 0)] (Q7 most g n l) ((sA 9 (mC (l.map (·.card)))),(Q7 most g n l)) :=
 x9 (fn:=Tryz.f18) (ann:=sN) (Has.o Tryz.func18) (.r (.s (.s (.g (.loop (e0f l g n) (b2Z most l g n hn hl n [] 0 0 0 (l.map (·.card),l.length,l.length) ow rfl ow (by subst hn; exact b3a most l g)) (.r (.w' 2 (mC (l.map (·.card))) (And.intro (G5 (room:=none) kr om) (j4.z8 _ _):I5 (e0e most g n l) 9 (d9 2 l.length 9 l.length)=some (mC (l.map (·.card)))/\AV.F3 0 (mC (l.map (·.card)))=true) (.g (.h' (Q7 most g n l) (.q 2 (sA 9 (mC (l.map (·.card))))))))))))))
end Go.Proofs.YtmghjcbabebanaaGreat.AM
namespace Go.Proofs.YtmghjcbabebanaaGreat.AM
open Go
theorem j5.a9o {P:Program} {f:FuncId} {args:List AV} {a:AV} {k k0:Nat} (h:j5 P f args [] (.obj 0 0 0 0,[⟨0,2,[[a,.sl .nil k0 []]],none⟩])):j5 P f args [] (.obj 0 0 0 0,[⟨0,2,[[a,.osl 1 0 k 0 0]],none⟩,⟨0,k,[],none⟩]) :=
 h.c4s fun G w C v hH hv=>nQ (id:=0) (e:=0) (c:=1) (k0:=k0) (o:=⟨0,2,[[a,.sl .nil k0 []]],none⟩) hH k rfl ye_ ye_ rfl hv (VR.shows hv (id:=0) (g:=0) (.inl ⟨_,_,rfl⟩) (by simpa using hH.gen 0 _ rfl))
open Go.Proofs.YtmghjcbabebanaaGreat
attribute [local irreducible] A9 D7 E9 F5 F8 F9 G6 G9 H6 J2 J9 K3 K4 K5 M8 Q5 R7 Tp.J5 Tp.K8 Tp.card Tp.cards Tp.key Tp.keyT Tp.next Tp.step V3 X6 bQ cmpL j5 l6 q9 sink
def r9 (most:Int):Int:=max 0 (min most 32)
def c8W:Ann:={ fin:=some 1 }
abbrev e1f (a:Int):Heap:=[(o_ 0 2 [[(iI (r9 a)),w9]])]
theorem c3n (most:Int) :AC 47 [(iI most)] [] ((j3 0),(e1f most)) :=
 x9 (fn:=Tryz.f47) (ann:=c8W) (Has.o Tryz.func47) (.r (.s (.y 1 (.int .i64 (if 32 < most then 32 else most)) (iI (min most 32)) (Yes.int yv_) (.y 2 (.int .i64 (if (min most 32) > 0 then (min most 32) else 0)) (iI (max 0 (min most 32))) (Yes.int yv_) (.g (.h' [(o_ 0 2 [[(iI (max 0 (min most 32))),w9]])] (.q 1 (j3 0))))))))
theorem c2j (most:Int) :AC 47 [(iI most)] [] ((j3 0),[(o_ 0 2 [[(iI (r9 most)),(d9 1 0 10 0)]]),(o_ 0 10 (mE []))]):=(c3n most).a9o
section
variable {G:Nat->Prop} {w:World} {C:Cx} {H:Heap}
end
end Go.Proofs.YtmghjcbabebanaaGreat.AM
namespace Go.Proofs.YtmghjcbabebanaaGreat.AM
open Go
theorem j5.d5N {P:Program} {f:FuncId} {k n e g m:Nat} {els ys:List (List AV)} (h:j5 P f [.sl .any k ys] [] (.osl 0 0 k 0 m,[⟨0,k,ys,none⟩])) (hs:AV.a0P ys=true) (hy:AV.F3 1 ys=true)
 (hb:Brs [⟨g,k,els,none⟩] [.osl 0 g k e n] [.sl .any k ys]):j5 P f [.osl 0 g k e n] [⟨g,k,els,none⟩] (.osl 0 (g+1) k 0 m,[⟨g+1,k,ys,none⟩]):=by
 have h0:=h.iC hs hb
 have h1:=h0.ghost (i:=0) (id:=0) (g:=g) (x:=.osl 0 g k e n) (a':=.osl 0 (g+1) k 0 m) (H2:=[⟨g+1,k,ys,none⟩]++[⟨1,k,[],none⟩]) rfl (.inr ⟨_,_,_,rfl⟩) rfl rfl rfl rfl
  fun G w C v hH hv hl=>a2M (id:=0) (j:=1) (g:=g) (gj:=0) hH D8 rfl rfl rfl rfl hv hl
 refine h1.forget rfl rfl fun id o ho=>.inr ?_
 cases id with
 | zero =>
  simp only [List.getElem?_cons_zero,Option.some.injEq] at ho
  subst ho
  exact hy
 | succ id=>simp at ho
theorem I7.mko {id g k n e0:Nat} {i:Int} {j:Nat} (m:Nat) (H:Heap) (hi:i=(m:Int)) (hj:m < n) (he:j=e0+m):I7 id g k k e0 n i H j:=by
 subst hi he
 have:(m:Int) < (n:Int):=by omega
 simp [I7,this]
open Go.Proofs.YtmghjcbabebanaaGreat
attribute [local irreducible] E9 H6 K5 O7 fP j5 l6 l7
def b4d:Ann:={ gha:=[(2,.vir 2 2)],fin:=some 1 }
theorem b0Y  :AC 169 [w9] [] ((d9 0 0 2 0),[(o_ 0 2 (mK []))]) :=
 x9 (fn:=Tryz.f169) (ann:=b4d) (Has.o Tryz.func169) (.r (.s (.ru (.g (.h' [(o_ 0 2 (mK []))] (.q 1 (d9 0 0 2 0)))))))
def b4c:Ann:={ own:=[7],fin:=some 1 }
theorem b0X (l:l9K) (hl:l.length < 1099511627776):AC 169 [(AV.sl .op 2 (mK l))] [] ((d9 0 0 2 l.length),[(o_ 0 2 (mK l))]) :=
 x9 (fn:=Tryz.f169) (ann:=b4c) (Has.o Tryz.func169) (.r (.s (.rn (.ao 2 31 (AV.sl .clip 2 []) (AV.sl .op 2 (mK l)) (d9 0 0 2 l.length) [(o_ 0 2 (mK l))] (aI (T:=tt) (e:=28) (te:=a6g) (z:=1) (b:=24) (y:=[.sl .nil 0 []]) (row:=Key.row) kr kr rfl D8 D8 ye_ Y3 rfl rfl rfl om) (.q 1 (d9 0 0 2 l.length))))))
theorem b4b (l:l9K) (hl:l.length < 1099511627776):AC 169 [(sA 2 (mK l))] [] ((d9 0 0 2 l.length),[(o_ 0 2 (mK l))]):=j5.a2q (fun h=>by
 have h2:l=[]:=by simpa using h
 subst h2; exact b0Y) (b0X l hl)
theorem b0W (l:l9K) (g e n:Nat) (hn:e+n=l.length) (hl:l.length < 1099511627776):AC 169 [(O4 0 g 2 e n)] [(o_ g 2 (mK l))] ((d9 0 (g+1) 2 n),[(o_ (g+1) 2 (mK (l.drop e)))]):=by
 have h:=b4b (l.drop e) c7L
 have e1:(l.drop e).length=n:=by rw [List.length_drop]; omega
 rw [e1] at h
 have e2:((l.map Key.row).drop e).take n=(l.drop e).map Key.row:=by rw [List.map_drop]; exact List.take_of_length_le (by rw [List.length_drop,List.length_map]; omega)
 exact j5.d5N h (gW (fun x=>rfl) _) (Key.z8 _ _) ⟨.osl (by simp [I5,hn,e2]) (Key.z8 _ _),trivial⟩
def d5I:Ann:={ base:=2,fin:=some 2 }
@[simp] abbrev d1j (a:l9K) (b:Nat):=[[(iN (a.length)),(d9 1 b 2 (l7 a).length)]]
abbrev c0G (a:l9K) (b:Nat):Heap:=[(o_ 0 2 (d1j a b)),(o_ b 2 (mK (l7 a)))]
theorem c8k (al:l9K) (g:Nat) :AC 101 [(j3 0)] (c0G al g) ((iN al.length),(c0G al g)) :=
 x9 (fn:=Tryz.f101) (ann:=d5I) (Has.o Tryz.func101) (.r (.g (.qr 2 (iN (al.length)))))
def c8P:Ann:={ refs:=[3],own:=[19],base:=2,fin:=some 2 }
abbrev d8E (a:l9K) (b:Key) (c:Nat):Heap:=[(o_ 0 2 [[(iN ((a++[b]).length)),(d9 1 (c+1+1) 2 (l7 (a++[b])).length)]]),(o_ (c+1+1) 2 (mK (l7 (a++[b]))))]
abbrev c0F (a:l9K) (b:Nat):Ob:=(o_ 0 2 [[(iN (a.length+1)),(d9 1 (b+1) 2 ((l7 a).length+1))]])
abbrev d1Y (a:l9K) (b:Nat) (c:Key):Heap:=[c0F a b,(o_ (b+1) 2 (mK ((l7 a)++[c])))]
abbrev d1X (a:l9K) (b:Nat) (c:Key):Heap:=[c0F a b,(o_ ((b+1)+1) 2 (mK (((l7 a)++[c]).drop (((l7 a).length+1) - 16))))]
theorem c2N (al:l9K) (k:Key) (g:Nat) (ha:al.length < 1000000):AC 125 [(AV.obj 0 0 0 0),(p9 (Key.row k))] (c0G al g) ((AV.int .i64 (((al++[k]).length:Nat):Int)),(d8E al k g)):=by
 have hr:=zL al
 have h1:=c8N al k
 have h2:(l7 al).length+1 - ((l7 al).length+1 - 16)=(l7 (al++[k])).length:=by rw [<- h1]; simp
 exact x9 (fn:=Tryz.f125) (ann:=c8P) (Has.o Tryz.func125) (.r (.s (.y 4 (iW (((al.length:Nat):Int)+1)) (AV.int .i64 ((al.length+1:Nat):Int)) Yes.o (.s (.h' [(o_ 0 2 [[(AV.int .i64 ((al.length+1:Nat):Int)),(d9 1 g 2 (l7 al).length)]]),(o_ g 2 ((l7 al).map Key.row))] (.ao 7 31 (d9 1 g 2 (l7 al).length) (AV.sl .clip 2 [(Key.row k)]) (d9 1 (g+1) 2 ((l7 al).length+1)) [(o_ 0 2 [[(AV.int .i64 ((al.length+1:Nat):Int)),(d9 1 g 2 (l7 al).length)]]),(o_ (g+1) 2 (((l7 al)++[k]).map Key.row))] (I8 (T:=tt) (e:=28) (te:=a6g) (z:=1) (b:=24) (y:=[.sl .nil 0 []]) (row:=Key.row) (l:=(l7 al)) kr kr rfl D8 D8 kr Y3 om rfl rfl (by first | omega | (show _ * 32<=_; omega) | (simp; done) | (simp; omega))) (.s (.h' (d1Y al g k) (.y 10 (iW (((((l7 al).length+1):Nat):Int) - 16)) (AV.int .i64 (((((l7 al).length+1):Nat):Int) - 16)) Yes.o (.y 11 (.int .i64 (if ((((l7 al).length+1):Nat):Int) - 16 > 0 then ((((l7 al).length+1):Nat):Int) - 16 else 0)) (AV.int .i64 (((((l7 al).length+1) - 16):Nat):Int)) (Yes.int yv_) (.so 12 1 (g+1) 2 0 ((l7 al).length+1) (((((l7 al).length+1) - 16):Nat):Int) ((((l7 al).length+1):Nat):Int) (O4 1 (g+1) 2 (((l7 al).length+1) - 16) (((l7 al).length+1) - (((l7 al).length+1) - 16))) (P7 (l:=(((l7 al).length+1) - 16)) (h:=((l7 al).length+1)) om om om om om om) (.ch 13 (d1X al g k) (j5.put2 [1] (d1Y al g k) (d9 1 ((g+1)+1) 2 (((l7 al).length+1) - (((l7 al).length+1) - 16))) (d1X al g k) (b0W ((l7 al)++[k]) (g+1) (((l7 al).length+1) - 16) (((l7 al).length+1) - (((l7 al).length+1) - 16)) oa oa) (⟨Ob.ren0 (Key.z8 0 _),trivial⟩) (⟨Ob.ren0 (Key.z8 0 _),trivial⟩)) (.s (.g (.h' [(o_ 0 2 [[(AV.int .i64 ((al.length+1:Nat):Int)),(d9 1 ((g+1)+1) 2 (((l7 al).length+1) - (((l7 al).length+1) - 16)))]]),(o_ ((g+1)+1) 2 ((((l7 al)++[k]).drop (((l7 al).length+1) - 16)).map Key.row))] (.q 2 (AV.int .i64 ((al.length+1:Nat):Int)) (by (try delta c0G d8E d1Y d1X c0F); rw [h2,h1,List.length_append]; rfl)))))))))))))))))
theorem b0F (l:l9K) (v:Key) (g q n:Nat) (hn:q+n=l.length) (hl:l.length < 1099511627776):AC 73 [(O4 0 g 2 q n),(p9 (Key.row v))] [(o_ g 2 (mK l))] ((bB (fP (l.drop q) v)),[(o_ g 2 (mK l))]):=by
 have h:=a2W (l.drop q) v c7L
 have e2:((l.map Key.row).drop q).take n=(l.drop q).map Key.row:=by rw [List.map_drop]; exact List.take_of_length_le (by rw [List.length_drop,List.length_map]; omega)
 exact h.borrow rfl ⟨.osl (by simp [I5,hn,e2]) (Key.z8 _ _),.same (by simp [AV.bdd]),trivial⟩
def jF:Ann:={ gh:=[(11,.frz 7)],gha:=[(2,.any 4 2),(4,.vir 7 2),(10,.cut 3)],base:=2,fin:=some 2,live:=[(6,[6,7,46,47,48])],out:=[(6,[6,7,46,47,48])] }
@[simp] abbrev a0y (a:l9K) (b:Nat):Ob:=(o_ 0 2 (d1j a b))
@[simp] abbrev d8D (a:l9K) (b:Nat) (c:Nat) (d:l9K) (e:Nat) (f:Nat):Heap:=[a0y a b,(o_ b 2 (mK (l7 a))),(o_ (c+1) 2 (mK (d++[(nth (l7 a) (e+f))])))]
@[simp] abbrev b2b (a:l9K) (b:Nat) (c:Nat) (d:l9K):Heap:=[a0y a b,(o_ b 2 (mK (l7 a))),(o_ c 2 (mK d))]
@[simp] abbrev d1W (a:Nat) (b:Nat) (c:Nat) (d:Nat) (e:Nat) (f:Nat):Fr:=(mkF 66 [(6,(O4 1 a 2 b c)),(7,(d9 2 d 2 e)),(46,(O4 1 a 2 b c)),(47,(iN c)),(48,(iN f))])
abbrev b2a (a:l9K) (b:Nat) (c:Nat) (d:l9K):Heap:=[a0y a b,(o_ b 2 (mK (l7 a))),(o_ c 2 (mK d)),(o_ 0 2 [[e_,e_]])]
abbrev d1V (a:l9K) (b:Nat) (c:Nat) (d:l9K) (e:Nat) (f:Nat):Heap:=[a0y a b,(o_ b 2 (mK (l7 a))),(o_ c 2 (mK d)),(o_ 0 2 [(Key.row (nth (l7 a) (e+f)))])]
@[simp] abbrev d1i :=(C8 jF Tryz.f162 0)
theorem a4i (al:l9K) (gq:Nat) (q:Nat) (n:Nat) (out:l9K) (k:Nat) (g:Nat) (i:Nat) (hn:q+n=(l7 al).length) (hl:(l7 al).length < 1048576) (hk:k=out.length) (hki:k<=i) (hle_:i<=n) {eX:Ex} {FX:Fr} {HX:Heap} (k1:(l9 i n)=true->(!(fP ((l7 al).drop (q+(i+1))) (nth (l7 al) (q+i))))=true->l6 d1i (some [6,7,46,47,48]) (some [6,7,46,47,48]) (mkF 66 [(6,(O4 1 gq 2 q n)),(7,(d9 2 (g+1) 2 (k+1))),(46,(O4 1 gq 2 q n)),(47,(iN n)),(48,(iN (i+1)))]) (d8D al gq g out q i) eX FX HX) (k2:(l9 i n)=true->(!(fP ((l7 al).drop (q+(i+1))) (nth (l7 al) (q+i))))=false->l6 d1i (some [6,7,46,47,48]) (some [6,7,46,47,48]) (mkF 66 [(6,(O4 1 gq 2 q n)),(7,(d9 2 g 2 k)),(46,(O4 1 gq 2 q n)),(47,(iN n)),(48,(iN (i+1)))]) (b2b al gq g out) eX FX HX) (k3:(l9 i n)=false->((.exit 0:Ex),(d1W gq q n g k i),(b2b al gq g out))=(eX,FX,HX)):l6 d1i (some [6,7,46,47,48]) (some [6,7,46,47,48]) (d1W gq q n g k i) (b2b al gq g out) eX FX HX :=
 J7 (.r (.g (.two (l9 i n) (fun h1 h1'=>(.r (.h' (b2a al gq g out) (.io 1 1 gq 2 2 q n (i:Int) (q+i) (I7.mko i _ ow ow ow) (.t 2 (p9 (Key.row (nth (l7 al) (q+i)))) (b2a al gq g out) (J6 (F7 (row:=Key.row) (l:=(l7 al)) (k:=2) (room:=none) kr om) kr:M6 tt 28 0 (b2a al gq g out) (rowAt (b2a al gq g out) 1 gq (q+i))=some ((p9 (Key.row (nth (l7 al) (q+i)))),(b2a al gq g out))) (.s (.h' (d1V al gq g out q i) (.y 2 (.int .i64 (cb_ i)) (iN (i+1)) Yes.o (.so 3 1 gq 2 q n ((i+1:Nat):Int) (n:Int) (O4 1 gq 2 (q+(i+1)) (n - (i+1))) (P7 (l:=i+1) (h:=n) om om om om om om) (.c 5 (j5.put2 [1] (d1V al gq g out q i) (bB (fP ((l7 al).drop (q+(i+1))) (nth (l7 al) (q+i)))) (d1V al gq g out q i) (b0F (l7 al) (nth (l7 al) (q+i)) gq (q+(i+1)) (n - (i+1)) oa oa) (⟨Ob.ren0 (Key.z8 0 _),trivial⟩) (⟨Ob.ren0 (Key.z8 0 _),trivial⟩)) (.g (.two (!(fP ((l7 al).drop (q+(i+1))) (nth (l7 al) (q+i)))) (fun h2 h2'=>(.r (.ap 3 31 (d9 2 g 2 k) (AV.sl .clip 2 [(Key.row (nth (l7 al) (q+i)))]) (d9 2 (g+1) 2 (k+1)) [(o_ 0 2 (d1j al gq)),(o_ gq 2 (mK (l7 al))),(o_ (g+1) 2 (mK (out++[(nth (l7 al) (q+i))]))),(o_ 0 2 [(Key.row (nth (l7 al) (q+i)))])] (I4 (row:=Key.row) (l:=out) (x:=(nth (l7 al) (q+i))) (T:=tt) (e:=28) (te:=a6g) (z:=1) (b:=24) (y:=[.sl .nil 0 []]) kr kr rfl D8 D8 kr Z0 rfl rfl b4W) (.s (.y 0 (.int .i64 (cb_ i)) (iN (i+1)) Yes.o (.h' (d8D al gq g out q i) (.b 3 (.g (.l (k1 h1 h2)))))))))) (fun h2 h2'=>(.r (.y 0 (.int .i64 (cb_ i)) (iN (i+1)) Yes.o (.h' (b2b al gq g out) (.b 3 (.g (.l (k2 h1 h2)))))))))))))))))))) (fun h1 h1'=>(.l (k3 h1))))))
def tT (al:List Key) (gq:Nat) (q:Nat) (n:Nat) (i:Nat) (s:(List Key) × Nat × Nat):(List Key) × Nat × Nat:=(if (!(fP ((l7 al).drop (q+(i+1))) (nth (l7 al) (q+i))))=true then (s.1++[(nth (l7 al) (q+i))],(s.2.1+1),(s.2.2+1)) else (s.1,s.2.1,s.2.2))
theorem b5D (al:l9K) (gq:Nat) (q:Nat) (n:Nat) (hn:q+n=(l7 al).length) (hl:(l7 al).length < 1048576)  (r_:Nat):∀ (out:l9K) (k:Nat) (g:Nat) (i:Nat) (sF:l9K × Nat × Nat),i+r_=n->k=out.length->k<=i->sF=iter (tT al gq q n) r_ i (out,k,g) ->
 l6 (C8 jF Tryz.f162 0) (some [6,7,46,47,48]) (some [6,7,46,47,48]) (d1W gq q n g k i) (b2b al gq g out) (.exit 0) (mkF 66 [(6,(O4 1 gq 2 q n)),(7,(d9 2 sF.2.2 2 sF.2.1)),(46,(O4 1 gq 2 q n)),(47,(iN n)),(48,(iN n))]) [(o_ 0 2 [[(iN (al.length)),(d9 1 gq 2 (l7 al).length)]]),(o_ gq 2 (mK (l7 al))),(o_ sF.2.2 2 (mK sF.1))]:=by
 induction r_ with
 | zero =>
  intro out k g i sF hi_ hk hki  hF
  obtain rfl:n=i:=by omega
  have e_:sF=(out,k,g):=hF
  refine a4i al gq q n out k g n hn hl hk hki J8 (fun h _=>by simp at h <;> omega) (fun h _=>by simp at h <;> omega) (fun _=>?_)
  first | done | rfl | (rw [e_]; done) | (rw [e_]; rfl)
 | succ r_ ih =>
  intro out k g i sF hi_ hk hki  hF
  refine a4i al gq q n out k g i hn hl hk hki ow (fun h1 h2=>?_) (fun h1 h2=>?_) (fun h=>by simp at h <;> omega)
  · exact ih (out++[(nth (l7 al) (q+i))]) (k+1) (g+1) (i+1) sF ow X0 X0  (by rw [hF] <;> simp only [iter,tT,h2,if_true,Bool.false_eq_true,if_false])
  · exact ih out k g (i+1) sF ow X0 X0  (by rw [hF] <;> simp only [iter,tT,h2,if_true,Bool.false_eq_true,if_false])
theorem b2V (al:l9K) (gq q n:Nat) (hn:q+n=(l7 al).length) (r:Nat):∀ (i:Nat) (out:l9K) (k g:Nat),i+r=n ->
 iter (tT al gq q n) r i (out,k,g)=(out++O7 ((l7 al).drop (q+i)),k+(O7 ((l7 al).drop (q+i))).length,g+(O7 ((l7 al).drop (q+i))).length):=by
 induction r with
 | zero =>
  intro i out k g hi
  have:(l7 al).drop (q+i)=[]:=List.drop_of_length_le ow
  rw [this]; simp [iter,O7]
 | succ r ih =>
  intro i out k g hi
  rw [aU (show q+i < (l7 al).length by omega)]
  simp only [iter,O7,tT]
  have e1:q+i+1=q+(i+1):=by omega
  rw [e1]
  by_cases h:(!(fP ((l7 al).drop (q+(i+1))) (nth (l7 al) (q+i))))=true
  · rw [if_pos h,if_pos h,ih (i+1) _ _ _ ow]; simp; omega
  · rw [if_neg h,if_neg h,ih (i+1) _ _ _ ow]
theorem b5E (al:l9K) (gq q n:Nat) (hn:q+n=(l7 al).length):(O7 ((l7 al).drop q),(O7 ((l7 al).drop q)).length,(O7 ((l7 al).drop q)).length)=iter (tT al gq q n) n 0 ([],0,0):=by
 rw [b2V al gq q n hn n 0 [] 0 0 ow]; simp
abbrev xW (a:l9K) (b:Nat):Heap:=[a0y a b,(o_ b 2 (mK (l7 a)))]
abbrev d7J (a:Nat) (b:l9K) (c:Nat):=(O4 1 a 2 ((l7 b).length - (b.length - c)) ((l7 b).length - ((l7 b).length - (b.length - c))))
abbrev d8C (a:Nat) (b:l9K) (c:Nat):Fr:=(mkF 66 [(6,(d7J a b c)),(7,(d9 2 (O7 ((l7 b).drop ((l7 b).length - (b.length - c)))).length 2 (O7 ((l7 b).drop ((l7 b).length - (b.length - c)))).length)),(46,(d7J a b c)),(47,(iN (((l7 b).length - ((l7 b).length - (b.length - c)))))),(48,(iN (((l7 b).length - ((l7 b).length - (b.length - c))))))])
abbrev d1U (a:l9K) (b:Nat) (c:Nat):Heap:=[a0y a b,(o_ b 2 (mK (l7 a))),(o_ ((O7 ((l7 a).drop ((l7 a).length - (a.length - c)))).length) 2 (mK (O7 ((l7 a).drop ((l7 a).length - (a.length - c))))))]
theorem b2W (al:l9K) (g:Nat) (n:Nat) (ha:al.length < 1000000) (h1:n<=al.length) (h2:al.length - n<=16):AC 162 [(AV.obj 0 0 0 0),(AV.int .i64 (n:Int))] (xW al g) ((AV.tup [(AV.sl .any 2 ((O7 (al.drop n)).map Key.row)),(AV.bool true)]),(xW al g)):=by
 have hr:=zL al
 have h3:=b6d h1 h2
 have h4:=a4P (al.drop n)
 have h5:(al.drop n).length=al.length - n:=List.length_drop
 exact x9 (fn:=Tryz.f162) (ann:=jF) (Has.o Tryz.func162) (.r (.s (.y 1 (AV.bool (decide ((n:Int) < 0))) (AV.bool false) (Yes.b ye_) (.n6 (.y 8 (AV.bool (decide ((n:Int) > ((al.length:Nat):Int)))) (AV.bool false) (Yes.b yg_) (.n6 (.y 16 (iW (((al.length:Nat):Int) - (n:Int))) (AV.int .i64 ((al.length - n:Nat):Int)) Yes.o (.n (.y 17 (AV.bool (decide (((al.length - n:Nat):Int) > 16))) (AV.bool false) (Yes.b yg_) (.rn (.y 14 (iW (((al.length:Nat):Int) - (n:Int))) (AV.int .i64 ((al.length - n:Nat):Int)) Yes.o (.y 15 (iW ((((l7 al).length:Nat):Int) - ((al.length - n:Nat):Int))) (AV.int .i64 (((l7 al).length - (al.length - n):Nat):Int)) Yes.o (.so 16 1 g 2 0 (l7 al).length (((l7 al).length - (al.length - n):Nat):Int) (((l7 al).length:Nat):Int) (O4 1 g 2 ((l7 al).length - (al.length - n)) ((l7 al).length - ((l7 al).length - (al.length - n)))) (P7 (l:=(l7 al).length - (al.length - n)) (h:=(l7 al).length) om om om om om om) (.s (.s (.g (.loop (d8C g al n) (show l6 (C8 jF Tryz.f162 0) (some [6,7,46,47,48]) (some [6,7,46,47,48]) (mkF 66 [(6,(O4 1 g 2 ((l7 al).length - (al.length - n)) ((l7 al).length - ((l7 al).length - (al.length - n))))),(7,(d9 2 0 2 0)),(46,(O4 1 g 2 ((l7 al).length - (al.length - n)) ((l7 al).length - ((l7 al).length - (al.length - n))))),(47,(AV.int .i64 (((l7 al).length - ((l7 al).length - (al.length - n)):Nat):Int))),(48,(AV.int .i64 0))]) [(o_ 0 2 [[(AV.int .i64 ((al.length:Nat):Int)),(d9 1 g 2 (l7 al).length)]]),(o_ g 2 ((l7 al).map Key.row)),(o_ 0 2 (List.map Key.row []))] (.exit 0) (d8C g al n) (d1U al g n) from (b5D al g ((l7 al).length - (al.length - n)) ((l7 al).length - ((l7 al).length - (al.length - n))) ow ow ((l7 al).length - ((l7 al).length - (al.length - n))) [] 0 0 0 (O7 (List.drop ((l7 al).length - (al.length - n)) (l7 al)),(O7 (List.drop ((l7 al).length - (al.length - n)) (l7 al))).length,(O7 (List.drop ((l7 al).length - (al.length - n)) (l7 al))).length) ow rfl ow (b5E _ _ _ _ ow))) (.r (.w 7 ((O7 ((l7 al).drop ((l7 al).length - (al.length - n)))).map Key.row) (And.intro (G5 (room:=none) kr (by first | omega | (simp [h3]; done) | (simp [h3]; omega))) (Key.z8 _ _):I5 (d1U al g n) 2 (d9 2 (O7 ((l7 al).drop ((l7 al).length - (al.length - n)))).length 2 (O7 ((l7 al).drop ((l7 al).length - (al.length - n)))).length)=some ((O7 ((l7 al).drop ((l7 al).length - (al.length - n)))).map Key.row)/\AV.F3 0 ((O7 ((l7 al).drop ((l7 al).length - (al.length - n)))).map Key.row)=true) (.g (.h' (xW al g) (.q 2 (AV.tup [(AV.sl .any 2 ((O7 ((l7 al).drop ((l7 al).length - (al.length - n)))).map Key.row)),(AV.bool true)]) (by (try delta xW d1U a0y); rw [h3])))))))))))))))))))))))
abbrev d1h :=(AV.tup [(sA 2 []),bF])
theorem a9D (al:l9K) (g:Nat) (n:Int) (ha:al.length < 1000000) (h:n < 0):AC 162 [(j3 0),(iI n)] (xW al g) ((AV.tup [(sA 2 (mK [])),bF]),(xW al g)) :=
 x9 (fn:=Tryz.f162) (ann:=jF) (Has.o Tryz.func162) (.r (.s (.y 1 (bB (decide (n < 0))) bT (Yes.b yg_) (.u6 (.u6 (.u (.g (.u (.qr 2 d1h)))))))))
theorem a9C (al:l9K) (g:Nat) (n:Int) (ha:al.length < 1000000) (h:0<=n) (h1:(al.length:Int) < n):AC 162 [(j3 0),(iI n)] (xW al g) ((AV.tup [(sA 2 (mK [])),bF]),(xW al g)) :=
 x9 (fn:=Tryz.f162) (ann:=jF) (Has.o Tryz.func162) (.r (.s (.y 1 (bB (decide (n < 0))) bF (Yes.b yg_) (.n6 (.y 8 (bB (decide (n > ((al.length:Nat):Int)))) bT (Yes.b yg_) (.u6 (.u (.g (.u (.qr 2 d1h))))))))))
theorem a9B (al:l9K) (g:Nat) (n:Nat) (ha:al.length < 1000000) (h1:n<=al.length) (h2:16 < al.length - n):AC 162 [(j3 0),(iN n)] (xW al g) ((AV.tup [(sA 2 (mK [])),bF]),(xW al g)) :=
 x9 (fn:=Tryz.f162) (ann:=jF) (Has.o Tryz.func162) (.r (.s (.y 1 (bB (decide ((n:Int) < 0))) bF (Yes.b ye_) (.n6 (.y 8 (bB (decide ((n:Int) > ((al.length:Nat):Int)))) bF (Yes.b yg_) (.n6 (.y 16 (iW (((al.length:Nat):Int) - (n:Int))) (iN (al.length - n)) Yes.o (.n (.y 17 (bB (decide (((al.length - n:Nat):Int) > 16))) bT (Yes.b yg_) (.g (.u (.qr 2 d1h))))))))))))
theorem a4j (al:l9K) (g:Nat) (n:Int) (ha:al.length < 1000000):AC 162 [(j3 0),(iI n)] [(o_ 0 2 [[(iN (al.length)),(d9 1 g 2 (l7 al).length)]]),(o_ g 2 (mK (l7 al)))] ((AV.tup [(sA 2 (mK (M4 al n))),(bB (okS al n))]),[(o_ 0 2 [[(iN (al.length)),(d9 1 g 2 (l7 al).length)]]),(o_ g 2 (mK (l7 al)))]):=by
 by_cases h:n < 0\/(al.length:Int) < n\/16 < (al.length:Int) - n
 · rw [a9E h,a7y h]
   by_cases h0:n < 0
   · exact a9D al g n ha h0
   · by_cases h1:(al.length:Int) < n
     · exact a9C al g n ha ow h1
     · obtain ⟨m,rfl⟩:=Int.eq_ofNat_of_zero_le (show 0<=n by omega)
       exact a9B al g m ha ow ow
 · obtain ⟨m,rfl⟩:=Int.eq_ofNat_of_zero_le (show 0<=n by omega)
   rw [b5F ow ow,b4x ow ow]
   exact b2W al g m ha ow ow
def P5 (s:ByteArray):List Int:=s.data.toList.map fun b=>(b.toNat:Int)
theorem uK (s:ByteArray):(P5 s).length=s.size:=by unfold P5; rw [List.length_map]; rfl
theorem c8M (H:Heap) (s:ByteArray):I5 H 1 (.str s)=some ((P5 s).map rU8):=by
 simp [I5,P5,rU8,Function.comp_def]
theorem c2p {H:Heap} {s:ByteArray} {lo hi:Int} {l h:Nat} (hlo:lo=(l:Int)) (hhi:hi=(h:Int)) (h1:l<=h) (h2:h<=s.size) :
 Option.map (fun a=>(a,H)) ((bounds lo hi s.size).map fun p=>AV.str (s.extract p.1 p.2))=some (.str (s.extract l h),H):=by
 subst hlo hhi
 unfold bounds
 rw [if_pos ⟨by omega,by omega,by omega⟩]
 simp
attribute [local irreducible] A9 F5 F6 F8 F9 G9 J4 K4 M8 Q5 R7 Tp.J5 Tp.K8 Tp.card Tp.cards Tp.key Tp.keyT Tp.next Tp.step U6 U7 V3 cmpL sink
def b4l:Ann:={ gha:=[(2,.vir 2 1)],fin:=some 1 }
theorem b1f  :AC 230 [w9] [] ((d9 0 0 1 0),[(o_ 0 1 (List.map rU8 []))]) :=
 x9 (fn:=Tryz.f230) (ann:=b4l) (Has.o Tryz.func230) (.r (.s (.ru (.g (.h' [(o_ 0 1 (List.map rU8 []))] (.q 1 (d9 0 0 1 0)))))))
def b4k:Ann:={ own:=[7],fin:=some 1 }
abbrev b1w (a:List Int):=(d9 0 0 1 a.length)
@[reducible] def uJ:TI:={ d:=.int .u8,size:=1,bytes:=1,zero:=[.int .u8 0] }
theorem b1e (l:List Int) (hl:l.length < 1099511627776):AC 230 [(AV.sl .op 1 (l.map rU8))] [] ((b1w l),[(o_ 0 1 (l.map rU8))]) :=
 x9 (fn:=Tryz.f230) (ann:=b4k) (Has.o Tryz.func230) (.r (.s (.rn (.ao 2 238 (AV.sl .clip 1 []) (AV.sl .op 1 (l.map rU8)) (b1w l) [(o_ 0 1 (l.map rU8))] (aI (T:=tt) (e:=5) (te:=uJ) (z:=1) (b:=24) (y:=[.sl .nil 0 []]) (row:=rU8) kr kr rfl D8 D8 ye_ Y3 rfl rfl rfl om) (.q 1 (b1w l))))))
theorem b4j (l:List Int) (hl:l.length < 1099511627776):AC 230 [(sA 1 (List.map rU8 l))] [] ((d9 0 0 1 l.length),[(o_ 0 1 (List.map rU8 l))]):=j5.a2q (fun h=>by
 have h2:l=[]:=by simpa using h
 subst h2; exact b1f) (b1e l hl)
theorem a8g (l:List Int) (hl:l.length < 1099511627776) (H:Heap):AC 230 [(sA 1 (List.map rU8 l))] H (.osl H.length 0 1 0 l.length,H++([(o_ 0 1 (List.map rU8 l))]:Heap)):=(b4j l hl).a3y kr (by simp [AV.F3,yC]) H
def aR (b:List Int) (n:Int):List Int:=b++[IntKind.u8.wrap n]
theorem qQ (b:List Int) (n:Int):(aR b n).length=b.length+1:=by simp [aR]
def c5p:Ann:={ own:=[10],fin:=some 1 }
theorem wP {p:Prop} (h:p:=by first | omega | (show _ * 1<=_; omega) | (simp; done) | (simp; omega)):p:=h
abbrev cap_ (a:List Int):=(d9 0 1 1 (a.length+1))
theorem a5f (b:List Int) (n:Int) (hb:b.length < 1048576):AC 224 [(sA 1 (b.map rU8)),(iI n)] [] ((d9 0 1 1 (aR b n).length),[(o_ 1 1 ((aR b n).map rU8))]):=by
 have hB:=qQ b n
 exact x9 (fn:=Tryz.f224) (ann:=c5p) (Has.o Tryz.func224) (.r (.s (.ch 1 [(o_ 0 1 (b.map rU8))] (a8g b oa []) (.ao 5 238 (b1w b) (AV.sl .clip 1 [[(AV.int .u8 (IntKind.u8.wrap n))]]) (cap_ b) [(o_ 1 1 ((b++[(IntKind.u8.wrap n)]).map rU8))] (I8 (T:=tt) (e:=5) (te:=uJ) (z:=1) (b:=24) (y:=[.sl .nil 0 []]) (row:=rU8) (l:=b) kr kr rfl D8 D8 kr Y3 om rfl rfl wP) (.q 1 (cap_ b) (by simp [aR]))))))
theorem d1l (b:List Int) (n:Int) (hb:b.length < 1048576) (H:Heap):AC 224 [(sA 1 (List.map rU8 b)),(iI n)] H (.osl H.length 1 1 0 (aR b n).length,H++([(o_ 1 1 (List.map rU8 (aR b n)))]:Heap)):=(a5f b n hb).a3y kr (by simp [AV.F3,yC]) H
theorem b9E (b:List Int) (n:Int) (hb:b.length < 1048576):AC 224 [(sA 1 (List.map rU8 b)),(iI n)] [] ((sA 1 (List.map rU8 (aR b n))),[]):=by
 have h1:=(a5f b n hb).a6w (xs:=(aR b n).map rU8) (G5 (room:=none) kr (by first | omega | simp)) (yC _ _)
 exact j5.forget (H2:=[]) (X:=[(o_ 2 1 [])]) h1 rfl kr (fun id o ho=>by simp at ho)
def a1m (s:ByteArray):ByteArray:=ByteArray.extract s 0 (min s.size 255)
theorem a8c (s:ByteArray):(a1m s).size=min s.size 255:=by simp [a1m]
def X8 (b:List Int) (s:ByteArray):List Int:=aR b (a1m s).size++P5 (a1m s)
theorem qI (b:List Int) (s:ByteArray):(X8 b s).length<=b.length+256:=by
 have:=a8c s
 simp only [X8,List.length_append,qQ,uK]; omega
def c1O:Ann:={ own:=[15],fin:=some 1 }
abbrev d7I (a:List Int) (b:ByteArray):=(d9 0 2 1 ((aR a (((ByteArray.extract b 0 (min b.size 255)).size:Nat):Int)).length+(P5 (ByteArray.extract b 0 (min b.size 255))).length))
theorem b5c (b:List Int) (s:ByteArray) (hb:b.length < 1048576):AC 225 [(sA 1 (b.map rU8)),(AV.str s)] [] ((d9 0 2 1 (X8 b s).length),[(o_ 2 1 ((X8 b s).map rU8))]):=by
 have hT:=qI b s
 have h7:(ByteArray.extract s 0 (min s.size 255)).size=min s.size 255:=a8c s
 have h5:=qQ b ((min s.size 255:Nat):Int)
 have h6:=uK (ByteArray.extract s 0 (min s.size 255))
 exact x9 (fn:=Tryz.f225) (ann:=c1O) (Has.o Tryz.func225) (.r (.s (.y 3 (.int .i64 (if 255 < (s.size:Int) then 255 else (s.size:Int))) (iN (min s.size 255)) (Yes.int yv_) (.t 4 (AV.str (ByteArray.extract s 0 (min s.size 255))) [] (c2p om om om om:Option.map (fun a=>(a,([]:Heap))) ((bounds 0 ((min s.size 255:Nat):Int) (ByteArray.size s)).map fun p=>AV.str (ByteArray.extract s p.1 p.2))=some ((AV.str (ByteArray.extract s 0 (min s.size 255))),([]:Heap))) (.s (.ch 3 [(o_ 1 1 ((aR b (((ByteArray.extract s 0 (min s.size 255)).size:Nat):Int)).map rU8))] (d1l b (((ByteArray.extract s 0 (min s.size 255)).size:Nat):Int) oa []) (.ao 5 238 (d9 0 1 1 (aR b (((ByteArray.extract s 0 (min s.size 255)).size:Nat):Int)).length) (AV.str (ByteArray.extract s 0 (min s.size 255))) (d7I b s) [(o_ 2 1 (((aR b (((ByteArray.extract s 0 (min s.size 255)).size:Nat):Int))++(P5 (ByteArray.extract s 0 (min s.size 255)))).map rU8))] (I8 (T:=tt) (e:=5) (te:=uJ) (z:=1) (b:=24) (y:=[.sl .nil 0 []]) (row:=rU8) (l:=(aR b (((ByteArray.extract s 0 (min s.size 255)).size:Nat):Int))) kr kr rfl D8 D8 kr (c8M _ _) om rfl rfl wP) (.q 1 (d7I b s) (by simp [X8,a1m,aR,uK] <;> omega)))))))))
theorem a3Z (b:List Int) (s:ByteArray) (hb:b.length < 1048576):AC 225 [(sA 1 (List.map rU8 b)),(AV.str s)] [] ((sA 1 (List.map rU8 (X8 b s))),[]):=by
 have h1:=(b5c b s hb).a6w (xs:=(X8 b s).map rU8) (G5 (room:=none) kr (by first | omega | simp)) (yC _ _)
 exact j5.forget (H2:=[]) (X:=[(o_ 3 1 [])]) h1 rfl kr (fun id o ho=>by simp at ho)
def c5f:Ann:={ fin:=some 0 }
abbrev b9B (a:List Int):=(AV.sl .cn 1 (a.map rU8))
theorem b8i (l:List Int) (hl:l.length < 1099511627776):AC 231 [(sA 1 (l.map rU8))] [] ((b9B l),[]) :=
 x9 (fn:=Tryz.f231) (ann:=c5f) (Has.o Tryz.func231) (.r (.s (.y 2 (.int .i64 ((List.length (l.map rU8):Nat):Int)) (iN l.length) (Yes.len _ _ _) (.y 4 (.int .i64 ((List.length (l.map rU8):Nat):Int)) (iN l.length) (Yes.len _ _ _) (.t 5 (b9B l) [] (a7i (l:=0) (h:=l.length) om om om om a9m (by first | rfl | omega | (simp; done) | (simp; omega)):Option.map (fun a=>(a,([]:Heap))) (if 1=1\/((l.map rU8)).isEmpty=true then (if ((l.length:Int):Int)=(l.length:Int) then (bounds 0 (l.length:Int) (l.map rU8).length).map fun p=>AV.sl .cn 1 ((List.take p.2 (l.map rU8)).drop p.1) else none) else none)=some ((b9B l),([]:Heap))) (.q 0 (b9B l)))))))
def iJ (n:Int) (k:Nat):Int:=IntKind.u8.wrap (Int.fdiv n (2 ^ (min (Int.toNat (8 * k:Nat)) 64)))
def oF (b:List Int) (n:Int):List Int:=b++[iJ n 7,iJ n 6,iJ n 5,iJ n 4,iJ n 3,iJ n 2,iJ n 1,iJ n 0]
theorem c9O (b:List Int) (n:Int):(oF b n).length=b.length+8:=by simp [oF]
def c9P:Ann:={ own:=[20],gh:=[(6,.frz 5)],fin:=some 0 }
abbrev gQ (a:Int):=(IntKind.u8.wrap (Int.fdiv a (2 ^ (min (Int.toNat 56) 64))))
abbrev iU (a:Int):=(IntKind.u8.wrap (Int.fdiv a (2 ^ (min (Int.toNat 48) 64))))
abbrev jZ (a:Int):=(IntKind.u8.wrap (Int.fdiv a (2 ^ (min (Int.toNat 40) 64))))
abbrev mW (a:Int):=(IntKind.u8.wrap (Int.fdiv a (2 ^ (min (Int.toNat 32) 64))))
abbrev sG (a:Int):=(IntKind.u8.wrap (Int.fdiv a (2 ^ (min (Int.toNat 24) 64))))
abbrev xQ (a:Int):=(IntKind.u8.wrap (Int.fdiv a (2 ^ (min (Int.toNat 16) 64))))
abbrev a1B (a:Int):=(IntKind.u8.wrap (Int.fdiv a (2 ^ (min (Int.toNat 8) 64))))
abbrev a6T (a:Int):=(IntKind.u8.wrap (Int.fdiv a (2 ^ (min (Int.toNat 0) 64))))
abbrev d2p (a:List Int) (b:Int):Heap:=[(o_ 8 1 (((((((((a++[(gQ b)])++[(iU b)])++[(jZ b)])++[(mW b)])++[(sG b)])++[(xQ b)])++[(a1B b)])++[(a6T b)]).map rU8))]
abbrev e0V (a:List Int) (b:Int):=(AV.sl .cn 1 (((((((((a++[(IntKind.u8.wrap (Int.fdiv b (2 ^ (min (Int.toNat 56) 64))))])++[(IntKind.u8.wrap (Int.fdiv b (2 ^ (min (Int.toNat 48) 64))))])++[(IntKind.u8.wrap (Int.fdiv b (2 ^ (min (Int.toNat 40) 64))))])++[(IntKind.u8.wrap (Int.fdiv b (2 ^ (min (Int.toNat 32) 64))))])++[(IntKind.u8.wrap (Int.fdiv b (2 ^ (min (Int.toNat 24) 64))))])++[(IntKind.u8.wrap (Int.fdiv b (2 ^ (min (Int.toNat 16) 64))))])++[(IntKind.u8.wrap (Int.fdiv b (2 ^ (min (Int.toNat 8) 64))))])++[(IntKind.u8.wrap (Int.fdiv b (2 ^ (min (Int.toNat 0) 64))))]).map rU8))
theorem c4g (b:List Int) (n:Int) (hb:b.length < 1048576):AC 227 [(sA 1 (b.map rU8)),(iI n)] [] ((AV.sl .cn 1 ((oF b n).map rU8)),[]) :=
 x9 (fn:=Tryz.f227) (ann:=c9P) (Has.o Tryz.func227) (.r (.s (.ch 1 [(o_ 0 1 (b.map rU8))] (a8g b oa []) (.s (.g (.roll 9 (.r (.ru (.ao 7 238 (b1w b) (AV.sl .clip 1 [[(AV.int .u8 (gQ n))]]) (cap_ b) [(o_ 1 1 ((b++[(gQ n)]).map rU8))] (I8 (T:=tt) (e:=5) (te:=uJ) (z:=1) (b:=24) (y:=[.sl .nil 0 []]) (row:=rU8) (l:=b) kr kr rfl D8 D8 kr Y3 om rfl rfl wP) (.s (.s (.ru (.ao 7 238 (cap_ b) (AV.sl .clip 1 [[(AV.int .u8 (iU n))]]) (d9 0 2 1 ((b.length+1)+1)) [(o_ 2 1 (((b++[(gQ n)])++[(iU n)]).map rU8))] (I8 (T:=tt) (e:=5) (te:=uJ) (z:=1) (b:=24) (y:=[.sl .nil 0 []]) (row:=rU8) (l:=b++[(gQ n)]) kr kr rfl D8 D8 kr Y3 om rfl rfl wP) (.s (.s (.ru (.ao 7 238 (d9 0 2 1 ((b.length+1)+1)) (AV.sl .clip 1 [[(AV.int .u8 (jZ n))]]) (d9 0 3 1 (((b.length+1)+1)+1)) [(o_ 3 1 ((((b++[(gQ n)])++[(iU n)])++[(jZ n)]).map rU8))] (I8 (T:=tt) (e:=5) (te:=uJ) (z:=1) (b:=24) (y:=[.sl .nil 0 []]) (row:=rU8) (l:=(b++[(gQ n)])++[(iU n)]) kr kr rfl D8 D8 kr Y3 om rfl rfl wP) (.s (.s (.ru (.ao 7 238 (d9 0 3 1 (((b.length+1)+1)+1)) (AV.sl .clip 1 [[(AV.int .u8 (mW n))]]) (d9 0 4 1 ((((b.length+1)+1)+1)+1)) [(o_ 4 1 (((((b++[(gQ n)])++[(iU n)])++[(jZ n)])++[(mW n)]).map rU8))] (I8 (T:=tt) (e:=5) (te:=uJ) (z:=1) (b:=24) (y:=[.sl .nil 0 []]) (row:=rU8) (l:=((b++[(gQ n)])++[(iU n)])++[(jZ n)]) kr kr rfl D8 D8 kr Y3 om rfl rfl wP) (.s (.s (.ru (.ao 7 238 (d9 0 4 1 ((((b.length+1)+1)+1)+1)) (AV.sl .clip 1 [[(AV.int .u8 (sG n))]]) (d9 0 5 1 (((((b.length+1)+1)+1)+1)+1)) [(o_ 5 1 ((((((b++[(gQ n)])++[(iU n)])++[(jZ n)])++[(mW n)])++[(sG n)]).map rU8))] (I8 (T:=tt) (e:=5) (te:=uJ) (z:=1) (b:=24) (y:=[.sl .nil 0 []]) (row:=rU8) (l:=(((b++[(gQ n)])++[(iU n)])++[(jZ n)])++[(mW n)]) kr kr rfl D8 D8 kr Y3 om rfl rfl wP) (.s (.s (.ru (.ao 7 238 (d9 0 5 1 (((((b.length+1)+1)+1)+1)+1)) (AV.sl .clip 1 [[(AV.int .u8 (xQ n))]]) (d9 0 6 1 ((((((b.length+1)+1)+1)+1)+1)+1)) [(o_ 6 1 (((((((b++[(gQ n)])++[(iU n)])++[(jZ n)])++[(mW n)])++[(sG n)])++[(xQ n)]).map rU8))] (I8 (T:=tt) (e:=5) (te:=uJ) (z:=1) (b:=24) (y:=[.sl .nil 0 []]) (row:=rU8) (l:=((((b++[(gQ n)])++[(iU n)])++[(jZ n)])++[(mW n)])++[(sG n)]) kr kr rfl D8 D8 kr Y3 om rfl rfl wP) (.s (.s (.ru (.ao 7 238 (d9 0 6 1 ((((((b.length+1)+1)+1)+1)+1)+1)) (AV.sl .clip 1 [[(AV.int .u8 (a1B n))]]) (d9 0 7 1 (((((((b.length+1)+1)+1)+1)+1)+1)+1)) [(o_ 7 1 ((((((((b++[(gQ n)])++[(iU n)])++[(jZ n)])++[(mW n)])++[(sG n)])++[(xQ n)])++[(a1B n)]).map rU8))] (I8 (T:=tt) (e:=5) (te:=uJ) (z:=1) (b:=24) (y:=[.sl .nil 0 []]) (row:=rU8) (l:=(((((b++[(gQ n)])++[(iU n)])++[(jZ n)])++[(mW n)])++[(sG n)])++[(xQ n)]) kr kr rfl D8 D8 kr Y3 om rfl rfl wP) (.s (.s (.ru (.ao 7 238 (d9 0 7 1 (((((((b.length+1)+1)+1)+1)+1)+1)+1)) (AV.sl .clip 1 [[(AV.int .u8 (a6T n))]]) (d9 0 8 1 ((((((((b.length+1)+1)+1)+1)+1)+1)+1)+1)) (d2p b n) (I8 (T:=tt) (e:=5) (te:=uJ) (z:=1) (b:=24) (y:=[.sl .nil 0 []]) (row:=rU8) (l:=((((((b++[(gQ n)])++[(iU n)])++[(jZ n)])++[(mW n)])++[(sG n)])++[(xQ n)])++[(a1B n)]) kr kr rfl D8 D8 kr Y3 om rfl rfl wP) (.s (.s (.rn (.w 5 (((((((((b++[(gQ n)])++[(iU n)])++[(jZ n)])++[(mW n)])++[(sG n)])++[(xQ n)])++[(a1B n)])++[(a6T n)]).map rU8) (And.intro (G5 (room:=none) kr om) (yC _ _):I5 (d2p b n) 1 (d9 0 8 1 ((((((((b.length+1)+1)+1)+1)+1)+1)+1)+1))=some (((((((((b++[(gQ n)])++[(iU n)])++[(jZ n)])++[(mW n)])++[(sG n)])++[(xQ n)])++[(a1B n)])++[(a6T n)]).map rU8)/\AV.F3 0 (((((((((b++[(gQ n)])++[(iU n)])++[(jZ n)])++[(mW n)])++[(sG n)])++[(xQ n)])++[(a1B n)])++[(a6T n)]).map rU8)=true) (.c 1 ((b8i ((((((((b++[(gQ n)])++[(iU n)])++[(jZ n)])++[(mW n)])++[(sG n)])++[(xQ n)])++[(a1B n)])++[(a6T n)]) oa).lift kr kr [(o_ 9 1 [])]) (.g (.h' [] (.q 0 (e0V b n) (by (try delta d2p); simp [oF,iJ]))))))))))))))))))))))))))))))))))))))))))))))
theorem c4f (b:List Int) (n:Int) (hb:b.length < 1048576):AC 227 [(sA 1 (List.map rU8 b)),(iI n)] [] ((sA 1 (List.map rU8 (oF b n))),[]):=(c4g b n hb).post ⟨rfl,rfl,.inl rfl⟩
def dW (c:j4):Int:=if c.gone=true then 0 else if (c.over != 0)=true then c.over else c.status
def c2r:Ann:={ refs:=[1],fin:=some 0 }
theorem b5G (c:j4) :AC 226 [(p9 (j4.row c))] [] ((iI (dW c)),[]) :=
 x9 (fn:=Tryz.f226) (ann:=c2r) (Has.o Tryz.func226) (.r (.s (.g (.two c.gone (fun h1 h1'=>(.qr 0 z_ (by simp_all [dW]))) (fun h1 h1'=>(.r (.g (.two (c.over != 0) (fun h2 h2'=>(.qr 0 (iI c.over) (by simp_all [dW]))) (fun h2 h2'=>(.qr 0 (iI c.status) (by simp_all [dW])))))))))))
def V9 (l:List j4):List j4:=l.filter fun c=>!c.gone
def Y8 (l:List j4):List j4:=J4 (V9 l)
theorem a7Q (l:l9C):(V9 l).length<=l.length:=List.length_filter_le _ _
theorem a7m (l:l9C):(Y8 l).length<=l.length:=by unfold Y8; rw [qJ]; exact a7Q l
def a3k:Ann:={ gh:=[(8,.frz 3)],gha:=[(1,.vir 3 9),(7,.cut 1)],fin:=some 0,live:=[(3,[3,6,7,8])],out:=[(3,[3,6,7,8])] }
@[simp] abbrev d9f (a:Nat) (b:l9C) (c:l9C) (d:Nat):Heap:=[(o_ (a+1) 9 (mC (b++[(nth c d)])))]
@[simp] abbrev d2o (a:Nat) (b:Nat) (c:l9C) (d:Nat):Fr:=(mkF 22 [(3,(d9 0 a 9 b)),(6,(sA 9 (mC c))),(7,(iN c.length)),(8,(iN d))])
@[simp] abbrev b9w :=(C8 a3k Tryz.f161 0)
theorem a7l (l:l9C) (out:l9C) (k:Nat) (g:Nat) (i:Nat) (hl:l.length < 1048576) (hk:k=out.length) (hki:k<=i) (hle_:i<=l.length) {eX:Ex} {FX:Fr} {HX:Heap} (k1:(l9 i l.length)=true->(!(nth l i).gone)=true->l6 b9w (some [3,6,7,8]) (some [3,6,7,8]) (mkF 22 [(3,(cw_ g k)),(6,(sA 9 (mC l))),(7,(iN l.length)),(8,(iN (i+1)))]) (d9f g out l i) eX FX HX) (k2:(l9 i l.length)=true->(!(nth l i).gone)=false->l6 b9w (some [3,6,7,8]) (some [3,6,7,8]) (mkF 22 [(3,(d9 0 g 9 k)),(6,(sA 9 (mC l))),(7,(iN l.length)),(8,(iN (i+1)))]) [(o_ g 9 (mC out))] eX FX HX) (k3:(l9 i l.length)=false->((.exit 0:Ex),(d2o g k l i),[(o_ g 9 (mC out))])=(eX,FX,HX)):l6 b9w (some [3,6,7,8]) (some [3,6,7,8]) (d2o g k l i) [(o_ g 9 (mC out))] eX FX HX :=
 J7 (.r (.g (.two (l9 i l.length) (fun h1 h1'=>(.r (.h' [(o_ g 9 (mC out)),(o_ 0 9 [[e_,e_,z_,z_,z_,z_,z_,z_,bF]])] (.is 0 9 9 (mC l) (i:Int) (j4.row (nth l i)) (N7.mk _ ow ow) (.s (.g (.two (!(nth l i).gone) (fun h2 h2'=>(.r (.h' (a1Y g out l i) (.ap 3 30 (d9 0 g 9 k) (cy_ l i) (cw_ g k) [(o_ (g+1) 9 (mC (out++[(nth l i)]))),(o_ 0 9 [(j4.row (nth l i))])] (I4 (row:=j4.row) (l:=out) (x:=(nth l i)) (T:=tt) (e:=50) (te:=bZ) (z:=1) (b:=24) (y:=[.sl .nil 0 []]) kr kr rfl D8 D8 kr Z0 rfl rfl gV) (.s (.y 0 (.int .i64 (cb_ i)) (iN (i+1)) Yes.o (.h' (d9f g out l i) (.b 1 (.g (.l (k1 h1 h2))))))))))) (fun h2 h2'=>(.r (.h' (a1Y g out l i) (.y 0 (.int .i64 (cb_ i)) (iN (i+1)) Yes.o (.h' [(o_ g 9 (mC out))] (.b 1 (.g (.l (k2 h1 h2)))))))))))))))) (fun h1 h1'=>(.l (k3 h1))))))
def yB (l:List j4) (i:Nat) (s:(List j4) × Nat × Nat):(List j4) × Nat × Nat:=(if (!(nth l i).gone)=true then (s.1++[(nth l i)],(s.2.1+1),(s.2.2+1)) else (s.1,s.2.1,s.2.2))
theorem c2s (l:l9C) (hl:l.length < 1048576)  (r_:Nat):∀ (out:l9C) (k:Nat) (g:Nat) (i:Nat) (sF:l9C × Nat × Nat),i+r_=l.length->k=out.length->k<=i->sF=iter (yB l) r_ i (out,k,g) ->
 l6 (C8 a3k Tryz.f161 0) (some [3,6,7,8]) (some [3,6,7,8]) (d2o g k l i) [(o_ g 9 (mC out))] (.exit 0) (mkF 22 [(3,(d9 0 sF.2.2 9 sF.2.1)),(6,(sA 9 (mC l))),(7,(iN l.length)),(8,(iN l.length))]) [(o_ sF.2.2 9 (mC sF.1))]:=by
 induction r_ with
 | zero =>
  intro out k g i sF hi_ hk hki  hF
  obtain rfl:l.length=i:=by omega
  have e_:sF=(out,k,g):=hF
  refine a7l l out k g l.length hl hk hki J8 (fun h _=>by simp at h <;> omega) (fun h _=>by simp at h <;> omega) (fun _=>?_)
  first | done | rfl | (rw [e_]; done) | (rw [e_]; rfl)
 | succ r_ ih =>
  intro out k g i sF hi_ hk hki  hF
  refine a7l l out k g i hl hk hki ow (fun h1 h2=>?_) (fun h1 h2=>?_) (fun h=>by simp at h <;> omega)
  · exact ih (out++[(nth l i)]) (k+1) (g+1) (i+1) sF ow X0 X0  (by rw [hF] <;> simp only [iter,yB,h2,if_true,Bool.false_eq_true,if_false])
  · exact ih out k g (i+1) sF ow X0 X0  (by rw [hF] <;> simp only [iter,yB,h2,if_true,Bool.false_eq_true,if_false])
theorem c2t (l:l9C):(V9 l,(V9 l).length,(V9 l).length)=iter (yB l) l.length 0 ([],0,0):=by
 rw [fO (yB l) (fun s c=>if (fun c:j4=>!c.gone) c=true then (s.1++[c],s.2.1+1,s.2.2+1) else s) l (fun i s hi=>by simp [yB])]
 rw [b7I (fun c:j4=>!c.gone) (fun c=>c) l]; simp [V9]
def kQ (b:List Int) (c:j4):List Int:=oF (aR (X8 (X8 b c.key.app) c.key.id) (dW c)) c.lease
theorem a8j (b:List Int) (c:j4):(kQ b c).length<=b.length+521:=by
 have h1:=qI b c.key.app
 have h2:=qI (X8 b c.key.app) c.key.id
 unfold kQ; rw [c9O,qQ]; omega
def iX (l:List j4):List Int:=(Y8 l).foldl kQ []
theorem b9A (l:l9C):∀ (b:List Int),(l.foldl kQ b).length<=b.length+l.length * 521:=by
 induction l with
 | nil=>intro b; simp
 | cons c l ih=>intro b; have h1:=ih (kQ b c); have h2:=a8j b c; simp only [List.foldl_cons,List.length_cons]; omega
theorem c2u (l:l9C):(iX l).length<=l.length * 521:=by
 have h1:=b9A (Y8 l) []
 have h2:=a7m l
 unfold iX; simp only [List.length_nil] at h1; omega
def a0O:Ann:={ gha:=[(1,.any 3 1),(7,.cut 0)],fin:=some 0,live:=[(3,[3,7,8,9])],out:=[(3,[3,7,8,9])] }
@[simp] abbrev d2n (a:List Int) (b:l9C) (c:Nat):Fr:=(mkF 31 [(3,(sA 1 (a.map rU8))),(7,(sA 9 (mC b))),(8,(iN b.length)),(9,(iN c))])
@[simp] abbrev d1e :=(C8 a0O Tryz.f213 0)
theorem a4o (l:l9C) (b:List Int) (i:Nat) (hl:l.length < 1000) (hb:b.length<=i * 521) (hle_:i<=l.length) {eX:Ex} {FX:Fr} {HX:Heap} (k1:(l9 i l.length)=true->l6 d1e (some [3,7,8,9]) (some [3,7,8,9]) (mkF 31 [(3,(sA 1 ((oF (aR (X8 (X8 b (nth l i).key.app) (nth l i).key.id) (dW (nth l i))) (nth l i).lease).map rU8))),(7,(sA 9 (mC l))),(8,(iN l.length)),(9,(iN (i+1)))]) [] eX FX HX) (k2:(l9 i l.length)=false->((.exit 0:Ex),(d2n b l i),[])=(eX,FX,HX)):l6 d1e (some [3,7,8,9]) (some [3,7,8,9]) (d2n b l i) [] eX FX HX:=by
 have h1:=qI b (nth l i).key.app
 have h2:=qI (X8 b (nth l i).key.app) (nth l i).key.id
 have h3:=qQ (X8 (X8 b (nth l i).key.app) (nth l i).key.id) (dW (nth l i))
 exact J7 (.r (.g (.two (l9 i l.length) (fun h1 h1'=>(.r (.h' [(o_ 0 9 [[e_,e_,z_,z_,z_,z_,z_,z_,bF]])] (.is 0 9 9 (mC l) (i:Int) (j4.row (nth l i)) (N7.mk _ ow ow) (.s (.c 4 ((a3Z b (nth l i).key.app oa).lift kr kr [(o_ 0 9 [(j4.row (nth l i))])]) (.c 8 ((a3Z (X8 b (nth l i).key.app) (nth l i).key.id oa).lift kr kr [(o_ 0 9 [(j4.row (nth l i))])]) (.c 10 ((b5G (nth l i)).lift kr kr [(o_ 0 9 [(j4.row (nth l i))])]) (.c 11 ((b9E (X8 (X8 b (nth l i).key.app) (nth l i).key.id) (dW (nth l i)) oa).lift kr kr [(o_ 0 9 [(j4.row (nth l i))])]) (.rd (cp_ l i) [(o_ 0 9 [(j4.row (nth l i))])] (.rd (cp_ l i) [(o_ 0 9 [(j4.row (nth l i))])] (.rd (AV.str (nth l i).key.id) [(o_ 0 9 [(j4.row (nth l i))])] (.s (.c 3 ((c4f (aR (X8 (X8 b (nth l i).key.app) (nth l i).key.id) (dW (nth l i))) (nth l i).lease oa).lift kr kr [(o_ 0 9 [(j4.row (nth l i))])]) (.s (.h' [(o_ 0 9 [(j4.row (nth l i))])] (.y 0 (.int .i64 (cb_ i)) (iN (i+1)) Yes.o (.h' [] (.b 0 (.g (.l (k1 h1)))))))))))))))))))))) (fun h1 h1'=>(.l (k2 h1))))))
def a2j (l:List j4) (i:Nat) (s:(List Int)):(List Int):=(oF (aR (X8 (X8 s (nth l i).key.app) (nth l i).key.id) (dW (nth l i))) (nth l i).lease)
theorem b5H (l:l9C) (hl:l.length < 1000)  (r_:Nat):∀ (b:List Int) (i:Nat) (sF:(List Int)),i+r_=l.length->b.length<=i * 521->sF=iter (a2j l) r_ i b ->
 l6 (C8 a0O Tryz.f213 0) (some [3,7,8,9]) (some [3,7,8,9]) (d2n b l i) [] (.exit 0) (mkF 31 [(3,(sA 1 (List.map rU8 sF))),(7,(sA 9 (mC l))),(8,(iN l.length)),(9,(iN l.length))]) []:=by
 induction r_ with
 | zero =>
  intro b i sF hi_ hb  hF
  obtain rfl:l.length=i:=by omega
  have e_:sF=b:=hF
  refine a4o l b l.length hl hb J8 (fun h=>by simp at h <;> omega) (fun _=>?_)
  first | done | rfl | (rw [e_]; done) | (rw [e_]; rfl)
 | succ r_ ih =>
  intro b i sF hi_ hb  hF
  refine a4o l b i hl hb ow (fun h1=>?_) (fun h=>by simp at h <;> omega)
  · exact ih (oF (aR (X8 (X8 b (nth l i).key.app) (nth l i).key.id) (dW (nth l i))) (nth l i).lease) (i+1) sF ow (by have h9:(oF (aR (X8 (X8 b (nth l i).key.app) (nth l i).key.id) (dW (nth l i))) (nth l i).lease).length<=b.length+521:=a8j b (nth l i); first | omega | assumption | (simp; done) | (simp; omega) | (simp [*]; done) | (simp [*]; omega))  (by rw [hF] <;> simp only [iter,a2j,if_true,Bool.false_eq_true,if_false])
theorem b5I (l:l9C):l.foldl kQ []=iter (a2j l) l.length 0 []:=(fO (a2j l) kQ l (fun i s hi=>rfl) []).symm
def xY (h x:Int):Int:=IntKind.u32.wrap (IntKind.u32.wrap (IntKind.u32.wrap (h * 31)+IntKind.u32.wrap x)+7)
def wT (l:List Int):Int:=l.foldl xY 17
def a6j:Ann:={ fin:=some 0,live:=[(3,[3,6,7,8])],out:=[(3,[3,6,7,8])] }
@[simp] abbrev d2m (a:Int) (b:List Int) (c:Nat):Fr:=(mkF 20 [(3,(AV.int .u32 a)),(6,(sA 1 (b.map rU8))),(7,(iN b.length)),(8,(iN c))])
@[simp] abbrev d1d :=(C8 a6j Tryz.f212 0)
theorem a9t (l:List Int) (h:Int) (i:Nat) (hl:l.length < 1048576) (hle_:i<=l.length) {eX:Ex} {FX:Fr} {HX:Heap} (k1:(l9 i l.length)=true->l6 d1d (some [3,6,7,8]) (some [3,6,7,8]) (mkF 20 [(3,(AV.int .u32 (IntKind.u32.wrap ((IntKind.u32.wrap ((IntKind.u32.wrap (h * 31))+(IntKind.u32.wrap (nth l i))))+7)))),(6,(sA 1 (l.map rU8))),(7,(iN l.length)),(8,(iN (i+1)))]) [] eX FX HX) (k2:(l9 i l.length)=false->((.exit 0:Ex),(d2m h l i),[])=(eX,FX,HX)):l6 d1d (some [3,6,7,8]) (some [3,6,7,8]) (d2m h l i) [] eX FX HX :=
 J7 (.r (.g (.two (l9 i l.length) (fun h1 h1'=>(.r (.is 0 1 1 (l.map rU8) (i:Int) (rU8 (nth l i)) (N7.mk _ ow ow) (.s (.s (.y 0 (.int .i64 (cb_ i)) (iN (i+1)) Yes.o (.g (.l (k1 h1))))))))) (fun h1 h1'=>(.l (k2 h1))))))
def a8B (l:List Int) (i:Nat) (s:Int):Int:=((IntKind.u32.wrap ((IntKind.u32.wrap ((IntKind.u32.wrap (s * 31))+(IntKind.u32.wrap (nth l i))))+7)))
theorem c8c (l:List Int) (hl:l.length < 1048576)  (r_:Nat):∀ (h:Int) (i:Nat) (sF:Int),i+r_=l.length->sF=iter (a8B l) r_ i h ->
 l6 (C8 a6j Tryz.f212 0) (some [3,6,7,8]) (some [3,6,7,8]) (d2m h l i) [] (.exit 0) (mkF 20 [(3,(AV.int .u32 sF)),(6,(sA 1 (List.map rU8 l))),(7,(iN l.length)),(8,(iN l.length))]) []:=by
 induction r_ with
 | zero =>
  intro h i sF hi_   hF
  obtain rfl:l.length=i:=by omega
  have e_:sF=h:=hF
  refine a9t l h l.length hl J8 (fun h=>by simp at h <;> omega) (fun _=>?_)
  first | done | rfl | (rw [e_]; done) | (rw [e_]; rfl)
 | succ r_ ih =>
  intro h i sF hi_   hF
  refine a9t l h i hl ow (fun h1=>?_) (fun h=>by simp at h <;> omega)
  · exact ih (IntKind.u32.wrap ((IntKind.u32.wrap ((IntKind.u32.wrap (h * 31))+(IntKind.u32.wrap (nth l i))))+7)) (i+1) sF ow   (by rw [hF] <;> simp only [iter,a8B,if_true,Bool.false_eq_true,if_false])
theorem c8d (l:List Int):wT l=iter (a8B l) l.length 0 17:=(fO (a8B l) xY l (fun i s hi=>rfl) 17).symm
abbrev d9e (a:List Int):Fr:=(mkF 20 [(3,(AV.int .u32 (wT a))),(6,(sA 1 (a.map rU8))),(7,(iN a.length)),(8,(iN a.length))])
theorem c8b (l:List Int) (hl:l.length < 1048576):AC 212 [(sA 1 (l.map rU8))] [] ((AV.int .u32 (wT l)),[]) :=
 x9 (fn:=Tryz.f212) (ann:=a6j) (Has.o Tryz.func212) (.r (.s (.s (.y 1 (.int .i64 ((List.length (l.map rU8):Nat):Int)) (iN l.length) (Yes.len _ _ _) (.g (.loop (d9e l) (show l6 d1d (some [3,6,7,8]) (some [3,6,7,8]) (mkF 20 [(3,(AV.int .u32 17)),(6,(sA 1 (l.map rU8))),(7,(iN l.length)),(8,z_)]) [] (.exit 0) (d9e l) [] from (c8c l hl l.length 17 0 (wT l) ow (c8d _))) (.qr 0 (AV.int .u32 (wT l)))))))))
def ofB (l:List j4):Int:=wT (iX l)
end Go.Proofs.YtmghjcbabebanaaGreat.AM
namespace Go.Proofs.YtmghjcbabebanaaGreat.AM
open Go
section
variable {α:Type} [Inhabited α]
def bM (lt:α->α->Bool) (x:α) (out:List α):Nat->Nat
 | 0=>0
 | k+1=>if lt x (nth out k)=true then bM lt x out k else k+1
def aY (lt:α->α->Bool) (out:List α) (x:α):List α:=(out.take (bM lt x out out.length)++[x])++out.drop (bM lt x out out.length)
theorem a2p (lt:α->α->Bool) (x:α) (out:List α) (k:Nat):bM lt x out k<=k:=by
 induction k with
 | zero=>simp only [bM]; omega
 | succ k ih=>simp only [bM]; split <;> omega
theorem b6F (lt:α->α->Bool) (x:α) {out out':List α} (k:Nat) (h:∀ i,i < k->nth out i=nth out' i):bM lt x out k=bM lt x out' k:=by
 induction k with
 | zero=>rfl
 | succ k ih=>simp only [bM]; rw [h k ya_,ih fun i hi=>h i ya_]
theorem a0Y (lt:α->α->Bool) (x:α) (out:List α) (k:Nat):(∀ i,bM lt x out k<=i->i < k->lt x (nth out i)=true)/\(0 < bM lt x out k->lt x (nth out (bM lt x out k - 1))=false):=by
 induction k with
 | zero=>simp only [bM]; exact ⟨fun i h1 h2=>by omega,fun h=>by omega⟩
 | succ k ih =>
  simp only [bM]
  split
  · rename_i h
    refine ⟨fun i h1 h2=>?_,ih.2⟩
    rcases Nat.lt_or_ge i k with h3 | h3
    · exact ih.1 i h1 h3
    · rw [show i=k by omega]; exact h
  · rename_i h
    exact ⟨fun i h1 h2=>by omega,fun _=>by simpa using h⟩
theorem a7L (lt:α->α->Bool) (out:List α) (x:α):List.Perm (aY lt out x) (x :: out):=by
 unfold aY
 rw [List.append_assoc,List.singleton_append]
 refine List.perm_middle.trans ?_
 rw [List.take_append_drop]
theorem b0E (lt:α->α->Bool) (out:List α) (x:α):(aY lt out x).length=out.length+1:=by
 rw [(a7L lt out x).length_eq]; rfl
structure U8 (lt:α->α->Bool):Prop where
 asymm:∀ a b,lt a b=true->lt b a=false
 trans:∀ a b c,lt b a=false->lt c b=false->lt c a=false
abbrev Srt (lt:α->α->Bool) (l:List α):Prop:=List.Pairwise (fun a b=>lt b a=false) l
theorem a2V {lt:α->α->Bool} (W:U8 lt) {out:List α} (h:Srt lt out) (x:α):Srt lt (aY lt out x):=by
 obtain ⟨h1,h2⟩:=a0Y lt x out out.length
 have hp:=a2p lt x out out.length
 generalize hpe:bM lt x out out.length=p at *
 have hs:=a4F.1 h
 unfold aY
 rw [hpe,List.append_assoc,List.singleton_append]
 refine List.pairwise_append.2 ⟨h.sublist (List.take_sublist _ _),List.pairwise_cons.2 ⟨fun y hy=>?_,h.sublist (List.drop_sublist _ _)⟩,fun a ha y hy=>?_⟩
 · obtain ⟨i,hi,rfl⟩:=dF hy
   simp only [List.length_drop] at hi
   rw [nY]
   exact W.asymm _ _ (h1 (p+i) ya_ ya_)
 · have hxp:lt x a=false:=by
    obtain ⟨i,hi,rfl⟩:=dF ha
    simp only [List.length_take] at hi
    rw [fK ya_]
    have h3:=h2 ya_
    rcases Nat.lt_or_ge i (p - 1) with h4 | h4
    · exact W.trans _ _ _ (hs i (p - 1) h4 ya_) h3
    · rw [show i=p - 1 by omega]; exact h3
   rcases List.mem_cons.1 hy with rfl | hy
   · exact hxp
   · obtain ⟨i,hi,rfl⟩:=dF ha
     obtain ⟨j,hj,rfl⟩:=dF hy
     simp only [List.length_take] at hi
     simp only [List.length_drop] at hj
     rw [fK ya_,nY]
     exact hs i (p+j) ya_ ya_
def Q0 (lt:α->α->Bool) (l:List α):List α:=l.foldl (aY lt) []
theorem d9Q (lt:α->α->Bool) (l:List α):∀ (out:List α),List.Perm (l.foldl (aY lt) out) (out++l):=by
 induction l with
 | nil=>intro out; simp
 | cons x l ih =>
  intro out
  exact (ih (aY lt out x)).trans (((a7L lt out x).append_right l).trans (by simpa using List.perm_middle.symm))
theorem b0G {lt:α->α->Bool} (W:U8 lt) (l:List α):∀ (out:List α),Srt lt out->Srt lt (l.foldl (aY lt) out):=by
 induction l with
 | nil=>intro out h; exact h
 | cons x l ih=>intro out h; exact ih _ (a2V W h x)
theorem b5r (lt:α->α->Bool) (l:List α):List.Perm (Q0 lt l) l:=d9Q lt l []
theorem jE {lt:α->α->Bool} (W:U8 lt) (l:List α):Srt lt (Q0 lt l):=b0G W l [] List.Pairwise.nil
theorem a9A (cmp:α->α->Int) (j:Nat):∀ (l:List α),j < l.length->sink cmp 0 j l=aY (fun a b=>decide (cmp a b < 0)) (l.take j) (nth l j)++l.drop (j+1):=by
 induction j with
 | zero =>
  intro l h
  simp only [sink]
  have hd:l=nth l 0 :: l.drop 1:=by
   have:=aU (l:=l) (i:=0) h
   simpa using this
  conv=>lhs; rw [hd]
  simp [aY,bM]
 | succ j ih =>
  intro l h
  simp only [sink]
  have h0:decide (((j+1:Nat):Int) > ((0:Nat):Int))=true:=decide_eq_true ya_
  rw [if_pos h0]
  have htk:l.take (j+1)=l.take j++[nth l j]:=by
   rw [List.take_add_one]
   congr 1
   rw [yE ya_]
   rfl
  have hdj:l.drop (j+1)=nth l (j+1) :: l.drop (j+2):=aU h
  have hlen:(l.take j).length=j:=by simp; omega
  by_cases hc:decide (cmp (nth l (j+1)) (nth l j) < 0)=true
  · rw [if_pos hc]
    rw [ih _ yg_]
    have e1:((l.set (j+1) (nth l j)).set j (nth l (j+1))).take j=l.take j:=by
     rw [List.take_set_of_le ya_,List.take_set_of_le ya_]
    have e2:nth ((l.set (j+1) (nth l j)).set j (nth l (j+1))) j=nth l (j+1):=by
     unfold nth
     rw [List.getD_eq_getElem?_getD,List.getElem?_set_self yg_]; rfl
    have e3:((l.set (j+1) (nth l j)).set j (nth l (j+1))).drop (j+1)=nth l j :: l.drop (j+2):=by
     rw [List.drop_set_of_lt ya_,aU yg_]
     congr 1
     · unfold nth
       rw [List.getD_eq_getElem?_getD,List.getElem?_set_self ya_]; rfl
     · rw [List.drop_set_of_lt ya_]
    rw [e1,e2,e3]
    have hpos:bM (fun a b=>decide (cmp a b < 0)) (nth l (j+1)) (l.take (j+1)) (l.take (j+1)).length=bM (fun a b=>decide (cmp a b < 0)) (nth l (j+1)) (l.take j) j:=by
     rw [show (l.take (j+1)).length=j+1 by rw [List.length_take]; omega]
     simp only [bM]
     rw [fK ya_,if_pos hc]
     exact b6F _ _ _ fun i hi=>by rw [fK ya_,fK hi]
    have hle:=a2p (fun a b=>decide (cmp a b < 0)) (nth l (j+1)) (l.take j) j
    unfold aY
    rw [hpos,hlen]
    generalize bM (fun a b=>decide (cmp a b < 0)) (nth l (j+1)) (l.take j) j=p at *
    rw [htk,List.take_append_of_le_length ya_,List.drop_append_of_le_length ya_]
    simp
  · rw [if_neg hc]
    have hpos:bM (fun a b=>decide (cmp a b < 0)) (nth l (j+1)) (l.take (j+1)) (l.take (j+1)).length=j+1:=by
     rw [show (l.take (j+1)).length=j+1 by rw [List.length_take]; omega]
     simp only [bM]
     rw [fK ya_,if_neg hc]
    unfold aY
    rw [hpos]
    rw [List.take_of_length_le (l:=l.take (j+1)) yg_,List.drop_of_length_le (l:=l.take (j+1)) yg_,List.append_nil,List.append_assoc,List.singleton_append,<- hdj,List.take_append_drop]
theorem b0D (cmp:α->α->Int) (rest:List α):∀ (S:List α),A9 cmp 0 rest.length S.length (S++rest)=rest.foldl (aY fun a b=>decide (cmp a b < 0)) S:=by
 induction rest with
 | nil=>intro S; simp [A9]
 | cons x rest ih =>
  intro S
  simp only [List.length_cons,A9,List.foldl_cons]
  rw [a9A cmp S.length _ ye_]
  have e1:(S++x :: rest).take S.length=S:=by simp
  have e3:(S++x :: rest).drop (S.length+1)=rest:=by
   rw [List.drop_append]
   simp
  rw [e1,a6o,e3]
  have:=ih (aY (fun a b=>decide (cmp a b < 0)) S x)
  rwa [b0E] at this
theorem rT (cmp:α->α->Int) (l:List α):A9 cmp 0 (l.length - 1) 1 l=Q0 (fun a b=>decide (cmp a b < 0)) l:=by
 cases l with
 | nil=>rfl
 | cons x l =>
  have:=b0D cmp l [x]
  simpa [Q0,aY,bM] using this
end
section
variable {α:Type} [Inhabited α]
theorem b7v {lt:α->α->Bool} (W:U8 lt) {out:List α} (h:Srt lt out) (x:α):aY lt out x=out.filter (fun y=>!lt x y)++x :: out.filter (fun y=>lt x y):=by
 obtain ⟨h1,h2⟩:=a0Y lt x out out.length
 have hp:=a2p lt x out out.length
 generalize hpe:bM lt x out out.length=p at *
 have hs:=a4F.1 h
 have hA:∀ y∈out.take p,lt x y=false:=by
  intro y hy
  obtain ⟨i,hi,rfl⟩:=dF hy
  simp only [List.length_take] at hi
  have hi':i < p:=by omega
  rw [fK hi']
  have h3:=h2 ya_
  rcases Nat.lt_or_ge i (p - 1) with h4 | h4
  · exact W.trans _ _ _ (hs i (p - 1) h4 ya_) (by simpa using h3)
  · rw [show i=p - 1 by omega]; simpa using h3
 have hB:∀ y∈out.drop p,lt x y=true:=by
  intro y hy
  obtain ⟨i,hi,rfl⟩:=dF hy
  simp only [List.length_drop] at hi
  rw [nY]
  exact h1 (p+i) ya_ ya_
 have e1:out.filter (fun y=>!lt x y)=out.take p:=by
  conv=>lhs; rw [<- List.take_append_drop p out]
  rw [List.filter_append,List.filter_eq_self.2 (fun y hy=>by simp [hA y hy]),List.filter_eq_nil_iff.2 (fun y hy=>by simp [hB y hy]),List.append_nil]
 have e2:out.filter (fun y=>lt x y)=out.drop p:=by
  conv=>lhs; rw [<- List.take_append_drop p out]
  rw [List.filter_append,List.filter_eq_nil_iff.2 (fun y hy=>by simp [hA y hy]),List.filter_eq_self.2 (fun y hy=>by simp [hB y hy]),List.nil_append]
 unfold aY
 rw [hpe,e1,e2]; simp
end
attribute [local irreducible] Tp.J5 Tp.K8 Tp.card Tp.cards Tp.key Tp.keyT Tp.next Tp.step
abbrev ltE (a b:j4):Bool:=decide (U7 a.key b.key < 0)
theorem a4O:(fun a b:j4=>F8 a.key b.key)=ltE:=by funext a b; exact (iO a.key b.key).symm
theorem d9M:U8 ltE:=⟨fun a b h=>by rw [<- a4O] at h ⊢; exact b1B h,fun a b c h k=>by rw [<- a4O] at h k ⊢; exact a3a h k⟩
open Go.Proofs.YtmghjcbabebanaaGreat
attribute [local irreducible] A9 E9 F5 F6 F8 F9 G9 H6 J4 K4 K5 M8 P5 Q5 R7 U6 U7 V3 V9 X8 Y8 a1m aR cmpL dW iJ iX j5 kQ l6 oF ofB sink wT xY
end Go.Proofs.YtmghjcbabebanaaGreat.AM
namespace Go.Proofs.YtmghjcbabebanaaGreat.AM
open Go Go.Proofs.YtmghjcbabebanaaGreat
attribute [local irreducible] E9 H6 K5 j5 l6
abbrev e0r:List AV:=[z_,z_,z_,z_,z_,z_,z_,e_,e_,bF,(AV.int .u32 0),(AV.sl .nil 0 []),(AV.sl .nil 0 [])]
abbrev e0v (x b u c:AV):List AV:=[(iI 2),(iI 5),z_,z_,z_,z_,x,e_,e_,b,u,c,(AV.sl .nil 0 [])]
@[simp] theorem e0n (n:Nat):AV.bdds n e0r=true:=by simp [AV.bdds,AV.bdd]
@[simp] theorem e0q (n:Nat) (x b u c:AV):AV.bdds n (e0v x b u c)=(AV.bdd n x&&(AV.bdd n b&&(AV.bdd n u&&AV.bdd n c))):=by simp [AV.bdds,AV.bdd]
attribute [local irreducible] fP O7 l7 okS M4 G6 D7 J2 K3 J9 X6 q9 bQ r9 Y8 iX ofB J4 V9
def d2L (k:Key):j4:=⟨k,2,0,1,⟨0,0,0⟩,true⟩
def atC (l:List Entry) (k:Key):j4:=if D7 l k=true then (q9 l k).card else d2L k
theorem c4w {α β:Type} (f:α->β) (l:List α):∀ (out:List β) (k g:Nat),l.foldl (fun (s:List β × Nat × Nat) c=>(s.1++[f c],s.2.1+1,s.2.2+1)) (out,k,g)=(out++l.map f,k+l.length,g+l.length):=by
 induction l with
 | nil=>intro out k g; simp
 | cons c l ih=>intro out k g; rw [List.foldl_cons,ih]; simp; omega
def mU (l:List Entry) (al:List Key) (since:Int):List j4:=if okS al since=true then (M4 al since).map (atC l) else Y8 (List.map Entry.card l)
end Go.Proofs.YtmghjcbabebanaaGreat.AM
namespace Go.Proofs.YtmghjcbabebanaaGreat.AM
open Go Go.Proofs.YtmghjcbabebanaaGreat
attribute [local irreducible] D7 E9 G6 H6 J2 J4 J9 K3 K5 M4 O7 Tp.K8 Tp.card Tp.next Tp.step V9 X6 Y8 bQ fP iX j5 l6 mU ofB okS q9 r9
def b3c:Ann:={ fin:=some 1 }
theorem a9U  :AC 49 [] [] ((j3 0),[(o_ 0 2 [[z_,w9]])]) :=
 x9 (fn:=Tryz.f49) (ann:=b3c) (Has.o Tryz.func49) (.r (.s (.g (.h' [(o_ 0 2 [[z_,w9]])] (.q 1 (j3 0))))))
theorem b3b  :AC 49 [] [] ((j3 0),[(o_ 0 2 [[(iN (([]:l9K).length)),(d9 1 0 2 (l7 ([]:l9K)).length)]]),(o_ 0 2 (mK (l7 ([]:l9K))))]):=(a9U).a9o
attribute [local irreducible] l7
def l8 (n:Int):Int:=max 0 (min n 1099511627776)
def c4U:Ann:={ fin:=some 0 }
abbrev b9v (a:Int):=(iI (max 0 (min a 1099511627776)))
theorem iB (now:Int) :AC 46 [(iI now)] [] ((iI (l8 now)),[]) :=
 x9 (fn:=Tryz.f46) (ann:=c4U) (Has.o Tryz.func46) (.r (.s (.y 1 (.int .i64 (if 1099511627776 < now then 1099511627776 else now)) (iI (min now 1099511627776)) (Yes.int yv_) (.y 2 (.int .i64 (if (min now 1099511627776) > 0 then (min now 1099511627776) else 0)) (b9v now) (Yes.int yv_) (.q 0 (b9v now) (by simp [l8,Int.max_comm,Int.min_comm]))))))
def c9W:Ann:={ fin:=some 1 }
abbrev c0E (a:Int):Ob:=(o_ 0 3 [[(iI a),z_,z_]])
abbrev d8B (a:Int):Heap:=[c0E a]
theorem c4q (now:Int) :AC 48 [(iI now)] [] ((j3 0),(d8B now)) :=
 x9 (fn:=Tryz.f48) (ann:=c9W) (Has.o Tryz.func48) (.r (.s (.g (.h' (d8B now) (.q 1 (j3 0))))))
def b7T:Ann:={ base:=6,fin:=some 6 }
@[simp] abbrev sD (a b c:Int):=[[(iI a),(iI b),(iI c)]]
@[simp] abbrev M0 (a:Int) (b:Int) (c:Int):Ob:=(o_ 0 3 (sD a b c))
@[simp] abbrev a0m (a:l9K) (b:Nat):=[[(iN (a.length)),(d9 4 b 2 (l7 a).length)]]
@[simp] abbrev Q8 (a:l9K) (b:Nat):Ob:=(o_ 0 2 (a0m a b))
@[simp] abbrev d1c (a b c d:Int):=[[(iI a),(iI b),(iI c),(iI d),(j3 0),(j3 2),(j3 3)]]
@[simp] abbrev gD (a:Int) (b:Int) (c:Int) (d:Int):Ob:=(o_ 0 7 (d1c a b c d))
@[simp] abbrev a1A (a:Nat) (b:l9E):=[[(iI (r9 32)),(d9 1 a 10 b.length)]]
@[simp] abbrev a3W (a:Nat) (b:l9E) (c:Int) (d:Int) (e:Int) (f:l9K) (g:Nat) (h:Int) (i:Int) (j:Int) (k:Int):Heap:=[(o_ 0 2 (a1A a b)),(o_ a 10 (mE b)),M0 c d e,Q8 f g,(o_ g 2 (mK (l7 f))),gD h i j k]
theorem bX (l:l9E) (g:Nat) (al:l9K) (ga:Nat) (gf gl gt nd s1 s2 s3:Int) :AC 17 [(j3 5)] (a3W g l gf gl gt al ga nd s1 s2 s3) ((j3 0),(a3W g l gf gl gt al ga nd s1 s2 s3)) :=
 x9 (fn:=Tryz.f17) (ann:=b7T) (Has.o Tryz.func17) (.r (.g (.qr 6 (j3 0))))
def d0k:Ann:={ fin:=some 6 }
abbrev c0D :Ob:=(o_ 0 2 [[(iI (r9 32)),(d9 1 0 10 0)]])
abbrev d1T :Heap:=[c0D,(o_ 0 10 (mE []))]
abbrev d1S (a:Int):Heap:=[c0D,(o_ 0 10 (mE [])),c0E a]
abbrev d8A (a:Int):Heap:=[c0D,(o_ 0 10 (mE [])),c0E a,(o_ 0 2 [[(iN (([]:l9K).length)),(d9 4 0 2 (l7 ([]:l9K)).length)]]),(o_ 0 2 (mK (l7 ([]:l9K))))]
abbrev a1z (a:Int):=[[(iI a),z_,(iI a),z_,(j3 0),(j3 2),(j3 3)]]
theorem a1l (nd now:Int) (h1:0<=nd) (h2:nd < 6) (h3:l8 now=now):AC 24 [(iI nd),(iI now)] [] ((j3 5),[(o_ 0 2 [[(iI (r9 32)),(d9 1 0 10 ([]:l9E).length)]]),(o_ 0 10 (mE ([]:l9E))),(o_ 0 3 [[(iI now),z_,z_]]),(o_ 0 2 [[(iN (([]:l9K).length)),(d9 4 0 2 (l7 ([]:l9K)).length)]]),(o_ 0 2 (mK (l7 ([]:l9K)))),(o_ 0 7 (a1z nd))]) :=
 x9 (fn:=Tryz.f24) (ann:=d0k) (Has.o Tryz.func24) (.r (.s (.y 1 (bB (decide (nd < 0))) bF (Yes.b yg_) (.n2 (.y 4 (bB (decide (nd >= 6))) bF (Yes.b yg_) (.n3 (.c 9 ((iB now).lift kr kr []) (.n (.y 10 (bB (now != (l8 now))) bF (Yes.b yV) (.rn (.ch 3 d1T (j5.put2 [] [] (j3 0) d1T (c2j 32 ) trivial rlF) (.ch 5 (d1S now) (j5.put2 [] d1T (j3 2) (d1S now) (c4q now ) trivial D5) (.ch 6 (d8A now) (j5.put2 [] (d1S now) (j3 3) (d8A now) (b3b  ) trivial rlD) (.g (.h' [(o_ 0 2 [[(iI (r9 32)),(d9 1 0 10 0)]]),(o_ 0 10 (mE [])),(o_ 0 3 [[(iI now),z_,z_]]),(o_ 0 2 [[(iN (([]:l9K).length)),(d9 4 0 2 (l7 ([]:l9K)).length)]]),(o_ 0 2 (mK (l7 ([]:l9K)))),(o_ 0 7 (a1z nd))] (.q 6 (j3 5)))))))))))))))))
def c4L:Ann:={ refs:=[3],base:=6,fin:=some 6 }
abbrev d1b (a:l9E) (b:Entry) (c:Nat):=[[(iI (r9 32)),(d9 1 (J9 (r9 32) a b c) 10 (J2 (r9 32) a b).length)]]
abbrev a8Z (a:l9E) (b:Entry) (c:Nat):Ob:=(o_ 0 2 (d1b a b c))
abbrev a8Y (a:l9E) (b:Entry) (c:Nat):Ob:=(o_ (J9 (r9 32) a b c) 10 (mE (J2 (r9 32) a b)))
abbrev d1R (a:l9E) (b:Entry) (c:Nat) (d:Int) (e:Int) (f:Int) (g:l9K) (h:Nat) (i:Int) (j:Int) (k:Int) (l:Int):Heap:=[a8Z a b c,a8Y a b c,M0 d e f,(o_ 0 2 [[(iN ((g++[b.card.key]).length)),(d9 4 (h+1+1) 2 (l7 (g++[b.card.key])).length)]]),(o_ (h+1+1) 2 (mK (l7 (g++[b.card.key])))),gD i j k l]
abbrev a6X (a:l9E) (b:Entry) (c:Nat) (d:Int) (e:Int) (f:Int) (g:l9K) (h:Nat) (i:Int) (j:Int) (k:Int) (l:Int):Heap:=[a8Z a b c,a8Y a b c,M0 d e f,Q8 g h,(o_ h 2 (mK (l7 g))),gD i j k l]
abbrev a1y (a:l9E) (b:Entry):=(iI (K3 (r9 32) a b))
theorem b7U (l:l9E) (g:Nat) (al:l9K) (ga:Nat) (gf gl gt nd s1 s2 s3:Int) (x:Entry) (hl:l.length < 1000) (ha:al.length < 100000) (h:((K3 (r9 32) l x) == 0)=true):AC 68 [(j3 5),(p9 (Entry.row x))] (a3W g l gf gl gt al ga nd s1 s2 s3) ((a1y l x),(d1R l x g gf gl gt al ga nd s1 s2 s3)):=by
 have p1:=jH (r9 32) l x
 exact x9 (fn:=Tryz.f68) (ann:=c4L) (Has.o Tryz.func68) (.r (.s (.ch 5 (a6X l x g gf gl gt al ga nd s1 s2 s3) (j5.put2 [0,1] (a3W g l gf gl gt al ga nd s1 s2 s3) (a1y l x) (a6X l x g gf gl gt al ga nd s1 s2 s3) (zN (r9 32) l x g l.length oa oa) rlF rlF) (.s (.y 1 (bB ((K3 (r9 32) l x) == 0)) bT (Yes.b h) (.ru (.ch 7 (d1R l x g gf gl gt al ga nd s1 s2 s3) (j5.put2 [3,4] (a6X l x g gf gl gt al ga nd s1 s2 s3) (iN ((al++[x.card.key]).length)) (d1R l x g gf gl gt al ga nd s1 s2 s3) (c2N al x.card.key ga oa) rlD rlD) (.g (.qr 6 (a1y l x))))))))))
def c4M:Ann:={ refs:=[3],base:=6,fin:=some 6 }
theorem b7V (l:l9E) (g:Nat) (al:l9K) (ga:Nat) (gf gl gt nd s1 s2 s3:Int) (x:Entry) (hl:l.length < 1000) (ha:al.length < 100000) (h:((K3 (r9 32) l x) == 0)=false):AC 68 [(j3 5),(p9 (Entry.row x))] (a3W g l gf gl gt al ga nd s1 s2 s3) ((a1y l x),(a6X l x g gf gl gt al ga nd s1 s2 s3)):=by
 have p1:=jH (r9 32) l x
 exact x9 (fn:=Tryz.f68) (ann:=c4M) (Has.o Tryz.func68) (.r (.s (.ch 5 (a6X l x g gf gl gt al ga nd s1 s2 s3) (j5.put2 [0,1] (a3W g l gf gl gt al ga nd s1 s2 s3) (a1y l x) (a6X l x g gf gl gt al ga nd s1 s2 s3) (zN (r9 32) l x g l.length oa oa) rlF rlF) (.s (.y 1 (bB ((K3 (r9 32) l x) == 0)) bF (Yes.b h) (.g (.n (.qr 6 (a1y l x)))))))))
def K9 (l:List Entry) (x:Entry) (al:List Key):List Key:=if (K3 (r9 32) l x == 0)=true then al++[x.card.key] else al
def Q9 (l:List Entry) (x:Entry) (ga:Nat):Nat:=if (K3 (r9 32) l x == 0)=true then ga+1+1 else ga
theorem a1k (l:l9E) (g:Nat) (al:l9K) (ga:Nat) (gf gl gt nd s1 s2 s3:Int) (x:Entry) (hl:l.length < 1000) (ha:al.length < 100000):AC 68 [(j3 5),(p9 (Entry.row x))] [(o_ 0 2 [[(iI (r9 32)),(d9 1 g 10 l.length)]]),(o_ g 10 (mE l)),(o_ 0 3 [[(iI gf),(iI gl),(iI gt)]]),(o_ 0 2 [[(iN (al.length)),(d9 4 ga 2 (l7 al).length)]]),(o_ ga 2 (mK (l7 al))),(o_ 0 7 [[(iI nd),(iI s1),(iI s2),(iI s3),(j3 0),(j3 2),(j3 3)]])] ((iI (K3 (r9 32) l x)),[(o_ 0 2 [[(iI (r9 32)),(d9 1 (J9 (r9 32) l x g) 10 (J2 (r9 32) l x).length)]]),(o_ (J9 (r9 32) l x g) 10 (mE (J2 (r9 32) l x))),(o_ 0 3 [[(iI gf),(iI gl),(iI gt)]]),(o_ 0 2 [[(iN ((K9 l x al).length)),(d9 4 (Q9 l x ga) 2 (l7 (K9 l x al)).length)]]),(o_ (Q9 l x ga) 2 (mK (l7 (K9 l x al)))),(o_ 0 7 [[(iI nd),(iI s1),(iI s2),(iI s3),(j3 0),(j3 2),(j3 3)]])]):=by
 cases h:(K3 (r9 32) l x == 0) with
 | true=>unfold K9 Q9; rw [if_pos h,if_pos h]; exact b7U l g al ga gf gl gt nd s1 s2 s3 x hl ha h
 | false=>unfold K9 Q9; rw [if_neg (by rw [h]; simp),if_neg (by rw [h]; simp)]; exact b7V l g al ga gf gl gt nd s1 s2 s3 x hl ha h
theorem a6A (l:l9E) (g:Nat) (al:l9K) (ga:Nat) (gf gl gt nd s1 s2 s3:Int) (x:Entry) (hl:l.length < 1000) (ha:al.length < 100000) (H:Heap):AC 68 [(j3 5),(p9 (Entry.row x))] ((a3W g l gf gl gt al ga nd s1 s2 s3)++H) ((iI (K3 (r9 32) l x)),([(o_ 0 2 [[(iI (r9 32)),(d9 1 (J9 (r9 32) l x g) 10 (J2 (r9 32) l x).length)]]),(o_ (J9 (r9 32) l x g) 10 (mE (J2 (r9 32) l x))),(o_ 0 3 [[(iI gf),(iI gl),(iI gt)]]),(o_ 0 2 [[(iN ((K9 l x al).length)),(d9 4 (Q9 l x ga) 2 (l7 (K9 l x al)).length)]]),(o_ (Q9 l x ga) 2 (mK (l7 (K9 l x al)))),(o_ 0 7 [[(iI nd),(iI s1),(iI s2),(iI s3),(j3 0),(j3 2),(j3 3)]])]:Heap)++H):=(a1k l g al ga gf gl gt nd s1 s2 s3 x hl ha).ext kr kr ob ob kr H
attribute [local irreducible] A9 F5 F8 F9 G9 K4 M8 Q5 R7 Tp.J5 Tp.cards Tp.key Tp.keyT V3 cmpL sink
def b7s:Ann:={ fin:=some 0 }
theorem a2T (n:Int) :AC 168 [(iI n)] [] (bF,[]) :=
 x9 (fn:=Tryz.f168) (ann:=b7s) (Has.o Tryz.func168) (.r (.g (.qr 0 (bB (n != n)) ye_)))
def b0U:Ann:={ fin:=some 0 }
theorem c7K {p:Prop} (h:p:=by simp_all [V7] <;> omega):p:=h
theorem a8A (a b:Int) :AC 124 [(iI a),(iI b)] [] ((iI (V7 a b)),[]) :=
 x9 (fn:=Tryz.f124) (ann:=b0U) (Has.o Tryz.func124) (.r (.s (.c 1 ((a2T a).lift kr kr []) (.s (.c 1 ((a2T b).lift kr kr []) (.s (.rn (.rn (.g (.two (decide (a < b)) (fun h1 h1'=>(.qr 0 (iI (-1)) c7K)) (fun h1 h1'=>(.r (.g (.two (decide (a > b)) (fun h2 h2'=>(.qr 0 (iI 1) c7K)) (fun h2 h2'=>(.qr 0 z_ c7K))))))))))))))))
def d5S:Ann:={ fin:=some 0 }
theorem rP {p:Prop} (h:p:=by simp_all):p:=h
theorem c8T (x y z:Int) :AC 122 [(sA 1 [[(iI x)],[(iI y)],[(iI z)]])] [] ((iI (if x=0 then if y=0 then z else y else x)),[]) :=
 x9 (fn:=Tryz.f122) (ann:=d5S) (Has.o Tryz.func122) (.r (.s (.s (.g (.roll 4 (.r (.ru (.s (.g (.two (x != 0) (fun h1 h1'=>(.qr 0 (iI x) rP)) (fun h1 h1'=>(.r (.s (.ru (.s (.g (.two (y != 0) (fun h2 h2'=>(.qr 0 (iI y) rP)) (fun h2 h2'=>(.r (.s (.ru (.s (.g (.two (z != 0) (fun h3 h3'=>(.qr 0 (iI z) rP)) (fun h3 h3'=>(.r (.s (.g (.n (.qr 0 z_ rP))))))))))))))))))))))))))))))
def R9 (a b:y9):Int:=if V7 a.t b.t=0 then if V7 a.n b.n=0 then V7 a.node b.node else V7 a.n b.n else V7 a.t b.t
def b5k:Ann:={ refs:=[2,3],fin:=some 0 }
theorem wV (a b:y9) :AC 67 [(p9 (y9.row a)),(p9 (y9.row b))] [] ((bB (decide (R9 a b < 0))),[]) :=
 x9 (fn:=Tryz.f67) (ann:=b5k) (Has.o Tryz.func67) (.r (.s (.c 4 ((rX a.t b.t).lift kr kr []) (.c 9 ((rX a.n b.n).lift kr kr []) (.c 14 ((a8A a.node b.node).lift kr kr []) (.c 16 (j5.pre (args:=[(sA 1 [[(iI (V7 a.t b.t))],[(iI (V7 a.n b.n))],[(iI (V7 a.node b.node))]])]) (args':=[(AV.sl .clip 1 [[(iI (V7 a.t b.t))],[(iI (V7 a.n b.n))],[(iI (V7 a.node b.node))]])]) ((c8T (V7 a.t b.t) (V7 a.n b.n) (V7 a.node b.node)).lift kr kr []) ⟨⟨rfl,rfl,.inl rfl⟩,trivial⟩) (.q 0 (bB (decide ((if (V7 a.t b.t)=0 then if (V7 a.n b.n)=0 then (V7 a.node b.node) else (V7 a.n b.n) else (V7 a.t b.t)) < 0))))))))))
def ixX (o:Oper):Operand:=match o.op with
 | .index _ x _=>x
 | _=>.tmp 0
def ixN (o:Oper):Operand:=match o.op with
 | .index _ _ i=>i
 | _=>.tmp 0
theorem d5H {s:ByteArray} {i:Nat} (h:i < s.size):∃ b:UInt8,s[i]?=some b/\nth (P5 s) i=(b.toNat:Int):=by
 refine ⟨s[i],by simp [h],?_⟩
 have h2:i < s.data.toList.length:=by simpa using h
 unfold P5 nth
 rw [List.getD_eq_getElem?_getD,List.getElem?_map,List.getElem?_eq_getElem h2]
 rfl
theorem c2w {P:Program} {X:Env} {F:Fr} {H:Heap} {ar:Nat} {o:Oper} (hT:TOk P X.T) {xt:TypeId} {ts:TI} {s:ByteArray} {i:Int} {n:Nat} (hop:o.op=.index xt (ixX o) (ixN o)) (hsem:dM X o=true) (hs:X.T xt=some ts) (hsd:ts.d=.string)
 (hx:opv F (ixX o)=some (.str s)) (hi:opv F (ixN o)=some (.int .i64 i)) (hn:i=(n:Int)) (hlt:n < s.size):Sat P X F H ar o (.int .u8 (nth (P5 s) n)) H:=by
 refine Sat.sem hsem ?_
 obtain ⟨dst,op,type,pos,after,guard⟩:=o
 simp only at hop
 generalize ixX _=x at hop hx
 generalize ixN _=y at hop hi
 subst hop hn
 intro G w C f hf hH
 have hv:=hf x yo_ _ hx
 have hv2:=hf y yo_ _ hi
 generalize hu:f x=u at hv
 generalize hu2:f y=u2 at hv2
 cases hv
 cases hv2
 have h2:P.underlying xt=some .string:=by
  have:=(hT _ _ hs).und
  rw [hsd] at this
  exact this
 obtain ⟨b,hb,hnb⟩:=d5H hlt
 have hr:(Instr.index xt (f x) (f y)).run P w=.ok (.int .u8 b.toNat) w:=by
  rw [hu,hu2]
  simp [Instr.index,asIntOf,run_underlying h2,hb]
 rw [hnb]
 exact ⟨_,w,by simp [execOp,hr],G,C,Ev.refl ..,hH,.int ..,Pd.refl⟩
def stR (s:y9):Bool:=decide (0<=s.t)&&(decide (0<=s.n)&&(decide (0<=s.node)&&decide (s.node < 6)))
def b2M:Ann:={ refs:=[1],fin:=some 0 }
theorem b4T {p:Prop} (h:p:=by simp only [stR]; simp_all <;> omega):p:=h
theorem a0M (s:y9) :AC 107 [(p9 (y9.row s))] [] ((bB (stR s)),[]) :=
 x9 (fn:=Tryz.f107) (ann:=b2M) (Has.o Tryz.func107) (.r (.s (.two (decide (s.t >= 0)) (fun h1 h1'=>(.u2 (.two (decide (s.n >= 0)) (fun h2 h2'=>(.u2 (.two (decide (s.node >= 0)) (fun h3 h3'=>(.u2 (.q 0 (bB (decide (s.node < 6))) b4T))) (fun h3 h3'=>(.n2 (.q 0 bF b4T)))))) (fun h2 h2'=>(.n5 (.q 0 bF b4T)))))) (fun h1 h1'=>(.n6 (.n2 (.q 0 bF b4T)))))))
def bH (c:Int):Bool:=(decide (97<=c)&&decide (c<=122)) || (decide (48<=c)&&decide (c<=57))
def dL (tx:ByteArray):Bool:=decide (0 < tx.size)&&(decide (tx.size<=16)&&(P5 tx).all bH)
theorem d6q {l:List Int} {f:Int->Bool} (h:l.all f=true) {j:Nat} (hj:j < l.length):f (nth l j)=true:=by
 rw [List.all_eq_true] at h
 have:=yE hj
 exact h _ (List.mem_of_getElem? this)
theorem d7L {l:List Int} {f:Int->Bool} (h:l.all f=false):∃ j,j < l.length/\f (nth l j)=false:=by
 rw [List.all_eq_false] at h
 obtain ⟨x,hx,h2⟩:=h
 obtain ⟨j,hj,e⟩:=List.getElem_of_mem hx
 exact ⟨j,hj,by rw [d6F (by rw [List.getElem?_eq_getElem hj,e]) ]; simpa using h2⟩
def yF:Ann:={ big:=[20],fin:=some 0,live:=[(4,[0,2,13,14,15])],out:=[(4,[0,2])] }
@[simp] abbrev d1Q (a:ByteArray) (b:Nat):Fr:=(mkF 36 [(0,(AV.str a)),(2,bF),(13,(AV.str a)),(14,(iN a.size)),(15,(iN (b+1)))])
@[simp] abbrev a1x (a:ByteArray):=(mkF 36 [(0,(AV.str a)),(2,bF)])
@[simp] abbrev b1v :=(C8 yF Tryz.f106 0)
theorem a6p (tx:ByteArray) (i:Nat) (hs:tx.size < 100) (hi:i<=tx.size) {eX:Ex} {FX:Fr} {HX:Heap} (k1:(l9 i tx.size)=true->(decide ((nth (P5 tx) i) < 97))=true->(decide ((nth (P5 tx) i) < 48))=true->((.ret:Ex),(a1x tx),[])=(eX,FX,HX)) (k2:(l9 i tx.size)=true->(decide ((nth (P5 tx) i) < 97))=true->(decide ((nth (P5 tx) i) < 48))=false->(decide ((nth (P5 tx) i) > 57))=true->((.ret:Ex),(a1x tx),[])=(eX,FX,HX)) (k3:(l9 i tx.size)=true->(decide ((nth (P5 tx) i) < 97))=true->(decide ((nth (P5 tx) i) < 48))=false->(decide ((nth (P5 tx) i) > 57))=false->l6 b1v (some [0,2,13,14,15]) (some [0,2]) (d1Q tx i) [] eX FX HX) (k4:(l9 i tx.size)=true->(decide ((nth (P5 tx) i) < 97))=false->(decide ((nth (P5 tx) i) > 122))=true->(decide ((nth (P5 tx) i) < 48))=true->((.ret:Ex),(a1x tx),[])=(eX,FX,HX)) (k5:(l9 i tx.size)=true->(decide ((nth (P5 tx) i) < 97))=false->(decide ((nth (P5 tx) i) > 122))=true->(decide ((nth (P5 tx) i) < 48))=false->(decide ((nth (P5 tx) i) > 57))=true->((.ret:Ex),(a1x tx),[])=(eX,FX,HX)) (k6:(l9 i tx.size)=true->(decide ((nth (P5 tx) i) < 97))=false->(decide ((nth (P5 tx) i) > 122))=true->(decide ((nth (P5 tx) i) < 48))=false->(decide ((nth (P5 tx) i) > 57))=false->l6 b1v (some [0,2,13,14,15]) (some [0,2]) (d1Q tx i) [] eX FX HX) (k7:(l9 i tx.size)=true->(decide ((nth (P5 tx) i) < 97))=false->(decide ((nth (P5 tx) i) > 122))=false->l6 b1v (some [0,2,13,14,15]) (some [0,2]) (d1Q tx i) [] eX FX HX) (k8:(l9 i tx.size)=false->((.exit 0:Ex),(a1x tx),[])=(eX,FX,HX)):l6 b1v (some [0,2,13,14,15]) (some [0,2]) (mkF 36 [(0,(AV.str tx)),(2,bF),(13,(AV.str tx)),(14,(iN tx.size)),(15,(iN i))]) [] eX FX HX :=
 J7 (.r (.g (.two (l9 i tx.size) (fun h1 h1'=>(.r (.s (.t 2 (AV.int .u8 (nth (P5 tx) i)) [] (c2w (xt:=9) (ts:={ d:=.string,size:=1,bytes:=16,zero:=[.str ⟨#[]⟩] }) (i:=(i:Int)) (n:=i) dV kr kr kr rfl kr kr ow ow:Sat Tryz.prog (X yF) (mkF 36 [(0,(AV.str tx)),(2,bF),(3,(iN i)),(13,(AV.str tx)),(14,(iN tx.size)),(15,(iN i)),(16,(bB (l9 i tx.size))),(17,(iN i)),(18,(AV.str tx)),(19,(iN i))]) [] 0 (Y4 Tryz.f106 6 2) (AV.int .u8 (nth (P5 tx) i)) []) (.s (.two (decide ((nth (P5 tx) i) < 97)) (fun h2 h2'=>(.u4 (.two (decide ((nth (P5 tx) i) < 48)) (fun h3 h3'=>(.u2 (.ru (.g (.l (k1 h1 h2 h3)))))) (fun h3 h3'=>(.n (.u (.g (.two (decide ((nth (P5 tx) i) > 57)) (fun h4 h4'=>(.r (.g (.l (k2 h1 h2 h3 h4))))) (fun h4 h4'=>(.r (.y 0 (.int .i64 (cb_ i)) (iN (i+1)) Yes.o (.g (.l (k3 h1 h2 h3 h4)))))))))))))) (fun h2 h2'=>(.n (.two (decide ((nth (P5 tx) i) > 122)) (fun h3 h3'=>(.u2 (.two (decide ((nth (P5 tx) i) < 48)) (fun h4 h4'=>(.u2 (.ru (.g (.l (k4 h1 h2 h3 h4)))))) (fun h4 h4'=>(.n (.u (.g (.two (decide ((nth (P5 tx) i) > 57)) (fun h5 h5'=>(.r (.g (.l (k5 h1 h2 h3 h4 h5))))) (fun h5 h5'=>(.r (.y 0 (.int .i64 (cb_ i)) (iN (i+1)) Yes.o (.g (.l (k6 h1 h2 h3 h4 h5)))))))))))))) (fun h3 h3'=>(.n3 (.rn (.y 0 (.int .i64 (cb_ i)) (iN (i+1)) Yes.o (.g (.l (k7 h1 h2 h3)))))))))))))))) (fun h1 h1'=>(.l (k8 h1))))))
theorem d5W (tx:ByteArray) (hs:tx.size < 100) (r:Nat):∀ (i:Nat),i+r=tx.size->(∀ j,i<=j->j < tx.size->bH (nth (P5 tx) j)=true) ->
 l6 (C8 yF Tryz.f106 0) (some [0,2,13,14,15]) (some [0,2]) (mkF 36 [(0,(AV.str tx)),(2,bF),(13,(AV.str tx)),(14,(iN tx.size)),(15,(iN i))]) [] (.exit 0) (mkF 36 [(0,(AV.str tx)),(2,bF)]) []:=by
 induction r with
 | zero =>
  intro i hi hall
  refine a6p tx i hs ow (fun h1 h2 h3=>absurd h1 yg_) (fun h1 h2 h3 h4=>absurd h1 yg_) (fun h1 h2 h3 h4=>absurd h1 yg_) (fun h1 h2 h3 h4=>absurd h1 yg_) (fun h1 h2 h3 h4 h5=>absurd h1 yg_) (fun h1 h2 h3 h4 h5=>absurd h1 yg_) (fun h1 h2 h3=>absurd h1 yg_) (fun h1=>rfl)
 | succ r ih =>
  intro i hi hall
  refine a6p tx i hs ow (fun h1 h2 h3=>absurd (hall i J8 ow) (by rw [(show bH (nth (P5 tx) i)=false by simp only [decide_eq_true_eq,decide_eq_false_iff_not] at h1 h2 h3; simp [bH]; omega)]; simp)) (fun h1 h2 h3 h4=>absurd (hall i J8 ow) (by rw [(show bH (nth (P5 tx) i)=false by simp only [decide_eq_true_eq,decide_eq_false_iff_not] at h1 h2 h3 h4; simp [bH]; omega)]; simp)) (fun h1 h2 h3 h4=>ih (i+1) ow (fun j hj hj2=>hall j ow hj2)) (fun h1 h2 h3 h4=>absurd (hall i J8 ow) (by rw [(show bH (nth (P5 tx) i)=false by simp only [decide_eq_true_eq,decide_eq_false_iff_not] at h1 h2 h3 h4; simp [bH]; omega)]; simp)) (fun h1 h2 h3 h4 h5=>absurd (hall i J8 ow) (by rw [(show bH (nth (P5 tx) i)=false by simp only [decide_eq_true_eq,decide_eq_false_iff_not] at h1 h2 h3 h4 h5; simp [bH]; omega)]; simp)) (fun h1 h2 h3 h4 h5=>ih (i+1) ow (fun j hj hj2=>hall j ow hj2)) (fun h1 h2 h3=>ih (i+1) ow (fun j hj hj2=>hall j ow hj2)) (fun h1=>absurd h1 yg_)
theorem d6G (tx:ByteArray) (hs:tx.size < 100) (r:Nat):∀ (i:Nat),i+r=tx.size->(∃ j,i<=j/\j < tx.size/\bH (nth (P5 tx) j)=false) ->
 l6 (C8 yF Tryz.f106 0) (some [0,2,13,14,15]) (some [0,2]) (mkF 36 [(0,(AV.str tx)),(2,(bB false)),(13,(AV.str tx)),(14,(iN tx.size)),(15,(iN i))]) [] (.ret) (mkF 36 [(0,(AV.str tx)),(2,(bB false))]) []:=by
 induction r with
 | zero =>
  intro i hi hex
  obtain ⟨j,hj1,hj2,_⟩:=hex
  omega
 | succ r ih =>
  intro i hi hex
  refine a6p tx i hs ow (fun h1 h2 h3=>rfl) (fun h1 h2 h3 h4=>rfl) (fun h1 h2 h3 h4=>(by (obtain ⟨j,hj1,hj2,hj3⟩:=hex); (have hne:j≠i:=fun e=>by rw [e,(show bH (nth (P5 tx) i)=true by simp only [decide_eq_true_eq,decide_eq_false_iff_not] at h1 h2 h3 h4; simp [bH]; omega)] at hj3; simp at hj3); exact ih (i+1) ow ⟨j,by omega,hj2,hj3⟩)) (fun h1 h2 h3 h4=>rfl) (fun h1 h2 h3 h4 h5=>rfl) (fun h1 h2 h3 h4 h5=>(by (obtain ⟨j,hj1,hj2,hj3⟩:=hex); (have hne:j≠i:=fun e=>by rw [e,(show bH (nth (P5 tx) i)=true by simp only [decide_eq_true_eq,decide_eq_false_iff_not] at h1 h2 h3 h4 h5; simp [bH]; omega)] at hj3; simp at hj3); exact ih (i+1) ow ⟨j,by omega,hj2,hj3⟩)) (fun h1 h2 h3=>(by (obtain ⟨j,hj1,hj2,hj3⟩:=hex); (have hne:j≠i:=fun e=>by rw [e,(show bH (nth (P5 tx) i)=true by simp only [decide_eq_true_eq,decide_eq_false_iff_not] at h1 h2 h3; simp [bH]; omega)] at hj3; simp at hj3); exact ih (i+1) ow ⟨j,by omega,hj2,hj3⟩)) (fun h1=>absurd h1 yg_)
abbrev e0Z (a:ByteArray):Fr:=(mkF 36 [(0,(AV.str a)),(2,bF),(13,(AV.str a)),(14,(iN a.size)),(15,z_)])
theorem b6N (tx:ByteArray) (hb:dL tx=true):AC 106 [(AV.str tx)] [] (bT,[]):=by
 have hB:=hb
 simp only [dL,Bool.and_eq_true,decide_eq_true_eq] at hB
 obtain ⟨q1,q2,q3⟩:=hB
 have hs:tx.size < 100:=by omega
 exact x9 (fn:=Tryz.f106) (ann:=yF) (Has.o Tryz.func106) (.r (.s (.y 2 (bB ((tx.size:Int) == 0)) bF (Yes.b (beq_eq_false_iff_ne.2 ow)) (.n3 (.y 6 (bB (decide ((tx.size:Int) > 16))) bF (Yes.b yg_) (.rn (.g (.loop (a1x tx) (d5W tx hs tx.size 0 ow (fun j hj hj2=>d6q q3 (by rw [uK]; exact hj2))) (.qr 0 bT)))))))))
theorem b6O (tx : ByteArray) (hb : dL tx = false) : AC 106 [(AV.str tx)] [] (bF, []) :=
  x9 (fn := Tryz.f106) (ann := yF) (Has.o Tryz.func106) (.r (.s (.two ((tx.size : Int) == 0) (fun h1 h1' => (.u2 (.g (.u (.qr 0 bF))))) (fun h1 h1' => (.n2 (.g (.two (decide ((tx.size : Int) > 16)) (fun h2 h2' => (.qr 0 bF)) (fun h2 h2' => (.r (.g (.loop (a1x tx) (show l6 b1v (some [0, 2, 13, 14, 15]) (some [0, 2]) (e0Z tx) [] (.ret) (a1x tx) [] from (d6G tx (by have q := h1'; have q2 := h2'; omega) tx.size 0 ow (by
        have q := h1'; have q2 := h2'
        have h3 : (P5 tx).all bH = false := by
          cases h4 : (P5 tx).all bH with
          | false => rfl
          | true =>
            have h5 : dL tx = true := by simp only [dL, Bool.and_eq_true, decide_eq_true_eq]; exact ⟨by omega, by omega, h4⟩
            rw [h5] at hb; simp at hb
        obtain ⟨j, hj, hj2⟩ := d7L h3
        exact ⟨j, Nat.zero_le _, by rw [uK] at hj; exact hj, hj2⟩))) (.q 0 bF))))))))))))
theorem vU (tx:ByteArray) :AC 106 [(AV.str tx)] [] ((bB (dL tx)),[]):=by
 cases hb:dL tx with
 | true=>exact b6N tx hb
 | false=>exact b6O tx hb
def Q6 (c:j4):Bool:=dL c.key.app&&(dL c.key.id&&((decide (c.status=1) || decide (c.status=2))&&((decide (0<=c.over)&&decide (c.over<=3))&&((decide (1<=c.lease)&&decide (c.lease<=1048576))&&stR c.stamp))))
attribute [local irreducible] dL stR
def b8f:Ann:={ refs:=[1],fin:=some 0 }
theorem nP {p:Prop} (h:p:=by simp only [Q6]; simp_all <;> omega):p:=h
theorem a2Y (c:j4) :AC 59 [(p9 (j4.row c))] [] ((bB (Q6 c)),[]) :=
 x9 (fn:=Tryz.f59) (ann:=b8f) (Has.o Tryz.func59) (.r (.s (.c 3 ((vU c.key.app).lift kr kr []) (.two (!(dL c.key.app)) (fun h1 h1'=>(.u4 (.g (.u (.qr 0 bF nP))))) (fun h1 h1'=>(.n3 (.c 9 ((vU c.key.id).lift kr kr []) (.n (.g (.two (!(dL c.key.id)) (fun h2 h2'=>(.qr 0 bF nP)) (fun h2 h2'=>(.r (.two (c.status != 1) (fun h3 h3'=>(.u2 (.g (.two (c.status != 2) (fun h4 h4'=>(.qr 0 bF nP)) (fun h4 h4'=>(.r (.two (decide (c.over < 0)) (fun h5 h5'=>(.u2 (.g (.u (.qr 0 bF nP))))) (fun h5 h5'=>(.n2 (.g (.two (decide (c.over > 3)) (fun h6 h6'=>(.qr 0 bF nP)) (fun h6 h6'=>(.r (.two (decide (c.lease >= 1)) (fun h7 h7'=>(.u2 (.two (decide (c.lease<=1048576)) (fun h8 h8'=>(.u2 (.c 11 ((a0M c.stamp).lift kr kr []) (.q 0 (bB (stR c.stamp)) nP)))) (fun h8 h8'=>(.n2 (.q 0 bF nP)))))) (fun h7 h7'=>(.n5 (.q 0 bF nP))))))))))))))))) (fun h3 h3'=>(.n2 (.rn (.two (decide (c.over < 0)) (fun h4 h4'=>(.u2 (.g (.u (.qr 0 bF nP))))) (fun h4 h4'=>(.n2 (.g (.two (decide (c.over > 3)) (fun h5 h5'=>(.qr 0 bF nP)) (fun h5 h5'=>(.r (.two (decide (c.lease >= 1)) (fun h6 h6'=>(.u2 (.two (decide (c.lease<=1048576)) (fun h7 h7'=>(.u2 (.c 11 ((a0M c.stamp).lift kr kr []) (.q 0 (bB (stR c.stamp)) nP)))) (fun h7 h7'=>(.n2 (.q 0 bF nP)))))) (fun h6 h6'=>(.n5 (.q 0 bF nP)))))))))))))))))))))))))))
attribute [local irreducible] Q6 R9
theorem zF (l:l9E) (x:Entry) (al:l9K):(K9 l x al).length<=al.length+1:=by
 unfold K9; split
 · simp
 · omega
attribute [local irreducible] K9 Q9
def a3C:Ann:={ gh:=[(18,.frz 8)],gha:=[(4,.vir 8 9),(17,.cut 7)],base:=6,fin:=some 6,live:=[(7,[0,2,8,9,19,20,21])],out:=[(7,[0,2,8,9,19,20,21])] }
@[simp] abbrev c0B (a:Int) (b:Nat) (c:Nat) (d:Nat) (e:l9C) (f:Nat):Fr:=(mkF 82 [(0,(j3 5)),(2,(iI (l8 a))),(8,(d9 6 b 9 c)),(9,(iN d)),(19,(sA 9 (mC e))),(20,(iN e.length)),(21,(iN (f+1)))])
@[simp] abbrev W9 (a:Nat) (b:l9E):Ob:=(o_ 0 2 (a1A a b))
@[simp] abbrev a0x (a:Nat) (b:l9E) (c:Int) (d:Int) (e:Int) (f:l9K) (g:Nat) (h:Int) (i:Int) (j:Int) (k:Int) (l:Nat) (m:l9C):Heap:=[W9 a b,(o_ a 10 (mE b)),M0 c d e,Q8 f g,(o_ g 2 (mK (l7 f))),gD h i j k,(o_ l 9 (mC m))]
@[simp] abbrev d8z (a:Int) (b:Nat) (c:Nat) (d:Nat) (e:l9C) (f:Nat):Fr:=(mkF 82 [(0,(j3 5)),(2,(iI (l8 a))),(8,(d9 6 b 9 c)),(9,(iN (d+1))),(19,(sA 9 (mC e))),(20,(iN e.length)),(21,(iN (f+1)))])
@[simp] abbrev a8V (a:l9E) (b:l9C) (c:Nat) (d:Int) (e:Nat):Ob:=(o_ 0 2 [[(iI (r9 32)),(d9 1 (J9 (r9 32) a (Entry.mk (nth b c) (l8 d)) e) 10 (J2 (r9 32) a (Entry.mk (nth b c) (l8 d))).length)]])
@[simp] abbrev a5z (a:l9E) (b:l9C) (c:Nat) (d:Int) (e:Nat):Ob:=(o_ (J9 (r9 32) a (Entry.mk (nth b c) (l8 d)) e) 10 (mE (J2 (r9 32) a (Entry.mk (nth b c) (l8 d)))))
@[simp] abbrev a5y (a:l9E) (b:l9C) (c:Nat) (d:Int) (e:l9K) (f:Nat):Ob:=(o_ 0 2 [[(iN ((K9 a (Entry.mk (nth b c) (l8 d)) e).length)),(d9 4 (Q9 a (Entry.mk (nth b c) (l8 d)) f) 2 (l7 (K9 a (Entry.mk (nth b c) (l8 d)) e)).length)]])
@[simp] abbrev a5x (a:l9E) (b:l9C) (c:Nat) (d:Int) (e:Nat) (f:l9K):Ob:=(o_ (Q9 a (Entry.mk (nth b c) (l8 d)) e) 2 (mK (l7 (K9 a (Entry.mk (nth b c) (l8 d)) f))))
@[simp] abbrev c0A (a:l9E) (b:l9C) (c:Nat) (d:Int) (e:Nat) (f:Int) (g:Int) (h:Int) (i:l9K) (j:Nat) (k:Int) (l:Int) (m:Int) (n:Int) (o:Nat) (p:l9C):Heap:=[a8V a b c d e,a5z a b c d e,M0 f g h,a5y a b c d i j,a5x a b c d j i,gD k l m n,(o_ o 9 (mC p))]
@[simp] abbrev xP (a b:Nat):=(d9 6 (a+1) 9 (b+1))
@[simp] abbrev d8y (a:Int) (b:Nat) (c:Nat) (d:Nat) (e:l9C) (f:Nat):Fr:=(mkF 82 [(0,(j3 5)),(2,(iI (l8 a))),(8,(xP b c)),(9,(iN d)),(19,(sA 9 (mC e))),(20,(iN e.length)),(21,(iN (f+1)))])
@[simp] abbrev a8X (a:l9E) (b:l9C) (c:Nat) (d:Int) (e:Nat) (f:Int) (g:Int) (h:Int) (i:l9K) (j:Nat) (k:Int) (l:Int) (m:Int) (n:Int) (o:Nat) (p:l9C):Heap:=[a8V a b c d e,a5z a b c d e,M0 f g h,a5y a b c d i j,a5x a b c d j i,gD k l m n,a5Z o p b c]
@[simp] abbrev c6B (a:l9E) (b:l9C) (c:Nat) (d:Int) (e:Nat):Ob:=(o_ 0 2 [[(iI (r9 32)),(d9 1 (J9 (r9 32) a (Entry.mk (q9 a (nth b c).key).card (l8 d)) e) 10 (J2 (r9 32) a (Entry.mk (q9 a (nth b c).key).card (l8 d))).length)]])
@[simp] abbrev c6A (a:l9E) (b:l9C) (c:Nat) (d:Int) (e:Nat):Ob:=(o_ (J9 (r9 32) a (Entry.mk (q9 a (nth b c).key).card (l8 d)) e) 10 (mE (J2 (r9 32) a (Entry.mk (q9 a (nth b c).key).card (l8 d)))))
@[simp] abbrev d4c (a:l9E) (b:l9C) (c:Nat) (d:Int) (e:Nat) (f:Int) (g:Int) (h:Int) (i:l9K) (j:Nat) (k:Int) (l:Int) (m:Int) (n:Int) (o:Nat) (p:l9C):Heap:=[c6B a b c d e,c6A a b c d e,M0 f g h,Q8 i j,(o_ j 2 (mK (l7 i))),gD k l m n,(o_ o 9 (mC p))]
@[simp] abbrev c0C (a:Int) (b:Nat) (c:Nat) (d:Nat) (e:l9C) (f:Nat):Fr:=(mkF 82 [(0,(j3 5)),(2,(iI (l8 a))),(8,(d9 6 b 9 c)),(9,(iN d)),(19,(sA 9 (mC e))),(20,(iN e.length)),(21,(iN f))])
@[simp] abbrev d4b (a:Nat) (b:l9E) (c:Int) (d:Int) (e:Int) (f:l9K) (g:Nat) (h:Int) (i:Int) (j:Int) (k:Int) (l:Nat) (m:l9C) (n:l9C) (o:Nat):Heap:=[W9 a b,(o_ a 10 (mE b)),M0 c d e,Q8 f g,(o_ g 2 (mK (l7 f))),gD h i j k,(o_ l 9 (mC m)),(o_ 0 9 [(j4.row (nth n o))])]
@[simp] abbrev a5A (a:Nat) (b:l9E) (c:Int) (d:Int) (e:Int) (f:l9K) (g:Nat) (h:Int) (i:Int) (j:Int) (k:Int) (l:Nat) (m:l9C) (n:l9C) (o:Nat):Heap:=[W9 a b,(o_ a 10 (mE b)),M0 c d e,Q8 f g,(o_ g 2 (mK (l7 f))),gD h i j k,(o_ l 9 (mC m)),(o_ 0 9 [(j4.row (nth n o))]),a0z]
@[simp] abbrev a5w (a:l9E) (b:l9C) (c:Nat):Ob:=(o_ 0 10 [(Entry.row (q9 a (nth b c).key))])
@[simp] abbrev a8W (a:l9E) (b:l9C) (c:Nat) (d:Int) (e:Nat) (f:Int) (g:Int) (h:Int) (i:l9K) (j:Nat) (k:Int) (l:Int) (m:Int) (n:Int) (o:Nat) (p:l9C):Heap:=[a8V a b c d e,a5z a b c d e,M0 f g h,a5y a b c d i j,a5x a b c d j i,gD k l m n,(o_ o 9 (mC p)),(o_ 0 9 [(j4.row (nth b c))]),a5w a b c]
@[simp] abbrev tN (a:Nat) (b:l9E) (c:Int) (d:Int) (e:Int) (f:l9K) (g:Nat) (h:Int) (i:Int) (j:Int) (k:Int) (l:Nat) (m:l9C) (n:l9C) (o:Nat):Heap:=[W9 a b,(o_ a 10 (mE b)),M0 c d e,Q8 f g,(o_ g 2 (mK (l7 f))),gD h i j k,(o_ l 9 (mC m)),(o_ 0 9 [(j4.row (nth n o))]),a5w b n o]
@[simp] abbrev d4a (a:l9E) (b:l9C) (c:Nat) (d:Int) (e:Nat) (f:Int) (g:Int) (h:Int) (i:l9K) (j:Nat) (k:Int) (l:Int) (m:Int) (n:Int) (o:Nat) (p:l9C):Heap:=[a8V a b c d e,a5z a b c d e,M0 f g h,a5y a b c d i j,a5x a b c d j i,gD k l m n,a5Z o p b c,(o_ 0 9 [(j4.row (nth b c))]),a5w a b c]
@[simp] abbrev d3Z (a:l9E) (b:l9C) (c:Nat) (d:Int) (e:Nat) (f:Int) (g:Int) (h:Int) (i:l9K) (j:Nat) (k:Int) (l:Int) (m:Int) (n:Int) (o:Nat) (p:l9C):Heap:=[c6B a b c d e,c6A a b c d e,M0 f g h,Q8 i j,(o_ j 2 (mK (l7 i))),gD k l m n,(o_ o 9 (mC p)),(o_ 0 9 [(j4.row (nth b c))]),a5w a b c]
@[simp] abbrev xO :=(C8 a3C Tryz.f33 0)
theorem a7J (q:Nat) (qa:Nat) (cs:l9C) (now:Int) (gf:Int) (gl:Int) (gt:Int) (nd:Int) (s1:Int) (s2:Int) (s3:Int) (l:l9E) (g:Nat) (al:l9K) (ga:Nat) (out:l9C) (k:Nat) (h:Nat) (rf:Nat) (i:Nat) (hq:q+cs.length < 1000) (hqa:qa+cs.length < 100000) (hk:k=out.length) (hkl:k<=i) (hrf:rf<=i) (hl:l.length<=q+i) (ha:al.length<=qa+i) (hle_:i<=cs.length) {eX:Ex} {FX:Fr} {HX:Heap} (k1:(l9 i cs.length)=true->(!(Q6 (nth cs i)))=true->l6 xO (some [0,2,8,9,19,20,21]) (some [0,2,8,9,19,20,21]) (c0B now h k rf cs i) (a0x g l gf gl gt al ga nd s1 s2 s3 h out) eX FX HX) (k2:(l9 i cs.length)=true->(!(Q6 (nth cs i)))=false->(!(D7 l (nth cs i).key))=true->((K3 (r9 32) l (Entry.mk (nth cs i) (l8 now))) != 0)=true->l6 xO (some [0,2,8,9,19,20,21]) (some [0,2,8,9,19,20,21]) (d8z now h k rf cs i) (c0A l cs i now g gf gl gt al ga nd s1 s2 s3 h out) eX FX HX) (k3:(l9 i cs.length)=true->(!(Q6 (nth cs i)))=false->(!(D7 l (nth cs i).key))=true->((K3 (r9 32) l (Entry.mk (nth cs i) (l8 now))) != 0)=false->l6 xO (some [0,2,8,9,19,20,21]) (some [0,2,8,9,19,20,21]) (d8y now h k rf cs i) (a8X l cs i now g gf gl gt al ga nd s1 s2 s3 h out) eX FX HX) (k4:(l9 i cs.length)=true->(!(Q6 (nth cs i)))=false->(!(D7 l (nth cs i).key))=false->(decide (R9 (q9 l (nth cs i).key).card.stamp (nth cs i).stamp < 0))=true->((K3 (r9 32) l (Entry.mk (nth cs i) (l8 now))) != 0)=true->l6 xO (some [0,2,8,9,19,20,21]) (some [0,2,8,9,19,20,21]) (d8z now h k rf cs i) (c0A l cs i now g gf gl gt al ga nd s1 s2 s3 h out) eX FX HX) (k5:(l9 i cs.length)=true->(!(Q6 (nth cs i)))=false->(!(D7 l (nth cs i).key))=false->(decide (R9 (q9 l (nth cs i).key).card.stamp (nth cs i).stamp < 0))=true->((K3 (r9 32) l (Entry.mk (nth cs i) (l8 now))) != 0)=false->l6 xO (some [0,2,8,9,19,20,21]) (some [0,2,8,9,19,20,21]) (d8y now h k rf cs i) (a8X l cs i now g gf gl gt al ga nd s1 s2 s3 h out) eX FX HX) (k6:(l9 i cs.length)=true->(!(Q6 (nth cs i)))=false->(!(D7 l (nth cs i).key))=false->(decide (R9 (q9 l (nth cs i).key).card.stamp (nth cs i).stamp < 0))=false->(y9.eqb (q9 l (nth cs i).key).card.stamp (nth cs i).stamp)=true->(!(q9 l (nth cs i).key).card.gone)=true->l6 xO (some [0,2,8,9,19,20,21]) (some [0,2,8,9,19,20,21]) (c0B now h k rf cs i) (d4c l cs i now g gf gl gt al ga nd s1 s2 s3 h out) eX FX HX) (k7:(l9 i cs.length)=true->(!(Q6 (nth cs i)))=false->(!(D7 l (nth cs i).key))=false->(decide (R9 (q9 l (nth cs i).key).card.stamp (nth cs i).stamp < 0))=false->(y9.eqb (q9 l (nth cs i).key).card.stamp (nth cs i).stamp)=true->(!(q9 l (nth cs i).key).card.gone)=false->l6 xO (some [0,2,8,9,19,20,21]) (some [0,2,8,9,19,20,21]) (c0B now h k rf cs i) (a0x g l gf gl gt al ga nd s1 s2 s3 h out) eX FX HX) (k8:(l9 i cs.length)=true->(!(Q6 (nth cs i)))=false->(!(D7 l (nth cs i).key))=false->(decide (R9 (q9 l (nth cs i).key).card.stamp (nth cs i).stamp < 0))=false->(y9.eqb (q9 l (nth cs i).key).card.stamp (nth cs i).stamp)=false->l6 xO (some [0,2,8,9,19,20,21]) (some [0,2,8,9,19,20,21]) (c0B now h k rf cs i) (a0x g l gf gl gt al ga nd s1 s2 s3 h out) eX FX HX) (k9:(l9 i cs.length)=false->((.exit 0:Ex),(c0C now h k rf cs i),(a0x g l gf gl gt al ga nd s1 s2 s3 h out))=(eX,FX,HX)):l6 xO (some [0,2,8,9,19,20,21]) (some [0,2,8,9,19,20,21]) (c0C now h k rf cs i) (a0x g l gf gl gt al ga nd s1 s2 s3 h out) eX FX HX:=by
 have p1:=jH (r9 32) l ⟨nth cs i,l8 now⟩
 have p2:=zF l ⟨nth cs i,l8 now⟩ al
 have p3:=jH (r9 32) l ⟨(q9 l (nth cs i).key).card,l8 now⟩
 exact J7 (.r (.g (.two (l9 i cs.length) (fun h1 h1'=>(.r (.h' [(o_ 0 2 (a1A g l)),(o_ g 10 (mE l)),(o_ 0 3 (sD gf gl gt)),(o_ 0 2 (a0m al ga)),(o_ ga 2 (mK (l7 al))),(o_ 0 7 (d1c nd s1 s2 s3)),(o_ h 9 (mC out)),(o_ 0 9 [[e_,e_,z_,z_,z_,z_,z_,z_,bF]])] (.is 0 9 9 (mC cs) (i:Int) (j4.row (nth cs i)) (N7.mk _ ow ow) (.s (.c 1 ((a2Y (nth cs i)).lift kr kr (d4b g l gf gl gt al ga nd s1 s2 s3 h out cs i)) (.g (.two (!(Q6 (nth cs i))) (fun h2 h2'=>(.r (.h' (d4b g l gf gl gt al ga nd s1 s2 s3 h out cs i) (.y 0 (.int .i64 (cb_ i)) (iN (i+1)) Yes.o (.h' (a0x g l gf gl gt al ga nd s1 s2 s3 h out) (.b 7 (.g (.l (k1 h1 h2))))))))) (fun h2 h2'=>(.r (.c 1 (j5.put2 [0,1,2,3,4,5] (a5A g l gf gl gt al ga nd s1 s2 s3 h out cs i) (j3 0) (a5A g l gf gl gt al ga nd s1 s2 s3 h out cs i) (bX l g al ga gf gl gt nd s1 s2 s3 ) rlA rlA) (.c 4 (j5.put2 [0,1] (a5A g l gf gl gt al ga nd s1 s2 s3 h out cs i) (AV.tup [(p9 (Entry.row (q9 l (nth cs i).key))),(bB (D7 l (nth cs i).key))]) (a5A g l gf gl gt al ga nd s1 s2 s3 h out cs i) (a0b (r9 32) l (nth cs i).key g l.length oa oa) rlF rlF) (.rd (p9 (Key.row (nth cs i).key)) (a5A g l gf gl gt al ga nd s1 s2 s3 h out cs i) (.s (.two (!(D7 l (nth cs i).key)) (fun h3 h3'=>(.u5 (.ru (.ch 4 (a8W l cs i now g gf gl gt al ga nd s1 s2 s3 h out) (j5.put2 [0,1,2,3,4,5] (tN g l gf gl gt al ga nd s1 s2 s3 h out cs i) (iI (K3 (r9 32) l (Entry.mk (nth cs i) (l8 now)))) (a8W l cs i now g gf gl gt al ga nd s1 s2 s3 h out) (a1k l g al ga gf gl gt nd s1 s2 s3 (Entry.mk (nth cs i) (l8 now)) oa oa) rlA rlA) (.g (.two ((K3 (r9 32) l (Entry.mk (nth cs i) (l8 now))) != 0) (fun h4 h4'=>(.r (.y 1 (.int .i64 (cb_ rf)) (iN (rf+1)) Yes.o (.s (.y 0 (.int .i64 (cb_ i)) (iN (i+1)) Yes.o (.h' (c0A l cs i now g gf gl gt al ga nd s1 s2 s3 h out) (.b 7 (.g (.l (k2 h1 h2 h3 h4)))))))))) (fun h4 h4'=>(.r (.ap 3 30 (d9 6 h 9 k) (cy_ cs i) (xP h k) (d4a l cs i now g gf gl gt al ga nd s1 s2 s3 h out) (I4 (row:=j4.row) (l:=out) (x:=(nth cs i)) (T:=tt) (e:=50) (te:=bZ) (z:=1) (b:=24) (y:=[.sl .nil 0 []]) kr kr rfl D8 D8 kr Z0 rfl rfl gV) (.s (.y 0 (.int .i64 (cb_ i)) (iN (i+1)) Yes.o (.h' (a8X l cs i now g gf gl gt al ga nd s1 s2 s3 h out) (.b 7 (.g (.l (k3 h1 h2 h3 h4)))))))))))))))) (fun h3 h3'=>(.n5 (.c 8 ((wV (q9 l (nth cs i).key).card.stamp (nth cs i).stamp).lift kr kr (tN g l gf gl gt al ga nd s1 s2 s3 h out cs i)) (.g (.two (decide (R9 (q9 l (nth cs i).key).card.stamp (nth cs i).stamp < 0)) (fun h4 h4'=>(.r (.ch 4 (a8W l cs i now g gf gl gt al ga nd s1 s2 s3 h out) (j5.put2 [0,1,2,3,4,5] (tN g l gf gl gt al ga nd s1 s2 s3 h out cs i) (iI (K3 (r9 32) l (Entry.mk (nth cs i) (l8 now)))) (a8W l cs i now g gf gl gt al ga nd s1 s2 s3 h out) (a1k l g al ga gf gl gt nd s1 s2 s3 (Entry.mk (nth cs i) (l8 now)) oa oa) rlA rlA) (.g (.two ((K3 (r9 32) l (Entry.mk (nth cs i) (l8 now))) != 0) (fun h5 h5'=>(.r (.y 1 (.int .i64 (cb_ rf)) (iN (rf+1)) Yes.o (.s (.y 0 (.int .i64 (cb_ i)) (iN (i+1)) Yes.o (.h' (c0A l cs i now g gf gl gt al ga nd s1 s2 s3 h out) (.b 7 (.g (.l (k4 h1 h2 h3 h4 h5)))))))))) (fun h5 h5'=>(.r (.ap 3 30 (d9 6 h 9 k) (cy_ cs i) (xP h k) (d4a l cs i now g gf gl gt al ga nd s1 s2 s3 h out) (I4 (row:=j4.row) (l:=out) (x:=(nth cs i)) (T:=tt) (e:=50) (te:=bZ) (z:=1) (b:=24) (y:=[.sl .nil 0 []]) kr kr rfl D8 D8 kr Z0 rfl rfl gV) (.s (.y 0 (.int .i64 (cb_ i)) (iN (i+1)) Yes.o (.h' (a8X l cs i now g gf gl gt al ga nd s1 s2 s3 h out) (.b 7 (.g (.l (k5 h1 h2 h3 h4 h5))))))))))))))) (fun h4 h4'=>(.r (.two (y9.eqb (q9 l (nth cs i).key).card.stamp (nth cs i).stamp) (fun h5 h5'=>(.u3 (.g (.two (!(q9 l (nth cs i).key).card.gone) (fun h6 h6'=>(.r (.c 1 (j5.put2 [0,1,2,3,4,5] (tN g l gf gl gt al ga nd s1 s2 s3 h out cs i) (j3 0) (tN g l gf gl gt al ga nd s1 s2 s3 h out cs i) (bX l g al ga gf gl gt nd s1 s2 s3 ) rlA rlA) (.ch 6 (d3Z l cs i now g gf gl gt al ga nd s1 s2 s3 h out) (j5.put2 [0,1] (tN g l gf gl gt al ga nd s1 s2 s3 h out cs i) (iI (K3 (r9 32) l (Entry.mk (q9 l (nth cs i).key).card (l8 now)))) (d3Z l cs i now g gf gl gt al ga nd s1 s2 s3 h out) (zN (r9 32) l (Entry.mk (q9 l (nth cs i).key).card (l8 now)) g l.length oa oa) rlF rlF) (.rd (p9 (j4.row (q9 l (nth cs i).key).card)) (tN g l gf gl gt al ga nd s1 s2 s3 h out cs i) (.s (.y 0 (.int .i64 (cb_ i)) (iN (i+1)) Yes.o (.h' (d4c l cs i now g gf gl gt al ga nd s1 s2 s3 h out) (.b 7 (.g (.l (k6 h1 h2 h3 h4 h5 h6)))))))))))) (fun h6 h6'=>(.r (.h' (tN g l gf gl gt al ga nd s1 s2 s3 h out cs i) (.y 0 (.int .i64 (cb_ i)) (iN (i+1)) Yes.o (.h' (a0x g l gf gl gt al ga nd s1 s2 s3 h out) (.b 7 (.g (.l (k7 h1 h2 h3 h4 h5 h6))))))))))))) (fun h5 h5'=>(.n3 (.rn (.h' (tN g l gf gl gt al ga nd s1 s2 s3 h out cs i) (.y 0 (.int .i64 (cb_ i)) (iN (i+1)) Yes.o (.h' (a0x g l gf gl gt al ga nd s1 s2 s3 h out) (.b 7 (.g (.l (k8 h1 h2 h3 h4 h5))))))))))))))))))))))))))))))))) (fun h1 h1'=>(.l (k9 h1))))))
def cO (q:Nat) (qa:Nat) (cs:List j4) (now:Int) (gf:Int) (gl:Int) (gt:Int) (nd:Int) (s1:Int) (s2:Int) (s3:Int) (i:Nat) (s:(List Entry) × Nat × (List Key) × Nat × (List j4) × Nat × Nat × Nat):(List Entry) × Nat × (List Key) × Nat × (List j4) × Nat × Nat × Nat:=(if (!(Q6 (nth cs i)))=true then (s.1,s.2.1,s.2.2.1,s.2.2.2.1,s.2.2.2.2.1,s.2.2.2.2.2.1,s.2.2.2.2.2.2.1,s.2.2.2.2.2.2.2) else (if (!(D7 s.1 (nth cs i).key))=true then (if ((K3 (r9 32) s.1 (Entry.mk (nth cs i) (l8 now))) != 0)=true then (J2 (r9 32) s.1 (Entry.mk (nth cs i) (l8 now)),(J9 (r9 32) s.1 (Entry.mk (nth cs i) (l8 now)) s.2.1),K9 s.1 (Entry.mk (nth cs i) (l8 now)) s.2.2.1,(Q9 s.1 (Entry.mk (nth cs i) (l8 now)) s.2.2.2.1),s.2.2.2.2.1,s.2.2.2.2.2.1,s.2.2.2.2.2.2.1,s.2.2.2.2.2.2.2+1) else (J2 (r9 32) s.1 (Entry.mk (nth cs i) (l8 now)),(J9 (r9 32) s.1 (Entry.mk (nth cs i) (l8 now)) s.2.1),K9 s.1 (Entry.mk (nth cs i) (l8 now)) s.2.2.1,(Q9 s.1 (Entry.mk (nth cs i) (l8 now)) s.2.2.2.1),s.2.2.2.2.1++[(nth cs i)],(s.2.2.2.2.2.1+1),(s.2.2.2.2.2.2.1+1),s.2.2.2.2.2.2.2)) else (if (decide (R9 (q9 s.1 (nth cs i).key).card.stamp (nth cs i).stamp < 0))=true then (if ((K3 (r9 32) s.1 (Entry.mk (nth cs i) (l8 now))) != 0)=true then (J2 (r9 32) s.1 (Entry.mk (nth cs i) (l8 now)),(J9 (r9 32) s.1 (Entry.mk (nth cs i) (l8 now)) s.2.1),K9 s.1 (Entry.mk (nth cs i) (l8 now)) s.2.2.1,(Q9 s.1 (Entry.mk (nth cs i) (l8 now)) s.2.2.2.1),s.2.2.2.2.1,s.2.2.2.2.2.1,s.2.2.2.2.2.2.1,s.2.2.2.2.2.2.2+1) else (J2 (r9 32) s.1 (Entry.mk (nth cs i) (l8 now)),(J9 (r9 32) s.1 (Entry.mk (nth cs i) (l8 now)) s.2.1),K9 s.1 (Entry.mk (nth cs i) (l8 now)) s.2.2.1,(Q9 s.1 (Entry.mk (nth cs i) (l8 now)) s.2.2.2.1),s.2.2.2.2.1++[(nth cs i)],(s.2.2.2.2.2.1+1),(s.2.2.2.2.2.2.1+1),s.2.2.2.2.2.2.2)) else (if (y9.eqb (q9 s.1 (nth cs i).key).card.stamp (nth cs i).stamp)=true then (if (!(q9 s.1 (nth cs i).key).card.gone)=true then (J2 (r9 32) s.1 (Entry.mk (q9 s.1 (nth cs i).key).card (l8 now)),(J9 (r9 32) s.1 (Entry.mk (q9 s.1 (nth cs i).key).card (l8 now)) s.2.1),s.2.2.1,s.2.2.2.1,s.2.2.2.2.1,s.2.2.2.2.2.1,s.2.2.2.2.2.2.1,s.2.2.2.2.2.2.2) else (s.1,s.2.1,s.2.2.1,s.2.2.2.1,s.2.2.2.2.1,s.2.2.2.2.2.1,s.2.2.2.2.2.2.1,s.2.2.2.2.2.2.2)) else (s.1,s.2.1,s.2.2.1,s.2.2.2.1,s.2.2.2.2.1,s.2.2.2.2.2.1,s.2.2.2.2.2.2.1,s.2.2.2.2.2.2.2)))))
theorem V6 {p:Prop} (h:p:=by have p1:=jH (r9 32) l ⟨nth cs i,l8 now⟩; have p2:=zF l ⟨nth cs i,l8 now⟩ al; have p3:=jH (r9 32) l ⟨(q9 l (nth cs i).key).card,l8 now⟩; first | omega | assumption | (simp; done) | (simp; omega) | (simp [*]; done) | (simp [*]; omega)):p:=h
theorem c7J {p:Prop} (h:p:=by rw [hF] <;> simp only [iter,cO,h2,h3,h4,h5,if_true,Bool.false_eq_true,if_false]):p:=h
theorem c4b (q:Nat) (qa:Nat) (cs:l9C) (now:Int) (gf:Int) (gl:Int) (gt:Int) (nd:Int) (s1:Int) (s2:Int) (s3:Int) (hq:q+cs.length < 1000) (hqa:qa+cs.length < 100000)  (r_:Nat):∀ (l:l9E) (g:Nat) (al:l9K) (ga:Nat) (out:l9C) (k:Nat) (h:Nat) (rf:Nat) (i:Nat) (sF:l9E × Nat × l9K × Nat × l9C × Nat × Nat × Nat),i+r_=cs.length->k=out.length->k<=i->rf<=i->l.length<=q+i->al.length<=qa+i->sF=iter (cO q qa cs now gf gl gt nd s1 s2 s3) r_ i (l,g,al,ga,out,k,h,rf) ->
 l6 (C8 a3C Tryz.f33 0) (some [0,2,8,9,19,20,21]) (some [0,2,8,9,19,20,21]) (c0C now h k rf cs i) (a0x g l gf gl gt al ga nd s1 s2 s3 h out) (.exit 0) (mkF 82 [(0,(j3 5)),(2,(iI (l8 now))),(8,(d9 6 sF.2.2.2.2.2.2.1 9 sF.2.2.2.2.2.1)),(9,(iN sF.2.2.2.2.2.2.2)),(19,(sA 9 (mC cs))),(20,(iN cs.length)),(21,(iN cs.length))]) [(o_ 0 2 [[(iI (r9 32)),(d9 1 sF.2.1 10 sF.1.length)]]),(o_ sF.2.1 10 (mE sF.1)),(o_ 0 3 [[(iI gf),(iI gl),(iI gt)]]),(o_ 0 2 [[(iN (sF.2.2.1.length)),(d9 4 sF.2.2.2.1 2 (l7 sF.2.2.1).length)]]),(o_ sF.2.2.2.1 2 (mK (l7 sF.2.2.1))),(o_ 0 7 [[(iI nd),(iI s1),(iI s2),(iI s3),(j3 0),(j3 2),(j3 3)]]),(o_ sF.2.2.2.2.2.2.1 9 (mC sF.2.2.2.2.1))]:=by
 induction r_ with
 | zero =>
  intro l g al ga out k h rf i sF hi_ hk hkl hrf hl ha  hF
  obtain rfl:cs.length=i:=by omega
  have e_:sF=(l,g,al,ga,out,k,h,rf):=hF
  refine a7J q qa cs now gf gl gt nd s1 s2 s3 l g al ga out k h rf cs.length hq hqa hk hkl hrf hl ha J8 (fun h _=>by simp at h <;> omega) (fun h _ _ _=>by simp at h <;> omega) (fun h _ _ _=>by simp at h <;> omega) (fun h _ _ _ _=>by simp at h <;> omega) (fun h _ _ _ _=>by simp at h <;> omega) (fun h _ _ _ _ _=>by simp at h <;> omega) (fun h _ _ _ _ _=>by simp at h <;> omega) (fun h _ _ _ _=>by simp at h <;> omega) (fun _=>?_)
  first | done | rfl | (rw [e_]; done) | (rw [e_]; rfl)
 | succ r_ ih =>
  intro l g al ga out k h rf i sF hi_ hk hkl hrf hl ha  hF
  refine a7J q qa cs now gf gl gt nd s1 s2 s3 l g al ga out k h rf i hq hqa hk hkl hrf hl ha ow (fun h1 h2=>?_) (fun h1 h2 h3 h4=>?_) (fun h1 h2 h3 h4=>?_) (fun h1 h2 h3 h4 h5=>?_) (fun h1 h2 h3 h4 h5=>?_) (fun h1 h2 h3 h4 h5 h6=>?_) (fun h1 h2 h3 h4 h5 h6=>?_) (fun h1 h2 h3 h4 h5=>?_) (fun h=>by simp at h <;> omega)
  · exact ih l g al ga out k h rf (i+1) sF ow V6 V6 V6 V6 V6  (by rw [hF] <;> simp only [iter,cO,h2,if_true,Bool.false_eq_true,if_false])
  · exact ih (J2 (r9 32) l (Entry.mk (nth cs i) (l8 now))) (J9 (r9 32) l (Entry.mk (nth cs i) (l8 now)) g) (K9 l (Entry.mk (nth cs i) (l8 now)) al) (Q9 l (Entry.mk (nth cs i) (l8 now)) ga) out k h (rf+1) (i+1) sF ow V6 V6 V6 V6 V6  (by rw [hF] <;> simp only [iter,cO,h2,h3,h4,if_true,Bool.false_eq_true,if_false])
  · exact ih (J2 (r9 32) l (Entry.mk (nth cs i) (l8 now))) (J9 (r9 32) l (Entry.mk (nth cs i) (l8 now)) g) (K9 l (Entry.mk (nth cs i) (l8 now)) al) (Q9 l (Entry.mk (nth cs i) (l8 now)) ga) (out++[(nth cs i)]) (k+1) (h+1) rf (i+1) sF ow V6 V6 V6 V6 V6  (by rw [hF] <;> simp only [iter,cO,h2,h3,h4,if_true,Bool.false_eq_true,if_false])
  · exact ih (J2 (r9 32) l (Entry.mk (nth cs i) (l8 now))) (J9 (r9 32) l (Entry.mk (nth cs i) (l8 now)) g) (K9 l (Entry.mk (nth cs i) (l8 now)) al) (Q9 l (Entry.mk (nth cs i) (l8 now)) ga) out k h (rf+1) (i+1) sF ow V6 V6 V6 V6 V6  c7J
  · exact ih (J2 (r9 32) l (Entry.mk (nth cs i) (l8 now))) (J9 (r9 32) l (Entry.mk (nth cs i) (l8 now)) g) (K9 l (Entry.mk (nth cs i) (l8 now)) al) (Q9 l (Entry.mk (nth cs i) (l8 now)) ga) (out++[(nth cs i)]) (k+1) (h+1) rf (i+1) sF ow V6 V6 V6 V6 V6  c7J
  · exact ih (J2 (r9 32) l (Entry.mk (q9 l (nth cs i).key).card (l8 now))) (J9 (r9 32) l (Entry.mk (q9 l (nth cs i).key).card (l8 now)) g) al ga out k h rf (i+1) sF ow V6 V6 V6 V6 V6  (by rw [hF] <;> simp only [iter,cO,h2,h3,h4,h5,h6,if_true,Bool.false_eq_true,if_false])
  · exact ih l g al ga out k h rf (i+1) sF ow V6 V6 V6 V6 V6  (by rw [hF] <;> simp only [iter,cO,h2,h3,h4,h5,h6,if_true,Bool.false_eq_true,if_false])
  · exact ih l g al ga out k h rf (i+1) sF ow V6 V6 V6 V6 V6  c7J
theorem oD {σ:Type} (f:Nat->σ->σ) (P:Nat->σ->Prop) (n:Nat) (h:∀ i s,i < n->P i s->P (i+1) (f i s)) (r:Nat):∀ (i:Nat) (s:σ),i+r<=n->P i s->P (i+r) (iter f r i s):=by
 induction r with
 | zero=>intro i s _ hp; exact hp
 | succ r ih =>
  intro i s hi hp
  have:=ih (i+1) (f i s) ow (h i s ow hp)
  rw [show i+(r+1)=i+1+r by omega]; exact this
theorem c3Y {σ τ:Type} (f:Nat->σ->σ) (f':Nat->τ->τ) (p:σ->τ) (h:∀ i s,p (f i s)=f' i (p s)) (r:Nat):∀ (i:Nat) (s:σ),p (iter f r i s)=iter f' r i (p s):=by
 induction r with
 | zero=>intro i s; rfl
 | succ r ih=>intro i s; show p (iter f r (i+1) (f i s))=iter f' r (i+1) (f' i (p s)); rw [ih,h]
def bW (now:Int) (s:List Entry × List Key × List j4 × Nat) (c:j4):List Entry × List Key × List j4 × Nat :=
 if Q6 c=true then
  if D7 s.1 c.key=true/\decide (R9 (q9 s.1 c.key).card.stamp c.stamp < 0)=false then
   if y9.eqb (q9 s.1 c.key).card.stamp c.stamp=true/\(q9 s.1 c.key).card.gone=false then (J2 (r9 32) s.1 ⟨(q9 s.1 c.key).card,now⟩,s.2.1,s.2.2.1,s.2.2.2) else s
  else (J2 (r9 32) s.1 ⟨c,now⟩,K9 s.1 ⟨c,now⟩ s.2.1,if K3 (r9 32) s.1 ⟨c,now⟩=0 then s.2.2.1++[c] else s.2.2.1,if K3 (r9 32) s.1 ⟨c,now⟩=0 then s.2.2.2 else s.2.2.2+1)
 else s
def N9 (now:Int) (cs:List j4) (l:List Entry) (al:List Key):List Entry × List Key × List j4 × Nat:=cs.foldl (bW (l8 now)) (l,al,[],0)
theorem c4d (now:Int) (s:l9E × l9K × l9C × Nat) (c:j4):(bW now s c).1.length<=s.1.length+1/\(bW now s c).2.1.length<=s.2.1.length+1/\(bW now s c).2.2.1.length<=s.2.2.1.length+1/\(bW now s c).2.2.2<=s.2.2.2+1:=by
 have p1:=jH (r9 32) s.1 ⟨c,now⟩
 have p2:=zF s.1 ⟨c,now⟩ s.2.1
 have p3:=jH (r9 32) s.1 ⟨(q9 s.1 c.key).card,now⟩
 unfold bW
 split
 · split
   · split
     · exact ⟨p3,Nat.le_succ _,Nat.le_succ _,Nat.le_succ _⟩
     · exact ⟨by omega,by omega,by omega,by omega⟩
   · refine ⟨p1,p2,?_,?_⟩ <;> simp only <;> split <;> simp <;> omega
 · exact ⟨by omega,by omega,by omega,by omega⟩
theorem c4e (now:Int) (cs:l9C):∀ (s:l9E × l9K × l9C × Nat),(cs.foldl (bW now) s).1.length<=s.1.length+cs.length/\(cs.foldl (bW now) s).2.1.length<=s.2.1.length+cs.length/\(cs.foldl (bW now) s).2.2.1.length<=s.2.2.1.length+cs.length/\(cs.foldl (bW now) s).2.2.2<=s.2.2.2+cs.length:=by
 induction cs with
 | nil=>intro s; simp
 | cons c cs ih =>
  intro s
  obtain ⟨h1,h2,h3,h4⟩:=ih (bW now s c)
  obtain ⟨k1,k2,k3,k4⟩:=c4d now s c
  simp only [List.foldl_cons,List.length_cons]
  exact ⟨by omega,by omega,by omega,by omega⟩
theorem a7K (now:Int) (cs:l9C) (l:l9E) (al:l9K):(N9 now cs l al).1.length<=l.length+cs.length/\(N9 now cs l al).2.1.length<=al.length+cs.length/\(N9 now cs l al).2.2.1.length<=cs.length/\(N9 now cs l al).2.2.2<=cs.length:=by
 have h:=c4e (l8 now) cs (l,al,[],0)
 simpa [N9] using h
def a2t (t:List Entry × Nat × List Key × Nat × List j4 × Nat × Nat × Nat):List Entry × List Key × List j4 × Nat:=(t.1,t.2.2.1,t.2.2.2.2.1,t.2.2.2.2.2.2.2)
theorem d6i (q qa:Nat) (cs:l9C) (now gf gl gt nd s1 s2 s3:Int) (i:Nat) (s:l9E × Nat × l9K × Nat × l9C × Nat × Nat × Nat) :
 a2t (cO q qa cs now gf gl gt nd s1 s2 s3 i s)=bW (l8 now) (a2t s) (nth cs i):=by
 unfold a2t cO bW
 generalize Q6 (nth cs i)=b1
 generalize D7 s.1 (nth cs i).key=b2
 generalize decide (R9 (q9 s.1 (nth cs i).key).card.stamp (nth cs i).stamp < 0)=b3
 generalize y9.eqb (q9 s.1 (nth cs i).key).card.stamp (nth cs i).stamp=b4
 generalize (q9 s.1 (nth cs i).key).card.gone=b5
 generalize K3 (r9 32) s.1 (Entry.mk (nth cs i) (l8 now))=z
 by_cases hz:z=0 <;> cases b1 <;> cases b2 <;> cases b3 <;> cases b4 <;> cases b5 <;> simp [hz]
theorem d6h (q qa:Nat) (cs:l9C) (now gf gl gt nd s1 s2 s3:Int) (i:Nat) (s:l9E × Nat × l9K × Nat × l9C × Nat × Nat × Nat) (h:s.2.2.2.2.2.1=s.2.2.2.2.1.length) :
 (cO q qa cs now gf gl gt nd s1 s2 s3 i s).2.2.2.2.2.1=(cO q qa cs now gf gl gt nd s1 s2 s3 i s).2.2.2.2.1.length:=by
 unfold cO
 repeat' split
 all_goals simp [h]
def vY (now:Int) (cs:List j4) (l:List Entry) (g:Nat) (al:List Key) (ga:Nat):List Entry × Nat × List Key × Nat × List j4 × Nat × Nat × Nat:=iter (cO 0 0 cs now 0 0 0 0 0 0 0) cs.length 0 (l,g,al,ga,[],0,0,0)
def fZ (now:Int) (cs:List j4) (l:List Entry) (g:Nat) (al:List Key) (ga:Nat):Nat:=(vY now cs l g al ga).2.1
def gB (now:Int) (cs:List j4) (l:List Entry) (g:Nat) (al:List Key) (ga:Nat):Nat:=(vY now cs l g al ga).2.2.2.1
def a2u (now:Int) (cs:List j4) (l:List Entry) (g:Nat) (al:List Key) (ga:Nat):Nat:=(vY now cs l g al ga).2.2.2.2.2.2.1
theorem c4c (q qa:Nat) (cs:l9C) (now gf gl gt nd s1 s2 s3:Int) (l:l9E) (g:Nat) (al:l9K) (ga:Nat) :
 ((N9 now cs l al).1,fZ now cs l g al ga,(N9 now cs l al).2.1,gB now cs l g al ga,(N9 now cs l al).2.2.1,(N9 now cs l al).2.2.1.length,a2u now cs l g al ga,(N9 now cs l al).2.2.2)=iter (cO q qa cs now gf gl gt nd s1 s2 s3) cs.length 0 (l,g,al,ga,[],0,0,0):=by
 have e:iter (cO q qa cs now gf gl gt nd s1 s2 s3) cs.length 0 (l,g,al,ga,[],0,0,0)=vY now cs l g al ga:=rfl
 have h1:a2t (vY now cs l g al ga)=iter (fun i s=>bW (l8 now) s (nth cs i)) cs.length 0 (l,al,[],0):=c3Y (cO 0 0 cs now 0 0 0 0 0 0 0) (fun i s=>bW (l8 now) s (nth cs i)) a2t (fun i s=>d6i 0 0 cs now 0 0 0 0 0 0 0 i s) cs.length 0 (l,g,al,ga,[],0,0,0)
 rw [fO (fun i s=>bW (l8 now) s (nth cs i)) (bW (l8 now)) cs (fun i s hi=>rfl)] at h1
 have h2:(vY now cs l g al ga).2.2.2.2.2.1=(vY now cs l g al ga).2.2.2.2.1.length:=oD (cO 0 0 cs now 0 0 0 0 0 0 0) (fun _ s=>s.2.2.2.2.2.1=s.2.2.2.2.1.length) cs.length (fun i s _ hs=>d6h 0 0 cs now 0 0 0 0 0 0 0 i s hs) cs.length 0 (l,g,al,ga,[],0,0,0) ow rfl
 rw [e]
 unfold N9 fZ gB a2u
 unfold a2t at h1
 generalize vY now cs l g al ga=x at h1 h2 ⊢
 obtain ⟨x1,x2,x3,x4,x5,x6,x7,x8⟩:=x
 simp only at h1 h2 ⊢
 rw [<- h1]
 simp only [h2]
attribute [local irreducible] N9 fZ gB a2u
abbrev c6z (a:Int) (b:l9C) (c:l9E) (d:Nat) (e:l9K) (f:Nat):Ob:=(o_ 0 2 [[(iI (r9 32)),(d9 1 (fZ a b c d e f) 10 (List.length (N9 a b c e).1))]])
abbrev c6y (a:Int) (b:l9C) (c:l9E) (d:Nat) (e:l9K) (f:Nat):Ob:=(o_ (fZ a b c d e f) 10 (mE (N9 a b c e).1))
abbrev c6x (a:Int) (b:l9C) (c:l9E) (d:l9K) (e:Nat) (f:Nat):Ob:=(o_ 0 2 [[(iN ((List.length (N9 a b c d).2.1))),(d9 4 (gB a b c e d f) 2 (l7 (N9 a b c d).2.1).length)]])
abbrev c6w (a:Int) (b:l9C) (c:l9E) (d:Nat) (e:l9K) (f:Nat):Ob:=(o_ (gB a b c d e f) 2 (mK (l7 (N9 a b c e).2.1)))
abbrev d3Y (a:Int) (b:l9C) (c:l9E) (d:Nat) (e:l9K) (f:Nat) (g:Int) (h:Int) (i:Int) (j:Int) (k:Int) (l:Int) (m:Int):Heap:=[c6z a b c d e f,c6y a b c d e f,M0 g h i,c6x a b c e d f,c6w a b c d e f,gD j k l m]
abbrev d3X (a:Nat) (b:l9E) (c:Int) (d:Int) (e:Int) (f:l9K) (g:Nat) (h:Int) (i:Int) (j:Int) (k:Int):Heap:=[W9 a b,(o_ a 10 (mE b)),M0 c d e,Q8 f g,(o_ g 2 (mK (l7 f))),gD h i j k,(o_ 0 9 (mC []))]
abbrev d3W (a:Int) (b:l9C) (c:l9E) (d:Nat) (e:l9K) (f:Nat):Fr:=(mkF 82 [(0,(j3 5)),(2,(iI (l8 a))),(8,(d9 6 (a2u a b c d e f) 9 (List.length (N9 a b c e).2.2.1))),(9,(iN (((N9 a b c e).2.2.2)))),(19,(sA 9 (mC b))),(20,(iN b.length)),(21,(iN b.length))])
abbrev d3V (a:Int) (b:l9C) (c:l9E) (d:Nat) (e:l9K) (f:Nat) (g:Int) (h:Int) (i:Int) (j:Int) (k:Int) (l:Int) (m:Int):Heap:=[c6z a b c d e f,c6y a b c d e f,M0 g h i,c6x a b c e d f,c6w a b c d e f,gD j k l m,(o_ (a2u a b c d e f) 9 (mC (N9 a b c e).2.2.1))]
theorem c4a (cs:l9C) (now:Int) (l:l9E) (g:Nat) (al:l9K) (ga:Nat) (gf gl gt nd s1 s2 s3:Int) (hl:l.length+cs.length < 1000) (ha:al.length+cs.length < 100000):AC 33 [(j3 5),(sA 9 (mC cs)),(iI now)] [(o_ 0 2 (a1A g l)),(o_ g 10 (mE l)),(o_ 0 3 (sD gf gl gt)),(o_ 0 2 (a0m al ga)),(o_ ga 2 (mK (l7 al))),(o_ 0 7 (d1c nd s1 s2 s3))] ((AV.tup [(sA 9 (mC (N9 now cs l al).2.2.1)),(iN ((N9 now cs l al).2.2.2))]),(d3Y now cs l g al ga gf gl gt nd s1 s2 s3)):=by
 have k1:=a7K now cs l al
 exact x9 (fn:=Tryz.f33) (ann:=a3C) (Has.o Tryz.func33) (.r (.s (.rn (.y 1 (.int .i64 (if 1099511627776 < now then 1099511627776 else now)) (iI (min now 1099511627776)) (Yes.int yv_) (.y 2 (.int .i64 (if (min now 1099511627776) > 0 then (min now 1099511627776) else 0)) (b9v now) (Yes.int yv_) (.s (.s (.s (.h' (d3X g l gf gl gt al ga nd s1 s2 s3) (.y 1 (.int .i64 ((List.length (mC cs):Nat):Int)) (iN cs.length) (Yes.len _ _ _) (.g (.loop (d3W now cs l g al ga) (show l6 xO (some [0,2,8,9,19,20,21]) (some [0,2,8,9,19,20,21]) (mkF 82 [(0,(j3 5)),(2,(b9v now)),(8,(d9 6 0 9 0)),(9,z_),(19,(sA 9 (mC cs))),(20,(iN cs.length)),(21,z_)]) (d3X g l gf gl gt al ga nd s1 s2 s3) (.exit 0) (d3W now cs l g al ga) (d3V now cs l g al ga gf gl gt nd s1 s2 s3) from (c4b l.length al.length cs now gf gl gt nd s1 s2 s3 hl ha cs.length l g al ga [] 0 0 0 0 _ ow rfl ow ow ow ow (c4c _ _ cs now gf gl gt nd s1 s2 s3 l g al ga))) (.r (.w 8 (mC (N9 now cs l al).2.2.1) (And.intro (G5 (room:=none) kr om) (j4.z8 _ _):I5 (d3V now cs l g al ga gf gl gt nd s1 s2 s3) 9 (d9 6 (a2u now cs l g al ga) 9 (List.length (N9 now cs l al).2.2.1))=some (mC (N9 now cs l al).2.2.1)/\AV.F3 0 (mC (N9 now cs l al).2.2.1)=true) (.g (.h' (d3Y now cs l g al ga gf gl gt nd s1 s2 s3) (.q 6 (AV.tup [(sA 9 (mC (N9 now cs l al).2.2.1)),(iN (((N9 now cs l al).2.2.2)))]))))))))))))))))))
section
variable {P:Program} {X:Env} {F:Fr} {H H2:Heap} {ar:Nat} {o:Oper}
end
section
variable {α:Type} [Inhabited α]
theorem b4y (l:List α) (q:Nat):nth l q=l.getD q default:=rfl
theorem b0k (l:List α) {i:Nat} (h:i < l.length) (x:α) (q:Nat):nth (l.set i x) q=if i=q then x else nth l q:=by
 simp only [b4y,List.getD_eq_getElem?_getD]
 by_cases e:i=q
 · subst e; rw [List.getElem?_set_self h,if_pos rfl]; rfl
 · rw [List.getElem?_set_ne e,if_neg e]
theorem nZ (l m:List α) (q:Nat):nth (l++m) q=if q < l.length then nth l q else nth m (q - l.length):=by
 simp only [b4y,List.getD_eq_getElem?_getD]
 split
 · rename_i h; rw [List.getElem?_append_left h]
 · rename_i h; rw [List.getElem?_append_right ya_]
theorem d6o {l m:List α} (hl:l.length=m.length) (h:∀ q,q < l.length->nth l q=nth m q):l=m:=by
 apply List.ext_getElem hl
 intro q h1 h2
 have:=h q h1
 rwa [Z7 h1,Z7 h2] at this
def V8 (a b n:Nat) (l:List α):List α:=iter (fun i l=>(l.set (a+i) (nth l (b+i))).set (b+i) (nth l (a+i))) n 0 l
theorem a7g (a b n:Nat) (l:List α) (hab:a+n<=b) (hb:b+n<=l.length):∀ k,k<=n->(V8 a b k l).length=l.length/\∀ q,nth (V8 a b k l) q=if a<=q/\q < a+k then nth l (b+(q - a)) else if b<=q/\q < b+k then nth l (a+(q - b)) else nth l q:=by
 intro k
 induction k with
 | zero =>
  intro _
  refine ⟨rfl,fun q=>?_⟩
  rw [if_neg ya_,if_neg ya_]
  rfl
 | succ k ih =>
  intro hk
  obtain ⟨h1,h2⟩:=ih ya_
  have e:V8 a b (k+1) l=((V8 a b k l).set (a+k) (nth (V8 a b k l) (b+k))).set (b+k) (nth (V8 a b k l) (a+k)):=qN _ _ _
  refine ⟨by rw [e]; simp [h1],fun q=>?_⟩
  rw [e,b0k _ yg_,b0k _ ya_,h2,h2,h2]
  by_cases c1:b+k=q
  · subst c1
    rw [if_pos rfl,if_neg ya_,if_neg ya_,if_neg ya_,if_pos ya_]
    congr 1; omega
  · rw [if_neg c1]
    by_cases c2:a+k=q
    · subst c2
      rw [if_pos rfl,if_neg ya_,if_neg ya_,if_pos ya_]
      congr 1; omega
    · rw [if_neg c2]
      have e1:(a<=q/\q < a+(k+1))↔(a<=q/\q < a+k):=by omega
      have e2:(b<=q/\q < b+(k+1))↔(b<=q/\q < b+k):=by omega
      simp only [e1,e2]
theorem c1T {a b n:Nat} {l:List α} (hab:a+n<=b) (hb:b+n<=l.length):(V8 a b n l).length=l.length:=(a7g a b n l hab hb n J8).1
theorem oZ (X U M V Y:List α) {a b n:Nat} (ha:a=X.length) (hU:U.length=n) (hV:V.length=n) (hb:b=X.length+n+M.length) :
 V8 a b n (X++(U++(M++(V++Y))))=X++(V++(M++(U++Y))):=by
 obtain ⟨h1,h2⟩:=a7g a b n (X++(U++(M++(V++Y)))) ya_ yg_ n J8
 refine d6o (by rw [h1]; simp; omega) fun q hq=>?_
 rw [h2]
 simp only [nZ,hU,hV]
 by_cases c1:q < X.length
 · rw [if_neg ya_,if_neg ya_,if_pos c1,if_pos c1]
 · rw [if_neg (c:=q < X.length) c1,if_neg (c:=q < X.length) c1]
   by_cases c2:q - X.length < n
   · rw [if_pos ya_,if_pos (c:=q - X.length < n) c2,if_neg ya_,if_neg ya_,if_neg ya_,if_pos ya_]
     congr 1; omega
   · rw [if_neg ya_,if_neg (c:=q - X.length < n) c2,if_neg (c:=q - X.length < n) c2]
     by_cases c3:q - X.length - n < M.length
     · rw [if_neg ya_,if_pos c3,if_pos c3]
     · rw [if_neg (c:=q - X.length - n < M.length) c3,if_neg (c:=q - X.length - n < M.length) c3]
       by_cases c4:q - X.length - n - M.length < n
       · rw [if_pos ya_,if_pos (c:=q - X.length - n - M.length < n) c4,if_neg ya_,if_pos ya_]
         congr 1; omega
       · rw [if_neg ya_,if_neg c4,if_neg c4]
def L8 (m:Nat):Nat->Nat->Nat->List α->List α × Nat
 | 0,i,_,l=>(l,i)
 | r+1,i,j,l=>if i=j then (l,i) else if j < i then L8 m r (i - j) j (V8 (m - i) m j l) else L8 m r i (j - i) (V8 (m - i) (m+j - i) i l)
def S9 (a m b:Nat) (l:List α):List α:=V8 (m - (L8 m (m - a+(b - m)) (m - a) (b - m) l).2) m (L8 m (m - a+(b - m)) (m - a) (b - m) l).2 (L8 m (m - a+(b - m)) (m - a) (b - m) l).1
theorem a4A (m:Nat) (T:List α) (r:Nat):∀ (X U V Y:List α) (i j:Nat),i+j<=r+1->0 < i->0 < j->U.length=i->V.length=j->m=X.length+i->T=X++(V++(U++Y)) ->
 0 < (L8 m r i j (X++(U++(V++Y)))).2/\(L8 m r i j (X++(U++(V++Y)))).2<=i/\(L8 m r i j (X++(U++(V++Y)))).2<=j/\(L8 m r i j (X++(U++(V++Y)))).1.length=T.length/\V8 (m - (L8 m r i j (X++(U++(V++Y)))).2) m (L8 m r i j (X++(U++(V++Y)))).2 (L8 m r i j (X++(U++(V++Y)))).1=T:=by
 induction r with
 | zero=>intro X U V Y i j h1 h2 h3; omega
 | succ r ih =>
  intro X U V Y i j h1 h2 h3 hU hV hm hT
  simp only [L8]
  by_cases c1:i=j
  · rw [if_pos c1]
    refine ⟨h2,Nat.le_refl _,by simp only; omega,by rw [hT]; simp; omega,?_⟩
    subst c1
    have:=oZ X U [] V Y (a:=m - i) (b:=m) (n:=i) ya_ hU hV yg_
    rw [hT]
    simpa using this
  · rw [if_neg c1]
    by_cases c2:j < i
    · rw [if_pos c2]
      have hP:(U.take j).length=j:=by simp; omega
      have hQ:(U.drop j).length=i - j:=by simp; omega
      have e:=oZ X (U.take j) (U.drop j) V Y (a:=m - i) (b:=m) (n:=j) ya_ hP hV ya_
      rw [<- List.append_assoc (U.take j),List.take_append_drop] at e
      rw [e]
      have:=ih (X++V) (U.drop j) (U.take j) Y (i - j) j ya_ ya_ h3 hQ hP yg_ (by rw [hT,<- List.append_assoc (U.take j),List.take_append_drop]; simp)
      simp only [List.append_assoc] at this ⊢
      exact ⟨this.1,by omega,this.2.2.1,this.2.2.2⟩
    · rw [if_neg c2]
      have hP:(V.take (j - i)).length=j - i:=by simp; omega
      have hQ:(V.drop (j - i)).length=i:=by simp; omega
      have e:=oZ X U (V.take (j - i)) (V.drop (j - i)) Y (a:=m - i) (b:=m+j - i) (n:=i) ya_ hU hQ ya_
      rw [<- List.append_assoc (V.take (j - i)) (V.drop (j - i)),List.take_append_drop] at e
      rw [e]
      have:=ih X (V.drop (j - i)) (V.take (j - i)) (U++Y) i (j - i) ya_ h2 ya_ hQ hP hm (by rw [hT,<- List.append_assoc (V.take (j - i)) (V.drop (j - i)),List.take_append_drop])
      exact ⟨this.1,this.2.1,by omega,this.2.2.2⟩
theorem b5Y (X U V Y:List α) {a m b:Nat} (ha:a=X.length) (hm:m=X.length+U.length) (hb:b=X.length+U.length+V.length) (h1:0 < U.length) (h2:0 < V.length):S9 a m b (X++(U++(V++Y)))=X++(V++(U++Y)):=by
 have e1:m - a=U.length:=by omega
 have e2:b - m=V.length:=by omega
 unfold S9
 rw [e1,e2]
 exact (a4A m _ _ X U V Y U.length V.length ya_ h1 h2 rfl rfl hm rfl).2.2.2.2
def bsr (p:Nat->Bool):Nat->Nat->Nat->Nat
 | 0,lo,_=>lo
 | r+1,lo,hi=>if lo < hi then if p ((lo+hi) / 2)=true then bsr p r ((lo+hi) / 2+1) hi else bsr p r lo ((lo+hi) / 2) else lo
theorem oN (p:Nat->Bool) (r:Nat):∀ (lo hi:Nat),hi - lo<=r->lo<=hi->lo<=bsr p r lo hi/\bsr p r lo hi<=hi/\(lo < bsr p r lo hi->p (bsr p r lo hi - 1)=true)/\(bsr p r lo hi < hi->p (bsr p r lo hi)=false):=by
 induction r with
 | zero =>
  intro lo hi h1 h2
  simp only [bsr]
  exact ⟨Nat.le_refl _,h2,fun h=>by omega,fun h=>by omega⟩
 | succ r ih =>
  intro lo hi h1 h2
  simp only [bsr]
  by_cases c:lo < hi
  · rw [if_pos c]
    by_cases d:p ((lo+hi) / 2)=true
    · rw [if_pos d]
      obtain ⟨k1,k2,k3,k4⟩:=ih ((lo+hi) / 2+1) hi ya_ ya_
      refine ⟨by omega,k2,fun _=>?_,k4⟩
      rcases Nat.lt_or_ge ((lo+hi) / 2+1) (bsr p r ((lo+hi) / 2+1) hi) with h | h
      · exact k3 h
      · have:bsr p r ((lo+hi) / 2+1) hi=(lo+hi) / 2+1:=by omega
        rw [this]; simpa using d
    · rw [if_neg d]
      obtain ⟨k1,k2,k3,k4⟩:=ih lo ((lo+hi) / 2) ya_ ya_
      refine ⟨k1,by omega,k3,fun _=>?_⟩
      rcases Nat.lt_or_ge (bsr p r lo ((lo+hi) / 2)) ((lo+hi) / 2) with h | h
      · exact k4 h
      · have:bsr p r lo ((lo+hi) / 2)=(lo+hi) / 2:=by omega
        rw [this]; simpa using d
  · rw [if_neg c]
    exact ⟨Nat.le_refl _,h2,fun h=>by omega,fun h=>by omega⟩
def mgL (lt:α->α->Bool):Nat->List α->List α->List α
 | 0,L,R=>L++R
 | _+1,[],R=>R
 | _+1,L,[]=>L
 | n+1,x :: L,y :: R=>if lt y x=true then y :: mgL lt n (x :: L) R else x :: mgL lt n L (y :: R)
def mg (lt:α->α->Bool) (L R:List α):List α:=mgL lt (L.length+R.length) L R
theorem bE (lt:α->α->Bool) (R:List α):mg lt [] R=R:=by
 unfold mg; cases h:([]:List α).length+R.length <;> simp [mgL]
theorem fM (lt:α->α->Bool) (L:List α):mg lt L []=L:=by
 unfold mg
 cases L with
 | nil=>simp [mgL]
 | cons x L=>simp [mgL]
theorem lV (lt:α->α->Bool) (x y:α) (L R:List α):mg lt (x :: L) (y :: R)=if lt y x=true then y :: mg lt (x :: L) R else x :: mg lt L (y :: R):=by
 unfold mg
 have h1:(x :: L).length+(y :: R).length=((x :: L).length+R.length)+1:=by simp; omega
 have h2:L.length+(y :: R).length=(x :: L).length+R.length:=by simp; omega
 rw [h1,h2]
 rfl
theorem a6f {p:Prop} (h:p:=by simp at h ⊢; omega):p:=h
theorem a3v (lt:α->α->Bool) {L2 R2:List α} (n:Nat):∀ (L1 R1:List α),L1.length+R1.length<=n->(∀ x∈L2,∀ y∈R1,lt y x=true)->(∀ x∈L1,∀ y∈R2,lt y x=false)->mg lt (L1++L2) (R1++R2)=mg lt L1 R1++mg lt L2 R2:=by
 induction n with
 | zero =>
  intro L1 R1 h _ _
  obtain rfl:L1=[]:=List.eq_nil_of_length_eq_zero ya_
  obtain rfl:R1=[]:=List.eq_nil_of_length_eq_zero ya_
  rw [bE]; rfl
 | succ n ih =>
  intro L1 R1 h h1 h2
  cases L1 with
  | nil =>
   cases R1 with
   | nil=>rw [bE]; rfl
   | cons y R1 =>
    have:=ih [] R1 a6f (fun x hx y' hy'=>h1 x hx y' (List.mem_cons_of_mem _ hy')) (fun x hx=>by simp at hx)
    rw [bE] at this ⊢
    simp only [List.nil_append,List.cons_append] at this ⊢
    cases L2 with
    | nil=>rw [bE,bE]
    | cons x L2=>rw [lV,if_pos (h1 x ye_ y ye_),this]
  | cons x L1 =>
   cases R1 with
   | nil =>
    have:=ih L1 [] a6f (fun x hx y' hy'=>by simp at hy') (fun x' hx' y hy=>h2 x' (List.mem_cons_of_mem _ hx') y hy)
    rw [fM] at this ⊢
    simp only [List.nil_append,List.cons_append] at this ⊢
    cases R2 with
    | nil=>rw [fM,fM]
    | cons y R2=>rw [lV,if_neg (by rw [h2 x ye_ y ye_]; simp),this]
   | cons y R1 =>
    simp only [List.cons_append]
    rw [lV,lV]
    have k1:=ih (x :: L1) R1 a6f (fun x hx y' hy'=>h1 x hx y' (List.mem_cons_of_mem _ hy')) h2
    have k2:=ih L1 (y :: R1) a6f h1 (fun x' hx' y hy=>h2 x' (List.mem_cons_of_mem _ hx') y hy)
    simp only [List.cons_append] at k1 k2
    split
    · rw [k1]; rfl
    · rw [k2]; rfl
theorem a6t (lt:α->α->Bool) (n:Nat):∀ (L R:List α),L.length+R.length<=n->List.Perm (mg lt L R) (L++R):=by
 induction n with
 | zero =>
  intro L R h
  obtain rfl:L=[]:=List.eq_nil_of_length_eq_zero ya_
  obtain rfl:R=[]:=List.eq_nil_of_length_eq_zero ya_
  rw [bE]; exact .refl _
 | succ n ih =>
  intro L R h
  cases L with
  | nil=>rw [bE]; exact .refl _
  | cons x L =>
   cases R with
   | nil=>rw [fM]; simp
   | cons y R =>
    rw [lV]
    split
    · refine (List.Perm.cons y (ih (x :: L) R a6f)).trans ?_
      exact (List.perm_middle (a:=y) (l₁:=x :: L) (l₂:=R)).symm
    · exact List.Perm.cons x (ih L (y :: R) a6f)
theorem uW (lt:α->α->Bool) (L R:List α):(mg lt L R).length=L.length+R.length:=by
 have:=(a6t lt _ L R J8).length_eq
 simpa using this
end
attribute [local irreducible] F6 U6 U7
theorem fQ {n h:Nat} (hn:n < 4611686018427387904) (hh:h=n / 2):IntKind.i64.wrap (Int.fdiv (IntKind.u64.wrap (n:Int)) (2 ^ (min (Int.toNat 1) 64)))=(h:Int):=by
 have h1:IntKind.u64.wrap (n:Int)=(n:Int):=by simp [IntKind.wrap,IntKind.signed,IntKind.bits]; omega
 have h2:(2:Int) ^ (min (Int.toNat 1) 64)=2:=rfl
 rw [h1,h2,Int.fdiv_eq_ediv_of_nonneg _ ow,IntKind.wrap_i64]
 omega
section
variable {α:Type} [Inhabited α]
def ltF (cmp:α->α->Int) (x y:α):Bool:=decide (cmp x y < 0)
def mAt (lt:α->α->Bool) (a m b:Nat) (l:List α):List α:=l.take a++(mg lt ((l.drop a).take (m - a)) ((l.drop m).take (b - m))++l.drop b)
def shU (r k:Nat) (l:List α):List α:=iter (fun k l=>(l.set k (nth l (k+1))).set (k+1) (nth l k)) r k l
def shD:Nat->Nat->List α->List α
 | 0,_,l=>l
 | r+1,k,l=>shD r (k - 1) ((l.set k (nth l (k - 1))).set (k - 1) (nth l k))
end
def a2r:Ann:={ base:=1,fin:=some 1,live:=[(1,[0,1,2,3,10])],out:=[(1,[0,1,2,3,10])] }
@[simp] abbrev d8O (a:Nat) (b:l9E) (c:Nat) (d:Nat) (e:Nat):Heap:=[(o_ a 10 (mE ((b.set (c+d) (nth b (e+d))).set (e+d) (nth b (c+d)))))]
@[simp] abbrev d2c (a:Nat) (b:Nat) (c:Nat) (d:Nat) (e:Nat) (f:Nat):Fr:=(mkF 38 [(0,(d9 0 a 10 b)),(1,(iN c)),(2,(iN d)),(3,(iN e)),(10,(iN f))])
abbrev iT (a b:Nat):=(IntKind.i64.wrap ((a:Int)+(b:Int)))
abbrev a6S (a:l9E) (b c:Nat):=(p9 (Entry.row (nth a (b+c))))
theorem b0x (a:Nat) (b:Nat) (k:Nat) (n:Nat) (g:Nat) (l:l9E) (i:Nat) (hab:a+k<=b) (hb:b+k<=n) (hnb:n < 1048576) (hn:n=l.length) (hle_:i<=k) {eX:Ex} {FX:Fr} {HX:Heap} (k1:(l9 i k)=true->l6 (C8 a2r Tryz.f233 0) (some [0,1,2,3,10]) (some [0,1,2,3,10]) (mkF 38 [(0,(d9 0 g 10 n)),(1,(iN a)),(2,(iN b)),(3,(iN k)),(10,(iN (i+1)))]) (d8O g l a i b) eX FX HX) (k2:(l9 i k)=false->((.exit 0:Ex),(d2c g n a b k i),[(o_ g 10 (mE l))])=(eX,FX,HX)):l6 (C8 a2r Tryz.f233 0) (some [0,1,2,3,10]) (some [0,1,2,3,10]) (d2c g n a b k i) [(o_ g 10 (mE l))] eX FX HX :=
 J7 (.r (.g (.two (l9 i k) (fun h1 h1'=>(.r (.y 3 (.int .i64 (iT a i)) (iN (a+i)) Yes.o (.y 7 (.int .i64 (iT b i)) (iN (b+i)) Yes.o (.y 11 (.int .i64 (iT b i)) (iN (b+i)) Yes.o (.io 12 0 g 10 10 0 n ((b+i:Nat):Int) (b+i) (I7.mk _ ow ow) (.t 13 (a6S l b i) [(o_ g 10 (mE l))] (J6 (F7 (row:=Entry.row) (l:=l) (k:=10) (room:=none) kr om) kr:M6 tt 93 0 [(o_ g 10 (mE l))] (rowAt [(o_ g 10 (mE l))] 0 g (b+i))=some ((a6S l b i),([(o_ g 10 (mE l))]:Heap))) (.y 17 (.int .i64 (iT a i)) (iN (a+i)) Yes.o (.io 18 0 g 10 10 0 n ((a+i:Nat):Int) (a+i) (I7.mk _ ow ow) (.t 19 (a6S l a i) [(o_ g 10 (mE l))] (J6 (F7 (row:=Entry.row) (l:=l) (k:=10) (room:=none) kr om) kr:M6 tt 93 0 [(o_ g 10 (mE l))] (rowAt [(o_ g 10 (mE l))] 0 g (a+i))=some ((a6S l a i),([(o_ g 10 (mE l))]:Heap))) (.io 20 0 g 10 10 0 n ((a+i:Nat):Int) (a+i) (I7.mk _ ow ow) (.st 21 0 g (a+i) 10 0 (a6S l b i) [(o_ g 10 (mE (l.set (a+i) (nth l (b+i)))))] (U0 (us:=(Entry.row (nth l (b+i)))) (F7 (row:=Entry.row) (l:=l) (k:=10) (room:=none) kr om) kr yY yX) (.io 22 0 g 10 10 0 n ((b+i:Nat):Int) (b+i) (I7.mk _ ow ow) (.st 23 0 g (b+i) 10 0 (a6S l a i) (d8O g l a i b) (U0 (us:=(Entry.row (nth l (a+i)))) (F7 (row:=Entry.row) (l:=l.set (a+i) (nth l (b+i))) (k:=10) (room:=none) kr om) kr yY yX) (.s (.y 1 (.int .i64 (cb_ i)) (iN (i+1)) Yes.o (.g (.l (k1 h1))))))))))))))))))) (fun h1 h1'=>(.l (k2 h1))))))
def d2J (a:Nat) (b:Nat) (k:Nat) (n:Nat) (g:Nat) (i:Nat) (s:(List Entry)):(List Entry):=((s.set (a+i) (nth s (b+i))).set (b+i) (nth s (a+i)))
@[simp] abbrev d8N (a:Nat) (b:Nat) (c:Nat) (d:Nat) (e:Nat):Fr:=(mkF 38 [(0,(d9 0 a 10 b)),(1,(iN c)),(2,(iN d)),(3,(iN e)),(10,(iN e))])
theorem c9u (a:Nat) (b:Nat) (k:Nat) (n:Nat) (g:Nat) (hab:a+k<=b) (hb:b+k<=n) (hnb:n < 1048576)  (r_:Nat):∀ (l:l9E) (i:Nat) (sF:l9E),i+r_=k->n=l.length->sF=iter (d2J a b k n g) r_ i l ->
 l6 (C8 a2r Tryz.f233 0) (some [0,1,2,3,10]) (some [0,1,2,3,10]) (d2c g n a b k i) [(o_ g 10 (mE l))] (.exit 0) (d8N g n a b k) [(o_ g 10 (mE sF))]:=by
 induction r_ with
 | zero =>
  intro l i sF hi_ hn  hF
  obtain rfl:k=i:=by omega
  have e_:sF=l:=hF
  refine b0x a b k n g l k hab hb hnb hn J8 (fun h=>by simp at h <;> omega) (fun _=>?_)
  first | done | rfl | (rw [e_]; done) | (rw [e_]; rfl)
 | succ r_ ih =>
  intro l i sF hi_ hn  hF
  refine b0x a b k n g l i hab hb hnb hn ow (fun h1=>?_) (fun h=>by simp at h <;> omega)
  · exact ih ((l.set (a+i) (nth l (b+i))).set (b+i) (nth l (a+i))) (i+1) sF ow X0  (by rw [hF] <;> simp only [iter,d2J,if_true,Bool.false_eq_true,if_false])
theorem c9t (f:Nat) (xs:List AV) (a b k n g:Nat) (l:l9E) (hxs:AV.bdds 1 xs=true) (hn:n=l.length) (hnb:n < 1048576) (hab:a+k<=b) (hb:b+k<=n):AC 233 [(d9 0 g 10 n),(iN a),(iN b),(iN k),(A8 f xs)] [(o_ g 10 (mE l))] (F4,[(o_ g 10 (mE (V8 a b k l)))]) :=
 x9 (fn:=Tryz.f233) (ann:=a2r) (Has.o Tryz.func233) (.r (.g (.loop (d8N g n a b k) (c9u a b k n g hab hb hnb k l 0 (V8 a b k l) ow hn rfl) (.q 1 F4))))
theorem b0y (f:Nat) (xs:List AV) (a b k n g:Nat) (l:l9E) (hxs:AV.bdds 1 xs=true) (hn:n=l.length) (hnb:n < 1048576) (hab:a+k<=b) (hb:b+k<=n) (H:Heap):AC 233 [(d9 0 g 10 n),(iN a),(iN b),(iN k),(A8 f xs)] (([(o_ g 10 (mE l))]:Heap)++H) (F4,([(o_ g 10 (mE (V8 a b k l)))]:Heap)++H):=(c9t f xs a b k n g l hxs hn hnb hab hb).ext lZ kr ob ob kr H
def a6u:Ann:={ base:=1,fin:=some 1,live:=[(2,[0,2,4,10,11])],out:=[(2,[0,2,4,10,11])] }
@[simp] abbrev d8M (a:Nat) (b:Nat) (c:Nat) (d:Nat) (e:l9E):Heap:=[(o_ a 10 (mE (V8 (b - c) (b+d - c) c e)))]
@[simp] abbrev d8L (a:Nat) (b:Nat) (c:Nat) (d:Nat) (e:List AV) (f:Nat) (g:Nat):Fr:=(mkF 58 [(0,(d9 0 a 10 b)),(2,(iN c)),(4,(A8 d e)),(10,(iN f)),(11,(iN g))])
theorem aX {p:Prop} (h:p:=by first | exact hxs | omega):p:=h
@[simp] abbrev d1a :=(C8 a6u Tryz.f229 0)
abbrev rZ (a b:Nat):=(IntKind.i64.wrap ((a:Int) - (b:Int)))
theorem c9v (f:Nat) (xs:List AV) (p n g:Nat) (i j:Nat) (l:l9E) (hxs:AV.bdds 1 xs=true) (hn:n=l.length) (hnb:n < 1048576) (hi:0 < i) (hj:0 < j) (hip:i<=p) (hjp:p+j<=n) {eX:Ex} {FX:Fr} {HX:Heap} (k1:((i:Int) != (j:Int))=true->(decide ((i:Int) > (j:Int)))=true->l6 d1a (some [0,2,4,10,11]) (some [0,2,4,10,11]) (mkF 58 [(0,(d9 0 g 10 n)),(2,(iN p)),(4,(A8 f xs)),(10,(iN (i - j))),(11,(iN j))]) [(o_ g 10 (mE (V8 (p - i) p j l)))] eX FX HX) (k2:((i:Int) != (j:Int))=true->(decide ((i:Int) > (j:Int)))=false->l6 d1a (some [0,2,4,10,11]) (some [0,2,4,10,11]) (mkF 58 [(0,(d9 0 g 10 n)),(2,(iN p)),(4,(A8 f xs)),(10,(iN i)),(11,(iN (j - i)))]) (d8M g p i j l) eX FX HX) (k3:((i:Int) != (j:Int))=false->((.exit 0:Ex),(d8L g n p f xs i j),[(o_ g 10 (mE l))])=(eX,FX,HX)):l6 d1a (some [0,2,4,10,11]) (some [0,2,4,10,11]) (d8L g n p f xs i j) [(o_ g 10 (mE l))] eX FX HX :=
 J7 (.r (.g (.two ((i:Int) != (j:Int)) (fun h1 h1'=>(.r (.g (.two (decide ((i:Int) > (j:Int))) (fun h2 h2'=>(.r (.y 3 (.int .i64 (rZ p i)) (iN (p - i)) Yes.o (.ch 7 [(o_ g 10 (mE (V8 (p - i) p j l)))] (b0y f xs (p - i) p j n g l aX aX aX aX aX []) (.s (.y 2 (.int .i64 (rZ i j)) (iN (i - j)) Yes.o (.g (.l (k1 h1 h2))))))))) (fun h2 h2'=>(.r (.y 3 (.int .i64 (rZ p i)) (iN (p - i)) Yes.o (.y 6 (.int .i64 (iT p j)) (iN (p+j)) Yes.o (.y 8 (iW (((p+j:Nat):Int) - (i:Int))) (iN (p+j - i)) Yes.o (.ch 11 (d8M g p i j l) (b0y f xs (p - i) (p+j - i) i n g l aX aX aX aX aX []) (.s (.y 2 (.int .i64 (rZ j i)) (iN (j - i)) Yes.o (.g (.l (k2 h1 h2))))))))))))))) (fun h1 h1'=>(.l (k3 h1))))))
theorem b4S {p:Prop} (h:p:=by rw [c1T ow ow]; exact hn):p:=h
theorem c9x (f:Nat) (xs:List AV) (p n g:Nat) (hxs:AV.bdds 1 xs=true) (r:Nat):∀ (i j:Nat) (l:l9E),i+j<=r+1->n=l.length->n < 1048576->0 < i->0 < j->i<=p->p+j<=n ->
 l6 (C8 a6u Tryz.f229 0) (some [0,2,4,10,11]) (some [0,2,4,10,11]) (mkF 58 [(0,(d9 0 g 10 n)),(2,(iN p)),(4,(A8 f xs)),(10,(iN i)),(11,(iN j))]) [(o_ g 10 (mE l))] (.exit 0) (mkF 58 [(0,(d9 0 g 10 n)),(2,(iN p)),(4,(A8 f xs)),(10,(iN ((L8 p r i j l).2))),(11,(iN ((L8 p r i j l).2)))]) [(o_ g 10 (mE (L8 p r i j l).1))]:=by
 induction r with
 | zero=>intro i j l h1 hn hnb hi hj; omega
 | succ r ih =>
  intro i j l h1 hn hnb hi hj hip hjp
  refine c9v f xs p n g i j l hxs hn hnb hi hj hip hjp (fun h2 h3=>?_) (fun h2 h3=>?_) (fun h2=>?_)
  · have h2':i≠j:=by simp at h2; omega
    have h3':j < i:=by simp at h3; omega
    simp only [L8,if_neg h2',if_pos h3']
    exact ih (i - j) j _ ow b4S hnb ow hj ow hjp
  · have h2':i≠j:=by simp at h2; omega
    have h3':¬ j < i:=by simp at h3; omega
    simp only [L8,if_neg h2',if_neg h3']
    exact ih i (j - i) _ ow b4S hnb hi ow hip ow
  · have h2':i=j:=by simp at h2; omega
    simp only [L8,if_pos h2']
    subst h2'
    rfl
abbrev e1e (a:Nat) (b:Nat) (c:Nat) (d:Nat) (e:List AV) (f:Nat) (g:Nat) (h:l9E):Fr:=(mkF 58 [(0,(d9 0 a 10 b)),(2,(iN c)),(4,(A8 d e)),(10,(iN ((L8 c (c - f+(g - c)) (c - f) (g - c) h).2))),(11,(iN ((L8 c (c - f+(g - c)) (c - f) (g - c) h).2)))])
theorem c9w (f:Nat) (xs:List AV) (a p b n g:Nat) (l:l9E) (hxs:AV.bdds 1 xs=true) (hn:n=l.length) (hnb:n < 1048576) (hap:a < p) (hpb:p < b) (hbn:b<=n) (hl2:(L8 p (p - a+(b - p)) (p - a) (b - p) l).1.length=l.length) (hk:(L8 p (p - a+(b - p)) (p - a) (b - p) l).2<=p - a) (hk2:(L8 p (p - a+(b - p)) (p - a) (b - p) l).2<=b - p):AC 229 [(d9 0 g 10 n),(iN a),(iN p),(iN b),(A8 f xs)] [(o_ g 10 (mE l))] (F4,[(o_ g 10 (mE (S9 a p b l)))]) :=
 x9 (fn:=Tryz.f229) (ann:=a6u) (Has.o Tryz.func229) (.r (.y 2 (.int .i64 (rZ p a)) (iN (p - a)) Yes.o (.s (.y 2 (.int .i64 (rZ b p)) (iN (b - p)) Yes.o (.g (.loop (e1e g n p f xs a b l) (c9x f xs p n g hxs (p - a+(b - p)) (p - a) (b - p) l ow hn hnb ow ow ow ow) (.r (.y 3 (iW ((p:Int) - (((L8 p (p - a+(b - p)) (p - a) (b - p) l).2:Nat):Int))) (iN (p - (L8 p (p - a+(b - p)) (p - a) (b - p) l).2)) Yes.o (.ch 7 [(o_ g 10 (mE (V8 (p - (L8 p (p - a+(b - p)) (p - a) (b - p) l).2) p (L8 p (p - a+(b - p)) (p - a) (b - p) l).2 (L8 p (p - a+(b - p)) (p - a) (b - p) l).1)))] (b0y f xs (p - (L8 p (p - a+(b - p)) (p - a) (b - p) l).2) p (L8 p (p - a+(b - p)) (p - a) (b - p) l).2 n g (L8 p (p - a+(b - p)) (p - a) (b - p) l).1 aX aX aX aX aX []) (.q 1 F4))))))))))
theorem c3I (f:Nat) (xs:List AV) (a p b n g:Nat) (l:l9E) (hxs:AV.bdds 1 xs=true) (hn:n=l.length) (hnb:n < 1048576) (hap:a < p) (hpb:p < b) (hbn:b<=n) (hl2:(L8 p (p - a+(b - p)) (p - a) (b - p) l).1.length=l.length) (hk:(L8 p (p - a+(b - p)) (p - a) (b - p) l).2<=p - a) (hk2:(L8 p (p - a+(b - p)) (p - a) (b - p) l).2<=b - p) (H:Heap):AC 229 [(d9 0 g 10 n),(iN a),(iN p),(iN b),(A8 f xs)] (([(o_ g 10 (mE l))]:Heap)++H) (F4,([(o_ g 10 (mE (S9 a p b l)))]:Heap)++H):=(c9w f xs a p b n g l hxs hn hnb hap hpb hbn hl2 hk hk2).ext lZ kr ob ob kr H
def aL:Ann:={ base:=1,fin:=some 1,live:=[(3,[0,1,4,10,11]),(9,[0,10,13]),(15,[0,2,4,14,15]),(21,[0,14,17]),(33,[0,1,2,3,4,18,19,20,21,22])],out:=[(3,[0,1,10]),(9,[0,10,13]),(15,[0,2,14]),(21,[0,14,17]),(33,[0,1,2,3,4,18,19,20])] }
@[simp] abbrev d0Z :=(C8 aL Tryz.f219 0)
@[simp] abbrev rY (a b:Nat):=(iN (((a+b) / 2)+1))
abbrev a6R (a b:Nat):=(iI (IntKind.i64.wrap (Int.fdiv (IntKind.u64.wrap ((a+b:Nat):Int)) (2 ^ (min (Int.toNat 1) 64)))))
abbrev a6Q (a:l9E) (b c:Nat):=(p9 (Entry.row (nth a ((b+c) / 2))))
abbrev a6P (a b:Nat):=(IntKind.i64.wrap (((((a+b) / 2):Nat):Int)+1))
theorem a9M (cmp:Entry->Entry->Int) (f:Nat) (xs:List AV) (hc:h9E cmp f xs) (a n g:Nat) (l:l9E) (lo hi:Nat) (hn:n=l.length) (hnb:n < 1048576) (ha:a < n) (hlh:lo<=hi) (hhi:hi<=n) {eX:Ex} {FX:Fr} {HX:Heap} (k1:(l9 lo hi)=true->(decide ((cmp (nth l ((lo+hi) / 2)) (nth l a)) < 0))=true->l6 d0Z (some [0,1,4,10,11]) (some [0,1,10]) (mkF 220 [(0,(d9 0 g 10 n)),(1,(iN a)),(4,(A8 f xs)),(10,(rY lo hi)),(11,(iN hi))]) [(o_ g 10 (mE l))] eX FX HX) (k2:(l9 lo hi)=true->(decide ((cmp (nth l ((lo+hi) / 2)) (nth l a)) < 0))=false->l6 d0Z (some [0,1,4,10,11]) (some [0,1,10]) (mkF 220 [(0,(d9 0 g 10 n)),(1,(iN a)),(4,(A8 f xs)),(10,(iN lo)),(11,(iN (((lo+hi) / 2))))]) [(o_ g 10 (mE l))] eX FX HX) (k3:(l9 lo hi)=false->((.exit 0:Ex),(mkF 220 [(0,(d9 0 g 10 n)),(1,(iN a)),(10,(iN lo))]),[(o_ g 10 (mE l))])=(eX,FX,HX)):l6 d0Z (some [0,1,4,10,11]) (some [0,1,10]) (mkF 220 [(0,(d9 0 g 10 n)),(1,(iN a)),(4,(A8 f xs)),(10,(iN lo)),(11,(iN hi))]) [(o_ g 10 (mE l))] eX FX HX :=
 J7 (.r (.g (.two (l9 lo hi) (fun h1 h1'=>(.r (.y 2 (.int .i64 (iT lo hi)) (iN (lo+hi)) Yes.o (.y 5 (a6R lo hi) (iN (((lo+hi) / 2))) (Yes.int (fQ ow (rfl))) (.s (.io 3 0 g 10 10 0 n ((((lo+hi) / 2):Nat):Int) ((lo+hi) / 2) (I7.mk _ ow ow) (.t 4 (a6Q l lo hi) [(o_ g 10 (mE l))] (J6 (F7 (row:=Entry.row) (l:=l) (k:=10) (room:=none) kr om) kr:M6 tt 93 0 [(o_ g 10 (mE l))] (rowAt [(o_ g 10 (mE l))] 0 g ((lo+hi) / 2))=some ((a6Q l lo hi),([(o_ g 10 (mE l))]:Heap))) (.io 7 0 g 10 10 0 n (a:Int) a (I7.mk _ ow ow) (.t 8 (cl_ l a) [(o_ g 10 (mE l))] (J6 (F7 (row:=Entry.row) (l:=l) (k:=10) (room:=none) kr om) kr:M6 tt 93 0 [(o_ g 10 (mE l))] (rowAt [(o_ g 10 (mE l))] 0 g a)=some ((cl_ l a),([(o_ g 10 (mE l))]:Heap))) (.c 9 (hc (nth l ((lo+hi) / 2)) (nth l a) [(o_ g 10 (mE l))]) (.g (.two (decide ((cmp (nth l ((lo+hi) / 2)) (nth l a)) < 0)) (fun h2 h2'=>(.r (.y 1 (.int .i64 (a6P lo hi)) (rY lo hi) Yes.o (.g (.l (k1 h1 h2)))))) (fun h2 h2'=>(.r (.g (.l (k2 h1 h2))))))))))))))))) (fun h1 h1'=>(.l (k3 h1))))))
theorem rO {p:Prop} (h:p:=by simpa using h5):p:=h
theorem c8s (cmp:Entry->Entry->Int) (f:Nat) (xs:List AV) (hc:h9E cmp f xs) (a n g:Nat) (l:l9E) (hn:n=l.length) (hnb:n < 1048576) (ha:a < n) (r:Nat):∀ (lo hi:Nat),hi - lo<=r->lo<=hi->hi<=n ->
 l6 (C8 aL Tryz.f219 0) (some [0,1,4,10,11]) (some [0,1,10]) (mkF 220 [(0,(d9 0 g 10 n)),(1,(iN a)),(4,(A8 f xs)),(10,(iN lo)),(11,(iN hi))]) [(o_ g 10 (mE l))] (.exit 0) (mkF 220 [(0,(d9 0 g 10 n)),(1,(iN a)),(10,(iN ((bsr (fun c=>decide (cmp (nth l c) (nth l a) < 0)) r lo hi))))]) [(o_ g 10 (mE l))]:=by
 induction r with
 | zero =>
  intro lo hi h1 h2 h3
  obtain rfl:lo=hi:=by omega
  refine a9M cmp f xs hc a n g l lo lo hn hnb ha h2 h3 (fun h _=>by simp at h) (fun h _=>by simp at h) (fun _=>?_)
  simp only [bsr]
 | succ r ih =>
  intro lo hi h1 h2 h3
  refine a9M cmp f xs hc a n g l lo hi hn hnb ha h2 h3 (fun h4 h5=>?_) (fun h4 h5=>?_) (fun h4=>?_)
  · have h4':lo < hi:=by simp at h4; omega
    simp only [bsr,if_pos h4']
    rw [if_pos rO]
    exact ih ((lo+hi) / 2+1) hi ow ow ow
  · have h4':lo < hi:=by simp at h4; omega
    simp only [bsr,if_pos h4']
    rw [if_neg rO]
    exact ih lo ((lo+hi) / 2) ow ow ow
  · have h4':¬ lo < hi:=by simp at h4; omega
    simp only [bsr,if_neg h4']
@[simp] abbrev d0Y :=(C8 aL Tryz.f219 2)
theorem a9L (cmp:Entry->Entry->Int) (f:Nat) (xs:List AV) (hc:h9E cmp f xs) (p n g:Nat) (l:l9E) (lo hi:Nat) (hn:n=l.length) (hnb:n < 1048576) (ha:p < n) (hlh:lo<=hi) (hhi:hi<=n) {eX:Ex} {FX:Fr} {HX:Heap} (k1:(l9 lo hi)=true->(!(decide ((cmp (nth l p) (nth l ((lo+hi) / 2))) < 0)))=true->l6 d0Y (some [0,2,4,14,15]) (some [0,2,14]) (mkF 220 [(0,(d9 0 g 10 n)),(2,(iN p)),(4,(A8 f xs)),(14,(rY lo hi)),(15,(iN hi))]) [(o_ g 10 (mE l))] eX FX HX) (k2:(l9 lo hi)=true->(!(decide ((cmp (nth l p) (nth l ((lo+hi) / 2))) < 0)))=false->l6 d0Y (some [0,2,4,14,15]) (some [0,2,14]) (mkF 220 [(0,(d9 0 g 10 n)),(2,(iN p)),(4,(A8 f xs)),(14,(iN lo)),(15,(iN (((lo+hi) / 2))))]) [(o_ g 10 (mE l))] eX FX HX) (k3:(l9 lo hi)=false->((.exit 4:Ex),(mkF 220 [(0,(d9 0 g 10 n)),(2,(iN p)),(14,(iN lo))]),[(o_ g 10 (mE l))])=(eX,FX,HX)):l6 d0Y (some [0,2,4,14,15]) (some [0,2,14]) (mkF 220 [(0,(d9 0 g 10 n)),(2,(iN p)),(4,(A8 f xs)),(14,(iN lo)),(15,(iN hi))]) [(o_ g 10 (mE l))] eX FX HX :=
 J7 (.r (.g (.two (l9 lo hi) (fun h1 h1'=>(.r (.y 2 (.int .i64 (iT lo hi)) (iN (lo+hi)) Yes.o (.y 5 (a6R lo hi) (iN (((lo+hi) / 2))) (Yes.int (fQ ow (rfl))) (.s (.io 3 0 g 10 10 0 n (p:Int) p (I7.mk _ ow ow) (.t 4 (cl_ l p) [(o_ g 10 (mE l))] (J6 (F7 (row:=Entry.row) (l:=l) (k:=10) (room:=none) kr om) kr:M6 tt 93 0 [(o_ g 10 (mE l))] (rowAt [(o_ g 10 (mE l))] 0 g p)=some ((cl_ l p),([(o_ g 10 (mE l))]:Heap))) (.io 7 0 g 10 10 0 n ((((lo+hi) / 2):Nat):Int) ((lo+hi) / 2) (I7.mk _ ow ow) (.t 8 (a6Q l lo hi) [(o_ g 10 (mE l))] (J6 (F7 (row:=Entry.row) (l:=l) (k:=10) (room:=none) kr om) kr:M6 tt 93 0 [(o_ g 10 (mE l))] (rowAt [(o_ g 10 (mE l))] 0 g ((lo+hi) / 2))=some ((a6Q l lo hi),([(o_ g 10 (mE l))]:Heap))) (.c 9 (hc (nth l p) (nth l ((lo+hi) / 2)) [(o_ g 10 (mE l))]) (.g (.two (!(decide ((cmp (nth l p) (nth l ((lo+hi) / 2))) < 0))) (fun h2 h2'=>(.r (.y 1 (.int .i64 (a6P lo hi)) (rY lo hi) Yes.o (.g (.l (k1 h1 h2)))))) (fun h2 h2'=>(.r (.g (.l (k2 h1 h2))))))))))))))))) (fun h1 h1'=>(.l (k3 h1))))))
theorem c8r (cmp:Entry->Entry->Int) (f:Nat) (xs:List AV) (hc:h9E cmp f xs) (p n g:Nat) (l:l9E) (hn:n=l.length) (hnb:n < 1048576) (ha:p < n) (r:Nat):∀ (lo hi:Nat),hi - lo<=r->lo<=hi->hi<=n ->
 l6 (C8 aL Tryz.f219 2) (some [0,2,4,14,15]) (some [0,2,14]) (mkF 220 [(0,(d9 0 g 10 n)),(2,(iN p)),(4,(A8 f xs)),(14,(iN lo)),(15,(iN hi))]) [(o_ g 10 (mE l))] (.exit 4) (mkF 220 [(0,(d9 0 g 10 n)),(2,(iN p)),(14,(iN ((bsr (fun c=>!decide (cmp (nth l p) (nth l c) < 0)) r lo hi))))]) [(o_ g 10 (mE l))]:=by
 induction r with
 | zero =>
  intro lo hi h1 h2 h3
  obtain rfl:lo=hi:=by omega
  refine a9L cmp f xs hc p n g l lo lo hn hnb ha h2 h3 (fun h _=>by simp at h) (fun h _=>by simp at h) (fun _=>?_)
  simp only [bsr]
 | succ r ih =>
  intro lo hi h1 h2 h3
  refine a9L cmp f xs hc p n g l lo hi hn hnb ha h2 h3 (fun h4 h5=>?_) (fun h4 h5=>?_) (fun h4=>?_)
  · have h4':lo < hi:=by simp at h4; omega
    simp only [bsr,if_pos h4']
    rw [if_pos rO]
    exact ih ((lo+hi) / 2+1) hi ow ow ow
  · have h4':lo < hi:=by simp at h4; omega
    simp only [bsr,if_pos h4']
    rw [if_neg rO]
    exact ih lo ((lo+hi) / 2) ow ow ow
  · have h4':¬ lo < hi:=by simp at h4; omega
    simp only [bsr,if_neg h4']
@[simp] abbrev d0X :=(C8 aL Tryz.f219 4)
theorem a9J (cmp:Entry->Entry->Int) (f:Nat) (xs:List AV) (hc:h9E cmp f xs) (a p b mid nn q n g:Nat) (l:l9E) (lo hi:Nat) (hn:n=l.length) (hnb:n < 1048576) (hlh:lo<=hi) (hhi:hi<=n/\hi<=q+1/\q < n+lo) {eX:Ex} {FX:Fr} {HX:Heap} (k1:(l9 lo hi)=true->(!(decide ((cmp (nth l (q - ((lo+hi) / 2))) (nth l ((lo+hi) / 2))) < 0)))=true->l6 d0X (some [0,1,2,3,4,18,19,20,21,22]) (some [0,1,2,3,4,18,19,20]) (mkF 220 [(0,(d9 0 g 10 n)),(1,(iN a)),(2,(iN p)),(3,(iN b)),(4,(A8 f xs)),(18,(iN mid)),(19,(iN nn)),(20,(rY lo hi)),(21,(iN hi)),(22,(iN q))]) [(o_ g 10 (mE l))] eX FX HX) (k2:(l9 lo hi)=true->(!(decide ((cmp (nth l (q - ((lo+hi) / 2))) (nth l ((lo+hi) / 2))) < 0)))=false->l6 d0X (some [0,1,2,3,4,18,19,20,21,22]) (some [0,1,2,3,4,18,19,20]) (mkF 220 [(0,(d9 0 g 10 n)),(1,(iN a)),(2,(iN p)),(3,(iN b)),(4,(A8 f xs)),(18,(iN mid)),(19,(iN nn)),(20,(iN lo)),(21,(iN (((lo+hi) / 2)))),(22,(iN q))]) [(o_ g 10 (mE l))] eX FX HX) (k3:(l9 lo hi)=false->((.exit 8:Ex),(mkF 220 [(0,(d9 0 g 10 n)),(1,(iN a)),(2,(iN p)),(3,(iN b)),(4,(A8 f xs)),(18,(iN mid)),(19,(iN nn)),(20,(iN lo))]),[(o_ g 10 (mE l))])=(eX,FX,HX)):l6 d0X (some [0,1,2,3,4,18,19,20,21,22]) (some [0,1,2,3,4,18,19,20]) (mkF 220 [(0,(d9 0 g 10 n)),(1,(iN a)),(2,(iN p)),(3,(iN b)),(4,(A8 f xs)),(18,(iN mid)),(19,(iN nn)),(20,(iN lo)),(21,(iN hi)),(22,(iN q))]) [(o_ g 10 (mE l))] eX FX HX :=
 J7 (.r (.g (.two (l9 lo hi) (fun h1 h1'=>(.r (.y 2 (.int .i64 (iT lo hi)) (iN (lo+hi)) Yes.o (.y 5 (a6R lo hi) (iN (((lo+hi) / 2))) (Yes.int (fQ ow (rfl))) (.s (.y 4 (iW ((q:Int) - ((((lo+hi) / 2):Nat):Int))) (iN (q - ((lo+hi) / 2))) Yes.o (.io 5 0 g 10 10 0 n ((q - ((lo+hi) / 2):Nat):Int) (q - ((lo+hi) / 2)) (I7.mk _ ow ow) (.t 6 (p9 (Entry.row (nth l (q - ((lo+hi) / 2))))) [(o_ g 10 (mE l))] (J6 (F7 (row:=Entry.row) (l:=l) (k:=10) (room:=none) kr om) kr:M6 tt 93 0 [(o_ g 10 (mE l))] (rowAt [(o_ g 10 (mE l))] 0 g (q - ((lo+hi) / 2)))=some ((p9 (Entry.row (nth l (q - ((lo+hi) / 2))))),([(o_ g 10 (mE l))]:Heap))) (.io 9 0 g 10 10 0 n ((((lo+hi) / 2):Nat):Int) ((lo+hi) / 2) (I7.mk _ ow ow) (.t 10 (a6Q l lo hi) [(o_ g 10 (mE l))] (J6 (F7 (row:=Entry.row) (l:=l) (k:=10) (room:=none) kr om) kr:M6 tt 93 0 [(o_ g 10 (mE l))] (rowAt [(o_ g 10 (mE l))] 0 g ((lo+hi) / 2))=some ((a6Q l lo hi),([(o_ g 10 (mE l))]:Heap))) (.c 11 (hc (nth l (q - ((lo+hi) / 2))) (nth l ((lo+hi) / 2)) [(o_ g 10 (mE l))]) (.g (.two (!(decide ((cmp (nth l (q - ((lo+hi) / 2))) (nth l ((lo+hi) / 2))) < 0))) (fun h2 h2'=>(.r (.y 1 (.int .i64 (a6P lo hi)) (rY lo hi) Yes.o (.g (.l (k1 h1 h2)))))) (fun h2 h2'=>(.r (.g (.l (k2 h1 h2)))))))))))))))))) (fun h1 h1'=>(.l (k3 h1))))))
theorem a9K (cmp:Entry->Entry->Int) (f:Nat) (xs:List AV) (hc:h9E cmp f xs) (a p b mid nn q n g:Nat) (l:l9E) (hn:n=l.length) (hnb:n < 1048576) (r:Nat):∀ (lo hi:Nat),hi - lo<=r->lo<=hi->hi<=n/\hi<=q+1/\q < n+lo ->
 l6 (C8 aL Tryz.f219 4) (some [0,1,2,3,4,18,19,20,21,22]) (some [0,1,2,3,4,18,19,20]) (mkF 220 [(0,(d9 0 g 10 n)),(1,(iN a)),(2,(iN p)),(3,(iN b)),(4,(A8 f xs)),(18,(iN mid)),(19,(iN nn)),(20,(iN lo)),(21,(iN hi)),(22,(iN q))]) [(o_ g 10 (mE l))] (.exit 8) (mkF 220 [(0,(d9 0 g 10 n)),(1,(iN a)),(2,(iN p)),(3,(iN b)),(4,(A8 f xs)),(18,(iN mid)),(19,(iN nn)),(20,(iN ((bsr (fun c=>!decide (cmp (nth l (q - c)) (nth l c) < 0)) r lo hi))))]) [(o_ g 10 (mE l))]:=by
 induction r with
 | zero =>
  intro lo hi h1 h2 h3
  obtain rfl:lo=hi:=by omega
  refine a9J cmp f xs hc a p b mid nn q n g l lo lo hn hnb h2 h3 (fun h _=>by simp at h) (fun h _=>by simp at h) (fun _=>?_)
  simp only [bsr]
 | succ r ih =>
  intro lo hi h1 h2 h3
  refine a9J cmp f xs hc a p b mid nn q n g l lo hi hn hnb h2 h3 (fun h4 h5=>?_) (fun h4 h5=>?_) (fun h4=>?_)
  · have h4':lo < hi:=by simp at h4; omega
    simp only [bsr,if_pos h4']
    rw [if_pos rO]
    exact ih ((lo+hi) / 2+1) hi ow ow ow
  · have h4':lo < hi:=by simp at h4; omega
    simp only [bsr,if_pos h4']
    rw [if_neg rO]
    exact ih lo ((lo+hi) / 2) ow ow ow
  · have h4':¬ lo < hi:=by simp at h4; omega
    simp only [bsr,if_neg h4']
@[simp] abbrev d8K (a:Nat) (b:l9E) (c:Nat):Heap:=[(o_ a 10 (mE ((b.set c (nth b (c+1))).set (c+1) (nth b c))))]
@[simp] abbrev d2b (a:Nat) (b:Nat) (c:Nat) (d:Nat):Fr:=(mkF 220 [(0,(d9 0 a 10 b)),(10,(iN c)),(13,(iN d))])
theorem a9H (i:Nat) (n:Nat) (g:Nat) (l:l9E) (kk:Nat) (hi1:1<=i) (hin:i<=n) (hnb:n < 1048576) (hn:n=l.length) (hle_:kk<=(i - 1)) {eX:Ex} {FX:Fr} {HX:Heap} (k1:(l9 kk (i - 1))=true->l6 (C8 aL Tryz.f219 1) (some [0,10,13]) (some [0,10,13]) (mkF 220 [(0,(d9 0 g 10 n)),(10,(iN i)),(13,(iN (kk+1)))]) (d8K g l kk) eX FX HX) (k2:(l9 kk (i - 1))=false->((.exit 2:Ex),(d2b g n i kk),[(o_ g 10 (mE l))])=(eX,FX,HX)):l6 (C8 aL Tryz.f219 1) (some [0,10,13]) (some [0,10,13]) (d2b g n i kk) [(o_ g 10 (mE l))] eX FX HX :=
 J7 (.r (.y 2 (.int .i64 (cj_ i)) (iN (i - 1)) Yes.o (.g (.two (l9 kk (i - 1)) (fun h1 h1'=>(.r (.y 4 (.int .i64 (cb_ kk)) (iN (kk+1)) Yes.o (.y 7 (.int .i64 (cb_ kk)) (iN (kk+1)) Yes.o (.io 8 0 g 10 10 0 n ((kk+1:Nat):Int) (kk+1) (I7.mk _ ow ow) (.t 9 (p9 (Entry.row (nth l (kk+1)))) [(o_ g 10 (mE l))] (J6 (F7 (row:=Entry.row) (l:=l) (k:=10) (room:=none) kr om) kr:M6 tt 93 0 [(o_ g 10 (mE l))] (rowAt [(o_ g 10 (mE l))] 0 g (kk+1))=some ((p9 (Entry.row (nth l (kk+1)))),([(o_ g 10 (mE l))]:Heap))) (.io 12 0 g 10 10 0 n (kk:Int) kk (I7.mk _ ow ow) (.t 13 (cl_ l kk) [(o_ g 10 (mE l))] (J6 (F7 (row:=Entry.row) (l:=l) (k:=10) (room:=none) kr om) kr:M6 tt 93 0 [(o_ g 10 (mE l))] (rowAt [(o_ g 10 (mE l))] 0 g kk)=some ((cl_ l kk),([(o_ g 10 (mE l))]:Heap))) (.io 14 0 g 10 10 0 n (kk:Int) kk (I7.mk _ ow ow) (.st 15 0 g kk 10 0 (p9 (Entry.row (nth l (kk+1)))) [(o_ g 10 (mE (l.set kk (nth l (kk+1)))))] (U0 (us:=(Entry.row (nth l (kk+1)))) (F7 (row:=Entry.row) (l:=l) (k:=10) (room:=none) kr om) kr yY yX) (.io 16 0 g 10 10 0 n ((kk+1:Nat):Int) (kk+1) (I7.mk _ ow ow) (.st 17 0 g (kk+1) 10 0 (cl_ l kk) (d8K g l kk) (U0 (us:=(Entry.row (nth l kk))) (F7 (row:=Entry.row) (l:=l.set kk (nth l (kk+1))) (k:=10) (room:=none) kr om) kr yY yX) (.s (.y 1 (.int .i64 (cb_ kk)) (iN (kk+1)) Yes.o (.g (.l (k1 h1))))))))))))))))) (fun h1 h1'=>(.l (k2 h1)))))))
def b5P (i:Nat) (n:Nat) (g:Nat) (kk:Nat) (s:(List Entry)):(List Entry):=((s.set kk (nth s (kk+1))).set (kk+1) (nth s kk))
theorem c8n (i:Nat) (n:Nat) (g:Nat) (hi1:1<=i) (hin:i<=n) (hnb:n < 1048576)  (r_:Nat):∀ (l:l9E) (kk:Nat) (sF:l9E),kk+r_=(i - 1)->n=l.length->sF=iter (b5P i n g) r_ kk l ->
 l6 (C8 aL Tryz.f219 1) (some [0,10,13]) (some [0,10,13]) (d2b g n i kk) [(o_ g 10 (mE l))] (.exit 2) (mkF 220 [(0,(d9 0 g 10 n)),(10,(iN i)),(13,(iN ((i - 1))))]) [(o_ g 10 (mE sF))]:=by
 induction r_ with
 | zero =>
  intro l kk sF hi_ hn  hF
  obtain rfl:(i - 1)=kk:=by omega
  have e_:sF=l:=hF
  refine a9H i n g l (i - 1) hi1 hin hnb hn J8 (fun h=>by simp at h <;> omega) (fun _=>?_)
  first | done | rfl | (rw [e_]; done) | (rw [e_]; rfl)
 | succ r_ ih =>
  intro l kk sF hi_ hn  hF
  refine a9H i n g l kk hi1 hin hnb hn ow (fun h1=>?_) (fun h=>by simp at h <;> omega)
  · exact ih ((l.set kk (nth l (kk+1))).set (kk+1) (nth l kk)) (kk+1) sF ow X0  (by rw [hF] <;> simp only [iter,b5P,if_true,Bool.false_eq_true,if_false])
theorem c8o (i n g r k:Nat) (l:l9E):shU r k l=iter (b5P i n g) r k l:=rfl
@[simp] abbrev d4o (a:Nat) (b:Nat) (c:Nat) (d:Nat):Fr:=(mkF 220 [(0,(d9 0 a 10 b)),(14,(iN c)),(17,(iN d))])
theorem a9I (i kk n g:Nat) (l:l9E) (hn:n=l.length) (hnb:n < 1048576) (hk:kk < n) {eX:Ex} {FX:Fr} {HX:Heap} (k1:(decide ((kk:Int) > (i:Int)))=true->l6 (C8 aL Tryz.f219 3) (some [0,14,17]) (some [0,14,17]) (mkF 220 [(0,(d9 0 g 10 n)),(14,(iN i)),(17,(iN (kk - 1)))]) (c1y g l kk) eX FX HX) (k2:(decide ((kk:Int) > (i:Int)))=false->((.exit 6:Ex),(d4o g n i kk),[(o_ g 10 (mE l))])=(eX,FX,HX)):l6 (C8 aL Tryz.f219 3) (some [0,14,17]) (some [0,14,17]) (d4o g n i kk) [(o_ g 10 (mE l))] eX FX HX :=
 J7 (.r (.g (.two (decide ((kk:Int) > (i:Int))) (fun h1 h1'=>(.r (.y 4 (.int .i64 (cj_ kk)) (iN (kk - 1)) Yes.o (.y 7 (.int .i64 (cj_ kk)) (iN (kk - 1)) Yes.o (.io 8 0 g 10 10 0 n ((kk - 1:Nat):Int) (kk - 1) (I7.mk _ ow ow) (.t 9 (cm_ l kk) [(o_ g 10 (mE l))] (J6 (F7 (row:=Entry.row) (l:=l) (k:=10) (room:=none) kr om) kr:M6 tt 93 0 [(o_ g 10 (mE l))] (rowAt [(o_ g 10 (mE l))] 0 g (kk - 1))=some ((cm_ l kk),([(o_ g 10 (mE l))]:Heap))) (.io 12 0 g 10 10 0 n (kk:Int) kk (I7.mk _ ow ow) (.t 13 (cl_ l kk) [(o_ g 10 (mE l))] (J6 (F7 (row:=Entry.row) (l:=l) (k:=10) (room:=none) kr om) kr:M6 tt 93 0 [(o_ g 10 (mE l))] (rowAt [(o_ g 10 (mE l))] 0 g kk)=some ((cl_ l kk),([(o_ g 10 (mE l))]:Heap))) (.io 14 0 g 10 10 0 n (kk:Int) kk (I7.mk _ ow ow) (.st 15 0 g kk 10 0 (cm_ l kk) [(o_ g 10 (mE (l.set kk (nth l (kk - 1)))))] (U0 (us:=(Entry.row (nth l (kk - 1)))) (F7 (row:=Entry.row) (l:=l) (k:=10) (room:=none) kr om) kr yY yX) (.io 16 0 g 10 10 0 n ((kk - 1:Nat):Int) (kk - 1) (I7.mk _ ow ow) (.st 17 0 g (kk - 1) 10 0 (cl_ l kk) (c1y g l kk) (U0 (us:=(Entry.row (nth l kk))) (F7 (row:=Entry.row) (l:=l.set kk (nth l (kk - 1))) (k:=10) (room:=none) kr om) kr yY yX) (.s (.y 1 (.int .i64 (cj_ kk)) (iN (kk - 1)) Yes.o (.g (.l (k1 h1))))))))))))))))) (fun h1 h1'=>(.l (k2 h1))))))
theorem c8q (i n g:Nat) (hnb:n < 1048576) (r:Nat):∀ (kk:Nat) (l:l9E),kk=i+r->n=l.length->kk < n ->
 l6 (C8 aL Tryz.f219 3) (some [0,14,17]) (some [0,14,17]) (mkF 220 [(0,(d9 0 g 10 n)),(14,(iN i)),(17,(iN kk))]) [(o_ g 10 (mE l))] (.exit 6) (mkF 220 [(0,(d9 0 g 10 n)),(14,(iN i)),(17,(iN i))]) [(o_ g 10 (mE (shD r kk l)))]:=by
 induction r with
 | zero =>
  intro kk l h1 hn hk
  obtain rfl:kk=i:=by omega
  exact a9I kk kk n g l hn hnb hk (fun h=>by simp at h) (fun _=>rfl)
 | succ r ih =>
  intro kk l h1 hn hk
  refine a9I i kk n g l hn hnb hk (fun _=>?_) (fun h=>by simp at h; omega)
  simp only [shD]
  exact ih (kk - 1) _ ow (by simpa using hn) ow
section
variable {α:Type} [Inhabited α]
theorem d2E (X:List α) (x y:α) (Z:List α) {k:Nat} (hk:k=X.length):((X++x :: y :: Z).set k (nth (X++x :: y :: Z) (k+1))).set (k+1) (nth (X++x :: y :: Z) k)=X++y :: x :: Z:=by
 have:=oZ X [x] [] [y] Z (a:=k) (b:=k+1) (n:=1) hk rfl rfl yg_
 simpa [V8,iter] using this
theorem a7j (x:α) (R:List α):∀ (X Y:List α) (k:Nat),k=X.length->shU R.length k (X++x :: (R++Y))=X++(R++x :: Y):=by
 induction R with
 | nil=>intro X Y k hk; rfl
 | cons y R ih =>
  intro X Y k hk
  have h1:shU (y :: R).length k (X++x :: ((y :: R)++Y))=shU R.length (k+1) (((X++x :: y :: (R++Y)).set k (nth (X++x :: y :: (R++Y)) (k+1))).set (k+1) (nth (X++x :: y :: (R++Y)) k)):=rfl
  rw [h1,d2E X x y (R++Y) hk]
  have:=ih (X++[y]) Y (k+1) uH
  simpa using this
theorem a7k (y:α) (r:Nat):∀ (X L Y:List α) (k:Nat),L.length=r->k=X.length+r->shD r k (X++(L++y :: Y))=X++y :: (L++Y):=by
 induction r with
 | zero =>
  intro X L Y k hL hk
  obtain rfl:L=[]:=List.eq_nil_of_length_eq_zero hL
  rfl
 | succ r ih =>
  intro X L Y k hL hk
  rcases List.eq_nil_or_concat L with rfl | ⟨L',z,rfl⟩
  · simp at hL
  · rw [List.concat_eq_append] at *
    have hL':L'.length=r:=by simpa using hL
    simp only [shD]
    have e0:X++((L'++[z])++y :: Y)=(X++L')++z :: y :: Y:=by simp
    obtain ⟨k',rfl⟩:∃ k',k=k'+1:=⟨k - 1,by omega⟩
    rw [e0,Nat.add_sub_cancel,List.set_comm _ _ ya_,d2E (X++L') z y Y (k:=k') yg_]
    have:=ih X L' (z :: Y) k' hL' ya_
    simpa using this
theorem piece (A L Z:List α) {a k:Nat} (ha:a=A.length) (hk:k=L.length):((A++(L++Z)).drop a).take k=L:=by
 subst ha hk
 rw [List.drop_append_of_le_length J8,List.drop_length,List.nil_append,List.take_append_of_le_length J8,List.take_length]
theorem a1a (lt:α->α->Bool) (A L R B:List α) {a m b:Nat} (ha:a=A.length) (hm:m=A.length+L.length) (hb:b=A.length+L.length+R.length):mAt lt a m b (A++(L++(R++B)))=A++(mg lt L R++B):=by
 unfold mAt
 have h1:(A++(L++(R++B))).take a=A:=by subst ha; rw [List.take_append_of_le_length J8,List.take_length]
 have h2:((A++(L++(R++B))).drop a).take (m - a)=L:=piece A L (R++B) ha ya_
 have h3:((A++(L++(R++B))).drop m).take (b - m)=R:=by
  have:=piece (A++L) R B (a:=m) (k:=b - m) yg_ ya_
  simpa using this
 have h4:(A++(L++(R++B))).drop b=B:=by
  have e:A++(L++(R++B))=(A++(L++R))++B:=by simp
  rw [e,List.drop_append_of_le_length yg_,List.drop_of_length_le yg_,List.nil_append]
 rw [h1,h2,h3,h4]
theorem sm1 (A L1 L2 R1 R2 B:List α) {l:List α} (hl:l=A++(L1++(L2++(R1++(R2++B))))) {s m e:Nat} (hs:s=A.length+L1.length) (hm:m=s+L2.length) (he:e=m+R1.length) :
 (if s < m/\m < e then S9 s m e l else l)=A++(L1++(R1++(L2++(R2++B)))):=by
 subst hl
 split
 · rename_i h
   have:=b5Y (A++L1) L2 R1 (R2++B) (a:=s) (m:=m) (b:=e) yg_ yg_ yg_ ya_ ya_
   simpa using this
 · rename_i h
   rcases Nat.eq_zero_or_pos L2.length with h1 | h1
   · obtain rfl:L2=[]:=List.eq_nil_of_length_eq_zero h1
     rfl
   · obtain rfl:R1=[]:=List.eq_nil_of_length_eq_zero ya_
     rfl
theorem sm2 (lt:α->α->Bool) (A L1 R1 Z:List α) {a s mid:Nat} (ha:a=A.length) (hs:s=a+L1.length) (hmid:mid=s+R1.length) :
 (if a < s/\s < mid then mAt lt a s mid (A++(L1++(R1++Z))) else A++(L1++(R1++Z)))=A++(mg lt L1 R1++Z):=by
 split
 · exact a1a lt A L1 R1 Z ha ya_ ya_
 · rename_i h
   rcases Nat.eq_zero_or_pos L1.length with h1 | h1
   · obtain rfl:L1=[]:=List.eq_nil_of_length_eq_zero h1
     rw [bE]; rfl
   · obtain rfl:R1=[]:=List.eq_nil_of_length_eq_zero ya_
     rw [fM]; rfl
theorem sm3 (lt:α->α->Bool) (A M L2 R2 B:List α) {mid e b:Nat} (hm:mid=A.length+M.length) (he:e=mid+L2.length) (hb:b=e+R2.length) :
 (if mid < e/\e < b then mAt lt mid e b (A++(M++(L2++(R2++B)))) else A++(M++(L2++(R2++B))))=A++(M++(mg lt L2 R2++B)):=by
 have:=sm2 lt (A++M) L2 R2 B (a:=mid) (s:=e) (mid:=b) yg_ he hb
 simpa using this
theorem vP (X U V Y:List α) {l:List α} (hl:l=X++(U++(V++Y))) {a m b:Nat} (ha:a=X.length) (hm:m=a+U.length) (hb:b=m+V.length) (h1:0 < U.length) (h2:0 < V.length) :
 (L8 m (m - a+(b - m)) (m - a) (b - m) l).1.length=l.length/\(L8 m (m - a+(b - m)) (m - a) (b - m) l).2<=m - a/\(L8 m (m - a+(b - m)) (m - a) (b - m) l).2<=b - m:=by
 have e1:m - a=U.length:=by omega
 have e2:b - m=V.length:=by omega
 rw [e1,e2,hl]
 obtain ⟨_,k2,k3,k4,_⟩:=a4A m _ (U.length+V.length) X U V Y U.length V.length ya_ h1 h2 rfl rfl ya_ rfl
 exact ⟨by rw [k4]; simp; omega,k2,k3⟩
end
def a2s:Ann:={ base:=1,fin:=some 1,live:=[(1,[0,1,2,3,10])],out:=[(1,[0,1,2,3,10])] }
@[simp] abbrev d4n (a:Nat) (b:l9C) (c:Nat) (d:Nat) (e:Nat):Heap:=[(o_ a 9 (mC ((b.set (c+d) (nth b (e+d))).set (e+d) (nth b (c+d)))))]
@[simp] abbrev c0L (a:Nat) (b:Nat) (c:Nat) (d:Nat) (e:Nat) (f:Nat):Fr:=(mkF 38 [(0,(d9 0 a 9 b)),(1,(iN c)),(2,(iN d)),(3,(iN e)),(10,(iN f))])
abbrev a6O (a:l9C) (b c:Nat):=(p9 (j4.row (nth a (b+c))))
theorem b0z (a:Nat) (b:Nat) (k:Nat) (n:Nat) (g:Nat) (l:l9C) (i:Nat) (hab:a+k<=b) (hb:b+k<=n) (hnb:n < 1048576) (hn:n=l.length) (hle_:i<=k) {eX:Ex} {FX:Fr} {HX:Heap} (k1:(l9 i k)=true->l6 (C8 a2s Tryz.f232 0) (some [0,1,2,3,10]) (some [0,1,2,3,10]) (mkF 38 [(0,(d9 0 g 9 n)),(1,(iN a)),(2,(iN b)),(3,(iN k)),(10,(iN (i+1)))]) (d4n g l a i b) eX FX HX) (k2:(l9 i k)=false->((.exit 0:Ex),(c0L g n a b k i),[(o_ g 9 (mC l))])=(eX,FX,HX)):l6 (C8 a2s Tryz.f232 0) (some [0,1,2,3,10]) (some [0,1,2,3,10]) (c0L g n a b k i) [(o_ g 9 (mC l))] eX FX HX :=
 J7 (.r (.g (.two (l9 i k) (fun h1 h1'=>(.r (.y 3 (.int .i64 (iT a i)) (iN (a+i)) Yes.o (.y 7 (.int .i64 (iT b i)) (iN (b+i)) Yes.o (.y 11 (.int .i64 (iT b i)) (iN (b+i)) Yes.o (.io 12 0 g 9 9 0 n ((b+i:Nat):Int) (b+i) (I7.mk _ ow ow) (.t 13 (a6O l b i) [(o_ g 9 (mC l))] (J6 (F7 (row:=j4.row) (l:=l) (k:=9) (room:=none) kr om) kr:M6 tt 50 0 [(o_ g 9 (mC l))] (rowAt [(o_ g 9 (mC l))] 0 g (b+i))=some ((a6O l b i),([(o_ g 9 (mC l))]:Heap))) (.y 17 (.int .i64 (iT a i)) (iN (a+i)) Yes.o (.io 18 0 g 9 9 0 n ((a+i:Nat):Int) (a+i) (I7.mk _ ow ow) (.t 19 (a6O l a i) [(o_ g 9 (mC l))] (J6 (F7 (row:=j4.row) (l:=l) (k:=9) (room:=none) kr om) kr:M6 tt 50 0 [(o_ g 9 (mC l))] (rowAt [(o_ g 9 (mC l))] 0 g (a+i))=some ((a6O l a i),([(o_ g 9 (mC l))]:Heap))) (.io 20 0 g 9 9 0 n ((a+i:Nat):Int) (a+i) (I7.mk _ ow ow) (.st 21 0 g (a+i) 9 0 (a6O l b i) [(o_ g 9 (mC (l.set (a+i) (nth l (b+i)))))] (U0 (us:=(j4.row (nth l (b+i)))) (F7 (row:=j4.row) (l:=l) (k:=9) (room:=none) kr om) kr wR wQ) (.io 22 0 g 9 9 0 n ((b+i:Nat):Int) (b+i) (I7.mk _ ow ow) (.st 23 0 g (b+i) 9 0 (a6O l a i) (d4n g l a i b) (U0 (us:=(j4.row (nth l (a+i)))) (F7 (row:=j4.row) (l:=l.set (a+i) (nth l (b+i))) (k:=9) (room:=none) kr om) kr wR wQ) (.s (.y 1 (.int .i64 (cb_ i)) (iN (i+1)) Yes.o (.g (.l (k1 h1))))))))))))))))))) (fun h1 h1'=>(.l (k2 h1))))))
def d2K (a:Nat) (b:Nat) (k:Nat) (n:Nat) (g:Nat) (i:Nat) (s:(List j4)):(List j4):=((s.set (a+i) (nth s (b+i))).set (b+i) (nth s (a+i)))
@[simp] abbrev d4m (a:Nat) (b:Nat) (c:Nat) (d:Nat) (e:Nat):Fr:=(mkF 38 [(0,(d9 0 a 9 b)),(1,(iN c)),(2,(iN d)),(3,(iN e)),(10,(iN e))])
theorem c9z (a:Nat) (b:Nat) (k:Nat) (n:Nat) (g:Nat) (hab:a+k<=b) (hb:b+k<=n) (hnb:n < 1048576)  (r_:Nat):∀ (l:l9C) (i:Nat) (sF:l9C),i+r_=k->n=l.length->sF=iter (d2K a b k n g) r_ i l ->
 l6 (C8 a2s Tryz.f232 0) (some [0,1,2,3,10]) (some [0,1,2,3,10]) (c0L g n a b k i) [(o_ g 9 (mC l))] (.exit 0) (d4m g n a b k) [(o_ g 9 (mC sF))]:=by
 induction r_ with
 | zero =>
  intro l i sF hi_ hn  hF
  obtain rfl:k=i:=by omega
  have e_:sF=l:=hF
  refine b0z a b k n g l k hab hb hnb hn J8 (fun h=>by simp at h <;> omega) (fun _=>?_)
  first | done | rfl | (rw [e_]; done) | (rw [e_]; rfl)
 | succ r_ ih =>
  intro l i sF hi_ hn  hF
  refine b0z a b k n g l i hab hb hnb hn ow (fun h1=>?_) (fun h=>by simp at h <;> omega)
  · exact ih ((l.set (a+i) (nth l (b+i))).set (b+i) (nth l (a+i))) (i+1) sF ow X0  (by rw [hF] <;> simp only [iter,d2K,if_true,Bool.false_eq_true,if_false])
theorem c9y (f:Nat) (xs:List AV) (a b k n g:Nat) (l:l9C) (hxs:AV.bdds 1 xs=true) (hn:n=l.length) (hnb:n < 1048576) (hab:a+k<=b) (hb:b+k<=n):AC 232 [(d9 0 g 9 n),(iN a),(iN b),(iN k),(A8 f xs)] [(o_ g 9 (mC l))] (F4,[(o_ g 9 (mC (V8 a b k l)))]) :=
 x9 (fn:=Tryz.f232) (ann:=a2s) (Has.o Tryz.func232) (.r (.g (.loop (d4m g n a b k) (c9z a b k n g hab hb hnb k l 0 (V8 a b k l) ow hn rfl) (.q 1 F4))))
theorem b0A (f:Nat) (xs:List AV) (a b k n g:Nat) (l:l9C) (hxs:AV.bdds 1 xs=true) (hn:n=l.length) (hnb:n < 1048576) (hab:a+k<=b) (hb:b+k<=n) (H:Heap):AC 232 [(d9 0 g 9 n),(iN a),(iN b),(iN k),(A8 f xs)] (([(o_ g 9 (mC l))]:Heap)++H) (F4,([(o_ g 9 (mC (V8 a b k l)))]:Heap)++H):=(c9y f xs a b k n g l hxs hn hnb hab hb).ext lZ kr ob ob kr H
def a6v:Ann:={ base:=1,fin:=some 1,live:=[(2,[0,2,4,10,11])],out:=[(2,[0,2,4,10,11])] }
@[simp] abbrev d4l (a:Nat) (b:Nat) (c:Nat) (d:Nat) (e:l9C):Heap:=[(o_ a 9 (mC (V8 (b - c) (b+d - c) c e)))]
@[simp] abbrev d4k (a:Nat) (b:Nat) (c:Nat) (d:Nat) (e:List AV) (f:Nat) (g:Nat):Fr:=(mkF 58 [(0,(d9 0 a 9 b)),(2,(iN c)),(4,(A8 d e)),(10,(iN f)),(11,(iN g))])
@[simp] abbrev d0W :=(C8 a6v Tryz.f228 0)
theorem c9A (f:Nat) (xs:List AV) (p n g:Nat) (i j:Nat) (l:l9C) (hxs:AV.bdds 1 xs=true) (hn:n=l.length) (hnb:n < 1048576) (hi:0 < i) (hj:0 < j) (hip:i<=p) (hjp:p+j<=n) {eX:Ex} {FX:Fr} {HX:Heap} (k1:((i:Int) != (j:Int))=true->(decide ((i:Int) > (j:Int)))=true->l6 d0W (some [0,2,4,10,11]) (some [0,2,4,10,11]) (mkF 58 [(0,(d9 0 g 9 n)),(2,(iN p)),(4,(A8 f xs)),(10,(iN (i - j))),(11,(iN j))]) [(o_ g 9 (mC (V8 (p - i) p j l)))] eX FX HX) (k2:((i:Int) != (j:Int))=true->(decide ((i:Int) > (j:Int)))=false->l6 d0W (some [0,2,4,10,11]) (some [0,2,4,10,11]) (mkF 58 [(0,(d9 0 g 9 n)),(2,(iN p)),(4,(A8 f xs)),(10,(iN i)),(11,(iN (j - i)))]) (d4l g p i j l) eX FX HX) (k3:((i:Int) != (j:Int))=false->((.exit 0:Ex),(d4k g n p f xs i j),[(o_ g 9 (mC l))])=(eX,FX,HX)):l6 d0W (some [0,2,4,10,11]) (some [0,2,4,10,11]) (d4k g n p f xs i j) [(o_ g 9 (mC l))] eX FX HX :=
 J7 (.r (.g (.two ((i:Int) != (j:Int)) (fun h1 h1'=>(.r (.g (.two (decide ((i:Int) > (j:Int))) (fun h2 h2'=>(.r (.y 3 (.int .i64 (rZ p i)) (iN (p - i)) Yes.o (.ch 7 [(o_ g 9 (mC (V8 (p - i) p j l)))] (b0A f xs (p - i) p j n g l aX aX aX aX aX []) (.s (.y 2 (.int .i64 (rZ i j)) (iN (i - j)) Yes.o (.g (.l (k1 h1 h2))))))))) (fun h2 h2'=>(.r (.y 3 (.int .i64 (rZ p i)) (iN (p - i)) Yes.o (.y 6 (.int .i64 (iT p j)) (iN (p+j)) Yes.o (.y 8 (iW (((p+j:Nat):Int) - (i:Int))) (iN (p+j - i)) Yes.o (.ch 11 (d4l g p i j l) (b0A f xs (p - i) (p+j - i) i n g l aX aX aX aX aX []) (.s (.y 2 (.int .i64 (rZ j i)) (iN (j - i)) Yes.o (.g (.l (k2 h1 h2))))))))))))))) (fun h1 h1'=>(.l (k3 h1))))))
theorem c9C (f:Nat) (xs:List AV) (p n g:Nat) (hxs:AV.bdds 1 xs=true) (r:Nat):∀ (i j:Nat) (l:l9C),i+j<=r+1->n=l.length->n < 1048576->0 < i->0 < j->i<=p->p+j<=n ->
 l6 (C8 a6v Tryz.f228 0) (some [0,2,4,10,11]) (some [0,2,4,10,11]) (mkF 58 [(0,(d9 0 g 9 n)),(2,(iN p)),(4,(A8 f xs)),(10,(iN i)),(11,(iN j))]) [(o_ g 9 (mC l))] (.exit 0) (mkF 58 [(0,(d9 0 g 9 n)),(2,(iN p)),(4,(A8 f xs)),(10,(iN ((L8 p r i j l).2))),(11,(iN ((L8 p r i j l).2)))]) [(o_ g 9 (mC (L8 p r i j l).1))]:=by
 induction r with
 | zero=>intro i j l h1 hn hnb hi hj; omega
 | succ r ih =>
  intro i j l h1 hn hnb hi hj hip hjp
  refine c9A f xs p n g i j l hxs hn hnb hi hj hip hjp (fun h2 h3=>?_) (fun h2 h3=>?_) (fun h2=>?_)
  · have h2':i≠j:=by simp at h2; omega
    have h3':j < i:=by simp at h3; omega
    simp only [L8,if_neg h2',if_pos h3']
    exact ih (i - j) j _ ow b4S hnb ow hj ow hjp
  · have h2':i≠j:=by simp at h2; omega
    have h3':¬ j < i:=by simp at h3; omega
    simp only [L8,if_neg h2',if_neg h3']
    exact ih i (j - i) _ ow b4S hnb hi ow hip ow
  · have h2':i=j:=by simp at h2; omega
    simp only [L8,if_pos h2']
    subst h2'
    rfl
abbrev e0d (a:Nat) (b:Nat) (c:Nat) (d:Nat) (e:List AV) (f:Nat) (g:Nat) (h:l9C):Fr:=(mkF 58 [(0,(d9 0 a 9 b)),(2,(iN c)),(4,(A8 d e)),(10,(iN ((L8 c (c - f+(g - c)) (c - f) (g - c) h).2))),(11,(iN ((L8 c (c - f+(g - c)) (c - f) (g - c) h).2)))])
theorem c9B (f:Nat) (xs:List AV) (a p b n g:Nat) (l:l9C) (hxs:AV.bdds 1 xs=true) (hn:n=l.length) (hnb:n < 1048576) (hap:a < p) (hpb:p < b) (hbn:b<=n) (hl2:(L8 p (p - a+(b - p)) (p - a) (b - p) l).1.length=l.length) (hk:(L8 p (p - a+(b - p)) (p - a) (b - p) l).2<=p - a) (hk2:(L8 p (p - a+(b - p)) (p - a) (b - p) l).2<=b - p):AC 228 [(d9 0 g 9 n),(iN a),(iN p),(iN b),(A8 f xs)] [(o_ g 9 (mC l))] (F4,[(o_ g 9 (mC (S9 a p b l)))]) :=
 x9 (fn:=Tryz.f228) (ann:=a6v) (Has.o Tryz.func228) (.r (.y 2 (.int .i64 (rZ p a)) (iN (p - a)) Yes.o (.s (.y 2 (.int .i64 (rZ b p)) (iN (b - p)) Yes.o (.g (.loop (e0d g n p f xs a b l) (c9C f xs p n g hxs (p - a+(b - p)) (p - a) (b - p) l ow hn hnb ow ow ow ow) (.r (.y 3 (iW ((p:Int) - (((L8 p (p - a+(b - p)) (p - a) (b - p) l).2:Nat):Int))) (iN (p - (L8 p (p - a+(b - p)) (p - a) (b - p) l).2)) Yes.o (.ch 7 [(o_ g 9 (mC (V8 (p - (L8 p (p - a+(b - p)) (p - a) (b - p) l).2) p (L8 p (p - a+(b - p)) (p - a) (b - p) l).2 (L8 p (p - a+(b - p)) (p - a) (b - p) l).1)))] (b0A f xs (p - (L8 p (p - a+(b - p)) (p - a) (b - p) l).2) p (L8 p (p - a+(b - p)) (p - a) (b - p) l).2 n g (L8 p (p - a+(b - p)) (p - a) (b - p) l).1 aX aX aX aX aX []) (.q 1 F4))))))))))
theorem c3J (f:Nat) (xs:List AV) (a p b n g:Nat) (l:l9C) (hxs:AV.bdds 1 xs=true) (hn:n=l.length) (hnb:n < 1048576) (hap:a < p) (hpb:p < b) (hbn:b<=n) (hl2:(L8 p (p - a+(b - p)) (p - a) (b - p) l).1.length=l.length) (hk:(L8 p (p - a+(b - p)) (p - a) (b - p) l).2<=p - a) (hk2:(L8 p (p - a+(b - p)) (p - a) (b - p) l).2<=b - p) (H:Heap):AC 228 [(d9 0 g 9 n),(iN a),(iN p),(iN b),(A8 f xs)] (([(o_ g 9 (mC l))]:Heap)++H) (F4,([(o_ g 9 (mC (S9 a p b l)))]:Heap)++H):=(c9B f xs a p b n g l hxs hn hnb hap hpb hbn hl2 hk hk2).ext lZ kr ob ob kr H
def aM:Ann:={ base:=1,fin:=some 1,live:=[(3,[0,1,4,10,11]),(9,[0,10,13]),(15,[0,2,4,14,15]),(21,[0,14,17]),(33,[0,1,2,3,4,18,19,20,21,22])],out:=[(3,[0,1,10]),(9,[0,10,13]),(15,[0,2,14]),(21,[0,14,17]),(33,[0,1,2,3,4,18,19,20])] }
@[simp] abbrev d0V :=(C8 aM Tryz.f216 0)
abbrev a6N (a:l9C) (b c:Nat):=(p9 (j4.row (nth a ((b+c) / 2))))
theorem a9S (cmp:j4->j4->Int) (f:Nat) (xs:List AV) (hc:h9C cmp f xs) (a n g:Nat) (l:l9C) (lo hi:Nat) (hn:n=l.length) (hnb:n < 1048576) (ha:a < n) (hlh:lo<=hi) (hhi:hi<=n) {eX:Ex} {FX:Fr} {HX:Heap} (k1:(l9 lo hi)=true->(decide ((cmp (nth l ((lo+hi) / 2)) (nth l a)) < 0))=true->l6 d0V (some [0,1,4,10,11]) (some [0,1,10]) (mkF 220 [(0,(d9 0 g 9 n)),(1,(iN a)),(4,(A8 f xs)),(10,(rY lo hi)),(11,(iN hi))]) [(o_ g 9 (mC l))] eX FX HX) (k2:(l9 lo hi)=true->(decide ((cmp (nth l ((lo+hi) / 2)) (nth l a)) < 0))=false->l6 d0V (some [0,1,4,10,11]) (some [0,1,10]) (mkF 220 [(0,(d9 0 g 9 n)),(1,(iN a)),(4,(A8 f xs)),(10,(iN lo)),(11,(iN (((lo+hi) / 2))))]) [(o_ g 9 (mC l))] eX FX HX) (k3:(l9 lo hi)=false->((.exit 0:Ex),(mkF 220 [(0,(d9 0 g 9 n)),(1,(iN a)),(10,(iN lo))]),[(o_ g 9 (mC l))])=(eX,FX,HX)):l6 d0V (some [0,1,4,10,11]) (some [0,1,10]) (mkF 220 [(0,(d9 0 g 9 n)),(1,(iN a)),(4,(A8 f xs)),(10,(iN lo)),(11,(iN hi))]) [(o_ g 9 (mC l))] eX FX HX :=
 J7 (.r (.g (.two (l9 lo hi) (fun h1 h1'=>(.r (.y 2 (.int .i64 (iT lo hi)) (iN (lo+hi)) Yes.o (.y 5 (a6R lo hi) (iN (((lo+hi) / 2))) (Yes.int (fQ ow (rfl))) (.s (.io 3 0 g 9 9 0 n ((((lo+hi) / 2):Nat):Int) ((lo+hi) / 2) (I7.mk _ ow ow) (.t 4 (a6N l lo hi) [(o_ g 9 (mC l))] (J6 (F7 (row:=j4.row) (l:=l) (k:=9) (room:=none) kr om) kr:M6 tt 50 0 [(o_ g 9 (mC l))] (rowAt [(o_ g 9 (mC l))] 0 g ((lo+hi) / 2))=some ((a6N l lo hi),([(o_ g 9 (mC l))]:Heap))) (.io 7 0 g 9 9 0 n (a:Int) a (I7.mk _ ow ow) (.t 8 (cp_ l a) [(o_ g 9 (mC l))] (J6 (F7 (row:=j4.row) (l:=l) (k:=9) (room:=none) kr om) kr:M6 tt 50 0 [(o_ g 9 (mC l))] (rowAt [(o_ g 9 (mC l))] 0 g a)=some ((cp_ l a),([(o_ g 9 (mC l))]:Heap))) (.c 9 (hc (nth l ((lo+hi) / 2)) (nth l a) [(o_ g 9 (mC l))]) (.g (.two (decide ((cmp (nth l ((lo+hi) / 2)) (nth l a)) < 0)) (fun h2 h2'=>(.r (.y 1 (.int .i64 (a6P lo hi)) (rY lo hi) Yes.o (.g (.l (k1 h1 h2)))))) (fun h2 h2'=>(.r (.g (.l (k2 h1 h2))))))))))))))))) (fun h1 h1'=>(.l (k3 h1))))))
theorem c8D (cmp:j4->j4->Int) (f:Nat) (xs:List AV) (hc:h9C cmp f xs) (a n g:Nat) (l:l9C) (hn:n=l.length) (hnb:n < 1048576) (ha:a < n) (r:Nat):∀ (lo hi:Nat),hi - lo<=r->lo<=hi->hi<=n ->
 l6 (C8 aM Tryz.f216 0) (some [0,1,4,10,11]) (some [0,1,10]) (mkF 220 [(0,(d9 0 g 9 n)),(1,(iN a)),(4,(A8 f xs)),(10,(iN lo)),(11,(iN hi))]) [(o_ g 9 (mC l))] (.exit 0) (mkF 220 [(0,(d9 0 g 9 n)),(1,(iN a)),(10,(iN ((bsr (fun c=>decide (cmp (nth l c) (nth l a) < 0)) r lo hi))))]) [(o_ g 9 (mC l))]:=by
 induction r with
 | zero =>
  intro lo hi h1 h2 h3
  obtain rfl:lo=hi:=by omega
  refine a9S cmp f xs hc a n g l lo lo hn hnb ha h2 h3 (fun h _=>by simp at h) (fun h _=>by simp at h) (fun _=>?_)
  simp only [bsr]
 | succ r ih =>
  intro lo hi h1 h2 h3
  refine a9S cmp f xs hc a n g l lo hi hn hnb ha h2 h3 (fun h4 h5=>?_) (fun h4 h5=>?_) (fun h4=>?_)
  · have h4':lo < hi:=by simp at h4; omega
    simp only [bsr,if_pos h4']
    rw [if_pos rO]
    exact ih ((lo+hi) / 2+1) hi ow ow ow
  · have h4':lo < hi:=by simp at h4; omega
    simp only [bsr,if_pos h4']
    rw [if_neg rO]
    exact ih lo ((lo+hi) / 2) ow ow ow
  · have h4':¬ lo < hi:=by simp at h4; omega
    simp only [bsr,if_neg h4']
@[simp] abbrev d0U :=(C8 aM Tryz.f216 2)
theorem a9R (cmp:j4->j4->Int) (f:Nat) (xs:List AV) (hc:h9C cmp f xs) (p n g:Nat) (l:l9C) (lo hi:Nat) (hn:n=l.length) (hnb:n < 1048576) (ha:p < n) (hlh:lo<=hi) (hhi:hi<=n) {eX:Ex} {FX:Fr} {HX:Heap} (k1:(l9 lo hi)=true->(!(decide ((cmp (nth l p) (nth l ((lo+hi) / 2))) < 0)))=true->l6 d0U (some [0,2,4,14,15]) (some [0,2,14]) (mkF 220 [(0,(d9 0 g 9 n)),(2,(iN p)),(4,(A8 f xs)),(14,(rY lo hi)),(15,(iN hi))]) [(o_ g 9 (mC l))] eX FX HX) (k2:(l9 lo hi)=true->(!(decide ((cmp (nth l p) (nth l ((lo+hi) / 2))) < 0)))=false->l6 d0U (some [0,2,4,14,15]) (some [0,2,14]) (mkF 220 [(0,(d9 0 g 9 n)),(2,(iN p)),(4,(A8 f xs)),(14,(iN lo)),(15,(iN (((lo+hi) / 2))))]) [(o_ g 9 (mC l))] eX FX HX) (k3:(l9 lo hi)=false->((.exit 4:Ex),(mkF 220 [(0,(d9 0 g 9 n)),(2,(iN p)),(14,(iN lo))]),[(o_ g 9 (mC l))])=(eX,FX,HX)):l6 d0U (some [0,2,4,14,15]) (some [0,2,14]) (mkF 220 [(0,(d9 0 g 9 n)),(2,(iN p)),(4,(A8 f xs)),(14,(iN lo)),(15,(iN hi))]) [(o_ g 9 (mC l))] eX FX HX :=
 J7 (.r (.g (.two (l9 lo hi) (fun h1 h1'=>(.r (.y 2 (.int .i64 (iT lo hi)) (iN (lo+hi)) Yes.o (.y 5 (a6R lo hi) (iN (((lo+hi) / 2))) (Yes.int (fQ ow (rfl))) (.s (.io 3 0 g 9 9 0 n (p:Int) p (I7.mk _ ow ow) (.t 4 (cp_ l p) [(o_ g 9 (mC l))] (J6 (F7 (row:=j4.row) (l:=l) (k:=9) (room:=none) kr om) kr:M6 tt 50 0 [(o_ g 9 (mC l))] (rowAt [(o_ g 9 (mC l))] 0 g p)=some ((cp_ l p),([(o_ g 9 (mC l))]:Heap))) (.io 7 0 g 9 9 0 n ((((lo+hi) / 2):Nat):Int) ((lo+hi) / 2) (I7.mk _ ow ow) (.t 8 (a6N l lo hi) [(o_ g 9 (mC l))] (J6 (F7 (row:=j4.row) (l:=l) (k:=9) (room:=none) kr om) kr:M6 tt 50 0 [(o_ g 9 (mC l))] (rowAt [(o_ g 9 (mC l))] 0 g ((lo+hi) / 2))=some ((a6N l lo hi),([(o_ g 9 (mC l))]:Heap))) (.c 9 (hc (nth l p) (nth l ((lo+hi) / 2)) [(o_ g 9 (mC l))]) (.g (.two (!(decide ((cmp (nth l p) (nth l ((lo+hi) / 2))) < 0))) (fun h2 h2'=>(.r (.y 1 (.int .i64 (a6P lo hi)) (rY lo hi) Yes.o (.g (.l (k1 h1 h2)))))) (fun h2 h2'=>(.r (.g (.l (k2 h1 h2))))))))))))))))) (fun h1 h1'=>(.l (k3 h1))))))
theorem c8C (cmp:j4->j4->Int) (f:Nat) (xs:List AV) (hc:h9C cmp f xs) (p n g:Nat) (l:l9C) (hn:n=l.length) (hnb:n < 1048576) (ha:p < n) (r:Nat):∀ (lo hi:Nat),hi - lo<=r->lo<=hi->hi<=n ->
 l6 (C8 aM Tryz.f216 2) (some [0,2,4,14,15]) (some [0,2,14]) (mkF 220 [(0,(d9 0 g 9 n)),(2,(iN p)),(4,(A8 f xs)),(14,(iN lo)),(15,(iN hi))]) [(o_ g 9 (mC l))] (.exit 4) (mkF 220 [(0,(d9 0 g 9 n)),(2,(iN p)),(14,(iN ((bsr (fun c=>!decide (cmp (nth l p) (nth l c) < 0)) r lo hi))))]) [(o_ g 9 (mC l))]:=by
 induction r with
 | zero =>
  intro lo hi h1 h2 h3
  obtain rfl:lo=hi:=by omega
  refine a9R cmp f xs hc p n g l lo lo hn hnb ha h2 h3 (fun h _=>by simp at h) (fun h _=>by simp at h) (fun _=>?_)
  simp only [bsr]
 | succ r ih =>
  intro lo hi h1 h2 h3
  refine a9R cmp f xs hc p n g l lo hi hn hnb ha h2 h3 (fun h4 h5=>?_) (fun h4 h5=>?_) (fun h4=>?_)
  · have h4':lo < hi:=by simp at h4; omega
    simp only [bsr,if_pos h4']
    rw [if_pos rO]
    exact ih ((lo+hi) / 2+1) hi ow ow ow
  · have h4':lo < hi:=by simp at h4; omega
    simp only [bsr,if_pos h4']
    rw [if_neg rO]
    exact ih lo ((lo+hi) / 2) ow ow ow
  · have h4':¬ lo < hi:=by simp at h4; omega
    simp only [bsr,if_neg h4']
@[simp] abbrev d0T :=(C8 aM Tryz.f216 4)
theorem a9P (cmp:j4->j4->Int) (f:Nat) (xs:List AV) (hc:h9C cmp f xs) (a p b mid nn q n g:Nat) (l:l9C) (lo hi:Nat) (hn:n=l.length) (hnb:n < 1048576) (hlh:lo<=hi) (hhi:hi<=n/\hi<=q+1/\q < n+lo) {eX:Ex} {FX:Fr} {HX:Heap} (k1:(l9 lo hi)=true->(!(decide ((cmp (nth l (q - ((lo+hi) / 2))) (nth l ((lo+hi) / 2))) < 0)))=true->l6 d0T (some [0,1,2,3,4,18,19,20,21,22]) (some [0,1,2,3,4,18,19,20]) (mkF 220 [(0,(d9 0 g 9 n)),(1,(iN a)),(2,(iN p)),(3,(iN b)),(4,(A8 f xs)),(18,(iN mid)),(19,(iN nn)),(20,(rY lo hi)),(21,(iN hi)),(22,(iN q))]) [(o_ g 9 (mC l))] eX FX HX) (k2:(l9 lo hi)=true->(!(decide ((cmp (nth l (q - ((lo+hi) / 2))) (nth l ((lo+hi) / 2))) < 0)))=false->l6 d0T (some [0,1,2,3,4,18,19,20,21,22]) (some [0,1,2,3,4,18,19,20]) (mkF 220 [(0,(d9 0 g 9 n)),(1,(iN a)),(2,(iN p)),(3,(iN b)),(4,(A8 f xs)),(18,(iN mid)),(19,(iN nn)),(20,(iN lo)),(21,(iN (((lo+hi) / 2)))),(22,(iN q))]) [(o_ g 9 (mC l))] eX FX HX) (k3:(l9 lo hi)=false->((.exit 8:Ex),(mkF 220 [(0,(d9 0 g 9 n)),(1,(iN a)),(2,(iN p)),(3,(iN b)),(4,(A8 f xs)),(18,(iN mid)),(19,(iN nn)),(20,(iN lo))]),[(o_ g 9 (mC l))])=(eX,FX,HX)):l6 d0T (some [0,1,2,3,4,18,19,20,21,22]) (some [0,1,2,3,4,18,19,20]) (mkF 220 [(0,(d9 0 g 9 n)),(1,(iN a)),(2,(iN p)),(3,(iN b)),(4,(A8 f xs)),(18,(iN mid)),(19,(iN nn)),(20,(iN lo)),(21,(iN hi)),(22,(iN q))]) [(o_ g 9 (mC l))] eX FX HX :=
 J7 (.r (.g (.two (l9 lo hi) (fun h1 h1'=>(.r (.y 2 (.int .i64 (iT lo hi)) (iN (lo+hi)) Yes.o (.y 5 (a6R lo hi) (iN (((lo+hi) / 2))) (Yes.int (fQ ow (rfl))) (.s (.y 4 (iW ((q:Int) - ((((lo+hi) / 2):Nat):Int))) (iN (q - ((lo+hi) / 2))) Yes.o (.io 5 0 g 9 9 0 n ((q - ((lo+hi) / 2):Nat):Int) (q - ((lo+hi) / 2)) (I7.mk _ ow ow) (.t 6 (p9 (j4.row (nth l (q - ((lo+hi) / 2))))) [(o_ g 9 (mC l))] (J6 (F7 (row:=j4.row) (l:=l) (k:=9) (room:=none) kr om) kr:M6 tt 50 0 [(o_ g 9 (mC l))] (rowAt [(o_ g 9 (mC l))] 0 g (q - ((lo+hi) / 2)))=some ((p9 (j4.row (nth l (q - ((lo+hi) / 2))))),([(o_ g 9 (mC l))]:Heap))) (.io 9 0 g 9 9 0 n ((((lo+hi) / 2):Nat):Int) ((lo+hi) / 2) (I7.mk _ ow ow) (.t 10 (a6N l lo hi) [(o_ g 9 (mC l))] (J6 (F7 (row:=j4.row) (l:=l) (k:=9) (room:=none) kr om) kr:M6 tt 50 0 [(o_ g 9 (mC l))] (rowAt [(o_ g 9 (mC l))] 0 g ((lo+hi) / 2))=some ((a6N l lo hi),([(o_ g 9 (mC l))]:Heap))) (.c 11 (hc (nth l (q - ((lo+hi) / 2))) (nth l ((lo+hi) / 2)) [(o_ g 9 (mC l))]) (.g (.two (!(decide ((cmp (nth l (q - ((lo+hi) / 2))) (nth l ((lo+hi) / 2))) < 0))) (fun h2 h2'=>(.r (.y 1 (.int .i64 (a6P lo hi)) (rY lo hi) Yes.o (.g (.l (k1 h1 h2)))))) (fun h2 h2'=>(.r (.g (.l (k2 h1 h2)))))))))))))))))) (fun h1 h1'=>(.l (k3 h1))))))
theorem a9Q (cmp:j4->j4->Int) (f:Nat) (xs:List AV) (hc:h9C cmp f xs) (a p b mid nn q n g:Nat) (l:l9C) (hn:n=l.length) (hnb:n < 1048576) (r:Nat):∀ (lo hi:Nat),hi - lo<=r->lo<=hi->hi<=n/\hi<=q+1/\q < n+lo ->
 l6 (C8 aM Tryz.f216 4) (some [0,1,2,3,4,18,19,20,21,22]) (some [0,1,2,3,4,18,19,20]) (mkF 220 [(0,(d9 0 g 9 n)),(1,(iN a)),(2,(iN p)),(3,(iN b)),(4,(A8 f xs)),(18,(iN mid)),(19,(iN nn)),(20,(iN lo)),(21,(iN hi)),(22,(iN q))]) [(o_ g 9 (mC l))] (.exit 8) (mkF 220 [(0,(d9 0 g 9 n)),(1,(iN a)),(2,(iN p)),(3,(iN b)),(4,(A8 f xs)),(18,(iN mid)),(19,(iN nn)),(20,(iN ((bsr (fun c=>!decide (cmp (nth l (q - c)) (nth l c) < 0)) r lo hi))))]) [(o_ g 9 (mC l))]:=by
 induction r with
 | zero =>
  intro lo hi h1 h2 h3
  obtain rfl:lo=hi:=by omega
  refine a9P cmp f xs hc a p b mid nn q n g l lo lo hn hnb h2 h3 (fun h _=>by simp at h) (fun h _=>by simp at h) (fun _=>?_)
  simp only [bsr]
 | succ r ih =>
  intro lo hi h1 h2 h3
  refine a9P cmp f xs hc a p b mid nn q n g l lo hi hn hnb h2 h3 (fun h4 h5=>?_) (fun h4 h5=>?_) (fun h4=>?_)
  · have h4':lo < hi:=by simp at h4; omega
    simp only [bsr,if_pos h4']
    rw [if_pos rO]
    exact ih ((lo+hi) / 2+1) hi ow ow ow
  · have h4':lo < hi:=by simp at h4; omega
    simp only [bsr,if_pos h4']
    rw [if_neg rO]
    exact ih lo ((lo+hi) / 2) ow ow ow
  · have h4':¬ lo < hi:=by simp at h4; omega
    simp only [bsr,if_neg h4']
@[simp] abbrev d4j (a:Nat) (b:l9C) (c:Nat):Heap:=[(o_ a 9 (mC ((b.set c (nth b (c+1))).set (c+1) (nth b c))))]
@[simp] abbrev c0K (a:Nat) (b:Nat) (c:Nat) (d:Nat):Fr:=(mkF 220 [(0,(d9 0 a 9 b)),(10,(iN c)),(13,(iN d))])
theorem a9N (i:Nat) (n:Nat) (g:Nat) (l:l9C) (kk:Nat) (hi1:1<=i) (hin:i<=n) (hnb:n < 1048576) (hn:n=l.length) (hle_:kk<=(i - 1)) {eX:Ex} {FX:Fr} {HX:Heap} (k1:(l9 kk (i - 1))=true->l6 (C8 aM Tryz.f216 1) (some [0,10,13]) (some [0,10,13]) (mkF 220 [(0,(d9 0 g 9 n)),(10,(iN i)),(13,(iN (kk+1)))]) (d4j g l kk) eX FX HX) (k2:(l9 kk (i - 1))=false->((.exit 2:Ex),(c0K g n i kk),[(o_ g 9 (mC l))])=(eX,FX,HX)):l6 (C8 aM Tryz.f216 1) (some [0,10,13]) (some [0,10,13]) (c0K g n i kk) [(o_ g 9 (mC l))] eX FX HX :=
 J7 (.r (.y 2 (.int .i64 (cj_ i)) (iN (i - 1)) Yes.o (.g (.two (l9 kk (i - 1)) (fun h1 h1'=>(.r (.y 4 (.int .i64 (cb_ kk)) (iN (kk+1)) Yes.o (.y 7 (.int .i64 (cb_ kk)) (iN (kk+1)) Yes.o (.io 8 0 g 9 9 0 n ((kk+1:Nat):Int) (kk+1) (I7.mk _ ow ow) (.t 9 (p9 (j4.row (nth l (kk+1)))) [(o_ g 9 (mC l))] (J6 (F7 (row:=j4.row) (l:=l) (k:=9) (room:=none) kr om) kr:M6 tt 50 0 [(o_ g 9 (mC l))] (rowAt [(o_ g 9 (mC l))] 0 g (kk+1))=some ((p9 (j4.row (nth l (kk+1)))),([(o_ g 9 (mC l))]:Heap))) (.io 12 0 g 9 9 0 n (kk:Int) kk (I7.mk _ ow ow) (.t 13 (cp_ l kk) [(o_ g 9 (mC l))] (J6 (F7 (row:=j4.row) (l:=l) (k:=9) (room:=none) kr om) kr:M6 tt 50 0 [(o_ g 9 (mC l))] (rowAt [(o_ g 9 (mC l))] 0 g kk)=some ((cp_ l kk),([(o_ g 9 (mC l))]:Heap))) (.io 14 0 g 9 9 0 n (kk:Int) kk (I7.mk _ ow ow) (.st 15 0 g kk 9 0 (p9 (j4.row (nth l (kk+1)))) [(o_ g 9 (mC (l.set kk (nth l (kk+1)))))] (U0 (us:=(j4.row (nth l (kk+1)))) (F7 (row:=j4.row) (l:=l) (k:=9) (room:=none) kr om) kr wR wQ) (.io 16 0 g 9 9 0 n ((kk+1:Nat):Int) (kk+1) (I7.mk _ ow ow) (.st 17 0 g (kk+1) 9 0 (cp_ l kk) (d4j g l kk) (U0 (us:=(j4.row (nth l kk))) (F7 (row:=j4.row) (l:=l.set kk (nth l (kk+1))) (k:=9) (room:=none) kr om) kr wR wQ) (.s (.y 1 (.int .i64 (cb_ kk)) (iN (kk+1)) Yes.o (.g (.l (k1 h1))))))))))))))))) (fun h1 h1'=>(.l (k2 h1)))))))
def b5T (i:Nat) (n:Nat) (g:Nat) (kk:Nat) (s:(List j4)):(List j4):=((s.set kk (nth s (kk+1))).set (kk+1) (nth s kk))
theorem c8x (i:Nat) (n:Nat) (g:Nat) (hi1:1<=i) (hin:i<=n) (hnb:n < 1048576)  (r_:Nat):∀ (l:l9C) (kk:Nat) (sF:l9C),kk+r_=(i - 1)->n=l.length->sF=iter (b5T i n g) r_ kk l ->
 l6 (C8 aM Tryz.f216 1) (some [0,10,13]) (some [0,10,13]) (c0K g n i kk) [(o_ g 9 (mC l))] (.exit 2) (mkF 220 [(0,(d9 0 g 9 n)),(10,(iN i)),(13,(iN ((i - 1))))]) [(o_ g 9 (mC sF))]:=by
 induction r_ with
 | zero =>
  intro l kk sF hi_ hn  hF
  obtain rfl:(i - 1)=kk:=by omega
  have e_:sF=l:=hF
  refine a9N i n g l (i - 1) hi1 hin hnb hn J8 (fun h=>by simp at h <;> omega) (fun _=>?_)
  first | done | rfl | (rw [e_]; done) | (rw [e_]; rfl)
 | succ r_ ih =>
  intro l kk sF hi_ hn  hF
  refine a9N i n g l kk hi1 hin hnb hn ow (fun h1=>?_) (fun h=>by simp at h <;> omega)
  · exact ih ((l.set kk (nth l (kk+1))).set (kk+1) (nth l kk)) (kk+1) sF ow X0  (by rw [hF] <;> simp only [iter,b5T,if_true,Bool.false_eq_true,if_false])
theorem c8y (i n g r k:Nat) (l:l9C):shU r k l=iter (b5T i n g) r k l:=rfl
@[simp] abbrev c6C (a:Nat) (b:Nat) (c:Nat) (d:Nat):Fr:=(mkF 220 [(0,(d9 0 a 9 b)),(14,(iN c)),(17,(iN d))])
theorem a9O (i kk n g:Nat) (l:l9C) (hn:n=l.length) (hnb:n < 1048576) (hk:kk < n) {eX:Ex} {FX:Fr} {HX:Heap} (k1:(decide ((kk:Int) > (i:Int)))=true->l6 (C8 aM Tryz.f216 3) (some [0,14,17]) (some [0,14,17]) (mkF 220 [(0,(d9 0 g 9 n)),(14,(iN i)),(17,(iN (kk - 1)))]) (c1x g l kk) eX FX HX) (k2:(decide ((kk:Int) > (i:Int)))=false->((.exit 6:Ex),(c6C g n i kk),[(o_ g 9 (mC l))])=(eX,FX,HX)):l6 (C8 aM Tryz.f216 3) (some [0,14,17]) (some [0,14,17]) (c6C g n i kk) [(o_ g 9 (mC l))] eX FX HX :=
 J7 (.r (.g (.two (decide ((kk:Int) > (i:Int))) (fun h1 h1'=>(.r (.y 4 (.int .i64 (cj_ kk)) (iN (kk - 1)) Yes.o (.y 7 (.int .i64 (cj_ kk)) (iN (kk - 1)) Yes.o (.io 8 0 g 9 9 0 n ((kk - 1:Nat):Int) (kk - 1) (I7.mk _ ow ow) (.t 9 (cq_ l kk) [(o_ g 9 (mC l))] (J6 (F7 (row:=j4.row) (l:=l) (k:=9) (room:=none) kr om) kr:M6 tt 50 0 [(o_ g 9 (mC l))] (rowAt [(o_ g 9 (mC l))] 0 g (kk - 1))=some ((cq_ l kk),([(o_ g 9 (mC l))]:Heap))) (.io 12 0 g 9 9 0 n (kk:Int) kk (I7.mk _ ow ow) (.t 13 (cp_ l kk) [(o_ g 9 (mC l))] (J6 (F7 (row:=j4.row) (l:=l) (k:=9) (room:=none) kr om) kr:M6 tt 50 0 [(o_ g 9 (mC l))] (rowAt [(o_ g 9 (mC l))] 0 g kk)=some ((cp_ l kk),([(o_ g 9 (mC l))]:Heap))) (.io 14 0 g 9 9 0 n (kk:Int) kk (I7.mk _ ow ow) (.st 15 0 g kk 9 0 (cq_ l kk) [(o_ g 9 (mC (l.set kk (nth l (kk - 1)))))] (U0 (us:=(j4.row (nth l (kk - 1)))) (F7 (row:=j4.row) (l:=l) (k:=9) (room:=none) kr om) kr wR wQ) (.io 16 0 g 9 9 0 n ((kk - 1:Nat):Int) (kk - 1) (I7.mk _ ow ow) (.st 17 0 g (kk - 1) 9 0 (cp_ l kk) (c1x g l kk) (U0 (us:=(j4.row (nth l kk))) (F7 (row:=j4.row) (l:=l.set kk (nth l (kk - 1))) (k:=9) (room:=none) kr om) kr wR wQ) (.s (.y 1 (.int .i64 (cj_ kk)) (iN (kk - 1)) Yes.o (.g (.l (k1 h1))))))))))))))))) (fun h1 h1'=>(.l (k2 h1))))))
theorem c8B (i n g:Nat) (hnb:n < 1048576) (r:Nat):∀ (kk:Nat) (l:l9C),kk=i+r->n=l.length->kk < n ->
 l6 (C8 aM Tryz.f216 3) (some [0,14,17]) (some [0,14,17]) (mkF 220 [(0,(d9 0 g 9 n)),(14,(iN i)),(17,(iN kk))]) [(o_ g 9 (mC l))] (.exit 6) (mkF 220 [(0,(d9 0 g 9 n)),(14,(iN i)),(17,(iN i))]) [(o_ g 9 (mC (shD r kk l)))]:=by
 induction r with
 | zero =>
  intro kk l h1 hn hk
  obtain rfl:kk=i:=by omega
  exact a9O kk kk n g l hn hnb hk (fun h=>by simp at h) (fun _=>rfl)
 | succ r ih =>
  intro kk l h1 hn hk
  refine a9O i kk n g l hn hnb hk (fun _=>?_) (fun h=>by simp at h; omega)
  simp only [shD]
  exact ih (kk - 1) _ ow (by simpa using hn) ow
end Go.Proofs.YtmghjcbabebanaaGreat.AM
