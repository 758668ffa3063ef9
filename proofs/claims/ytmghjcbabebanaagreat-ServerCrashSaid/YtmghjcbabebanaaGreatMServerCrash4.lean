/-
  Texts of this claim, part 4 of 8: an abstract machine over the model; what functions come to; plain laws.
-/
import Derived.Test.YtmghjcbabebanaaGreatMServerCrash3
set_option maxRecDepth 100000
set_option linter.unusedVariables false
set_option linter.unusedSimpArgs false
set_option linter.unusedSectionVars false
namespace Go.Proofs.YtmghjcbabebanaaGreat.AM
open Go Go.Proofs.YtmghjcbabebanaaGreat
attribute [local irreducible] C9 D8 D9 F3 F5 I4 J6 K8 N9 P6 R9 Tp.H7 Tp.J8 Tp.card Tp.cards Tp.key Tp.keyT Tp.next Tp.step cmpL j6 l6 l9 sink y5
def E9 (l:List Entry) (k:Key):Nat:=(l.takeWhile fun e=>D8 e.card.key k).length
def A8 (l:List Entry) (k:Key):Bool:=decide (E9 l k < l.length)&&Key.eqb (nth l (E9 l k)).card.key k
theorem X6 (l:l9E) (k:Key):E9 l k<=l.length:=by
 unfold E9
 have:=List.Sublist.length_le (List.takeWhile_sublist (l:=l) fun e=>D8 e.card.key k)
 exact this
theorem a2d {l:l9E} {k:Key}:∀ {i:Nat},i < E9 l k->D8 (nth l i).card.key k=true:=by
 unfold E9
 induction l with
 | nil=>intro i h; simp at h
 | cons e l ih =>
  intro i h
  rw [List.takeWhile_cons] at h
  by_cases hb:D8 e.card.key k=true
  · rw [if_pos hb] at h
    cases i with
    | zero=>exact hb
    | succ i=>exact ih yj_
  · rw [if_neg hb] at h; simp at h
theorem a2e {l:l9E} {k:Key} (h:E9 l k < l.length):D8 (nth l (E9 l k)).card.key k=false:=by
 unfold E9 at *
 induction l with
 | nil=>simp at h
 | cons e l ih =>
  rw [List.takeWhile_cons] at h ⊢
  by_cases hb:D8 e.card.key k=true
  · rw [if_pos hb] at h ⊢
    exact ih yj_
  · rw [if_neg hb]
    have h3:D8 e.card.key k=false:=by simpa using hb
    exact h3
theorem jK {l:l9E} {k:Key} (h:A8 l k=true):E9 l k < l.length:=by
 unfold A8 at h
 rw [Bool.and_eq_true] at h
 exact of_decide_eq_true h.1
theorem c0d {l:l9E} {k:Key} {i:Nat} (hi:i<=l.length) (h1:∀ j,j < i->D8 (nth l j).card.key k=true) (h2:i < l.length->D8 (nth l i).card.key k=false):E9 l k=i:=by
 rcases Nat.lt_trichotomy (E9 l k) i with h | h | h
 · have:=h1 _ h
   rw [a2e ow] at this; simp at this
 · exact h
 · have:=a2d h
   rw [h2 (by have:=X6 l k; omega)] at this; simp at this
def yG:Ann:={ refs:=[3],base:=2,fin:=some 2,live:=[(2,[0,3,6])],out:=[(2,[0,3,6])] }
@[simp] abbrev qF (a:Int) (b c:Nat):=[[(iI a),(AV.osl 1 b 10 0 c)]]
@[simp] abbrev bM (a:Int) (b:Nat) (c:Nat):Ob:=(o_ 0 2 (qF a b c))
@[simp] abbrev L6 (a:Int) (b:Nat) (c:Nat) (d:l9E):Heap:=[bM a b c,(o_ b 10 (mE d))]
@[simp] abbrev c6K (a:Key) (b:Nat):Fr:=(mkF 50 [(0,(oO 0 0 0 0)),(3,(AV.ref (Key.row a) 0)),(6,(iN b))])
theorem a5P (most:Int) (l:l9E) (k:Key) (g n:Nat) (i:Nat) (hn:n=l.length) (hl:l.length < 1048576) (hi:i<=l.length) {eX:Ex} {FX:Fr} {HX:Heap} (k1:(decide ((i:Int) < (n:Int)))=true->(kI (nth l i).card.key k)=true->j6 (l9 Tryz.prog (X yG) (x9 Tryz.f121 0)) (some [0,3,6]) (some [0,3,6]) (mkF 50 [(0,(oO 0 0 0 0)),(3,(AV.ref (Key.row k) 0)),(6,(iN (i+1)))]) (L6 most g n l) eX FX HX) (k2:(decide ((i:Int) < (n:Int)))=true->(kI (nth l i).card.key k)=false->((.exit 0:Ex),(c6K k i),(L6 most g n l))=(eX,FX,HX)) (k3:(decide ((i:Int) < (n:Int)))=false->((.exit 0:Ex),(c6K k i),(L6 most g n l))=(eX,FX,HX)):j6 (l9 Tryz.prog (X yG) (x9 Tryz.f121 0)) (some [0,3,6]) (some [0,3,6]) (c6K k i) (L6 most g n l) eX FX HX :=
 I9 (.r (.two (decide ((i:Int) < (n:Int))) (fun h1 h1'=>(.u5 (.io 13 1 g 10 10 0 n (i:Int) i (F8.mk _ ow ow) (.u3 (.t 16 (AV.agg (Key.row (nth l i).card.key)) (L6 most g n l) (H6 (D6 (row:=Entry.row) (l:=l) (k:=10) (room:=none) kr om) kr:K7 tt 28 0 (L6 most g n l) (rowAt (L6 most g n l) 1 g i)=some ((AV.agg (Key.row (nth l i).card.key)),(L6 most g n l))) (.u2 (.c 18 ((sP (nth l i).card.key k).lift kr kr (L6 most g n l)) (.g (.two (kI (nth l i).card.key k) (fun h2 h2'=>(.r (.y 1 (.int .i64 (cb_ i)) (iN (i+1)) Yes.o (.g (.l (k1 h1 h2)))))) (fun h2 h2'=>(.l (k2 h1 h2)))))))))))) (fun h1 h1'=>(.n6 (.n4 (.g (.n (.l (k3 h1)))))))))
theorem a6Z {p:Prop} (h:p:=by have:=of_decide_eq_true h1; omega):p:=h
theorem c0c (most:Int) (l:l9E) (k:Key) (g n:Nat) (hn:n=l.length) (hl:l.length < 1048576) (r:Nat):∀ (i:Nat),i+r=E9 l k ->
 j6 (l9 Tryz.prog (X yG) (x9 Tryz.f121 0)) (some [0,3,6]) (some [0,3,6]) (mkF 50 [(0,(oO 0 0 0 0)),(3,(AV.ref (Key.row k) 0)),(6,(iN i))]) [(o_ 0 2 [[(iI most),(AV.osl 1 g 10 0 n)]]),(o_ g 10 (mE l))] (.exit 0) (mkF 50 [(0,(oO 0 0 0 0)),(3,(AV.ref (Key.row k) 0)),(6,(iN ((E9 l k))))]) [(o_ 0 2 [[(iI most),(AV.osl 1 g 10 0 n)]]),(o_ g 10 (mE l))]:=by
 have hle:=X6 l k
 induction r with
 | zero =>
  intro i hi
  obtain rfl:i=E9 l k:=by omega
  refine a5P most l k g n (E9 l k) hn hl ow (fun h1 h2=>?_) (fun _ _=>rfl) (fun _=>rfl)
  rw [fU,a2e a6Z] at h2; simp at h2
 | succ r ih =>
  intro i hi
  refine a5P most l k g n i hn hl ow (fun _ _=>ih (i+1) ow) (fun _ h2=>?_) (fun h1=>?_)
  · rw [fU,a2d (show i < E9 l k by omega)] at h2; simp at h2
  · simp at h1; omega
@[simp] abbrev d4F (a:Key) (b:l9E):Fr:=(mkF 50 [(0,(oO 0 0 0 0)),(3,(AV.ref (Key.row a) 0)),(6,(iN ((E9 b a))))])
theorem b9Y (most:Int) (l:l9E) (k:Key) (g n:Nat) (hn:n=l.length) (hl:l.length < 1048576):AC 121 [(AV.obj 0 0 0 0),(AV.agg (Key.row k))] (L6 most g n l) ((AV.tup [(AV.int .i64 (((E9 l k):Nat):Int)),(AV.bool (A8 l k))]),(L6 most g n l)):=by
 have hle:=X6 l k
 exact r9 (fn:=Tryz.f121) (ann:=yG) (Has.o Tryz.func121) (.r (.s (.g (.loop (d4F k l) (c0c most l k g n hn hl (E9 l k) 0 ow) (.r (.two (decide ((((E9 l k):Nat):Int) < (n:Int))) (fun h1 h1'=>(.u5 (.io 14 1 g 10 10 0 n (((E9 l k):Nat):Int) (E9 l k) (F8.mk _ ow ow) (.u3 (.t 17 (AV.agg (Key.row (nth l (E9 l k)).card.key)) (L6 most g n l) (H6 (D6 (row:=Entry.row) (l:=l) (k:=10) (room:=none) kr om) kr:K7 tt 28 0 (L6 most g n l) (rowAt (L6 most g n l) 1 g (E9 l k))=some ((AV.agg (Key.row (nth l (E9 l k)).card.key)),(L6 most g n l))) (.u2 (.q 2 (AV.tup [(AV.int .i64 (((E9 l k):Nat):Int)),(AV.bool (Key.eqb (nth l (E9 l k)).card.key k))]) (by (try delta L6 bM); (have hb:A8 l k=Key.eqb (nth l (E9 l k)).card.key k:=by unfold A8; first | (simp_all; done) | (simp_all; omega) | (simp_all; intro h; omega)); rw [hb])))))))) (fun h1 h1'=>(.n6 (.n4 (.q 2 (AV.tup [(AV.int .i64 (((E9 l k):Nat):Int)),(AV.bool false)]) (by (try delta L6 bM); (have hb:A8 l k=false:=by unfold A8; first | (simp_all; done) | (simp_all; omega) | (simp_all; intro h; omega)); rw [hb])))))))))))
theorem nH (most:Int) (l:l9E) (k:Key) (g n:Nat) (hn:n=l.length) (hl:l.length < 1048576) (H:Heap):AC 121 [(oO 0 0 0 0),(AV.agg (Key.row k))] ((L6 most g n l)++H) ((AV.tup [(iN ((E9 l k))),(bB (A8 l k))]),(L6 most g n l)++H):=(b9Y most l k g n hn hl).ext kr kr ob ob kr H
def b8y:Ann:={ refs:=[3],base:=2,fin:=some 2 }
@[simp] abbrev d2J (a:Int) (b:Nat) (c:Nat) (d:l9E) (e:Entry):Heap:=[bM a b c,(o_ b 10 (mE (d.set (E9 d e.card.key) e)))]
theorem b3k (most:Int) (l:l9E) (e:Entry) (g n:Nat) (hn:n=l.length) (hl:l.length < 1048576) (hb:A8 l e.card.key=true):AC 69 [(oO 0 0 0 0),(AV.agg (Entry.row e))] (L6 most g n l) (z_,(d2J most g n l e)):=by
 have hle:=X6 l e.card.key
 have hlt:=jK hb
 exact r9 (fn:=Tryz.f69) (ann:=b8y) (Has.o Tryz.func69) (.r (.s (.c 4 (nH most l e.card.key g n oa oa []) (.s (.y 0 (bB (A8 l e.card.key)) bT (Yes.b (hb)) (.ru (.io 6 1 g 10 10 0 n (((E9 l e.card.key):Nat):Int) (E9 l e.card.key) (F8.mk _ ow ow) (.st 7 1 g (E9 l e.card.key) 10 0 (AV.agg (Entry.row e)) (d2J most g n l e) (Q5 (us:=(Entry.row e)) (D6 (row:=Entry.row) (l:=l) (k:=10) (room:=none) kr om) kr xC xB) (.g (.qr 2 z_))))))))))
def b0n:Ann:={ refs:=[3],base:=2,fin:=some 2 }
theorem a7N (most:Int) (l:l9E) (e:Entry) (g n:Nat) (hn:n=l.length) (hl:l.length < 1048576) (hb:A8 l e.card.key=false) (hm:most<=(n:Int)):AC 69 [(oO 0 0 0 0),(AV.agg (Entry.row e))] [(o_ 0 2 [[(iI most),(AV.osl 1 g 10 0 n)]]),(o_ g 10 (mE l))] ((iI 24),[(o_ 0 2 [[(iI most),(AV.osl 1 g 10 0 n)]]),(o_ g 10 (mE l))]):=by
 have hle:=X6 l e.card.key
 exact r9 (fn:=Tryz.f69) (ann:=b0n) (Has.o Tryz.func69) (.r (.s (.c 4 (nH most l e.card.key g n oa oa []) (.s (.y 0 (bB (A8 l e.card.key)) bF (Yes.b (hb)) (.rn (.y 9 (bB (decide ((n:Int) >= most))) bT (Yes.b om) (.g (.u (.qr 2 (iI 24)))))))))))
def b3j:Ann:={ refs:=[3],base:=2,fin:=some 2 }
theorem b0m (most:Int) (l:l9E) (e:Entry) (g n:Nat) (hn:n=l.length) (hl:l.length < 1048576) (hb:A8 l e.card.key=false) (hm:(n:Int) < most):AC 69 [(oO 0 0 0 0),(AV.agg (Entry.row e))] [(o_ 0 2 [[(iI most),(AV.osl 1 g 10 0 n)]]),(o_ g 10 (mE l))] (z_,[(o_ 0 2 [[(iI most),(AV.osl 1 (g+1) 10 0 (n+1))]]),(o_ (g+1) 10 (mE (l.take (E9 l e.card.key)++e :: l.drop (E9 l e.card.key))))]):=by
 have hle:=X6 l e.card.key
 exact r9 (fn:=Tryz.f69) (ann:=b3j) (Has.o Tryz.func69) (.r (.s (.c 4 (nH most l e.card.key g n oa oa []) (.s (.y 0 (bB (A8 l e.card.key)) bF (Yes.b (hb)) (.rn (.y 9 (bB (decide ((n:Int) >= most))) bF (Yes.b yg_) (.rn (.ch 8 [(o_ 0 2 [[(iI most),(AV.osl 1 g 10 0 n)]]),(o_ (g+1) 10 (mE (l.take (E9 l e.card.key)++e :: l.drop (E9 l e.card.key))))] (l6.pre (args:=[(AV.osl 1 g 10 0 n),(iN ((E9 l e.card.key))),(aJ e)]) (args':=[(AV.osl 1 g 10 0 n),(iN ((E9 l e.card.key))),(aJ e)]) (l6.put2 [1] [(o_ 0 2 [[(iI most),(AV.osl 1 g 10 0 n)]]),(o_ g 10 (mE l))] (AV.osl 1 (g+1) 10 0 (n+1)) [(o_ 0 2 [[(iI most),(AV.osl 1 g 10 0 n)]]),(o_ (g+1) 10 (mE (l.take (E9 l e.card.key)++e :: l.drop (E9 l e.card.key))))] (c2j l e g (E9 l e.card.key) n oa oa oa) (⟨Ob.ren0 (Entry.y8 0 _),trivial⟩) (⟨Ob.ren0 (Entry.y8 0 _),trivial⟩)) ⟨AV.j4 _,AV.j4 _,⟨rfl,rfl,.inl rfl⟩,trivial⟩) (.s (.g (.h' [(o_ 0 2 [[(iI most),(AV.osl 1 (g+1) 10 0 (n+1))]]),(o_ (g+1) 10 (mE (l.take (E9 l e.card.key)++e :: l.drop (E9 l e.card.key))))] (.q 2 z_)))))))))))))
def J2 (most:Int) (l:List Entry) (e:Entry):Int:=if A8 l e.card.key=true then 0 else if most<=(l.length:Int) then 24 else 0
def F6 (most:Int) (l:List Entry) (e:Entry):List Entry:=if A8 l e.card.key=true then l.set (E9 l e.card.key) e else if most<=(l.length:Int) then l else l.take (E9 l e.card.key)++e :: l.drop (E9 l e.card.key)
def H9 (most:Int) (l:List Entry) (e:Entry) (g:Nat):Nat:=if A8 l e.card.key=true then g else if most<=(l.length:Int) then g else g+1
theorem gM (most:Int) (l:l9E) (e:Entry):(F6 most l e).length<=l.length+1:=by
 have:=X6 l e.card.key
 unfold F6; split
 · simp
 · split
   · omega
   · simp; omega
theorem b8x {most:Int} {l:l9E} {e:Entry} (h:(l.length:Int)<=most):((F6 most l e).length:Int)<=most:=by
 have:=X6 l e.card.key
 unfold F6; split
 · simpa using h
 · split
   · exact h
   · simp; omega
def zE:Entry:=⟨⟨⟨⟨#[]⟩,⟨#[]⟩⟩,0,0,0,⟨0,0,0⟩,false⟩,0⟩
def K9 (l:List Entry) (k:Key):List Entry:=if A8 l k=true then l.take (E9 l k)++l.drop (E9 l k+1) else l
def l7 (l:List Entry) (k:Key):Entry:=if A8 l k=true then nth l (E9 l k) else zE
theorem a5R (l:l9E) (k:Key):(K9 l k).length<=l.length:=by
 unfold K9; split
 · simp; omega
 · omega
theorem c3A (most:Int) (l:l9E) (e:Entry) (g n:Nat) (hn:n=l.length) (hl:l.length < 1048576):AC 69 [(oO 0 0 0 0),(AV.agg (Entry.row e))] [(o_ 0 2 [[(iI most),(AV.osl 1 g 10 0 n)]]),(o_ g 10 (mE l))] ((iI (J2 most l e)),[(o_ 0 2 [[(iI most),(AV.osl 1 (H9 most l e g) 10 0 (List.length (F6 most l e)))]]),(o_ (H9 most l e g) 10 (mE (F6 most l e)))]):=by
 subst hn
 have hle:=X6 l e.card.key
 cases hb:A8 l e.card.key with
 | true =>
  have h1:J2 most l e=0:=by simp [J2,hb]
  have h2:F6 most l e=l.set (E9 l e.card.key) e:=by simp [F6,hb]
  have h3:H9 most l e g=g:=by simp [H9,hb]
  rw [h1,h2,h3,List.length_set]
  exact b3k most l e g l.length rfl hl hb
 | false =>
  by_cases hm:most<=(l.length:Int)
  · have h1:J2 most l e=24:=by simp [J2,hb,hm]
    have h2:F6 most l e=l:=by simp [F6,hb,hm]
    have h3:H9 most l e g=g:=by simp [H9,hb,hm]
    rw [h1,h2,h3]
    exact a7N most l e g l.length rfl hl hb hm
  · have h1:J2 most l e=0:=by simp [J2,hb,hm]
    have h2:F6 most l e=l.take (E9 l e.card.key)++e :: l.drop (E9 l e.card.key):=by simp [F6,hb,hm]
    have h3:H9 most l e g=g+1:=by simp [H9,hb,hm]
    have h4:(l.take (E9 l e.card.key)++e :: l.drop (E9 l e.card.key)).length=l.length+1:=by simp; omega
    rw [h1,h2,h3,h4]
    exact b0m most l e g l.length rfl hl hb ow
theorem a2Y (most:Int) (l:l9E) (e:Entry) (g n:Nat) (hn:n=l.length) (hl:l.length < 1048576) (H:Heap):AC 69 [(oO 0 0 0 0),(AV.agg (Entry.row e))] ((L6 most g n l)++H) ((iI (J2 most l e)),([(o_ 0 2 [[(iI most),(AV.osl 1 (H9 most l e g) 10 0 (List.length (F6 most l e)))]]),(o_ (H9 most l e g) 10 (mE (F6 most l e)))]:Heap)++H):=(c3A most l e g n hn hl).ext kr kr ob ob kr H
def b4B:Ann:={ refs:=[3],base:=2,fin:=some 2 }
@[simp] abbrev c8H (a:Nat) (b:l9E) (c:Key):Ob:=(o_ a 10 (mE (b.take (E9 b c)++b.drop ((E9 b c)+1))))
@[simp] abbrev d2I (a:Int) (b:Nat) (c:Nat) (d:l9E) (e:Key):Heap:=[(o_ 0 2 [[(iI a),(AV.osl 1 b 10 0 (c - 1))]]),c8H b d e]
@[simp] abbrev d2H (a:Int) (b:Nat) (c:Nat) (d:l9E) (e:Key):Heap:=[bM a b c,c8H b d e]
theorem b0K (most:Int) (l:l9E) (k:Key) (g n:Nat) (hn:n=l.length) (hl:l.length < 1048576) (hb:A8 l k=true):AC 136 [(oO 0 0 0 0),(AV.agg (Key.row k))] (L6 most g n l) (bT,(d2I most g n l k)):=by
 have hle:=X6 l k
 have hlt:=jK hb
 exact r9 (fn:=Tryz.f136) (ann:=b4B) (Has.o Tryz.func136) (.r (.s (.c 2 (nH most l k g n oa oa []) (.s (.y 0 (bB (A8 l k)) bT (Yes.b (hb)) (.ru (.y 7 (iW ((((E9 l k):Nat):Int)+1)) (iN ((E9 l k)+1)) Yes.o (.ch 8 (d2H most g n l k) (l6.put2 [1] (L6 most g n l) (AV.osl 1 g 10 0 (n - 1)) (d2H most g n l k) (c2n l g (E9 l k) n oa oa oa) (⟨Ob.ren0 (Entry.y8 0 _),trivial⟩) (⟨Ob.ren0 (Entry.y8 0 _),trivial⟩)) (.s (.h' (d2I most g n l k) (.y 0 (bB (A8 l k)) bT (Yes.b (hb)) (.q 2 bT))))))))))))
def b0J:Ann:={ refs:=[3],base:=2,fin:=some 2 }
theorem a8z (most:Int) (l:l9E) (k:Key) (g n:Nat) (hn:n=l.length) (hl:l.length < 1048576) (hb:A8 l k=false):AC 136 [(oO 0 0 0 0),(AV.agg (Key.row k))] (L6 most g n l) (bF,(L6 most g n l)):=by
 have hle:=X6 l k
 exact r9 (fn:=Tryz.f136) (ann:=b0J) (Has.o Tryz.func136) (.r (.s (.c 2 (nH most l k g n oa oa []) (.s (.y 0 (bB (A8 l k)) bF (Yes.b (hb)) (.rn (.y 0 (bB (A8 l k)) bF (Yes.b (hb)) (.q 2 bF))))))))
theorem c0r (most:Int) (l:l9E) (k:Key) (g n:Nat) (hn:n=l.length) (hl:l.length < 1048576):AC 136 [(oO 0 0 0 0),(AV.agg (Key.row k))] [(o_ 0 2 [[(iI most),(AV.osl 1 g 10 0 n)]]),(o_ g 10 (mE l))] ((bB (A8 l k)),[(o_ 0 2 [[(iI most),(AV.osl 1 g 10 0 (List.length (K9 l k)))]]),(o_ g 10 (mE (K9 l k)))]):=by
 subst hn
 have hle:=X6 l k
 cases hb:A8 l k with
 | true =>
  have hlt:=jK hb
  have h2:K9 l k=l.take (E9 l k)++l.drop (E9 l k+1):=by simp [K9,hb]
  have h4:(l.take (E9 l k)++l.drop (E9 l k+1)).length=l.length - 1:=by simp; omega
  rw [h2,h4]
  exact b0K most l k g l.length rfl hl hb
 | false =>
  have h2:K9 l k=l:=by simp [K9,hb]
  rw [h2]
  exact a8z most l k g l.length rfl hl hb
theorem drop_at (most:Int) (l:l9E) (k:Key) (g n:Nat) (hn:n=l.length) (hl:l.length < 1048576) (H:Heap):AC 136 [(oO 0 0 0 0),(AV.agg (Key.row k))] ((L6 most g n l)++H) ((bB (A8 l k)),([(o_ 0 2 [[(iI most),(AV.osl 1 g 10 0 (List.length (K9 l k)))]]),(o_ g 10 (mE (K9 l k)))]:Heap)++H):=(c0r most l k g n hn hl).ext kr kr ob ob kr H
def b9V:Ann:={ refs:=[3],base:=2,fin:=some 2 }
@[simp] abbrev a3X :Ob:=(o_ 0 10 [[e_,e_,z_,z_,z_,z_,z_,z_,bF,z_]])
@[simp] abbrev d2G :Heap:=[a3X]
@[simp] abbrev tO (a:Int) (b:Nat) (c:Nat) (d:l9E):Heap:=[bM a b c,(o_ b 10 (mE d)),a3X]
@[simp] abbrev d1y (a:l9E) (b:Key):=(AV.tup [(AV.agg (Entry.row (nth a (E9 a b)))),bT])
theorem b4j (most:Int) (l:l9E) (k:Key) (g n:Nat) (hn:n=l.length) (hl:l.length < 1048576) (hb:A8 l k=true):AC 66 [(oO 0 0 0 0),(AV.agg (Key.row k))] (L6 most g n l) ((d1y l k),(L6 most g n l)):=by
 have hle:=X6 l k
 have hlt:=jK hb
 exact r9 (fn:=Tryz.f66) (ann:=b9V) (Has.o Tryz.func66) (.r (.s (.c 2 (nH most l k g n oa oa d2G) (.s (.h' (tO most g n l) (.y 1 (bB (!(A8 l k))) bF (Yes.b (by rw [hb]; rfl)) (.rn (.io 5 1 g 10 10 0 n (((E9 l k):Nat):Int) (E9 l k) (F8.mk _ ow ow) (.t 6 (AV.agg (Entry.row (nth l (E9 l k)))) (tO most g n l) (H6 (D6 (row:=Entry.row) (l:=l) (k:=10) (room:=none) kr om) kr:K7 tt 93 0 (tO most g n l) (rowAt (tO most g n l) 1 g (E9 l k))=some ((AV.agg (Entry.row (nth l (E9 l k)))),(tO most g n l))) (.g (.h' (L6 most g n l) (.q 2 (d1y l k)))))))))))))
def b4i:Ann:={ refs:=[3],base:=2,fin:=some 2 }
theorem b0E (most:Int) (l:l9E) (k:Key) (g n:Nat) (hn:n=l.length) (hl:l.length < 1048576) (hb:A8 l k=false):AC 66 [(oO 0 0 0 0),(AV.agg (Key.row k))] (L6 most g n l) ((AV.tup [(AV.agg (Entry.row zE)),bF]),(L6 most g n l)):=by
 have hle:=X6 l k
 exact r9 (fn:=Tryz.f66) (ann:=b4i) (Has.o Tryz.func66) (.r (.s (.c 2 (nH most l k g n oa oa d2G) (.s (.h' (tO most g n l) (.y 1 (bB (!(A8 l k))) bT (Yes.b (by rw [hb]; rfl)) (.ru (.g (.h' (L6 most g n l) (.q 2 (AV.tup [(AV.agg [e_,e_,z_,z_,z_,z_,z_,z_,bF,z_]),bF])))))))))))
theorem c4K (most:Int) (l:l9E) (k:Key) (g n:Nat) (hn:n=l.length) (hl:l.length < 1048576):AC 66 [(oO 0 0 0 0),(AV.agg (Key.row k))] [(o_ 0 2 [[(iI most),(AV.osl 1 g 10 0 n)]]),(o_ g 10 (mE l))] ((AV.tup [(AV.agg (Entry.row (l7 l k))),(bB (A8 l k))]),[(o_ 0 2 [[(iI most),(AV.osl 1 g 10 0 n)]]),(o_ g 10 (mE l))]):=by
 cases hb:A8 l k with
 | true =>
  have h2:l7 l k=nth l (E9 l k):=by simp [l7,hb]
  rw [h2]
  exact b4j most l k g n hn hl hb
 | false =>
  have h2:l7 l k=zE:=by simp [l7,hb]
  rw [h2]
  exact b0E most l k g n hn hl hb
theorem get_at (most:Int) (l:l9E) (k:Key) (g n:Nat) (hn:n=l.length) (hl:l.length < 1048576) (H:Heap):AC 66 [(oO 0 0 0 0),(AV.agg (Key.row k))] ((L6 most g n l)++H) ((AV.tup [(AV.agg (Entry.row (l7 l k))),(bB (A8 l k))]),(L6 most g n l)++H):=(c4K most l k g n hn hl).ext kr kr ob ob kr H
def c2T:Ann:={ base:=2,fin:=some 2 }
theorem b7U (most:Int) (l:l9E) (g n:Nat) :AC 21 [(oO 0 0 0 0)] (L6 most g n l) ((iN n),(L6 most g n l)) :=
 r9 (fn:=Tryz.f21) (ann:=c2T) (Has.o Tryz.func21) (.r (.g (.qr 2 (iN n))))
def b1b:Ann:={ gha:=[(2,.vir 2 10)],fin:=some 1 }
theorem a8S  :AC 183 [(AV.sl .nil 0 [])] [] ((AV.osl 0 0 10 0 0),[(o_ 0 10 (mE []))]) :=
 r9 (fn:=Tryz.f183) (ann:=b1b) (Has.o Tryz.func183) (.r (.s (.ru (.g (.h' [(o_ 0 10 (mE []))] (.q 1 (AV.osl 0 0 10 0 0)))))))
def b1a:Ann:={ own:=[7],fin:=some 1 }
theorem a8R (l:l9E) (hl:l.length < 1099511627776):AC 183 [(AV.sl .op 10 (mE l))] [] ((AV.osl 0 0 10 0 l.length),[(o_ 0 10 (mE l))]) :=
 r9 (fn:=Tryz.f183) (ann:=b1a) (Has.o Tryz.func183) (.r (.s (.rn (.ao 2 89 (AV.sl .clip 10 []) (AV.sl .op 10 (mE l)) (AV.osl 0 0 10 0 l.length) [(o_ 0 10 (mE l))] (aY (T:=tt) (e:=93) (te:=jG) (z:=1) (b:=24) (y:=[.sl .nil 0 []]) (row:=Entry.row) kr kr rfl E5 E5 ye_ bH rfl rfl rfl om) (.q 1 (AV.osl 0 0 10 0 l.length))))))
theorem b0Z (l:l9E) (hl:l.length < 1099511627776):AC 183 [(sA 10 (mE l))] [] ((AV.osl 0 0 10 0 l.length),[(o_ 0 10 (mE l))]):=l6.a3f (fun h=>by
 have h2:l=[]:=by simpa using h
 subst h2; exact a8S) (a8R l hl)
def c2Y:Ann:={ gha:=[(1,.frz 2)],base:=2,fin:=some 2 }
@[simp] abbrev d2F (a:Int) (b:Nat) (c:Nat) (d:l9E):Heap:=[bM a b c,(o_ b 10 (mE d)),(o_ 0 10 (mE d))]
theorem a6Y {p:Prop} (h:p:=by first | omega | (simp [List.length_set]; done) | (simp [List.length_set]; omega)):p:=h
theorem b8f (most:Int) (l:l9E) (g n:Nat) (hn:n=l.length) (hl:l.length < 1048576):AC 134 [(oO 0 0 0 0)] (L6 most g n l) ((sA 10 (mE l)),(L6 most g n l)) :=
 r9 (fn:=Tryz.f134) (ann:=c2Y) (Has.o Tryz.func134) (.r (.s (.ch 4 (d2F most g n l) (l6.qY (args:=[(sA 10 (mE l))]) (args':=[(AV.osl 1 g 10 0 n)]) (H:=(L6 most g n l)) (b0Z l oa) (qK (fun _=>rfl) _) (show Brs (L6 most g n l) [(AV.osl 1 g 10 0 n)] [(sA 10 (mE l))] from ⟨Br.osl (G8 (room:=none) kr a6Y) (Entry.y8 _ _),trivial⟩)) (.w' 2 (mE l) (And.intro (G8 (room:=none) kr om) (Entry.y8 _ _):G6 (d2F most g n l) 10 (AV.osl 2 0 10 0 l.length)=some (mE l)/\AV.D7 0 (mE l)=true) (.g (.h' (L6 most g n l) (.q 2 (sA 10 (mE l)))))))))
theorem b1q (most:Int) (l:l9E) (g n:Nat) (hn:n=l.length) (hl:l.length < 1048576) (H:Heap):AC 134 [(oO 0 0 0 0)] ((L6 most g n l)++H) ((sA 10 (mE l)),(L6 most g n l)++H):=(b8f most l g n hn hl).ext kr kr ob ob kr H
def aK (l:List Entry):Nat:=l.foldl (fun s e=>if (!e.card.gone)=true then s+1 else s) 0
theorem c4O {α β:Type} (f:α->β) (l:List α):∀ (out:List β) (k g:Nat),l.foldl (fun (s:List β × Nat × Nat) c=>(s.1++[f c],s.2.1+1,s.2.2+1)) (out,k,g)=(out++l.map f,k+l.length,g+l.length):=by
 induction l with
 | nil=>intro out k g; simp
 | cons c l ih=>intro out k g; rw [List.foldl_cons,ih]; simp; omega
def zW:Ann:={ gha:=[(7,.cut 2)],base:=2,fin:=some 2,live:=[(3,[3,9,10,11])],out:=[(3,[3,9,10,11])] }
@[simp] abbrev b6U (a:Nat) (b:Nat) (c:Nat) (d:Nat):Fr:=(mkF 23 [(3,(iN a)),(9,(AV.osl 1 b 10 0 c)),(10,(iN c)),(11,(iN d))])
@[simp] abbrev c8J (a:Int) (b:Nat) (c:Nat) (d:l9E) (e:Nat):Heap:=[bM a b c,(o_ b 10 (mE d)),(o_ 0 10 [(Entry.row (nth d e))])]
@[simp] abbrev c5T :=(l9 Tryz.prog (X zW) (x9 Tryz.f132 0))
theorem a2D (most:Int) (l:l9E) (g:Nat) (n:Nat) (k:Nat) (i:Nat) (hn:n=l.length) (hl:l.length < 1048576) (hk:k<=i) (hle_:i<=n) {eX:Ex} {FX:Fr} {HX:Heap} (k1:(decide ((i:Int) < (n:Int)))=true->(!(nth l i).card.gone)=true->j6 c5T (some [3,9,10,11]) (some [3,9,10,11]) (mkF 23 [(3,(iN (k+1))),(9,(AV.osl 1 g 10 0 n)),(10,(iN n)),(11,(iN (i+1)))]) (L6 most g n l) eX FX HX) (k2:(decide ((i:Int) < (n:Int)))=true->(!(nth l i).card.gone)=false->j6 c5T (some [3,9,10,11]) (some [3,9,10,11]) (mkF 23 [(3,(iN k)),(9,(AV.osl 1 g 10 0 n)),(10,(iN n)),(11,(iN (i+1)))]) (L6 most g n l) eX FX HX) (k3:(decide ((i:Int) < (n:Int)))=false->((.exit 0:Ex),(b6U k g n i),(L6 most g n l))=(eX,FX,HX)):j6 c5T (some [3,9,10,11]) (some [3,9,10,11]) (b6U k g n i) (L6 most g n l) eX FX HX :=
 I9 (.r (.g (.two (decide ((i:Int) < (n:Int))) (fun h1 h1'=>(.r (.h' (tO most g n l) (.io 0 1 g 10 10 0 n (i:Int) i (F8.mk _ ow ow) (.t 1 (cl_ l i) (tO most g n l) (H6 (D6 (row:=Entry.row) (l:=l) (k:=10) (room:=none) kr om) kr:K7 tt 93 0 (tO most g n l) (rowAt (tO most g n l) 1 g i)=some ((cl_ l i),(tO most g n l))) (.s (.g (.two (!(nth l i).card.gone) (fun h2 h2'=>(.r (.h' (c8J most g n l i) (.y 1 (.int .i64 (cb_ k)) (iN (k+1)) Yes.o (.s (.y 0 (.int .i64 (cb_ i)) (iN (i+1)) Yes.o (.h' (L6 most g n l) (.b 2 (.g (.l (k1 h1 h2))))))))))) (fun h2 h2'=>(.r (.h' (c8J most g n l i) (.y 0 (.int .i64 (cb_ i)) (iN (i+1)) Yes.o (.h' (L6 most g n l) (.b 2 (.g (.l (k2 h1 h2))))))))))))))))) (fun h1 h1'=>(.l (k3 h1))))))
def wD (most:Int) (l:List Entry) (g:Nat) (n:Nat) (i:Nat) (s:Nat):Nat:=(if (!(nth l i).card.gone)=true then (s+1) else (s))
theorem U2 {p:Prop} (h:p:=by first | omega | assumption | (simp; done) | (simp; omega) | (simp [*]; done) | (simp [*]; omega)):p:=h
theorem b2y (most:Int) (l:l9E) (g:Nat) (n:Nat) (hn:n=l.length) (hl:l.length < 1048576)  (r_:Nat):∀ (k:Nat) (i:Nat) (sF:Nat),i+r_=n->k<=i->sF=iter (wD most l g n) r_ i (k) ->
 j6 (l9 Tryz.prog (X zW) (x9 Tryz.f132 0)) (some [3,9,10,11]) (some [3,9,10,11]) (b6U k g n i) (L6 most g n l) (.exit 0) (mkF 23 [(3,(iN sF)),(9,(AV.osl 1 g 10 0 n)),(10,(iN n)),(11,(iN n))]) (L6 most g n l):=by
 induction r_ with
 | zero =>
  intro k i sF hi_ hk  hF
  obtain rfl:n=i:=by omega
  have e_:sF=(k):=hF
  refine a2D most l g n k n hn hl hk (Nat.le_refl _) (fun h _=>by simp at h <;> omega) (fun h _=>by simp at h <;> omega) (fun _=>?_)
  first | done | rfl | (rw [e_]; done) | (rw [e_]; rfl)
 | succ r_ ih =>
  intro k i sF hi_ hk  hF
  refine a2D most l g n k i hn hl hk ow (fun h1 h2=>?_) (fun h1 h2=>?_) (fun h=>by simp at h <;> omega)
  · exact ih (k+1) (i+1) sF ow U2  (by rw [hF] <;> simp only [iter,wD,h2,if_true,Bool.false_eq_true,if_false])
  · exact ih k (i+1) sF ow U2  (by rw [hF] <;> simp only [iter,wD,h2,if_true,Bool.false_eq_true,if_false])
theorem b3J (most:Int) (l:l9E) (g:Nat):aK l=iter (wD most l g l.length) l.length 0 0:=by
 rw [dX (wD most l g l.length) (fun s e=>if (!e.card.gone)=true then s+1 else s) l (fun i s hi=>rfl)]; rfl
attribute [local irreducible] aK
@[simp] abbrev d3Q (a:l9E) (b:Nat) (c:Nat):Fr:=(mkF 23 [(3,(iN ((aK a)))),(9,(AV.osl 1 b 10 0 c)),(10,(iN c)),(11,(iN c))])
theorem b2x (most:Int) (l:l9E) (g n:Nat) (hn:n=l.length) (hl:l.length < 1048576):AC 132 [(oO 0 0 0 0)] (L6 most g n l) ((iN ((aK l))),(L6 most g n l)) :=
 r9 (fn:=Tryz.f132) (ann:=zW) (Has.o Tryz.func132) (.r (.s (.s (.g (.loop (d3Q l g n) (b2y most l g n hn hl n 0 0 (aK l) ow ow (by subst hn; exact b3J most l g)) (.qr 2 (iN ((aK l)))))))))
theorem c2S (most:Int) (l:l9E) (g n:Nat) (hn:n=l.length) (hl:l.length < 1048576) (H:Heap):AC 132 [(oO 0 0 0 0)] ((L6 most g n l)++H) ((iN ((aK l))),(L6 most g n l)++H):=(b2x most l g n hn hl).ext kr kr ob ob kr H
def qJ:Ann:={ gha:=[(1,.vir 3 9),(6,.cut 3),(7,.frz 2)],base:=2,fin:=some 2,live:=[(3,[3,9,10,11])],out:=[(3,[3,9,10,11])] }
@[simp] abbrev c8I (a:Int) (b:Nat) (c:Nat) (d:l9E) (e:Nat) (f:l9C) (g:Nat):Heap:=[bM a b c,(o_ b 10 (mE d)),(o_ (e+1) 9 (mC (f++[(nth d g).card])))]
@[simp] abbrev b6T (a:Nat) (b:Nat) (c:Nat) (d:Nat) (e:Nat):Fr:=(mkF 22 [(3,(AV.osl 2 a 9 0 b)),(9,(AV.osl 1 c 10 0 d)),(10,(iN d)),(11,(iN e))])
@[simp] abbrev b6S (a:Int) (b:Nat) (c:Nat) (d:l9E) (e:Nat) (f:l9C):Heap:=[bM a b c,(o_ b 10 (mE d)),(o_ e 9 (mC f))]
@[simp] abbrev a3Y (a:Int) (b:Nat) (c:Nat) (d:l9E) (e:Nat) (f:l9C):Heap:=[bM a b c,(o_ b 10 (mE d)),(o_ e 9 (mC f)),a3X]
theorem a1o (most:Int) (l:l9E) (g:Nat) (n:Nat) (out:l9C) (k:Nat) (h:Nat) (i:Nat) (hn:n=l.length) (hl:l.length < 1048576) (hk:k=out.length) (hki:k<=i) (hle_:i<=n) {eX:Ex} {FX:Fr} {HX:Heap} (k1:(decide ((i:Int) < (n:Int)))=true->j6 (l9 Tryz.prog (X qJ) (x9 Tryz.f18 0)) (some [3,9,10,11]) (some [3,9,10,11]) (mkF 22 [(3,(AV.osl 2 (h+1) 9 0 (k+1))),(9,(AV.osl 1 g 10 0 n)),(10,(iN n)),(11,(iN (i+1)))]) (c8I most g n l h out i) eX FX HX) (k2:(decide ((i:Int) < (n:Int)))=false->((.exit 0:Ex),(b6T h k g n i),(b6S most g n l h out))=(eX,FX,HX)):j6 (l9 Tryz.prog (X qJ) (x9 Tryz.f18 0)) (some [3,9,10,11]) (some [3,9,10,11]) (b6T h k g n i) (b6S most g n l h out) eX FX HX :=
 I9 (.r (.g (.two (decide ((i:Int) < (n:Int))) (fun h1 h1'=>(.r (.h' (a3Y most g n l h out) (.io 0 1 g 10 10 0 n (i:Int) i (F8.mk _ ow ow) (.t 1 (cl_ l i) (a3Y most g n l h out) (H6 (D6 (row:=Entry.row) (l:=l) (k:=10) (room:=none) kr om) kr:K7 tt 93 0 (a3Y most g n l h out) (rowAt (a3Y most g n l h out) 1 g i)=some ((cl_ l i),(a3Y most g n l h out))) (.s (.h' [(o_ 0 2 (qF most g n)),(o_ g 10 (mE l)),(o_ h 9 (mC out)),(o_ 0 10 [(Entry.row (nth l i))])] (.ap 4 30 (AV.osl 2 h 9 0 k) (AV.sl .clip 9 [(j5.row (nth l i).card)]) (AV.osl 2 (h+1) 9 0 (k+1)) [(o_ 0 2 (qF most g n)),(o_ g 10 (mE l)),(o_ (h+1) 9 (mC (out++[(nth l i).card]))),(o_ 0 10 [(Entry.row (nth l i))])] (G7 (row:=j5.row) (l:=out) (x:=(nth l i).card) (T:=tt) (e:=50) (te:=dB) (z:=1) (b:=24) (y:=[.sl .nil 0 []]) kr kr rfl E5 E5 kr Y5 rfl rfl jF) (.s (.y 0 (.int .i64 (cb_ i)) (iN (i+1)) Yes.o (.h' (c8I most g n l h out i) (.b 3 (.g (.l (k1 h1))))))))))))))) (fun h1 h1'=>(.l (k2 h1))))))
def xI (most:Int) (l:List Entry) (g:Nat) (n:Nat) (i:Nat) (s:(List j5) × Nat × Nat):(List j5) × Nat × Nat:=(s.1++[(nth l i).card],(s.2.1+1),(s.2.2+1))
theorem b0b (most:Int) (l:l9E) (g:Nat) (n:Nat) (hn:n=l.length) (hl:l.length < 1048576)  (r_:Nat):∀ (out:l9C) (k:Nat) (h:Nat) (i:Nat) (sF:(l9C) × Nat × Nat),i+r_=n->k=out.length->k<=i->sF=iter (xI most l g n) r_ i (out,k,h) ->
 j6 (l9 Tryz.prog (X qJ) (x9 Tryz.f18 0)) (some [3,9,10,11]) (some [3,9,10,11]) (b6T h k g n i) (b6S most g n l h out) (.exit 0) (mkF 22 [(3,(AV.osl 2 sF.2.2 9 0 sF.2.1)),(9,(AV.osl 1 g 10 0 n)),(10,(iN n)),(11,(iN n))]) [(o_ 0 2 [[(iI most),(AV.osl 1 g 10 0 n)]]),(o_ g 10 (mE l)),(o_ sF.2.2 9 (mC sF.1))]:=by
 induction r_ with
 | zero =>
  intro out k h i sF hi_ hk hki  hF
  obtain rfl:n=i:=by omega
  have e_:sF=(out,k,h):=hF
  refine a1o most l g n out k h n hn hl hk hki (Nat.le_refl _) (fun h=>by simp at h <;> omega) (fun _=>?_)
  first | done | rfl | (rw [e_]; done) | (rw [e_]; rfl)
 | succ r_ ih =>
  intro out k h i sF hi_ hk hki  hF
  refine a1o most l g n out k h i hn hl hk hki ow (fun h1=>?_) (fun h=>by simp at h <;> omega)
  · exact ih (out++[(nth l i).card]) (k+1) (h+1) (i+1) sF ow U2 U2  (by rw [hF] <;> simp only [iter,xI,if_true,Bool.false_eq_true,if_false])
theorem b0c (most:Int) (l:l9E) (g:Nat):(l.map (·.card),l.length,l.length)=iter (xI most l g l.length) l.length 0 ([],0,0):=by
 rw [dX (xI most l g l.length) (fun s e=>(s.1++[e.card],s.2.1+1,s.2.2+1)) l (fun i s hi=>rfl),c4O (fun e:Entry=>e.card)]; simp
@[simp] abbrev d3P (a:l9E) (b:Nat) (c:Nat):Fr:=(mkF 22 [(3,(AV.osl 2 a.length 9 0 a.length)),(9,(AV.osl 1 b 10 0 c)),(10,(iN c)),(11,(iN c))])
@[simp] abbrev d3O (a:Int) (b:Nat) (c:Nat) (d:l9E):Heap:=[bM a b c,(o_ b 10 (mE d)),(o_ d.length 9 (mC (d.map (·.card))))]
theorem a1p (most:Int) (l:l9E) (g n:Nat) (hn:n=l.length) (hl:l.length < 1048576):AC 18 [(oO 0 0 0 0)] (L6 most g n l) ((sA 9 (mC (l.map (·.card)))),(L6 most g n l)) :=
 r9 (fn:=Tryz.f18) (ann:=qJ) (Has.o Tryz.func18) (.r (.s (.s (.g (.loop (d3P l g n) (b0b most l g n hn hl n [] 0 0 0 (l.map (·.card),l.length,l.length) ow rfl ow (by subst hn; exact b0c most l g)) (.r (.w' 2 (mC (l.map (·.card))) (And.intro (G8 (room:=none) kr om) (j5.y8 _ _):G6 (d3O most g n l) 9 (AV.osl 2 l.length 9 0 l.length)=some (mC (l.map (·.card)))/\AV.D7 0 (mC (l.map (·.card)))=true) (.g (.h' (L6 most g n l) (.q 2 (sA 9 (mC (l.map (·.card))))))))))))))
theorem fB (most:Int) (l:l9E) (g n:Nat) (hn:n=l.length) (hl:l.length < 1048576) (H:Heap):AC 18 [(oO 0 0 0 0)] ((L6 most g n l)++H) ((sA 9 (mC (l.map (·.card)))),(L6 most g n l)++H):=(a1p most l g n hn hl).ext kr kr ob ob kr H
end Go.Proofs.YtmghjcbabebanaaGreat.AM
namespace Go.Proofs.YtmghjcbabebanaaGreat.AM
open Go
theorem l6.a7c {P:Program} {f:FuncId} {args:List AV} {a:AV} {k k0:Nat} (h:l6 P f args [] (.obj 0 0 0 0,[⟨0,2,[[a,.sl .nil k0 []]],none⟩])):l6 P f args [] (.obj 0 0 0 0,[⟨0,2,[[a,.osl 1 0 k 0 0]],none⟩,⟨0,k,[],none⟩]) :=
 h.b9S fun G w C v hH hv=>mM (id:=0) (e:=0) (c:=1) (k0:=k0) (o:=⟨0,2,[[a,.sl .nil k0 []]],none⟩) hH k rfl ye_ ye_ rfl hv (VR.shows hv (id:=0) (g:=0) (.inl ⟨_,_,rfl⟩) (by simpa using hH.gen 0 _ rfl))
open Go.Proofs.YtmghjcbabebanaaGreat
attribute [local irreducible] A8 C9 D8 D9 E9 F3 F5 F6 H9 I4 J2 J6 K8 K9 N9 P6 R9 Tp.H7 Tp.J8 Tp.card Tp.cards Tp.key Tp.keyT Tp.next Tp.step aK cmpL j6 l6 l7 l9 sink y5
def q9 (most:Int):Int:=max 0 (min most 32)
def c3G:Ann:={ fin:=some 1 }
@[simp] abbrev d4E (a:Int):Heap:=[(o_ 0 2 [[(iI (q9 a)),(AV.sl .nil 0 [])]])]
theorem b8L (most:Int) :AC 47 [(iI most)] [] ((oO 0 0 0 0),(d4E most)) :=
 r9 (fn:=Tryz.f47) (ann:=c3G) (Has.o Tryz.func47) (.r (.s (.y 1 (.int .i64 (if 32 < most then 32 else most)) (iI (min most 32)) (Yes.int yv_) (.y 2 (.int .i64 (if (min most 32) > 0 then (min most 32) else 0)) (iI (max 0 (min most 32))) (Yes.int yv_) (.g (.h' [(o_ 0 2 [[(iI (max 0 (min most 32))),(AV.sl .nil 0 [])]])] (.q 1 (oO 0 0 0 0))))))))
theorem b7O (most:Int) :AC 47 [(iI most)] [] ((oO 0 0 0 0),[(o_ 0 2 [[(iI (q9 most)),(AV.osl 1 0 10 0 0)]]),(o_ 0 10 (mE []))]):=(b8L most).a7c
section
variable {G:Nat->Prop} {w:World} {C:Cx} {H:Heap}
end
end Go.Proofs.YtmghjcbabebanaaGreat.AM
namespace Go.Proofs.YtmghjcbabebanaaGreat.AM
open Go
theorem l6.c9n {P:Program} {f:FuncId} {k n e g m:Nat} {els ys:List (List AV)} (h:l6 P f [.sl .any k ys] [] (.osl 0 0 k 0 m,[⟨0,k,ys,none⟩])) (hs:AV.zY ys=true) (hy:AV.D7 1 ys=true)
 (hb:Brs [⟨g,k,els,none⟩] [.osl 0 g k e n] [.sl .any k ys]):l6 P f [.osl 0 g k e n] [⟨g,k,els,none⟩] (.osl 0 (g+1) k 0 m,[⟨g+1,k,ys,none⟩]):=by
 have h0:=h.qY hs hb
 have h1:=h0.ghost (i:=0) (id:=0) (g:=g) (x:=.osl 0 g k e n) (a':=.osl 0 (g+1) k 0 m) (H2:=[⟨g+1,k,ys,none⟩]++[⟨1,k,[],none⟩]) rfl (.inr ⟨_,_,_,rfl⟩) rfl rfl rfl rfl
  fun G w C v hH hv hl=>a1n (id:=0) (j:=1) (g:=g) (gj:=0) hH E5 rfl rfl rfl rfl hv hl
 refine h1.forget rfl rfl fun id o ho=>.inr ?_
 cases id with
 | zero =>
  simp only [List.getElem?_cons_zero,Option.some.injEq] at ho
  subst ho
  exact hy
 | succ id=>simp at ho
theorem F8.mko {id g k n e0:Nat} {i:Int} {j:Nat} (m:Nat) (H:Heap) (hi:i=(m:Int)) (hj:m < n) (he:j=e0+m):F8 id g k k e0 n i H j:=by
 subst hi he
 have:(m:Int) < (n:Int):=by omega
 simp [F8,this]
open Go.Proofs.YtmghjcbabebanaaGreat
attribute [local irreducible] F5 J6 M6 dY j6 l5 l6 l9
def b0Y:Ann:={ gha:=[(2,.vir 2 2)],fin:=some 1 }
theorem a8Q  :AC 169 [(AV.sl .nil 0 [])] [] ((AV.osl 0 0 2 0 0),[(o_ 0 2 (mK []))]) :=
 r9 (fn:=Tryz.f169) (ann:=b0Y) (Has.o Tryz.func169) (.r (.s (.ru (.g (.h' [(o_ 0 2 (mK []))] (.q 1 (AV.osl 0 0 2 0 0)))))))
def b0X:Ann:={ own:=[7],fin:=some 1 }
theorem a8P (l:l9K) (hl:l.length < 1099511627776):AC 169 [(AV.sl .op 2 (mK l))] [] ((AV.osl 0 0 2 0 l.length),[(o_ 0 2 (mK l))]) :=
 r9 (fn:=Tryz.f169) (ann:=b0X) (Has.o Tryz.func169) (.r (.s (.rn (.ao 2 31 (AV.sl .clip 2 []) (AV.sl .op 2 (mK l)) (AV.osl 0 0 2 0 l.length) [(o_ 0 2 (mK l))] (aY (T:=tt) (e:=28) (te:=a4g) (z:=1) (b:=24) (y:=[.sl .nil 0 []]) (row:=Key.row) kr kr rfl E5 E5 ye_ bH rfl rfl rfl om) (.q 1 (AV.osl 0 0 2 0 l.length))))))
theorem b0W (l:l9K) (hl:l.length < 1099511627776):AC 169 [(sA 2 (mK l))] [] ((AV.osl 0 0 2 0 l.length),[(o_ 0 2 (mK l))]):=l6.a3f (fun h=>by
 have h2:l=[]:=by simpa using h
 subst h2; exact a8Q) (a8P l hl)
theorem a8O (l:l9K) (g e n:Nat) (hn:e+n=l.length) (hl:l.length < 1099511627776):AC 169 [(AV.osl 0 g 2 e n)] [(o_ g 2 (mK l))] ((AV.osl 0 (g+1) 2 0 n),[(o_ (g+1) 2 (mK (l.drop e)))]):=by
 have h:=b0W (l.drop e) c2t
 have e1:(l.drop e).length=n:=by rw [List.length_drop]; omega
 rw [e1] at h
 have e2:((l.map Key.row).drop e).take n=(l.drop e).map Key.row:=by rw [List.map_drop]; exact List.take_of_length_le (by rw [List.length_drop,List.length_map]; omega)
 exact l6.c9n h (qK (fun x=>rfl) _) (Key.y8 _ _) ⟨.osl (by simp [G6,hn,e2]) (Key.y8 _ _),trivial⟩
def c9g:Ann:={ base:=2,fin:=some 2 }
@[simp] abbrev c5S (a:l9K) (b:Nat):=[[(iN ((List.length a))),(AV.osl 1 b 2 0 (List.length (l5 a)))]]
@[simp] abbrev b6M (a:l9K) (b:Nat):Heap:=[(o_ 0 2 (c5S a b)),(o_ b 2 (mK (l5 a)))]
theorem c2V (al:l9K) (g:Nat) :AC 101 [(oO 0 0 0 0)] (b6M al g) ((iN al.length),(b6M al g)) :=
 r9 (fn:=Tryz.f101) (ann:=c9g) (Has.o Tryz.func101) (.r (.g (.qr 2 (iN ((List.length al))))))
def c3y:Ann:={ refs:=[3],own:=[19],base:=2,fin:=some 2 }
@[simp] abbrev d2u (a:l9K) (b:Key) (c:Nat):Heap:=[(o_ 0 2 [[(iN ((List.length (a++[b])))),(AV.osl 1 (c+1+1) 2 0 (List.length (l5 (a++[b]))))]]),(o_ (c+1+1) 2 (mK (l5 (a++[b]))))]
@[simp] abbrev b6L (a:l9K) (b:Nat):Ob:=(o_ 0 2 [[(iN ((List.length a)+1)),(AV.osl 1 (b+1) 2 0 ((List.length (l5 a))+1))]])
@[simp] abbrev c6F (a:l9K) (b:Nat) (c:Key):Heap:=[b6L a b,(o_ (b+1) 2 (mK ((l5 a)++[c])))]
@[simp] abbrev c6E (a:l9K) (b:Nat) (c:Key):Heap:=[b6L a b,(o_ ((b+1)+1) 2 (mK (((l5 a)++[c]).drop (((List.length (l5 a))+1) - 16))))]
theorem b8r (al:l9K) (k:Key) (g:Nat) (ha:al.length < 1000000):AC 125 [(AV.obj 0 0 0 0),(AV.agg (Key.row k))] (b6M al g) ((AV.int .i64 (((al++[k]).length:Nat):Int)),(d2u al k g)):=by
 have hr:=xM al
 have h1:=c3u al k
 have h2:(l5 al).length+1 - ((l5 al).length+1 - 16)=(l5 (al++[k])).length:=by rw [<- h1]; simp
 exact r9 (fn:=Tryz.f125) (ann:=c3y) (Has.o Tryz.func125) (.r (.s (.y 4 (iW ((((List.length al):Nat):Int)+1)) (AV.int .i64 (((List.length al)+1:Nat):Int)) Yes.o (.s (.h' [(o_ 0 2 [[(AV.int .i64 (((List.length al)+1:Nat):Int)),(AV.osl 1 g 2 0 (List.length (l5 al)))]]),(o_ g 2 (List.map Key.row (l5 al)))] (.ao 7 31 (AV.osl 1 g 2 0 (List.length (l5 al))) (AV.sl .clip 2 [(Key.row k)]) (AV.osl 1 (g+1) 2 0 ((List.length (l5 al))+1)) [(o_ 0 2 [[(AV.int .i64 (((List.length al)+1:Nat):Int)),(AV.osl 1 g 2 0 (List.length (l5 al)))]]),(o_ (g+1) 2 (List.map Key.row ((l5 al)++[k])))] (K4 (T:=tt) (e:=28) (te:=a4g) (z:=1) (b:=24) (y:=[.sl .nil 0 []]) (row:=Key.row) (l:=(l5 al)) kr kr rfl E5 E5 kr bH om rfl rfl (by first | omega | (show _ * 32<=_; omega) | (simp; done) | (simp; omega))) (.s (.h' (c6F al g k) (.y 10 (iW (((((List.length (l5 al))+1):Nat):Int) - 16)) (AV.int .i64 (((((List.length (l5 al))+1):Nat):Int) - 16)) Yes.o (.y 11 (.int .i64 (if ((((List.length (l5 al))+1):Nat):Int) - 16 > 0 then ((((List.length (l5 al))+1):Nat):Int) - 16 else 0)) (AV.int .i64 (((((List.length (l5 al))+1) - 16):Nat):Int)) (Yes.int yv_) (.so 12 1 (g+1) 2 0 ((List.length (l5 al))+1) (((((List.length (l5 al))+1) - 16):Nat):Int) ((((List.length (l5 al))+1):Nat):Int) (AV.osl 1 (g+1) 2 (((List.length (l5 al))+1) - 16) (((List.length (l5 al))+1) - (((List.length (l5 al))+1) - 16))) (O8 (l:=(((List.length (l5 al))+1) - 16)) (h:=((List.length (l5 al))+1)) om om om om om om) (.ch 13 (c6E al g k) (l6.put2 [1] (c6F al g k) (AV.osl 1 ((g+1)+1) 2 0 (((List.length (l5 al))+1) - (((List.length (l5 al))+1) - 16))) (c6E al g k) (a8O ((l5 al)++[k]) (g+1) (((List.length (l5 al))+1) - 16) (((List.length (l5 al))+1) - (((List.length (l5 al))+1) - 16)) oa oa) (⟨Ob.ren0 (Key.y8 0 _),trivial⟩) (⟨Ob.ren0 (Key.y8 0 _),trivial⟩)) (.s (.g (.h' [(o_ 0 2 [[(AV.int .i64 (((List.length al)+1:Nat):Int)),(AV.osl 1 ((g+1)+1) 2 0 (((List.length (l5 al))+1) - (((List.length (l5 al))+1) - 16)))]]),(o_ ((g+1)+1) 2 (List.map Key.row (((l5 al)++[k]).drop (((List.length (l5 al))+1) - 16))))] (.q 2 (AV.int .i64 (((List.length al)+1:Nat):Int)) (by (try delta b6M d2u c6F c6E b6L); rw [h2,h1,List.length_append]; rfl)))))))))))))))))
theorem a8r (l:l9K) (v:Key) (g q n:Nat) (hn:q+n=l.length) (hl:l.length < 1099511627776):AC 73 [(AV.osl 0 g 2 q n),(AV.agg (Key.row v))] [(o_ g 2 (mK l))] ((bB (dY (l.drop q) v)),[(o_ g 2 (mK l))]):=by
 have h:=a1w (l.drop q) v c2t
 have e2:((l.map Key.row).drop q).take n=(l.drop q).map Key.row:=by rw [List.map_drop]; exact List.take_of_length_le (by rw [List.length_drop,List.length_map]; omega)
 exact h.borrow rfl ⟨.osl (by simp [G6,hn,e2]) (Key.y8 _ _),.same (by simp [AV.bdd]),trivial⟩
def gL:Ann:={ gh:=[(11,.frz 7)],gha:=[(2,.any 4 2),(4,.vir 7 2),(10,.cut 3)],base:=2,fin:=some 2,live:=[(6,[6,7,46,47,48])],out:=[(6,[6,7,46,47,48])] }
@[simp] abbrev zC (a:l9K) (b:Nat):Ob:=(o_ 0 2 (c5S a b))
@[simp] abbrev d2t (a:l9K) (b:Nat) (c:Nat) (d:l9K) (e:Nat) (f:Nat):Heap:=[zC a b,(o_ b 2 (mK (l5 a))),(o_ (c+1) 2 (mK (d++[(nth (l5 a) (e+f))])))]
@[simp] abbrev a9E (a:l9K) (b:Nat) (c:Nat) (d:l9K):Heap:=[zC a b,(o_ b 2 (mK (l5 a))),(o_ c 2 (mK d))]
@[simp] abbrev c6D (a:Nat) (b:Nat) (c:Nat) (d:Nat) (e:Nat) (f:Nat):Fr:=(mkF 66 [(6,(AV.osl 1 a 2 b c)),(7,(AV.osl 2 d 2 0 e)),(46,(AV.osl 1 a 2 b c)),(47,(iN c)),(48,(iN f))])
@[simp] abbrev a9D (a:l9K) (b:Nat) (c:Nat) (d:l9K):Heap:=[zC a b,(o_ b 2 (mK (l5 a))),(o_ c 2 (mK d)),(o_ 0 2 [[e_,e_]])]
@[simp] abbrev c6C (a:l9K) (b:Nat) (c:Nat) (d:l9K) (e:Nat) (f:Nat):Heap:=[zC a b,(o_ b 2 (mK (l5 a))),(o_ c 2 (mK d)),(o_ 0 2 [(Key.row (nth (l5 a) (e+f)))])]
@[simp] abbrev c5R :=(l9 Tryz.prog (X gL) (x9 Tryz.f162 0))
theorem a2F (al:l9K) (gq:Nat) (q:Nat) (n:Nat) (out:l9K) (k:Nat) (g:Nat) (i:Nat) (hn:q+n=(l5 al).length) (hl:(l5 al).length < 1048576) (hk:k=out.length) (hki:k<=i) (hle_:i<=n) {eX:Ex} {FX:Fr} {HX:Heap} (k1:(decide ((i:Int) < (n:Int)))=true->(!(dY ((l5 al).drop (q+(i+1))) (nth (l5 al) (q+i))))=true->j6 c5R (some [6,7,46,47,48]) (some [6,7,46,47,48]) (mkF 66 [(6,(AV.osl 1 gq 2 q n)),(7,(AV.osl 2 (g+1) 2 0 (k+1))),(46,(AV.osl 1 gq 2 q n)),(47,(iN n)),(48,(iN (i+1)))]) (d2t al gq g out q i) eX FX HX) (k2:(decide ((i:Int) < (n:Int)))=true->(!(dY ((l5 al).drop (q+(i+1))) (nth (l5 al) (q+i))))=false->j6 c5R (some [6,7,46,47,48]) (some [6,7,46,47,48]) (mkF 66 [(6,(AV.osl 1 gq 2 q n)),(7,(AV.osl 2 g 2 0 k)),(46,(AV.osl 1 gq 2 q n)),(47,(iN n)),(48,(iN (i+1)))]) (a9E al gq g out) eX FX HX) (k3:(decide ((i:Int) < (n:Int)))=false->((.exit 0:Ex),(c6D gq q n g k i),(a9E al gq g out))=(eX,FX,HX)):j6 c5R (some [6,7,46,47,48]) (some [6,7,46,47,48]) (c6D gq q n g k i) (a9E al gq g out) eX FX HX :=
 I9 (.r (.g (.two (decide ((i:Int) < (n:Int))) (fun h1 h1'=>(.r (.h' (a9D al gq g out) (.io 1 1 gq 2 2 q n (i:Int) (q+i) (F8.mko i _ ow ow ow) (.t 2 (AV.agg (Key.row (nth (l5 al) (q+i)))) (a9D al gq g out) (H6 (D6 (row:=Key.row) (l:=(l5 al)) (k:=2) (room:=none) kr om) kr:K7 tt 28 0 (a9D al gq g out) (rowAt (a9D al gq g out) 1 gq (q+i))=some ((AV.agg (Key.row (nth (l5 al) (q+i)))),(a9D al gq g out))) (.s (.h' (c6C al gq g out q i) (.y 2 (.int .i64 (cb_ i)) (iN (i+1)) Yes.o (.so 3 1 gq 2 q n ((i+1:Nat):Int) (n:Int) (AV.osl 1 gq 2 (q+(i+1)) (n - (i+1))) (O8 (l:=i+1) (h:=n) om om om om om om) (.c 5 (l6.put2 [1] (c6C al gq g out q i) (bB (dY ((l5 al).drop (q+(i+1))) (nth (l5 al) (q+i)))) (c6C al gq g out q i) (a8r (l5 al) (nth (l5 al) (q+i)) gq (q+(i+1)) (n - (i+1)) oa oa) (⟨Ob.ren0 (Key.y8 0 _),trivial⟩) (⟨Ob.ren0 (Key.y8 0 _),trivial⟩)) (.g (.two (!(dY ((l5 al).drop (q+(i+1))) (nth (l5 al) (q+i)))) (fun h2 h2'=>(.r (.ap 3 31 (AV.osl 2 g 2 0 k) (AV.sl .clip 2 [(Key.row (nth (l5 al) (q+i)))]) (AV.osl 2 (g+1) 2 0 (k+1)) [(o_ 0 2 (c5S al gq)),(o_ gq 2 (mK (l5 al))),(o_ (g+1) 2 (mK (out++[(nth (l5 al) (q+i))]))),(o_ 0 2 [(Key.row (nth (l5 al) (q+i)))])] (G7 (row:=Key.row) (l:=out) (x:=(nth (l5 al) (q+i))) (T:=tt) (e:=28) (te:=a4g) (z:=1) (b:=24) (y:=[.sl .nil 0 []]) kr kr rfl E5 E5 kr Y5 rfl rfl b1U) (.s (.y 0 (.int .i64 (cb_ i)) (iN (i+1)) Yes.o (.h' (d2t al gq g out q i) (.b 3 (.g (.l (k1 h1 h2)))))))))) (fun h2 h2'=>(.r (.y 0 (.int .i64 (cb_ i)) (iN (i+1)) Yes.o (.h' (a9E al gq g out) (.b 3 (.g (.l (k2 h1 h2)))))))))))))))))))) (fun h1 h1'=>(.l (k3 h1))))))
def rM (al:List Key) (gq:Nat) (q:Nat) (n:Nat) (i:Nat) (s:(List Key) × Nat × Nat):(List Key) × Nat × Nat:=(if (!(dY ((l5 al).drop (q+(i+1))) (nth (l5 al) (q+i))))=true then (s.1++[(nth (l5 al) (q+i))],(s.2.1+1),(s.2.2+1)) else (s.1,s.2.1,s.2.2))
theorem b2A (al:l9K) (gq:Nat) (q:Nat) (n:Nat) (hn:q+n=(l5 al).length) (hl:(l5 al).length < 1048576)  (r_:Nat):∀ (out:l9K) (k:Nat) (g:Nat) (i:Nat) (sF:(l9K) × Nat × Nat),i+r_=n->k=out.length->k<=i->sF=iter (rM al gq q n) r_ i (out,k,g) ->
 j6 (l9 Tryz.prog (X gL) (x9 Tryz.f162 0)) (some [6,7,46,47,48]) (some [6,7,46,47,48]) (c6D gq q n g k i) (a9E al gq g out) (.exit 0) (mkF 66 [(6,(AV.osl 1 gq 2 q n)),(7,(AV.osl 2 sF.2.2 2 0 sF.2.1)),(46,(AV.osl 1 gq 2 q n)),(47,(iN n)),(48,(iN n))]) [(o_ 0 2 [[(iN ((List.length al))),(AV.osl 1 gq 2 0 (List.length (l5 al)))]]),(o_ gq 2 (mK (l5 al))),(o_ sF.2.2 2 (mK sF.1))]:=by
 induction r_ with
 | zero =>
  intro out k g i sF hi_ hk hki  hF
  obtain rfl:n=i:=by omega
  have e_:sF=(out,k,g):=hF
  refine a2F al gq q n out k g n hn hl hk hki (Nat.le_refl _) (fun h _=>by simp at h <;> omega) (fun h _=>by simp at h <;> omega) (fun _=>?_)
  first | done | rfl | (rw [e_]; done) | (rw [e_]; rfl)
 | succ r_ ih =>
  intro out k g i sF hi_ hk hki  hF
  refine a2F al gq q n out k g i hn hl hk hki ow (fun h1 h2=>?_) (fun h1 h2=>?_) (fun h=>by simp at h <;> omega)
  · exact ih (out++[(nth (l5 al) (q+i))]) (k+1) (g+1) (i+1) sF ow U2 U2  (by rw [hF] <;> simp only [iter,rM,h2,if_true,Bool.false_eq_true,if_false])
  · exact ih out k g (i+1) sF ow U2 U2  (by rw [hF] <;> simp only [iter,rM,h2,if_true,Bool.false_eq_true,if_false])
theorem a9W (al:l9K) (gq q n:Nat) (hn:q+n=(l5 al).length) (r:Nat):∀ (i:Nat) (out:l9K) (k g:Nat),i+r=n ->
 iter (rM al gq q n) r i (out,k,g)=(out++M6 ((l5 al).drop (q+i)),k+(M6 ((l5 al).drop (q+i))).length,g+(M6 ((l5 al).drop (q+i))).length):=by
 induction r with
 | zero =>
  intro i out k g hi
  have:(l5 al).drop (q+i)=[]:=List.drop_of_length_le ow
  rw [this]; simp [iter,M6]
 | succ r ih =>
  intro i out k g hi
  rw [Y7 (show q+i < (l5 al).length by omega)]
  simp only [iter,M6,rM]
  have e1:q+i+1=q+(i+1):=by omega
  rw [e1]
  by_cases h:(!(dY ((l5 al).drop (q+(i+1))) (nth (l5 al) (q+i))))=true
  · rw [if_pos h,if_pos h,ih (i+1) _ _ _ ow]; simp; omega
  · rw [if_neg h,if_neg h,ih (i+1) _ _ _ ow]
theorem b2B (al:l9K) (gq q n:Nat) (hn:q+n=(l5 al).length):(M6 ((l5 al).drop q),(M6 ((l5 al).drop q)).length,(M6 ((l5 al).drop q)).length)=iter (rM al gq q n) n 0 ([],0,0):=by
 rw [a9W al gq q n hn n 0 [] 0 0 ow]; simp
@[simp] abbrev vX (a:l9K) (b:Nat):Heap:=[zC a b,(o_ b 2 (mK (l5 a)))]
@[simp] abbrev d1x (a:Nat) (b:l9K) (c:Nat):=(AV.osl 1 a 2 ((List.length (l5 b)) - ((List.length b) - c)) ((List.length (l5 b)) - ((List.length (l5 b)) - ((List.length b) - c))))
@[simp] abbrev d2s (a:Nat) (b:l9K) (c:Nat):Fr:=(mkF 66 [(6,(d1x a b c)),(7,(AV.osl 2 (M6 ((l5 b).drop ((List.length (l5 b)) - ((List.length b) - c)))).length 2 0 (M6 ((l5 b).drop ((List.length (l5 b)) - ((List.length b) - c)))).length)),(46,(d1x a b c)),(47,(iN (((List.length (l5 b)) - ((List.length (l5 b)) - ((List.length b) - c)))))),(48,(iN (((List.length (l5 b)) - ((List.length (l5 b)) - ((List.length b) - c))))))])
@[simp] abbrev c6B (a:l9K) (b:Nat) (c:Nat):Heap:=[zC a b,(o_ b 2 (mK (l5 a))),(o_ ((M6 ((l5 a).drop ((List.length (l5 a)) - ((List.length a) - c)))).length) 2 (mK (M6 ((l5 a).drop ((List.length (l5 a)) - ((List.length a) - c))))))]
theorem a9X (al:l9K) (g:Nat) (n:Nat) (ha:al.length < 1000000) (h1:n<=al.length) (h2:al.length - n<=16):AC 162 [(AV.obj 0 0 0 0),(AV.int .i64 (n:Int))] (vX al g) ((AV.tup [(AV.sl .any 2 (List.map Key.row (M6 (al.drop n)))),(AV.bool true)]),(vX al g)):=by
 have hr:=xM al
 have h3:=b2V h1 h2
 have h4:=a3i (al.drop n)
 have h5:(al.drop n).length=al.length - n:=List.length_drop
 exact r9 (fn:=Tryz.f162) (ann:=gL) (Has.o Tryz.func162) (.r (.s (.y 1 (AV.bool (decide ((n:Int) < 0))) (AV.bool false) (Yes.b ye_) (.n6 (.y 8 (AV.bool (decide ((n:Int) > (((List.length al):Nat):Int)))) (AV.bool false) (Yes.b yg_) (.n6 (.y 16 (iW ((((List.length al):Nat):Int) - (n:Int))) (AV.int .i64 (((List.length al) - n:Nat):Int)) Yes.o (.n (.y 17 (AV.bool (decide ((((List.length al) - n:Nat):Int) > 16))) (AV.bool false) (Yes.b yg_) (.rn (.y 14 (iW ((((List.length al):Nat):Int) - (n:Int))) (AV.int .i64 (((List.length al) - n:Nat):Int)) Yes.o (.y 15 (iW ((((List.length (l5 al)):Nat):Int) - (((List.length al) - n:Nat):Int))) (AV.int .i64 (((List.length (l5 al)) - ((List.length al) - n):Nat):Int)) Yes.o (.so 16 1 g 2 0 (List.length (l5 al)) (((List.length (l5 al)) - ((List.length al) - n):Nat):Int) (((List.length (l5 al)):Nat):Int) (AV.osl 1 g 2 ((List.length (l5 al)) - ((List.length al) - n)) ((List.length (l5 al)) - ((List.length (l5 al)) - ((List.length al) - n)))) (O8 (l:=(List.length (l5 al)) - ((List.length al) - n)) (h:=(List.length (l5 al))) om om om om om om) (.s (.s (.g (.loop (d2s g al n) (show j6 (l9 Tryz.prog (X gL) (x9 Tryz.f162 0)) (some [6,7,46,47,48]) (some [6,7,46,47,48]) (mkF 66 [(6,(AV.osl 1 g 2 ((List.length (l5 al)) - ((List.length al) - n)) ((List.length (l5 al)) - ((List.length (l5 al)) - ((List.length al) - n))))),(7,(AV.osl 2 0 2 0 0)),(46,(AV.osl 1 g 2 ((List.length (l5 al)) - ((List.length al) - n)) ((List.length (l5 al)) - ((List.length (l5 al)) - ((List.length al) - n))))),(47,(AV.int .i64 (((List.length (l5 al)) - ((List.length (l5 al)) - ((List.length al) - n)):Nat):Int))),(48,(AV.int .i64 0))]) [(o_ 0 2 [[(AV.int .i64 (((List.length al):Nat):Int)),(AV.osl 1 g 2 0 (List.length (l5 al)))]]),(o_ g 2 (List.map Key.row (l5 al))),(o_ 0 2 (List.map Key.row []))] (.exit 0) (d2s g al n) (c6B al g n) from (b2A al g ((List.length (l5 al)) - ((List.length al) - n)) ((List.length (l5 al)) - ((List.length (l5 al)) - ((List.length al) - n))) ow ow ((List.length (l5 al)) - ((List.length (l5 al)) - ((List.length al) - n))) [] 0 0 0 (M6 (List.drop ((List.length (l5 al)) - ((List.length al) - n)) (l5 al)),(M6 (List.drop ((List.length (l5 al)) - ((List.length al) - n)) (l5 al))).length,(M6 (List.drop ((List.length (l5 al)) - ((List.length al) - n)) (l5 al))).length) ow rfl ow (b2B _ _ _ _ ow))) (.r (.w 7 (List.map Key.row (M6 ((l5 al).drop ((List.length (l5 al)) - ((List.length al) - n))))) (And.intro (G8 (room:=none) kr (by first | omega | (simp [h3]; done) | (simp [h3]; omega))) (Key.y8 _ _):G6 (c6B al g n) 2 (AV.osl 2 (M6 ((l5 al).drop ((List.length (l5 al)) - ((List.length al) - n)))).length 2 0 (M6 ((l5 al).drop ((List.length (l5 al)) - ((List.length al) - n)))).length)=some (List.map Key.row (M6 ((l5 al).drop ((List.length (l5 al)) - ((List.length al) - n)))))/\AV.D7 0 (List.map Key.row (M6 ((l5 al).drop ((List.length (l5 al)) - ((List.length al) - n)))))=true) (.g (.h' (vX al g) (.q 2 (AV.tup [(AV.sl .any 2 (List.map Key.row (M6 ((l5 al).drop ((List.length (l5 al)) - ((List.length al) - n)))))),(AV.bool true)]) (by (try delta vX c6B zC); rw [h3])))))))))))))))))))))))
@[simp] abbrev c5Q :=(AV.tup [(sA 2 []),bF])
theorem a7o (al:l9K) (g:Nat) (n:Int) (ha:al.length < 1000000) (h:n < 0):AC 162 [(oO 0 0 0 0),(iI n)] (vX al g) ((AV.tup [(sA 2 (mK [])),bF]),(vX al g)) :=
 r9 (fn:=Tryz.f162) (ann:=gL) (Has.o Tryz.func162) (.r (.s (.y 1 (bB (decide (n < 0))) bT (Yes.b yg_) (.u6 (.u6 (.u (.g (.u (.qr 2 c5Q)))))))))
theorem a7n (al:l9K) (g:Nat) (n:Int) (ha:al.length < 1000000) (h:0<=n) (h1:(al.length:Int) < n):AC 162 [(oO 0 0 0 0),(iI n)] (vX al g) ((AV.tup [(sA 2 (mK [])),bF]),(vX al g)) :=
 r9 (fn:=Tryz.f162) (ann:=gL) (Has.o Tryz.func162) (.r (.s (.y 1 (bB (decide (n < 0))) bF (Yes.b yg_) (.n6 (.y 8 (bB (decide (n > (((List.length al):Nat):Int)))) bT (Yes.b yg_) (.u6 (.u (.g (.u (.qr 2 c5Q))))))))))
theorem a7m (al:l9K) (g:Nat) (n:Nat) (ha:al.length < 1000000) (h1:n<=al.length) (h2:16 < al.length - n):AC 162 [(oO 0 0 0 0),(iN n)] (vX al g) ((AV.tup [(sA 2 (mK [])),bF]),(vX al g)) :=
 r9 (fn:=Tryz.f162) (ann:=gL) (Has.o Tryz.func162) (.r (.s (.y 1 (bB (decide ((n:Int) < 0))) bF (Yes.b ye_) (.n6 (.y 8 (bB (decide ((n:Int) > (((List.length al):Nat):Int)))) bF (Yes.b yg_) (.n6 (.y 16 (iW ((((List.length al):Nat):Int) - (n:Int))) (iN ((List.length al) - n)) Yes.o (.n (.y 17 (bB (decide ((((List.length al) - n:Nat):Int) > 16))) bT (Yes.b yg_) (.g (.u (.qr 2 c5Q))))))))))))
theorem a2G (al:l9K) (g:Nat) (n:Int) (ha:al.length < 1000000):AC 162 [(oO 0 0 0 0),(iI n)] [(o_ 0 2 [[(iN ((List.length al))),(AV.osl 1 g 2 0 (List.length (l5 al)))]]),(o_ g 2 (mK (l5 al)))] ((AV.tup [(sA 2 (mK (K5 al n))),(bB (okS al n))]),[(o_ 0 2 [[(iN ((List.length al))),(AV.osl 1 g 2 0 (List.length (l5 al)))]]),(o_ g 2 (mK (l5 al)))]):=by
 by_cases h:n < 0\/(al.length:Int) < n\/16 < (al.length:Int) - n
 · rw [a7p h,a5u h]
   by_cases h0:n < 0
   · exact a7o al g n ha h0
   · by_cases h1:(al.length:Int) < n
     · exact a7n al g n ha ow h1
     · obtain ⟨m,rfl⟩:=Int.eq_ofNat_of_zero_le (show 0<=n by omega)
       exact a7m al g m ha ow ow
 · obtain ⟨m,rfl⟩:=Int.eq_ofNat_of_zero_le (show 0<=n by omega)
   rw [b2C ow ow,b1w ow ow]
   exact a9X al g m ha ow ow
def M9 (s:ByteArray):List Int:=s.data.toList.map fun b=>(b.toNat:Int)
theorem rY (s:ByteArray):(M9 s).length=s.size:=by unfold M9; rw [List.length_map]; rfl
theorem c3t (H:Heap) (s:ByteArray):G6 H 1 (.str s)=some ((M9 s).map rU8):=by
 simp [G6,M9,rU8,Function.comp_def]
theorem b7T {H:Heap} {s:ByteArray} {lo hi:Int} {l h:Nat} (hlo:lo=(l:Int)) (hhi:hi=(h:Int)) (h1:l<=h) (h2:h<=s.size) :
 Option.map (fun a=>(a,H)) ((bounds lo hi s.size).map fun p=>AV.str (s.extract p.1 p.2))=some (.str (s.extract l h),H):=by
 subst hlo hhi
 unfold bounds
 rw [if_pos ⟨by omega,by omega,by omega⟩]
 simp
attribute [local irreducible] C9 D5 D8 D9 F3 G9 I4 K8 N9 P6 R3 R8 R9 Tp.H7 Tp.J8 Tp.card Tp.cards Tp.key Tp.keyT Tp.next Tp.step cmpL sink y5
def b1g:Ann:={ gha:=[(2,.vir 2 1)],fin:=some 1 }
theorem a8X  :AC 230 [(AV.sl .nil 0 [])] [] ((AV.osl 0 0 1 0 0),[(o_ 0 1 (List.map rU8 []))]) :=
 r9 (fn:=Tryz.f230) (ann:=b1g) (Has.o Tryz.func230) (.r (.s (.ru (.g (.h' [(o_ 0 1 (List.map rU8 []))] (.q 1 (AV.osl 0 0 1 0 0)))))))
def b1f:Ann:={ own:=[7],fin:=some 1 }
@[simp] abbrev a9j (a:List Int):=(AV.osl 0 0 1 0 a.length)
@[reducible] def rX:TI:={ d:=.int .u8,size:=1,bytes:=1,zero:=[.int .u8 0] }
theorem a8W (l:List Int) (hl:l.length < 1099511627776):AC 230 [(AV.sl .op 1 (List.map rU8 l))] [] ((a9j l),[(o_ 0 1 (List.map rU8 l))]) :=
 r9 (fn:=Tryz.f230) (ann:=b1f) (Has.o Tryz.func230) (.r (.s (.rn (.ao 2 238 (AV.sl .clip 1 []) (AV.sl .op 1 (List.map rU8 l)) (a9j l) [(o_ 0 1 (List.map rU8 l))] (aY (T:=tt) (e:=5) (te:=rX) (z:=1) (b:=24) (y:=[.sl .nil 0 []]) (row:=rU8) kr kr rfl E5 E5 ye_ bH rfl rfl rfl om) (.q 1 (a9j l))))))
theorem b1e (l:List Int) (hl:l.length < 1099511627776):AC 230 [(sA 1 (List.map rU8 l))] [] ((AV.osl 0 0 1 0 l.length),[(o_ 0 1 (List.map rU8 l))]):=l6.a3f (fun h=>by
 have h2:l=[]:=by simpa using h
 subst h2; exact a8X) (a8W l hl)
theorem a6a (l:List Int) (hl:l.length < 1099511627776) (H:Heap):AC 230 [(sA 1 (List.map rU8 l))] H (.osl H.length 0 1 0 l.length,H++([(o_ 0 1 (List.map rU8 l))]:Heap)):=(b1e l hl).a1X kr (by simp [AV.D7,wF]) H
def Y4 (b:List Int) (n:Int):List Int:=b++[IntKind.u8.wrap n]
theorem oK (b:List Int) (n:Int):(Y4 b n).length=b.length+1:=by simp [Y4]
def c0R:Ann:={ own:=[10],fin:=some 1 }
theorem uY {p:Prop} (h:p:=by first | omega | (show _ * 1<=_; omega) | (simp; done) | (simp; omega)):p:=h
@[simp] abbrev cap_ (a:List Int):=(AV.osl 0 1 1 0 (a.length+1))
theorem a3x (b:List Int) (n:Int) (hb:b.length < 1048576):AC 224 [(sA 1 (List.map rU8 b)),(iI n)] [] ((AV.osl 0 1 1 0 (Y4 b n).length),[(o_ 1 1 (List.map rU8 (Y4 b n)))]):=by
 have hB:=oK b n
 exact r9 (fn:=Tryz.f224) (ann:=c0R) (Has.o Tryz.func224) (.r (.s (.ch 1 [(o_ 0 1 (List.map rU8 b))] (a6a b oa []) (.ao 5 238 (a9j b) (AV.sl .clip 1 [[(AV.int .u8 (IntKind.u8.wrap n))]]) (cap_ b) [(o_ 1 1 (List.map rU8 (b++[(IntKind.u8.wrap n)])))] (K4 (T:=tt) (e:=5) (te:=rX) (z:=1) (b:=24) (y:=[.sl .nil 0 []]) (row:=rU8) (l:=b) kr kr rfl E5 E5 kr bH om rfl rfl uY) (.q 1 (cap_ b) (by simp [Y4]))))))
theorem c5U (b:List Int) (n:Int) (hb:b.length < 1048576) (H:Heap):AC 224 [(sA 1 (List.map rU8 b)),(iI n)] H (.osl H.length 1 1 0 (Y4 b n).length,H++([(o_ 1 1 (List.map rU8 (Y4 b n)))]:Heap)):=(a3x b n hb).a1X kr (by simp [AV.D7,wF]) H
theorem b5S (b:List Int) (n:Int) (hb:b.length < 1048576):AC 224 [(sA 1 (List.map rU8 b)),(iI n)] [] ((sA 1 (List.map rU8 (Y4 b n))),[]):=by
 have h1:=(a3x b n hb).a4w (xs:=(Y4 b n).map rU8) (G8 (room:=none) kr (by first | omega | simp)) (wF _ _)
 exact l6.forget (H2:=[]) (X:=[(o_ 2 1 [])]) h1 rfl kr (fun id o ho=>by simp at ho)
def a0v (s:ByteArray):ByteArray:=ByteArray.extract s 0 (min s.size 255)
theorem a5W (s:ByteArray):(a0v s).size=min s.size 255:=by simp [a0v]
def U5 (b:List Int) (s:ByteArray):List Int:=Y4 b (a0v s).size++M9 (a0v s)
theorem oD (b:List Int) (s:ByteArray):(U5 b s).length<=b.length+256:=by
 have:=a5W s
 simp only [U5,List.length_append,oK,rY]; omega
def b7v:Ann:={ own:=[15],fin:=some 1 }
@[simp] abbrev d1w (a:List Int) (b:ByteArray):=(AV.osl 0 2 1 0 ((Y4 a (((ByteArray.extract b 0 (min b.size 255)).size:Nat):Int)).length+(M9 (ByteArray.extract b 0 (min b.size 255))).length))
theorem b2a (b:List Int) (s:ByteArray) (hb:b.length < 1048576):AC 225 [(sA 1 (List.map rU8 b)),(AV.str s)] [] ((AV.osl 0 2 1 0 (U5 b s).length),[(o_ 2 1 (List.map rU8 (U5 b s)))]):=by
 have hT:=oD b s
 have h7:(ByteArray.extract s 0 (min s.size 255)).size=min s.size 255:=a5W s
 have h5:=oK b ((min s.size 255:Nat):Int)
 have h6:=rY (ByteArray.extract s 0 (min s.size 255))
 exact r9 (fn:=Tryz.f225) (ann:=b7v) (Has.o Tryz.func225) (.r (.s (.y 3 (.int .i64 (if 255 < (s.size:Int) then 255 else (s.size:Int))) (iN (min s.size 255)) (Yes.int yv_) (.t 4 (AV.str (ByteArray.extract s 0 (min s.size 255))) [] (b7T om om om om:Option.map (fun a=>(a,([]:Heap))) ((bounds 0 ((min s.size 255:Nat):Int) (ByteArray.size s)).map fun p=>AV.str (ByteArray.extract s p.1 p.2))=some ((AV.str (ByteArray.extract s 0 (min s.size 255))),([]:Heap))) (.s (.ch 3 [(o_ 1 1 (List.map rU8 (Y4 b (((ByteArray.extract s 0 (min s.size 255)).size:Nat):Int))))] (c5U b (((ByteArray.extract s 0 (min s.size 255)).size:Nat):Int) oa []) (.ao 5 238 (AV.osl 0 1 1 0 (Y4 b (((ByteArray.extract s 0 (min s.size 255)).size:Nat):Int)).length) (AV.str (ByteArray.extract s 0 (min s.size 255))) (d1w b s) [(o_ 2 1 (List.map rU8 ((Y4 b (((ByteArray.extract s 0 (min s.size 255)).size:Nat):Int))++(M9 (ByteArray.extract s 0 (min s.size 255))))))] (K4 (T:=tt) (e:=5) (te:=rX) (z:=1) (b:=24) (y:=[.sl .nil 0 []]) (row:=rU8) (l:=(Y4 b (((ByteArray.extract s 0 (min s.size 255)).size:Nat):Int))) kr kr rfl E5 E5 kr (c3t _ _) om rfl rfl uY) (.q 1 (d1w b s) (by simp [U5,a0v,Y4,rY] <;> omega)))))))))
theorem a2w (b:List Int) (s:ByteArray) (hb:b.length < 1048576):AC 225 [(sA 1 (List.map rU8 b)),(AV.str s)] [] ((sA 1 (List.map rU8 (U5 b s))),[]):=by
 have h1:=(b2a b s hb).a4w (xs:=(U5 b s).map rU8) (G8 (room:=none) kr (by first | omega | simp)) (wF _ _)
 exact l6.forget (H2:=[]) (X:=[(o_ 3 1 [])]) h1 rfl kr (fun id o ho=>by simp at ho)
def c0M:Ann:={ fin:=some 0 }
@[simp] abbrev b5O (a:List Int):=(AV.sl .cn 1 (List.map rU8 a))
theorem b4P (l:List Int) (hl:l.length < 1099511627776):AC 231 [(sA 1 (List.map rU8 l))] [] ((b5O l),[]) :=
 r9 (fn:=Tryz.f231) (ann:=c0M) (Has.o Tryz.func231) (.r (.s (.y 2 (.int .i64 ((List.length (List.map rU8 l):Nat):Int)) (iN l.length) (Yes.len _ _ _) (.y 4 (.int .i64 ((List.length (List.map rU8 l):Nat):Int)) (iN l.length) (Yes.len _ _ _) (.t 5 (b5O l) [] (a5h (l:=0) (h:=l.length) om om om om a7a (by first | rfl | omega | (simp; done) | (simp; omega)):Option.map (fun a=>(a,([]:Heap))) (if 1=1\/((List.map rU8 l)).isEmpty=true then (if ((l.length:Int):Int)=(l.length:Int) then (bounds 0 (l.length:Int) (List.length (List.map rU8 l))).map fun p=>AV.sl .cn 1 ((List.take p.2 (List.map rU8 l)).drop p.1) else none) else none)=some ((b5O l),([]:Heap))) (.q 0 (b5O l)))))))
def fM (n:Int) (k:Nat):Int:=IntKind.u8.wrap (Int.fdiv n (2 ^ (min (Int.toNat (8 * k:Nat)) 64)))
def nE (b:List Int) (n:Int):List Int:=b++[fM n 7,fM n 6,fM n 5,fM n 4,fM n 3,fM n 2,fM n 1,fM n 0]
theorem c4B (b:List Int) (n:Int):(nE b n).length=b.length+8:=by simp [nE]
def c4C:Ann:={ own:=[20],gh:=[(6,.frz 5)],fin:=some 0 }
@[simp] abbrev eY (a:Int):=(IntKind.u8.wrap (Int.fdiv a (2 ^ (min (Int.toNat 56) 64))))
@[simp] abbrev gB (a:Int):=(IntKind.u8.wrap (Int.fdiv a (2 ^ (min (Int.toNat 48) 64))))
@[simp] abbrev iP (a:Int):=(IntKind.u8.wrap (Int.fdiv a (2 ^ (min (Int.toNat 40) 64))))
@[simp] abbrev kQ (a:Int):=(IntKind.u8.wrap (Int.fdiv a (2 ^ (min (Int.toNat 32) 64))))
@[simp] abbrev qE (a:Int):=(IntKind.u8.wrap (Int.fdiv a (2 ^ (min (Int.toNat 24) 64))))
@[simp] abbrev vV (a:Int):=(IntKind.u8.wrap (Int.fdiv a (2 ^ (min (Int.toNat 16) 64))))
@[simp] abbrev a0z (a:Int):=(IntKind.u8.wrap (Int.fdiv a (2 ^ (min (Int.toNat 8) 64))))
@[simp] abbrev a4R (a:Int):=(IntKind.u8.wrap (Int.fdiv a (2 ^ (min (Int.toNat 0) 64))))
@[simp] abbrev c6O (a:List Int) (b:Int):Heap:=[(o_ 8 1 (List.map rU8 ((((((((a++[(eY b)])++[(gB b)])++[(iP b)])++[(kQ b)])++[(qE b)])++[(vV b)])++[(a0z b)])++[(a4R b)])))]
@[simp] abbrev d4w (a:List Int) (b:Int):=(AV.sl .cn 1 (List.map rU8 ((((((((a++[(IntKind.u8.wrap (Int.fdiv b (2 ^ (min (Int.toNat 56) 64))))])++[(IntKind.u8.wrap (Int.fdiv b (2 ^ (min (Int.toNat 48) 64))))])++[(IntKind.u8.wrap (Int.fdiv b (2 ^ (min (Int.toNat 40) 64))))])++[(IntKind.u8.wrap (Int.fdiv b (2 ^ (min (Int.toNat 32) 64))))])++[(IntKind.u8.wrap (Int.fdiv b (2 ^ (min (Int.toNat 24) 64))))])++[(IntKind.u8.wrap (Int.fdiv b (2 ^ (min (Int.toNat 16) 64))))])++[(IntKind.u8.wrap (Int.fdiv b (2 ^ (min (Int.toNat 8) 64))))])++[(IntKind.u8.wrap (Int.fdiv b (2 ^ (min (Int.toNat 0) 64))))])))
theorem b9F (b:List Int) (n:Int) (hb:b.length < 1048576):AC 227 [(sA 1 (List.map rU8 b)),(iI n)] [] ((AV.sl .cn 1 (List.map rU8 (nE b n))),[]) :=
 r9 (fn:=Tryz.f227) (ann:=c4C) (Has.o Tryz.func227) (.r (.s (.ch 1 [(o_ 0 1 (List.map rU8 b))] (a6a b oa []) (.s (.g (.roll 9 (.r (.ru (.ao 7 238 (a9j b) (AV.sl .clip 1 [[(AV.int .u8 (eY n))]]) (cap_ b) [(o_ 1 1 (List.map rU8 (b++[(eY n)])))] (K4 (T:=tt) (e:=5) (te:=rX) (z:=1) (b:=24) (y:=[.sl .nil 0 []]) (row:=rU8) (l:=b) kr kr rfl E5 E5 kr bH om rfl rfl uY) (.s (.s (.ru (.ao 7 238 (cap_ b) (AV.sl .clip 1 [[(AV.int .u8 (gB n))]]) (AV.osl 0 2 1 0 ((b.length+1)+1)) [(o_ 2 1 (List.map rU8 ((b++[(eY n)])++[(gB n)])))] (K4 (T:=tt) (e:=5) (te:=rX) (z:=1) (b:=24) (y:=[.sl .nil 0 []]) (row:=rU8) (l:=b++[(eY n)]) kr kr rfl E5 E5 kr bH om rfl rfl uY) (.s (.s (.ru (.ao 7 238 (AV.osl 0 2 1 0 ((b.length+1)+1)) (AV.sl .clip 1 [[(AV.int .u8 (iP n))]]) (AV.osl 0 3 1 0 (((b.length+1)+1)+1)) [(o_ 3 1 (List.map rU8 (((b++[(eY n)])++[(gB n)])++[(iP n)])))] (K4 (T:=tt) (e:=5) (te:=rX) (z:=1) (b:=24) (y:=[.sl .nil 0 []]) (row:=rU8) (l:=(b++[(eY n)])++[(gB n)]) kr kr rfl E5 E5 kr bH om rfl rfl uY) (.s (.s (.ru (.ao 7 238 (AV.osl 0 3 1 0 (((b.length+1)+1)+1)) (AV.sl .clip 1 [[(AV.int .u8 (kQ n))]]) (AV.osl 0 4 1 0 ((((b.length+1)+1)+1)+1)) [(o_ 4 1 (List.map rU8 ((((b++[(eY n)])++[(gB n)])++[(iP n)])++[(kQ n)])))] (K4 (T:=tt) (e:=5) (te:=rX) (z:=1) (b:=24) (y:=[.sl .nil 0 []]) (row:=rU8) (l:=((b++[(eY n)])++[(gB n)])++[(iP n)]) kr kr rfl E5 E5 kr bH om rfl rfl uY) (.s (.s (.ru (.ao 7 238 (AV.osl 0 4 1 0 ((((b.length+1)+1)+1)+1)) (AV.sl .clip 1 [[(AV.int .u8 (qE n))]]) (AV.osl 0 5 1 0 (((((b.length+1)+1)+1)+1)+1)) [(o_ 5 1 (List.map rU8 (((((b++[(eY n)])++[(gB n)])++[(iP n)])++[(kQ n)])++[(qE n)])))] (K4 (T:=tt) (e:=5) (te:=rX) (z:=1) (b:=24) (y:=[.sl .nil 0 []]) (row:=rU8) (l:=(((b++[(eY n)])++[(gB n)])++[(iP n)])++[(kQ n)]) kr kr rfl E5 E5 kr bH om rfl rfl uY) (.s (.s (.ru (.ao 7 238 (AV.osl 0 5 1 0 (((((b.length+1)+1)+1)+1)+1)) (AV.sl .clip 1 [[(AV.int .u8 (vV n))]]) (AV.osl 0 6 1 0 ((((((b.length+1)+1)+1)+1)+1)+1)) [(o_ 6 1 (List.map rU8 ((((((b++[(eY n)])++[(gB n)])++[(iP n)])++[(kQ n)])++[(qE n)])++[(vV n)])))] (K4 (T:=tt) (e:=5) (te:=rX) (z:=1) (b:=24) (y:=[.sl .nil 0 []]) (row:=rU8) (l:=((((b++[(eY n)])++[(gB n)])++[(iP n)])++[(kQ n)])++[(qE n)]) kr kr rfl E5 E5 kr bH om rfl rfl uY) (.s (.s (.ru (.ao 7 238 (AV.osl 0 6 1 0 ((((((b.length+1)+1)+1)+1)+1)+1)) (AV.sl .clip 1 [[(AV.int .u8 (a0z n))]]) (AV.osl 0 7 1 0 (((((((b.length+1)+1)+1)+1)+1)+1)+1)) [(o_ 7 1 (List.map rU8 (((((((b++[(eY n)])++[(gB n)])++[(iP n)])++[(kQ n)])++[(qE n)])++[(vV n)])++[(a0z n)])))] (K4 (T:=tt) (e:=5) (te:=rX) (z:=1) (b:=24) (y:=[.sl .nil 0 []]) (row:=rU8) (l:=(((((b++[(eY n)])++[(gB n)])++[(iP n)])++[(kQ n)])++[(qE n)])++[(vV n)]) kr kr rfl E5 E5 kr bH om rfl rfl uY) (.s (.s (.ru (.ao 7 238 (AV.osl 0 7 1 0 (((((((b.length+1)+1)+1)+1)+1)+1)+1)) (AV.sl .clip 1 [[(AV.int .u8 (a4R n))]]) (AV.osl 0 8 1 0 ((((((((b.length+1)+1)+1)+1)+1)+1)+1)+1)) (c6O b n) (K4 (T:=tt) (e:=5) (te:=rX) (z:=1) (b:=24) (y:=[.sl .nil 0 []]) (row:=rU8) (l:=((((((b++[(eY n)])++[(gB n)])++[(iP n)])++[(kQ n)])++[(qE n)])++[(vV n)])++[(a0z n)]) kr kr rfl E5 E5 kr bH om rfl rfl uY) (.s (.s (.rn (.w 5 (List.map rU8 ((((((((b++[(eY n)])++[(gB n)])++[(iP n)])++[(kQ n)])++[(qE n)])++[(vV n)])++[(a0z n)])++[(a4R n)])) (And.intro (G8 (room:=none) kr om) (wF _ _):G6 (c6O b n) 1 (AV.osl 0 8 1 0 ((((((((b.length+1)+1)+1)+1)+1)+1)+1)+1))=some (List.map rU8 ((((((((b++[(eY n)])++[(gB n)])++[(iP n)])++[(kQ n)])++[(qE n)])++[(vV n)])++[(a0z n)])++[(a4R n)]))/\AV.D7 0 (List.map rU8 ((((((((b++[(eY n)])++[(gB n)])++[(iP n)])++[(kQ n)])++[(qE n)])++[(vV n)])++[(a0z n)])++[(a4R n)]))=true) (.c 1 ((b4P ((((((((b++[(eY n)])++[(gB n)])++[(iP n)])++[(kQ n)])++[(qE n)])++[(vV n)])++[(a0z n)])++[(a4R n)]) oa).lift kr kr [(o_ 9 1 [])]) (.g (.h' [] (.q 0 (d4w b n) (by (try delta c6O); simp [nE,fM]))))))))))))))))))))))))))))))))))))))))))))))
theorem b9E (b:List Int) (n:Int) (hb:b.length < 1048576):AC 227 [(sA 1 (List.map rU8 b)),(iI n)] [] ((sA 1 (List.map rU8 (nE b n))),[]):=(b9F b n hb).post ⟨rfl,rfl,.inl rfl⟩
def bU (c:j5):Int:=if c.gone=true then 0 else if (c.over != 0)=true then c.over else c.status
def b7W:Ann:={ refs:=[1],fin:=some 0 }
theorem b2D (c:j5) :AC 226 [(AV.agg (j5.row c))] [] ((iI (bU c)),[]) :=
 r9 (fn:=Tryz.f226) (ann:=b7W) (Has.o Tryz.func226) (.r (.s (.g (.two c.gone (fun h1 h1'=>(.qr 0 z_ (by simp_all [bU]))) (fun h1 h1'=>(.r (.g (.two (c.over != 0) (fun h2 h2'=>(.qr 0 (iI c.over) (by simp_all [bU]))) (fun h2 h2'=>(.qr 0 (iI c.status) (by simp_all [bU])))))))))))
def U1 (l:List j5):List j5:=l.filter fun c=>!c.gone
def U6 (l:List j5):List j5:=G9 (U1 l)
theorem a5M (l:l9C):(U1 l).length<=l.length:=List.length_filter_le _ _
theorem a5l (l:l9C):(U6 l).length<=l.length:=by unfold U6; rw [oF]; exact a5M l
def a1J:Ann:={ gh:=[(8,.frz 3)],gha:=[(1,.vir 3 9),(7,.cut 1)],fin:=some 0,live:=[(3,[3,6,7,8])],out:=[(3,[3,6,7,8])] }
@[simp] abbrev d2N (a:Nat) (b:l9C) (c:l9C) (d:Nat):Heap:=[(o_ (a+1) 9 (mC (b++[(nth c d)])))]
@[simp] abbrev c6N (a:Nat) (b:Nat) (c:l9C) (d:Nat):Fr:=(mkF 22 [(3,(AV.osl 0 a 9 0 b)),(6,(sA 9 (mC c))),(7,(iN c.length)),(8,(iN d))])
@[simp] abbrev b5K :=(l9 Tryz.prog (X a1J) (x9 Tryz.f161 0))
theorem a5k (l:l9C) (out:l9C) (k:Nat) (g:Nat) (i:Nat) (hl:l.length < 1048576) (hk:k=out.length) (hki:k<=i) (hle_:i<=l.length) {eX:Ex} {FX:Fr} {HX:Heap} (k1:(decide ((i:Int) < (l.length:Int)))=true->(!(nth l i).gone)=true->j6 b5K (some [3,6,7,8]) (some [3,6,7,8]) (mkF 22 [(3,(cw_ g k)),(6,(sA 9 (mC l))),(7,(iN l.length)),(8,(iN (i+1)))]) (d2N g out l i) eX FX HX) (k2:(decide ((i:Int) < (l.length:Int)))=true->(!(nth l i).gone)=false->j6 b5K (some [3,6,7,8]) (some [3,6,7,8]) (mkF 22 [(3,(AV.osl 0 g 9 0 k)),(6,(sA 9 (mC l))),(7,(iN l.length)),(8,(iN (i+1)))]) [(o_ g 9 (mC out))] eX FX HX) (k3:(decide ((i:Int) < (l.length:Int)))=false->((.exit 0:Ex),(c6N g k l i),[(o_ g 9 (mC out))])=(eX,FX,HX)):j6 b5K (some [3,6,7,8]) (some [3,6,7,8]) (c6N g k l i) [(o_ g 9 (mC out))] eX FX HX :=
 I9 (.r (.g (.two (decide ((i:Int) < (l.length:Int))) (fun h1 h1'=>(.r (.h' [(o_ g 9 (mC out)),(o_ 0 9 [[e_,e_,z_,z_,z_,z_,z_,z_,bF]])] (.is 0 9 9 (mC l) (i:Int) (j5.row (nth l i)) (N7.mk _ ow ow) (.s (.g (.two (!(nth l i).gone) (fun h2 h2'=>(.r (.h' (a0N g out l i) (.ap 3 30 (AV.osl 0 g 9 0 k) (cy_ l i) (cw_ g k) [(o_ (g+1) 9 (mC (out++[(nth l i)]))),(o_ 0 9 [(j5.row (nth l i))])] (G7 (row:=j5.row) (l:=out) (x:=(nth l i)) (T:=tt) (e:=50) (te:=dB) (z:=1) (b:=24) (y:=[.sl .nil 0 []]) kr kr rfl E5 E5 kr Y5 rfl rfl jF) (.s (.y 0 (.int .i64 (cb_ i)) (iN (i+1)) Yes.o (.h' (d2N g out l i) (.b 1 (.g (.l (k1 h1 h2))))))))))) (fun h2 h2'=>(.r (.h' (a0N g out l i) (.y 0 (.int .i64 (cb_ i)) (iN (i+1)) Yes.o (.h' [(o_ g 9 (mC out))] (.b 1 (.g (.l (k2 h1 h2)))))))))))))))) (fun h1 h1'=>(.l (k3 h1))))))
def wE (l:List j5) (i:Nat) (s:(List j5) × Nat × Nat):(List j5) × Nat × Nat:=(if (!(nth l i).gone)=true then (s.1++[(nth l i)],(s.2.1+1),(s.2.2+1)) else (s.1,s.2.1,s.2.2))
theorem b7X (l:l9C) (hl:l.length < 1048576)  (r_:Nat):∀ (out:l9C) (k:Nat) (g:Nat) (i:Nat) (sF:(l9C) × Nat × Nat),i+r_=l.length->k=out.length->k<=i->sF=iter (wE l) r_ i (out,k,g) ->
 j6 (l9 Tryz.prog (X a1J) (x9 Tryz.f161 0)) (some [3,6,7,8]) (some [3,6,7,8]) (c6N g k l i) [(o_ g 9 (mC out))] (.exit 0) (mkF 22 [(3,(AV.osl 0 sF.2.2 9 0 sF.2.1)),(6,(sA 9 (mC l))),(7,(iN l.length)),(8,(iN l.length))]) [(o_ sF.2.2 9 (mC sF.1))]:=by
 induction r_ with
 | zero =>
  intro out k g i sF hi_ hk hki  hF
  obtain rfl:l.length=i:=by omega
  have e_:sF=(out,k,g):=hF
  refine a5k l out k g l.length hl hk hki (Nat.le_refl _) (fun h _=>by simp at h <;> omega) (fun h _=>by simp at h <;> omega) (fun _=>?_)
  first | done | rfl | (rw [e_]; done) | (rw [e_]; rfl)
 | succ r_ ih =>
  intro out k g i sF hi_ hk hki  hF
  refine a5k l out k g i hl hk hki ow (fun h1 h2=>?_) (fun h1 h2=>?_) (fun h=>by simp at h <;> omega)
  · exact ih (out++[(nth l i)]) (k+1) (g+1) (i+1) sF ow U2 U2  (by rw [hF] <;> simp only [iter,wE,h2,if_true,Bool.false_eq_true,if_false])
  · exact ih out k g (i+1) sF ow U2 U2  (by rw [hF] <;> simp only [iter,wE,h2,if_true,Bool.false_eq_true,if_false])
theorem b7Y (l:l9C):(U1 l,(U1 l).length,(U1 l).length)=iter (wE l) l.length 0 ([],0,0):=by
 rw [dX (wE l) (fun s c=>if (fun c:j5=>!c.gone) c=true then (s.1++[c],s.2.1+1,s.2.2+1) else s) l (fun i s hi=>by simp [wE])]
 rw [b4m (fun c:j5=>!c.gone) (fun c=>c) l]; simp [U1]
def jA (b:List Int) (c:j5):List Int:=nE (Y4 (U5 (U5 b c.key.app) c.key.id) (bU c)) c.lease
theorem a6d (b:List Int) (c:j5):(jA b c).length<=b.length+521:=by
 have h1:=oD b c.key.app
 have h2:=oD (U5 b c.key.app) c.key.id
 unfold jA; rw [c4B,oK]; omega
def gG (l:List j5):List Int:=(U6 l).foldl jA []
theorem b5N (l:l9C):∀ (b:List Int),(l.foldl jA b).length<=b.length+l.length * 521:=by
 induction l with
 | nil=>intro b; simp
 | cons c l ih=>intro b; have h1:=ih (jA b c); have h2:=a6d b c; simp only [List.foldl_cons,List.length_cons]; omega
theorem b7Z (l:l9C):(gG l).length<=l.length * 521:=by
 have h1:=b5N (U6 l) []
 have h2:=a5l l
 unfold gG; simp only [List.length_nil] at h1; omega
def zX:Ann:={ gha:=[(1,.any 3 1),(7,.cut 0)],fin:=some 0,live:=[(3,[3,7,8,9])],out:=[(3,[3,7,8,9])] }
@[simp] abbrev c6M (a:List Int) (b:l9C) (c:Nat):Fr:=(mkF 31 [(3,(sA 1 (List.map rU8 a))),(7,(sA 9 (mC b))),(8,(iN b.length)),(9,(iN c))])
@[simp] abbrev c5P :=(l9 Tryz.prog (X zX) (x9 Tryz.f213 0))
theorem a2K (l:l9C) (b:List Int) (i:Nat) (hl:l.length < 1000) (hb:b.length<=i * 521) (hle_:i<=l.length) {eX:Ex} {FX:Fr} {HX:Heap} (k1:(decide ((i:Int) < (l.length:Int)))=true->j6 c5P (some [3,7,8,9]) (some [3,7,8,9]) (mkF 31 [(3,(sA 1 (List.map rU8 (nE (Y4 (U5 (U5 b (nth l i).key.app) (nth l i).key.id) (bU (nth l i))) (nth l i).lease)))),(7,(sA 9 (mC l))),(8,(iN l.length)),(9,(iN (i+1)))]) [] eX FX HX) (k2:(decide ((i:Int) < (l.length:Int)))=false->((.exit 0:Ex),(c6M b l i),[])=(eX,FX,HX)):j6 c5P (some [3,7,8,9]) (some [3,7,8,9]) (c6M b l i) [] eX FX HX:=by
 have h1:=oD b (nth l i).key.app
 have h2:=oD (U5 b (nth l i).key.app) (nth l i).key.id
 have h3:=oK (U5 (U5 b (nth l i).key.app) (nth l i).key.id) (bU (nth l i))
 exact I9 (.r (.g (.two (decide ((i:Int) < (l.length:Int))) (fun h1 h1'=>(.r (.h' [(o_ 0 9 [[e_,e_,z_,z_,z_,z_,z_,z_,bF]])] (.is 0 9 9 (mC l) (i:Int) (j5.row (nth l i)) (N7.mk _ ow ow) (.s (.c 4 ((a2w b (nth l i).key.app oa).lift kr kr [(o_ 0 9 [(j5.row (nth l i))])]) (.c 8 ((a2w (U5 b (nth l i).key.app) (nth l i).key.id oa).lift kr kr [(o_ 0 9 [(j5.row (nth l i))])]) (.c 10 ((b2D (nth l i)).lift kr kr [(o_ 0 9 [(j5.row (nth l i))])]) (.c 11 ((b5S (U5 (U5 b (nth l i).key.app) (nth l i).key.id) (bU (nth l i)) oa).lift kr kr [(o_ 0 9 [(j5.row (nth l i))])]) (.rd (cp_ l i) [(o_ 0 9 [(j5.row (nth l i))])] (.rd (cp_ l i) [(o_ 0 9 [(j5.row (nth l i))])] (.rd (AV.str (nth l i).key.id) [(o_ 0 9 [(j5.row (nth l i))])] (.s (.c 3 ((b9E (Y4 (U5 (U5 b (nth l i).key.app) (nth l i).key.id) (bU (nth l i))) (nth l i).lease oa).lift kr kr [(o_ 0 9 [(j5.row (nth l i))])]) (.s (.h' [(o_ 0 9 [(j5.row (nth l i))])] (.y 0 (.int .i64 (cb_ i)) (iN (i+1)) Yes.o (.h' [] (.b 0 (.g (.l (k1 h1)))))))))))))))))))))) (fun h1 h1'=>(.l (k2 h1))))))
def a0V (l:List j5) (i:Nat) (s:(List Int)):(List Int):=(nE (Y4 (U5 (U5 s (nth l i).key.app) (nth l i).key.id) (bU (nth l i))) (nth l i).lease)
theorem b2E (l:l9C) (hl:l.length < 1000)  (r_:Nat):∀ (b:List Int) (i:Nat) (sF:(List Int)),i+r_=l.length->b.length<=i * 521->sF=iter (a0V l) r_ i (b) ->
 j6 (l9 Tryz.prog (X zX) (x9 Tryz.f213 0)) (some [3,7,8,9]) (some [3,7,8,9]) (c6M b l i) [] (.exit 0) (mkF 31 [(3,(sA 1 (List.map rU8 sF))),(7,(sA 9 (mC l))),(8,(iN l.length)),(9,(iN l.length))]) []:=by
 induction r_ with
 | zero =>
  intro b i sF hi_ hb  hF
  obtain rfl:l.length=i:=by omega
  have e_:sF=(b):=hF
  refine a2K l b l.length hl hb (Nat.le_refl _) (fun h=>by simp at h <;> omega) (fun _=>?_)
  first | done | rfl | (rw [e_]; done) | (rw [e_]; rfl)
 | succ r_ ih =>
  intro b i sF hi_ hb  hF
  refine a2K l b i hl hb ow (fun h1=>?_) (fun h=>by simp at h <;> omega)
  · exact ih (nE (Y4 (U5 (U5 b (nth l i).key.app) (nth l i).key.id) (bU (nth l i))) (nth l i).lease) (i+1) sF ow (by have h9:(nE (Y4 (U5 (U5 b (nth l i).key.app) (nth l i).key.id) (bU (nth l i))) (nth l i).lease).length<=b.length+521:=a6d b (nth l i); first | omega | assumption | (simp; done) | (simp; omega) | (simp [*]; done) | (simp [*]; omega))  (by rw [hF] <;> simp only [iter,a0V,if_true,Bool.false_eq_true,if_false])
theorem b2F (l:l9C):l.foldl jA []=iter (a0V l) l.length 0 []:=(dX (a0V l) jA l (fun i s hi=>rfl) []).symm
def wB (h x:Int):Int:=IntKind.u32.wrap (IntKind.u32.wrap (IntKind.u32.wrap (h * 31)+IntKind.u32.wrap x)+7)
def vD (l:List Int):Int:=l.foldl wB 17
def a4j:Ann:={ fin:=some 0,live:=[(3,[3,6,7,8])],out:=[(3,[3,6,7,8])] }
@[simp] abbrev c6L (a:Int) (b:List Int) (c:Nat):Fr:=(mkF 20 [(3,(AV.int .u32 a)),(6,(sA 1 (List.map rU8 b))),(7,(iN b.length)),(8,(iN c))])
@[simp] abbrev c5O :=(l9 Tryz.prog (X a4j) (x9 Tryz.f212 0))
theorem a7g (l:List Int) (h:Int) (i:Nat) (hl:l.length < 1048576) (hle_:i<=l.length) {eX:Ex} {FX:Fr} {HX:Heap} (k1:(decide ((i:Int) < (l.length:Int)))=true->j6 c5O (some [3,6,7,8]) (some [3,6,7,8]) (mkF 20 [(3,(AV.int .u32 (IntKind.u32.wrap ((IntKind.u32.wrap ((IntKind.u32.wrap (h * 31))+(IntKind.u32.wrap (nth l i))))+7)))),(6,(sA 1 (List.map rU8 l))),(7,(iN l.length)),(8,(iN (i+1)))]) [] eX FX HX) (k2:(decide ((i:Int) < (l.length:Int)))=false->((.exit 0:Ex),(c6L h l i),[])=(eX,FX,HX)):j6 c5O (some [3,6,7,8]) (some [3,6,7,8]) (c6L h l i) [] eX FX HX :=
 I9 (.r (.g (.two (decide ((i:Int) < (l.length:Int))) (fun h1 h1'=>(.r (.is 0 1 1 (List.map rU8 l) (i:Int) (rU8 (nth l i)) (N7.mk _ ow ow) (.s (.s (.y 0 (.int .i64 (cb_ i)) (iN (i+1)) Yes.o (.g (.l (k1 h1))))))))) (fun h1 h1'=>(.l (k2 h1))))))
def a6x (l:List Int) (i:Nat) (s:Int):Int:=((IntKind.u32.wrap ((IntKind.u32.wrap ((IntKind.u32.wrap (s * 31))+(IntKind.u32.wrap (nth l i))))+7)))
theorem c2L (l:List Int) (hl:l.length < 1048576)  (r_:Nat):∀ (h:Int) (i:Nat) (sF:Int),i+r_=l.length->sF=iter (a6x l) r_ i (h) ->
 j6 (l9 Tryz.prog (X a4j) (x9 Tryz.f212 0)) (some [3,6,7,8]) (some [3,6,7,8]) (c6L h l i) [] (.exit 0) (mkF 20 [(3,(AV.int .u32 sF)),(6,(sA 1 (List.map rU8 l))),(7,(iN l.length)),(8,(iN l.length))]) []:=by
 induction r_ with
 | zero =>
  intro h i sF hi_   hF
  obtain rfl:l.length=i:=by omega
  have e_:sF=(h):=hF
  refine a7g l h l.length hl (Nat.le_refl _) (fun h=>by simp at h <;> omega) (fun _=>?_)
  first | done | rfl | (rw [e_]; done) | (rw [e_]; rfl)
 | succ r_ ih =>
  intro h i sF hi_   hF
  refine a7g l h i hl ow (fun h1=>?_) (fun h=>by simp at h <;> omega)
  · exact ih (IntKind.u32.wrap ((IntKind.u32.wrap ((IntKind.u32.wrap (h * 31))+(IntKind.u32.wrap (nth l i))))+7)) (i+1) sF ow   (by rw [hF] <;> simp only [iter,a6x,if_true,Bool.false_eq_true,if_false])
theorem c2M (l:List Int):vD l=iter (a6x l) l.length 0 17:=(dX (a6x l) wB l (fun i s hi=>rfl) 17).symm
@[simp] abbrev d2M (a:List Int):Fr:=(mkF 20 [(3,(AV.int .u32 (vD a))),(6,(sA 1 (List.map rU8 a))),(7,(iN a.length)),(8,(iN a.length))])
theorem c2K (l:List Int) (hl:l.length < 1048576):AC 212 [(sA 1 (List.map rU8 l))] [] ((AV.int .u32 (vD l)),[]) :=
 r9 (fn:=Tryz.f212) (ann:=a4j) (Has.o Tryz.func212) (.r (.s (.s (.y 1 (.int .i64 ((List.length (List.map rU8 l):Nat):Int)) (iN l.length) (Yes.len _ _ _) (.g (.loop (d2M l) (show j6 c5O (some [3,6,7,8]) (some [3,6,7,8]) (mkF 20 [(3,(AV.int .u32 17)),(6,(sA 1 (List.map rU8 l))),(7,(iN l.length)),(8,z_)]) [] (.exit 0) (d2M l) [] from (c2L l hl (List.length l) 17 0 (vD l) ow (c2M _))) (.qr 0 (AV.int .u32 (vD l)))))))))
def ofB (l:List j5):Int:=vD (gG l)
end Go.Proofs.YtmghjcbabebanaaGreat.AM
namespace Go.Proofs.YtmghjcbabebanaaGreat.AM
open Go
section
variable {α:Type} [Inhabited α]
def aI (lt:α->α->Bool) (x:α) (out:List α):Nat->Nat
 | 0=>0
 | k+1=>if lt x (nth out k)=true then aI lt x out k else k+1
def Z4 (lt:α->α->Bool) (out:List α) (x:α):List α:=(out.take (aI lt x out out.length)++[x])++out.drop (aI lt x out out.length)
theorem a0Z (lt:α->α->Bool) (x:α) (out:List α) (k:Nat):aI lt x out k<=k:=by
 induction k with
 | zero=>simp only [aI]; omega
 | succ k ih=>simp only [aI]; split <;> omega
theorem b3p (lt:α->α->Bool) (x:α) {out out':List α} (k:Nat) (h:∀ i,i < k->nth out i=nth out' i):aI lt x out k=aI lt x out' k:=by
 induction k with
 | zero=>rfl
 | succ k ih=>simp only [aI]; rw [h k ya_,ih fun i hi=>h i ya_]
theorem a0f (lt:α->α->Bool) (x:α) (out:List α) (k:Nat):(∀ i,aI lt x out k<=i->i < k->lt x (nth out i)=true)/\(0 < aI lt x out k->lt x (nth out (aI lt x out k - 1))=false):=by
 induction k with
 | zero=>simp only [aI]; exact ⟨fun i h1 h2=>by omega,fun h=>by omega⟩
 | succ k ih =>
  simp only [aI]
  split
  · rename_i h
    refine ⟨fun i h1 h2=>?_,ih.2⟩
    rcases Nat.lt_or_ge i k with h3 | h3
    · exact ih.1 i h1 h3
    · rw [show i=k by omega]; exact h
  · rename_i h
    exact ⟨fun i h1 h2=>by omega,fun _=>by simpa using h⟩
theorem a5H (lt:α->α->Bool) (out:List α) (x:α):List.Perm (Z4 lt out x) (x :: out):=by
 unfold Z4
 rw [List.append_assoc,List.singleton_append]
 refine List.perm_middle.trans ?_
 rw [List.take_append_drop]
theorem a8q (lt:α->α->Bool) (out:List α) (x:α):(Z4 lt out x).length=out.length+1:=by
 rw [(a5H lt out x).length_eq]; rfl
structure R6 (lt:α->α->Bool):Prop where
 asymm:∀ a b,lt a b=true->lt b a=false
 trans:∀ a b c,lt b a=false->lt c b=false->lt c a=false
abbrev Srt (lt:α->α->Bool) (l:List α):Prop:=List.Pairwise (fun a b=>lt b a=false) l
theorem a1v {lt:α->α->Bool} (W:R6 lt) {out:List α} (h:Srt lt out) (x:α):Srt lt (Z4 lt out x):=by
 obtain ⟨h1,h2⟩:=a0f lt x out out.length
 have hp:=a0Z lt x out out.length
 generalize hpe:aI lt x out out.length=p at *
 have hs:=a2X.1 h
 unfold Z4
 rw [hpe,List.append_assoc,List.singleton_append]
 refine List.pairwise_append.2 ⟨h.sublist (List.take_sublist _ _),List.pairwise_cons.2 ⟨fun y hy=>?_,h.sublist (List.drop_sublist _ _)⟩,fun a ha y hy=>?_⟩
 · obtain ⟨i,hi,rfl⟩:=aW hy
   simp only [List.length_drop] at hi
   rw [nA]
   exact W.asymm _ _ (h1 (p+i) ya_ ya_)
 · have hxp:lt x a=false:=by
    obtain ⟨i,hi,rfl⟩:=aW ha
    simp only [List.length_take] at hi
    rw [dV ya_]
    have h3:=h2 ya_
    rcases Nat.lt_or_ge i (p - 1) with h4 | h4
    · exact W.trans _ _ _ (hs i (p - 1) h4 ya_) h3
    · rw [show i=p - 1 by omega]; exact h3
   rcases List.mem_cons.1 hy with rfl | hy
   · exact hxp
   · obtain ⟨i,hi,rfl⟩:=aW ha
     obtain ⟨j,hj,rfl⟩:=aW hy
     simp only [List.length_take] at hi
     simp only [List.length_drop] at hj
     rw [dV ya_,nA]
     exact hs i (p+j) ya_ ya_
def N8 (lt:α->α->Bool) (l:List α):List α:=l.foldl (Z4 lt) []
theorem d3y (lt:α->α->Bool) (l:List α):∀ (out:List α),List.Perm (l.foldl (Z4 lt) out) (out++l):=by
 induction l with
 | nil=>intro out; simp
 | cons x l ih =>
  intro out
  exact (ih (Z4 lt out x)).trans (((a5H lt out x).append_right l).trans (by simpa using List.perm_middle.symm))
theorem a8s {lt:α->α->Bool} (W:R6 lt) (l:List α):∀ (out:List α),Srt lt out->Srt lt (l.foldl (Z4 lt) out):=by
 induction l with
 | nil=>intro out h; exact h
 | cons x l ih=>intro out h; exact ih _ (a1v W h x)
theorem b2q (lt:α->α->Bool) (l:List α):List.Perm (N8 lt l) l:=d3y lt l []
theorem gK {lt:α->α->Bool} (W:R6 lt) (l:List α):Srt lt (N8 lt l):=a8s W l [] List.Pairwise.nil
theorem a7l (cmp:α->α->Int) (j:Nat):∀ (l:List α),j < l.length->sink cmp 0 j l=Z4 (fun a b=>decide (cmp a b < 0)) (l.take j) (nth l j)++l.drop (j+1):=by
 induction j with
 | zero =>
  intro l h
  simp only [sink]
  have hd:l=nth l 0 :: l.drop 1:=by
   have:=Y7 (l:=l) (i:=0) h
   simpa using this
  conv=>lhs; rw [hd]
  simp [Z4,aI]
 | succ j ih =>
  intro l h
  simp only [sink]
  have h0:decide (((j+1:Nat):Int) > ((0:Nat):Int))=true:=decide_eq_true ya_
  rw [if_pos h0]
  have htk:l.take (j+1)=l.take j++[nth l j]:=by
   rw [List.take_add_one]
   congr 1
   rw [wI ya_]
   rfl
  have hdj:l.drop (j+1)=nth l (j+1) :: l.drop (j+2):=Y7 h
  have hlen:(l.take j).length=j:=by simp; omega
  by_cases hc:decide (cmp (nth l (j+1)) (nth l j) < 0)=true
  · rw [if_pos hc]
    rw [ih _ yg_]
    have e1:((l.set (j+1) (nth l j)).set j (nth l (j+1))).take j=l.take j:=by
     rw [List.take_set_of_le ya_,List.take_set_of_le ya_]
    have e2:nth ((l.set (j+1) (nth l j)).set j (nth l (j+1))) j=nth l (j+1):=by
     unfold nth
     rw [List.getD_eq_getElem?_getD,List.getElem?_set_self yg_]; rfl
    have e3:((l.set (j+1) (nth l j)).set j (nth l (j+1))).drop (j+1)=nth l j :: l.drop (j+2):=by
     rw [List.drop_set_of_lt ya_,Y7 yg_]
     congr 1
     · unfold nth
       rw [List.getD_eq_getElem?_getD,List.getElem?_set_self ya_]; rfl
     · rw [List.drop_set_of_lt ya_]
    rw [e1,e2,e3]
    have hpos:aI (fun a b=>decide (cmp a b < 0)) (nth l (j+1)) (l.take (j+1)) (l.take (j+1)).length=aI (fun a b=>decide (cmp a b < 0)) (nth l (j+1)) (l.take j) j:=by
     rw [show (l.take (j+1)).length=j+1 by rw [List.length_take]; omega]
     simp only [aI]
     rw [dV ya_,if_pos hc]
     exact b3p _ _ _ fun i hi=>by rw [dV ya_,dV hi]
    have hle:=a0Z (fun a b=>decide (cmp a b < 0)) (nth l (j+1)) (l.take j) j
    unfold Z4
    rw [hpos,hlen]
    generalize aI (fun a b=>decide (cmp a b < 0)) (nth l (j+1)) (l.take j) j=p at *
    rw [htk,List.take_append_of_le_length ya_,List.drop_append_of_le_length ya_]
    simp
  · rw [if_neg hc]
    have hpos:aI (fun a b=>decide (cmp a b < 0)) (nth l (j+1)) (l.take (j+1)) (l.take (j+1)).length=j+1:=by
     rw [show (l.take (j+1)).length=j+1 by rw [List.length_take]; omega]
     simp only [aI]
     rw [dV ya_,if_neg hc]
    unfold Z4
    rw [hpos]
    rw [List.take_of_length_le (l:=l.take (j+1)) yg_,List.drop_of_length_le (l:=l.take (j+1)) yg_,List.append_nil,List.append_assoc,List.singleton_append,<- hdj,List.take_append_drop]
theorem a8p (cmp:α->α->Int) (rest:List α):∀ (S:List α),y5 cmp 0 rest.length S.length (S++rest)=rest.foldl (Z4 fun a b=>decide (cmp a b < 0)) S:=by
 induction rest with
 | nil=>intro S; simp [y5]
 | cons x rest ih =>
  intro S
  simp only [List.length_cons,y5,List.foldl_cons]
  rw [a7l cmp S.length _ ye_]
  have e1:(S++x :: rest).take S.length=S:=by simp
  have e3:(S++x :: rest).drop (S.length+1)=rest:=by
   rw [List.drop_append]
   simp
  rw [e1,a4o,e3]
  have:=ih (Z4 (fun a b=>decide (cmp a b < 0)) S x)
  rwa [a8q] at this
theorem pV (cmp:α->α->Int) (l:List α):y5 cmp 0 (l.length - 1) 1 l=N8 (fun a b=>decide (cmp a b < 0)) l:=by
 cases l with
 | nil=>rfl
 | cons x l =>
  have:=a8p cmp l [x]
  simpa [N8,Z4,aI] using this
end
section
variable {α:Type} [Inhabited α]
theorem b3Z {lt:α->α->Bool} (W:R6 lt) {out:List α} (h:Srt lt out) (x:α):Z4 lt out x=out.filter (fun y=>!lt x y)++x :: out.filter (fun y=>lt x y):=by
 obtain ⟨h1,h2⟩:=a0f lt x out out.length
 have hp:=a0Z lt x out out.length
 generalize hpe:aI lt x out out.length=p at *
 have hs:=a2X.1 h
 have hA:∀ y∈out.take p,lt x y=false:=by
  intro y hy
  obtain ⟨i,hi,rfl⟩:=aW hy
  simp only [List.length_take] at hi
  have hi':i < p:=by omega
  rw [dV hi']
  have h3:=h2 ya_
  rcases Nat.lt_or_ge i (p - 1) with h4 | h4
  · exact W.trans _ _ _ (hs i (p - 1) h4 ya_) (by simpa using h3)
  · rw [show i=p - 1 by omega]; simpa using h3
 have hB:∀ y∈out.drop p,lt x y=true:=by
  intro y hy
  obtain ⟨i,hi,rfl⟩:=aW hy
  simp only [List.length_drop] at hi
  rw [nA]
  exact h1 (p+i) ya_ ya_
 have e1:out.filter (fun y=>!lt x y)=out.take p:=by
  conv=>lhs; rw [<- List.take_append_drop p out]
  rw [List.filter_append,List.filter_eq_self.2 (fun y hy=>by simp [hA y hy]),List.filter_eq_nil_iff.2 (fun y hy=>by simp [hB y hy]),List.append_nil]
 have e2:out.filter (fun y=>lt x y)=out.drop p:=by
  conv=>lhs; rw [<- List.take_append_drop p out]
  rw [List.filter_append,List.filter_eq_nil_iff.2 (fun y hy=>by simp [hA y hy]),List.filter_eq_self.2 (fun y hy=>by simp [hB y hy]),List.nil_append]
 unfold Z4
 rw [hpe,e1,e2]; simp
end
attribute [local irreducible] Tp.H7 Tp.J8 Tp.card Tp.cards Tp.key Tp.keyT Tp.next Tp.step
abbrev ltE (a b:j5):Bool:=decide (R8 a.key b.key < 0)
theorem a3h:(fun a b:j5=>D8 a.key b.key)=ltE:=by funext a b; exact (fU a.key b.key).symm
theorem d3q:R6 ltE:=⟨fun a b h=>by rw [<- a3h] at h ⊢; exact a9o h,fun a b c h k=>by rw [<- a3h] at h k ⊢; exact a1B h k⟩
open Go.Proofs.YtmghjcbabebanaaGreat
attribute [local irreducible] C9 D5 D8 D9 F3 F5 G9 I4 J6 K8 M9 N9 P6 R3 R8 R9 U1 U5 U6 Y4 a0v bU cmpL fM gG j6 jA l6 l9 nE ofB sink vD wB y5
end Go.Proofs.YtmghjcbabebanaaGreat.AM
namespace Go.Proofs.YtmghjcbabebanaaGreat.AM
open Go Go.Proofs.YtmghjcbabebanaaGreat
attribute [local irreducible] F5 J6 j6 l6 l9
abbrev d3V:List AV:=[z_,z_,z_,z_,z_,z_,z_,e_,e_,bF,(AV.int .u32 0),(AV.sl .nil 0 []),(AV.sl .nil 0 [])]
abbrev d3X (x b u c:AV):List AV:=[(iI 2),(iI 5),z_,z_,z_,z_,x,e_,e_,b,u,c,(AV.sl .nil 0 [])]
@[simp] theorem d3R (n:Nat):AV.bdds n d3V=true:=by simp [AV.bdds,AV.bdd]
@[simp] theorem d3U (n:Nat) (x b u c:AV):AV.bdds n (d3X x b u c)=(AV.bdd n x&&(AV.bdd n b&&(AV.bdd n u&&AV.bdd n c))):=by simp [AV.bdds,AV.bdd]
attribute [local irreducible] dY M6 l5 okS K5 E9 A8 F6 J2 H9 K9 l7 aK q9 U6 gG ofB G9 U1
def c7a (k:Key):j5:=⟨k,2,0,1,⟨0,0,0⟩,true⟩
def atC (l:List Entry) (k:Key):j5:=if A8 l k=true then (l7 l k).card else c7a k
theorem b9W {α β:Type} (f:α->β) (l:List α):∀ (out:List β) (k g:Nat),l.foldl (fun (s:List β × Nat × Nat) c=>(s.1++[f c],s.2.1+1,s.2.2+1)) (out,k,g)=(out++l.map f,k+l.length,g+l.length):=by
 induction l with
 | nil=>intro out k g; simp
 | cons c l ih=>intro out k g; rw [List.foldl_cons,ih]; simp; omega
def kP (l:List Entry) (al:List Key) (since:Int):List j5:=if okS al since=true then (K5 al since).map (atC l) else U6 (List.map Entry.card l)
end Go.Proofs.YtmghjcbabebanaaGreat.AM
namespace Go.Proofs.YtmghjcbabebanaaGreat.AM
open Go Go.Proofs.YtmghjcbabebanaaGreat
attribute [local irreducible] A8 E9 F5 F6 G9 H9 J2 J6 K5 K9 M6 Tp.J8 Tp.card Tp.next Tp.step U1 U6 aK dY gG j6 kP l6 l7 l9 ofB okS q9
def b0f:Ann:={ fin:=some 1 }
theorem a7I  :AC 49 [] [] ((oO 0 0 0 0),[(o_ 0 2 [[z_,(AV.sl .nil 0 [])]])]) :=
 r9 (fn:=Tryz.f49) (ann:=b0f) (Has.o Tryz.func49) (.r (.s (.g (.h' [(o_ 0 2 [[z_,(AV.sl .nil 0 [])]])] (.q 1 (oO 0 0 0 0))))))
theorem b0e  :AC 49 [] [] ((oO 0 0 0 0),[(o_ 0 2 [[(iN ((List.length ([]:l9K)))),(AV.osl 1 0 2 0 (List.length (l5 ([]:l9K))))]]),(o_ 0 2 (mK (l5 ([]:l9K))))]):=(a7I).a7c
attribute [local irreducible] l5
def d9 (n:Int):Int:=max 0 (min n 1099511627776)
def c0x:Ann:={ fin:=some 0 }
@[simp] abbrev b5J (a:Int):=(iI (max 0 (min a 1099511627776)))
theorem dO (now:Int) :AC 46 [(iI now)] [] ((iI (d9 now)),[]) :=
 r9 (fn:=Tryz.f46) (ann:=c0x) (Has.o Tryz.func46) (.r (.s (.y 1 (.int .i64 (if 1099511627776 < now then 1099511627776 else now)) (iI (min now 1099511627776)) (Yes.int yv_) (.y 2 (.int .i64 (if (min now 1099511627776) > 0 then (min now 1099511627776) else 0)) (b5J now) (Yes.int yv_) (.q 0 (b5J now) (by simp [d9,Int.max_comm,Int.min_comm]))))))
def c4J:Ann:={ fin:=some 1 }
@[simp] abbrev b6J (a:Int):Ob:=(o_ 0 3 [[(iI a),z_,z_]])
@[simp] abbrev d2r (a:Int):Heap:=[b6J a]
theorem b9Q (now:Int) :AC 48 [(iI now)] [] ((oO 0 0 0 0),(d2r now)) :=
 r9 (fn:=Tryz.f48) (ann:=c4J) (Has.o Tryz.func48) (.r (.s (.g (.h' (d2r now) (.q 1 (oO 0 0 0 0))))))
def b4y:Ann:={ base:=6,fin:=some 6 }
@[simp] abbrev gT (a b c:Int):=[[(iI a),(iI b),(iI c)]]
@[simp] abbrev J3 (a:Int) (b:Int) (c:Int):Ob:=(o_ 0 3 (gT a b c))
@[simp] abbrev jO (a:l9K) (b:Nat):=[[(iN ((List.length a))),(AV.osl 4 b 2 0 (List.length (l5 a)))]]
@[simp] abbrev M4 (a:l9K) (b:Nat):Ob:=(o_ 0 2 (jO a b))
@[simp] abbrev a4Q (a b c d:Int):=[[(iI a),(iI b),(iI c),(iI d),(oO 0 0 0 0),(oO 2 0 0 0),(oO 3 0 0 0)]]
@[simp] abbrev eH (a:Int) (b:Int) (c:Int) (d:Int):Ob:=(o_ 0 7 (a4Q a b c d))
@[simp] abbrev a0y (a:Nat) (b:l9E):=[[(iI (q9 32)),(AV.osl 1 a 10 0 (List.length b))]]
@[simp] abbrev a2u (a:Nat) (b:l9E) (c:Int) (d:Int) (e:Int) (f:l9K) (g:Nat) (h:Int) (i:Int) (j:Int) (k:Int):Heap:=[(o_ 0 2 (a0y a b)),(o_ a 10 (mE b)),J3 c d e,M4 f g,(o_ g 2 (mK (l5 f))),eH h i j k]
theorem Y2 (l:l9E) (g:Nat) (al:l9K) (ga:Nat) (gf gl gt nd s1 s2 s3:Int) :AC 17 [(oO 5 0 0 0)] (a2u g l gf gl gt al ga nd s1 s2 s3) ((oO 0 0 0 0),(a2u g l gf gl gt al ga nd s1 s2 s3)) :=
 r9 (fn:=Tryz.f17) (ann:=b4y) (Has.o Tryz.func17) (.r (.g (.qr 6 (oO 0 0 0 0))))
def b4x:Ann:={ base:=6,fin:=some 6 }
theorem a1x (l:l9E) (g:Nat) (al:l9K) (ga:Nat) (gf gl gt nd s1 s2 s3:Int) :AC 19 [(oO 5 0 0 0)] (a2u g l gf gl gt al ga nd s1 s2 s3) ((AV.agg (p9.row (p9.mk s1 s2 s3))),(a2u g l gf gl gt al ga nd s1 s2 s3)) :=
 r9 (fn:=Tryz.f19) (ann:=b4x) (Has.o Tryz.func19) (.r (.g (.qr 6 (AV.agg [(iI s1),(iI s2),(iI s3)]))))
def c4V:Ann:={ fin:=some 6 }
@[simp] abbrev b6I :Ob:=(o_ 0 2 [[(iI (q9 32)),(AV.osl 1 0 10 0 0)]])
@[simp] abbrev c6A :Heap:=[b6I,(o_ 0 10 (mE []))]
@[simp] abbrev c6z (a:Int):Heap:=[b6I,(o_ 0 10 (mE [])),b6J a]
@[simp] abbrev d2q (a:Int):Heap:=[b6I,(o_ 0 10 (mE [])),b6J a,(o_ 0 2 [[(iN ((List.length ([]:l9K)))),(AV.osl 4 0 2 0 (List.length (l5 ([]:l9K))))]]),(o_ 0 2 (mK (l5 ([]:l9K))))]
@[simp] abbrev a4P (a:Int):=[[(iI a),z_,(iI a),z_,(oO 0 0 0 0),(oO 2 0 0 0),(oO 3 0 0 0)]]
theorem a0t (nd now:Int) (h1:0<=nd) (h2:nd < 6) (h3:d9 now=now):AC 24 [(iI nd),(iI now)] [] ((oO 5 0 0 0),[(o_ 0 2 [[(iI (q9 32)),(AV.osl 1 0 10 0 (List.length ([]:l9E)))]]),(o_ 0 10 (mE ([]:l9E))),(o_ 0 3 [[(iI now),z_,z_]]),(o_ 0 2 [[(iN ((List.length ([]:l9K)))),(AV.osl 4 0 2 0 (List.length (l5 ([]:l9K))))]]),(o_ 0 2 (mK (l5 ([]:l9K)))),(o_ 0 7 (a4P nd))]) :=
 r9 (fn:=Tryz.f24) (ann:=c4V) (Has.o Tryz.func24) (.r (.s (.y 1 (bB (decide (nd < 0))) bF (Yes.b yg_) (.n2 (.y 4 (bB (decide (nd >= 6))) bF (Yes.b yg_) (.n3 (.c 9 ((dO now).lift kr kr []) (.n (.y 10 (bB (now != (d9 now))) bF (Yes.b xA) (.rn (.ch 3 c6A (l6.put2 [] [] (oO 0 0 0 0) c6A (b7O 32 ) (trivial) (rlF)) (.ch 5 (c6z now) (l6.put2 [] c6A (oO 2 0 0 0) (c6z now) (b9Q now ) (trivial) (⟨rfl,trivial⟩)) (.ch 6 (d2q now) (l6.put2 [] (c6z now) (oO 3 0 0 0) (d2q now) (b0e  ) (trivial) (rlD)) (.g (.h' [(o_ 0 2 [[(iI (q9 32)),(AV.osl 1 0 10 0 0)]]),(o_ 0 10 (mE [])),(o_ 0 3 [[(iI now),z_,z_]]),(o_ 0 2 [[(iN ((List.length ([]:l9K)))),(AV.osl 4 0 2 0 (List.length (l5 ([]:l9K))))]]),(o_ 0 2 (mK (l5 ([]:l9K)))),(o_ 0 7 (a4P nd))] (.q 6 (oO 5 0 0 0)))))))))))))))))
def c0p:Ann:={ refs:=[3],base:=6,fin:=some 6 }
@[simp] abbrev c5N (a:l9E) (b:Entry) (c:Nat):=[[(iI (q9 32)),(AV.osl 1 (H9 (q9 32) a b c) 10 0 (List.length (F6 (q9 32) a b)))]]
@[simp] abbrev a6U (a:l9E) (b:Entry) (c:Nat):Ob:=(o_ 0 2 (c5N a b c))
@[simp] abbrev a6T (a:l9E) (b:Entry) (c:Nat):Ob:=(o_ (H9 (q9 32) a b c) 10 (mE (F6 (q9 32) a b)))
@[simp] abbrev c6y (a:l9E) (b:Entry) (c:Nat) (d:Int) (e:Int) (f:Int) (g:l9K) (h:Nat) (i:Int) (j:Int) (k:Int) (l:Int):Heap:=[a6U a b c,a6T a b c,J3 d e f,(o_ 0 2 [[(iN ((List.length (g++[b.card.key])))),(AV.osl 4 (h+1+1) 2 0 (List.length (l5 (g++[b.card.key]))))]]),(o_ (h+1+1) 2 (mK (l5 (g++[b.card.key])))),eH i j k l]
@[simp] abbrev b6K (a:l9E) (b:Entry) (c:Nat) (d:Int) (e:Int) (f:Int) (g:l9K) (h:Nat) (i:Int) (j:Int) (k:Int) (l:Int):Heap:=[a6U a b c,a6T a b c,J3 d e f,M4 g h,(o_ h 2 (mK (l5 g))),eH i j k l]
@[simp] abbrev d2p (a:Int) (b:Int) (c:Int) (d:l9K) (e:Nat) (f:Int) (g:Int) (h:Int) (i:Int):Heap:=[J3 a b c,M4 d e,(o_ e 2 (mK (l5 d))),eH f g h i]
@[simp] abbrev a4O (a:l9E) (b:Entry):=(iI (J2 (q9 32) a b))
theorem b4z (l:l9E) (g:Nat) (al:l9K) (ga:Nat) (gf gl gt nd s1 s2 s3:Int) (x:Entry) (hl:l.length < 1000) (ha:al.length < 100000) (h:((J2 (q9 32) l x) == 0)=true):AC 68 [(oO 5 0 0 0),(AV.agg (Entry.row x))] (a2u g l gf gl gt al ga nd s1 s2 s3) ((a4O l x),(c6y l x g gf gl gt al ga nd s1 s2 s3)):=by
 have p1:=gM (q9 32) l x
 exact r9 (fn:=Tryz.f68) (ann:=c0p) (Has.o Tryz.func68) (.r (.s (.ch 5 (b6K l x g gf gl gt al ga nd s1 s2 s3) (a2Y (q9 32) l x g (List.length l) oa oa (d2p gf gl gt al ga nd s1 s2 s3)) (.s (.y 1 (bB ((J2 (q9 32) l x) == 0)) bT (Yes.b (h)) (.ru (.ch 7 (c6y l x g gf gl gt al ga nd s1 s2 s3) (l6.put2 [3,4] (b6K l x g gf gl gt al ga nd s1 s2 s3) (iN ((al++[x.card.key]).length)) (c6y l x g gf gl gt al ga nd s1 s2 s3) (b8r al x.card.key ga oa) (rlD) (rlD)) (.g (.qr 6 (a4O l x))))))))))
def c0q:Ann:={ refs:=[3],base:=6,fin:=some 6 }
theorem b4A (l:l9E) (g:Nat) (al:l9K) (ga:Nat) (gf gl gt nd s1 s2 s3:Int) (x:Entry) (hl:l.length < 1000) (ha:al.length < 100000) (h:((J2 (q9 32) l x) == 0)=false):AC 68 [(oO 5 0 0 0),(AV.agg (Entry.row x))] (a2u g l gf gl gt al ga nd s1 s2 s3) ((a4O l x),(b6K l x g gf gl gt al ga nd s1 s2 s3)):=by
 have p1:=gM (q9 32) l x
 exact r9 (fn:=Tryz.f68) (ann:=c0q) (Has.o Tryz.func68) (.r (.s (.ch 5 (b6K l x g gf gl gt al ga nd s1 s2 s3) (a2Y (q9 32) l x g (List.length l) oa oa (d2p gf gl gt al ga nd s1 s2 s3)) (.s (.y 1 (bB ((J2 (q9 32) l x) == 0)) bF (Yes.b (h)) (.g (.n (.qr 6 (a4O l x)))))))))
def J4 (l:List Entry) (x:Entry) (al:List Key):List Key:=if (J2 (q9 32) l x == 0)=true then al++[x.card.key] else al
def O1 (l:List Entry) (x:Entry) (ga:Nat):Nat:=if (J2 (q9 32) l x == 0)=true then ga+1+1 else ga
theorem c0o (l:l9E) (g:Nat) (al:l9K) (ga:Nat) (gf gl gt nd s1 s2 s3:Int) (x:Entry) (hl:l.length < 1000) (ha:al.length < 100000):AC 68 [(oO 5 0 0 0),(AV.agg (Entry.row x))] [(o_ 0 2 [[(iI (q9 32)),(AV.osl 1 g 10 0 (List.length l))]]),(o_ g 10 (mE l)),(o_ 0 3 [[(iI gf),(iI gl),(iI gt)]]),(o_ 0 2 [[(iN ((List.length al))),(AV.osl 4 ga 2 0 (List.length (l5 al)))]]),(o_ ga 2 (mK (l5 al))),(o_ 0 7 [[(iI nd),(iI s1),(iI s2),(iI s3),(oO 0 0 0 0),(oO 2 0 0 0),(oO 3 0 0 0)]])] ((iI (J2 (q9 32) l x)),[(o_ 0 2 [[(iI (q9 32)),(AV.osl 1 (H9 (q9 32) l x g) 10 0 (List.length (F6 (q9 32) l x)))]]),(o_ (H9 (q9 32) l x g) 10 (mE (F6 (q9 32) l x))),(o_ 0 3 [[(iI gf),(iI gl),(iI gt)]]),(o_ 0 2 [[(iN ((List.length (J4 l x al)))),(AV.osl 4 (O1 l x ga) 2 0 (List.length (l5 (J4 l x al))))]]),(o_ (O1 l x ga) 2 (mK (l5 (J4 l x al)))),(o_ 0 7 [[(iI nd),(iI s1),(iI s2),(iI s3),(oO 0 0 0 0),(oO 2 0 0 0),(oO 3 0 0 0)]])]):=by
 cases h:(J2 (q9 32) l x == 0) with
 | true=>unfold J4 O1; rw [if_pos h,if_pos h]; exact b4z l g al ga gf gl gt nd s1 s2 s3 x hl ha h
 | false=>unfold J4 O1; rw [if_neg (by rw [h]; simp),if_neg (by rw [h]; simp)]; exact b4A l g al ga gf gl gt nd s1 s2 s3 x hl ha h
theorem wS (l:l9E) (g:Nat) (al:l9K) (ga:Nat) (gf gl gt nd s1 s2 s3:Int) (x:Entry) (hl:l.length < 1000) (ha:al.length < 100000) (H:Heap):AC 68 [(oO 5 0 0 0),(AV.agg (Entry.row x))] ((a2u g l gf gl gt al ga nd s1 s2 s3)++H) ((iI (J2 (q9 32) l x)),([(o_ 0 2 [[(iI (q9 32)),(AV.osl 1 (H9 (q9 32) l x g) 10 0 (List.length (F6 (q9 32) l x)))]]),(o_ (H9 (q9 32) l x g) 10 (mE (F6 (q9 32) l x))),(o_ 0 3 [[(iI gf),(iI gl),(iI gt)]]),(o_ 0 2 [[(iN ((List.length (J4 l x al)))),(AV.osl 4 (O1 l x ga) 2 0 (List.length (l5 (J4 l x al))))]]),(o_ (O1 l x ga) 2 (mK (l5 (J4 l x al)))),(o_ 0 7 [[(iI nd),(iI s1),(iI s2),(iI s3),(oO 0 0 0 0),(oO 2 0 0 0),(oO 3 0 0 0)]])]:Heap)++H):=(c0o l g al ga gf gl gt nd s1 s2 s3 x hl ha).ext kr kr ob ob kr H
attribute [local irreducible] C9 D8 D9 F3 I4 K8 N9 P6 R9 Tp.H7 Tp.cards Tp.key Tp.keyT cmpL sink y5
def b3X:Ann:={ fin:=some 0 }
theorem a1t (n:Int) :AC 168 [(iI n)] [] (bF,[]) :=
 r9 (fn:=Tryz.f168) (ann:=b3X) (Has.o Tryz.func168) (.r (.g (.qr 0 (bB (n != n)) ye_)))
def a8L:Ann:={ fin:=some 0 }
theorem c2s {p:Prop} (h:p:=by simp_all [R5] <;> omega):p:=h
theorem a6v (a b:Int) :AC 124 [(iI a),(iI b)] [] ((iI (R5 a b)),[]) :=
 r9 (fn:=Tryz.f124) (ann:=a8L) (Has.o Tryz.func124) (.r (.s (.c 1 ((a1t a).lift kr kr []) (.s (.c 1 ((a1t b).lift kr kr []) (.s (.rn (.rn (.g (.two (decide (a < b)) (fun h1 h1'=>(.qr 0 (iI (-1)) c2s)) (fun h1 h1'=>(.r (.g (.two (decide (a > b)) (fun h2 h2'=>(.qr 0 (iI 1) c2s)) (fun h2 h2'=>(.qr 0 z_ c2s))))))))))))))))
def c9t:Ann:={ fin:=some 0 }
theorem c3D (x y z:Int) :AC 122 [(sA 1 [[(iI x)],[(iI y)],[(iI z)]])] [] ((iI (if x=0 then if y=0 then z else y else x)),[]) :=
 r9 (fn:=Tryz.f122) (ann:=c9t) (Has.o Tryz.func122) (.r (.s (.s (.g (.roll 4 (.r (.ru (.s (.g (.two (x != 0) (fun h1 h1'=>(.qr 0 (iI x) (by simp_all))) (fun h1 h1'=>(.r (.s (.ru (.s (.g (.two (y != 0) (fun h2 h2'=>(.qr 0 (iI y) (by simp_all))) (fun h2 h2'=>(.r (.s (.ru (.s (.g (.two (z != 0) (fun h3 h3'=>(.qr 0 (iI z) (by simp_all))) (fun h3 h3'=>(.r (.s (.g (.n (.qr 0 z_ (by simp_all)))))))))))))))))))))))))))))))
def L8 (a b:p9):Int:=if R5 a.t b.t=0 then if R5 a.n b.n=0 then R5 a.node b.node else R5 a.n b.n else R5 a.t b.t
def b2j:Ann:={ refs:=[2,3],fin:=some 0 }
theorem vE (a b:p9) :AC 67 [(AV.agg (p9.row a)),(AV.agg (p9.row b))] [] ((bB (decide (L8 a b < 0))),[]) :=
 r9 (fn:=Tryz.f67) (ann:=b2j) (Has.o Tryz.func67) (.r (.s (.c 4 ((pY a.t b.t).lift kr kr []) (.c 9 ((pY a.n b.n).lift kr kr []) (.c 14 ((a6v a.node b.node).lift kr kr []) (.c 16 (l6.pre (args:=[(sA 1 [[(iI (R5 a.t b.t))],[(iI (R5 a.n b.n))],[(iI (R5 a.node b.node))]])]) (args':=[(AV.sl .clip 1 [[(iI (R5 a.t b.t))],[(iI (R5 a.n b.n))],[(iI (R5 a.node b.node))]])]) ((c3D (R5 a.t b.t) (R5 a.n b.n) (R5 a.node b.node)).lift kr kr []) ⟨⟨rfl,rfl,.inl rfl⟩,trivial⟩) (.q 0 (bB (decide ((if (R5 a.t b.t)=0 then if (R5 a.n b.n)=0 then (R5 a.node b.node) else (R5 a.n b.n) else (R5 a.t b.t)) < 0))))))))))
def ixX (o:Oper):Operand:=match o.op with
 | .index _ x _=>x
 | _=>.tmp 0
def ixN (o:Oper):Operand:=match o.op with
 | .index _ _ i=>i
 | _=>.tmp 0
theorem c9f {s:ByteArray} {i:Nat} (h:i < s.size):∃ b:UInt8,s[i]?=some b/\nth (M9 s) i=(b.toNat:Int):=by
 refine ⟨s[i],by simp [h],?_⟩
 have h2:i < s.data.toList.length:=by simpa using h
 unfold M9 nth
 rw [List.getD_eq_getElem?_getD,List.getElem?_map,List.getElem?_eq_getElem h2]
 rfl
theorem b8d {P:Program} {X:Env} {F:Fr} {H:Heap} {ar:Nat} {o:Oper} (hT:TOk P X.T) {xt:TypeId} {ts:TI} {s:ByteArray} {i:Int} {n:Nat} (hop:o.op=.index xt (ixX o) (ixN o)) (hsem:bK X o=true) (hs:X.T xt=some ts) (hsd:ts.d=.string)
 (hx:opv F (ixX o)=some (.str s)) (hi:opv F (ixN o)=some (.int .i64 i)) (hn:i=(n:Int)) (hlt:n < s.size):Sat P X F H ar o (.int .u8 (nth (M9 s) n)) H:=by
 refine Sat.sem hsem ?_
 obtain ⟨dst,op,type,pos,after,guard⟩:=o
 simp only at hop
 generalize ixX _=x at hop hx
 generalize ixN _=y at hop hi
 subst hop hn
 intro G w C f hf hH
 have hv:=hf x yo_ _ hx
 have hv2:=hf y yo_ _ hi
 generalize hu:f x=u at hv
 generalize hu2:f y=u2 at hv2
 cases hv
 cases hv2
 have h2:P.underlying xt=some .string:=by
  have:=(hT _ _ hs).und
  rw [hsd] at this
  exact this
 obtain ⟨b,hb,hnb⟩:=c9f hlt
 have hr:(Instr.index xt (f x) (f y)).run P w=.ok (.int .u8 b.toNat) w:=by
  rw [hu,hu2]
  simp [Instr.index,asIntOf,run_underlying h2,hb]
 rw [hnb]
 exact ⟨_,w,by simp [execOp,hr],G,C,Ev.refl ..,hH,.int ..,Pd.refl⟩
def stR (s:p9):Bool:=decide (0<=s.t)&&(decide (0<=s.n)&&(decide (0<=s.node)&&decide (s.node < 6)))
def a9P:Ann:={ refs:=[1],fin:=some 0 }
theorem b1S {p:Prop} (h:p:=by simp only [stR]; simp_all <;> omega):p:=h
theorem zV (s:p9) :AC 107 [(AV.agg (p9.row s))] [] ((bB (stR s)),[]) :=
 r9 (fn:=Tryz.f107) (ann:=a9P) (Has.o Tryz.func107) (.r (.s (.two (decide (s.t >= 0)) (fun h1 h1'=>(.u2 (.two (decide (s.n >= 0)) (fun h2 h2'=>(.u2 (.two (decide (s.node >= 0)) (fun h3 h3'=>(.u2 (.q 0 (bB (decide (s.node < 6))) b1S))) (fun h3 h3'=>(.n2 (.q 0 bF b1S)))))) (fun h2 h2'=>(.n5 (.q 0 bF b1S)))))) (fun h1 h1'=>(.n6 (.n2 (.q 0 bF b1S)))))))
def aB (c:Int):Bool:=(decide (97<=c)&&decide (c<=122)) || (decide (48<=c)&&decide (c<=57))
def bJ (tx:ByteArray):Bool:=decide (0 < tx.size)&&(decide (tx.size<=16)&&(M9 tx).all aB)
theorem c9X {l:List Int} {f:Int->Bool} (h:l.all f=true) {j:Nat} (hj:j < l.length):f (nth l j)=true:=by
 rw [List.all_eq_true] at h
 have:=wI hj
 exact h _ (List.mem_of_getElem? this)
theorem d1z {l:List Int} {f:Int->Bool} (h:l.all f=false):∃ j,j < l.length/\f (nth l j)=false:=by
 rw [List.all_eq_false] at h
 obtain ⟨x,hx,h2⟩:=h
 obtain ⟨j,hj,e⟩:=List.getElem_of_mem hx
 exact ⟨j,hj,by rw [d0h (by rw [List.getElem?_eq_getElem hj,e]) ]; simpa using h2⟩
def wJ:Ann:={ big:=[20],fin:=some 0,live:=[(4,[0,2,13,14,15])],out:=[(4,[0,2])] }
@[simp] abbrev c6x (a:ByteArray) (b:Nat):Fr:=(mkF 36 [(0,(AV.str a)),(2,bF),(13,(AV.str a)),(14,(iN a.size)),(15,(iN (b+1)))])
@[simp] abbrev a0x (a:ByteArray):=(mkF 36 [(0,(AV.str a)),(2,bF)])
@[simp] abbrev a9i :=(l9 Tryz.prog (X wJ) (x9 Tryz.f106 0))
theorem a4p (tx:ByteArray) (i:Nat) (hs:tx.size < 100) (hi:i<=tx.size) {eX:Ex} {FX:Fr} {HX:Heap} (k1:(decide ((i:Int) < (tx.size:Int)))=true->(decide ((nth (M9 tx) i) < 97))=true->(decide ((nth (M9 tx) i) < 48))=true->((.ret:Ex),(a0x tx),[])=(eX,FX,HX)) (k2:(decide ((i:Int) < (tx.size:Int)))=true->(decide ((nth (M9 tx) i) < 97))=true->(decide ((nth (M9 tx) i) < 48))=false->(decide ((nth (M9 tx) i) > 57))=true->((.ret:Ex),(a0x tx),[])=(eX,FX,HX)) (k3:(decide ((i:Int) < (tx.size:Int)))=true->(decide ((nth (M9 tx) i) < 97))=true->(decide ((nth (M9 tx) i) < 48))=false->(decide ((nth (M9 tx) i) > 57))=false->j6 a9i (some [0,2,13,14,15]) (some [0,2]) (c6x tx i) [] eX FX HX) (k4:(decide ((i:Int) < (tx.size:Int)))=true->(decide ((nth (M9 tx) i) < 97))=false->(decide ((nth (M9 tx) i) > 122))=true->(decide ((nth (M9 tx) i) < 48))=true->((.ret:Ex),(a0x tx),[])=(eX,FX,HX)) (k5:(decide ((i:Int) < (tx.size:Int)))=true->(decide ((nth (M9 tx) i) < 97))=false->(decide ((nth (M9 tx) i) > 122))=true->(decide ((nth (M9 tx) i) < 48))=false->(decide ((nth (M9 tx) i) > 57))=true->((.ret:Ex),(a0x tx),[])=(eX,FX,HX)) (k6:(decide ((i:Int) < (tx.size:Int)))=true->(decide ((nth (M9 tx) i) < 97))=false->(decide ((nth (M9 tx) i) > 122))=true->(decide ((nth (M9 tx) i) < 48))=false->(decide ((nth (M9 tx) i) > 57))=false->j6 a9i (some [0,2,13,14,15]) (some [0,2]) (c6x tx i) [] eX FX HX) (k7:(decide ((i:Int) < (tx.size:Int)))=true->(decide ((nth (M9 tx) i) < 97))=false->(decide ((nth (M9 tx) i) > 122))=false->j6 a9i (some [0,2,13,14,15]) (some [0,2]) (c6x tx i) [] eX FX HX) (k8:(decide ((i:Int) < (tx.size:Int)))=false->((.exit 0:Ex),(a0x tx),[])=(eX,FX,HX)):j6 a9i (some [0,2,13,14,15]) (some [0,2]) (mkF 36 [(0,(AV.str tx)),(2,bF),(13,(AV.str tx)),(14,(iN tx.size)),(15,(iN i))]) [] eX FX HX :=
 I9 (.r (.g (.two (decide ((i:Int) < (tx.size:Int))) (fun h1 h1'=>(.r (.s (.t 2 (AV.int .u8 (nth (M9 tx) i)) [] (b8d (xt:=9) (ts:={ d:=.string,size:=1,bytes:=16,zero:=[.str ⟨#[]⟩] }) (i:=(i:Int)) (n:=i) dA kr kr kr rfl kr kr ow ow:Sat Tryz.prog (X wJ) (mkF 36 [(0,(AV.str tx)),(2,bF),(3,(iN i)),(13,(AV.str tx)),(14,(iN tx.size)),(15,(iN i)),(16,(bB (decide ((i:Int) < (tx.size:Int))))),(17,(iN i)),(18,(AV.str tx)),(19,(iN i))]) [] 0 (V6 Tryz.f106 6 2) (AV.int .u8 (nth (M9 tx) i)) []) (.s (.two (decide ((nth (M9 tx) i) < 97)) (fun h2 h2'=>(.u4 (.two (decide ((nth (M9 tx) i) < 48)) (fun h3 h3'=>(.u2 (.ru (.g (.l (k1 h1 h2 h3)))))) (fun h3 h3'=>(.n (.u (.g (.two (decide ((nth (M9 tx) i) > 57)) (fun h4 h4'=>(.r (.g (.l (k2 h1 h2 h3 h4))))) (fun h4 h4'=>(.r (.y 0 (.int .i64 (cb_ i)) (iN (i+1)) Yes.o (.g (.l (k3 h1 h2 h3 h4)))))))))))))) (fun h2 h2'=>(.n (.two (decide ((nth (M9 tx) i) > 122)) (fun h3 h3'=>(.u2 (.two (decide ((nth (M9 tx) i) < 48)) (fun h4 h4'=>(.u2 (.ru (.g (.l (k4 h1 h2 h3 h4)))))) (fun h4 h4'=>(.n (.u (.g (.two (decide ((nth (M9 tx) i) > 57)) (fun h5 h5'=>(.r (.g (.l (k5 h1 h2 h3 h4 h5))))) (fun h5 h5'=>(.r (.y 0 (.int .i64 (cb_ i)) (iN (i+1)) Yes.o (.g (.l (k6 h1 h2 h3 h4 h5)))))))))))))) (fun h3 h3'=>(.n3 (.rn (.y 0 (.int .i64 (cb_ i)) (iN (i+1)) Yes.o (.g (.l (k7 h1 h2 h3)))))))))))))))) (fun h1 h1'=>(.l (k8 h1))))))
theorem c9x (tx:ByteArray) (hs:tx.size < 100) (r:Nat):∀ (i:Nat),i+r=tx.size->(∀ j,i<=j->j < tx.size->aB (nth (M9 tx) j)=true) ->
 j6 (l9 Tryz.prog (X wJ) (x9 Tryz.f106 0)) (some [0,2,13,14,15]) (some [0,2]) (mkF 36 [(0,(AV.str tx)),(2,bF),(13,(AV.str tx)),(14,(iN tx.size)),(15,(iN i))]) [] (.exit 0) (mkF 36 [(0,(AV.str tx)),(2,bF)]) []:=by
 induction r with
 | zero =>
  intro i hi hall
  refine a4p tx i hs ow (fun h1 h2 h3=>absurd h1 yg_) (fun h1 h2 h3 h4=>absurd h1 yg_) (fun h1 h2 h3 h4=>absurd h1 yg_) (fun h1 h2 h3 h4=>absurd h1 yg_) (fun h1 h2 h3 h4 h5=>absurd h1 yg_) (fun h1 h2 h3 h4 h5=>absurd h1 yg_) (fun h1 h2 h3=>absurd h1 yg_) (fun h1=>rfl)
 | succ r ih =>
  intro i hi hall
  refine a4p tx i hs ow (fun h1 h2 h3=>absurd (hall i (Nat.le_refl _) ow) (by rw [(show aB (nth (M9 tx) i)=false by simp only [decide_eq_true_eq,decide_eq_false_iff_not] at h1 h2 h3; simp [aB]; omega)]; simp)) (fun h1 h2 h3 h4=>absurd (hall i (Nat.le_refl _) ow) (by rw [(show aB (nth (M9 tx) i)=false by simp only [decide_eq_true_eq,decide_eq_false_iff_not] at h1 h2 h3 h4; simp [aB]; omega)]; simp)) (fun h1 h2 h3 h4=>ih (i+1) ow (fun j hj hj2=>hall j ow hj2)) (fun h1 h2 h3 h4=>absurd (hall i (Nat.le_refl _) ow) (by rw [(show aB (nth (M9 tx) i)=false by simp only [decide_eq_true_eq,decide_eq_false_iff_not] at h1 h2 h3 h4; simp [aB]; omega)]; simp)) (fun h1 h2 h3 h4 h5=>absurd (hall i (Nat.le_refl _) ow) (by rw [(show aB (nth (M9 tx) i)=false by simp only [decide_eq_true_eq,decide_eq_false_iff_not] at h1 h2 h3 h4 h5; simp [aB]; omega)]; simp)) (fun h1 h2 h3 h4 h5=>ih (i+1) ow (fun j hj hj2=>hall j ow hj2)) (fun h1 h2 h3=>ih (i+1) ow (fun j hj hj2=>hall j ow hj2)) (fun h1=>absurd h1 yg_)
theorem d0i (tx:ByteArray) (hs:tx.size < 100) (r:Nat):∀ (i:Nat),i+r=tx.size->(∃ j,i<=j/\j < tx.size/\aB (nth (M9 tx) j)=false) ->
 j6 (l9 Tryz.prog (X wJ) (x9 Tryz.f106 0)) (some [0,2,13,14,15]) (some [0,2]) (mkF 36 [(0,(AV.str tx)),(2,(bB false)),(13,(AV.str tx)),(14,(iN tx.size)),(15,(iN i))]) [] (.ret) (mkF 36 [(0,(AV.str tx)),(2,(bB false))]) []:=by
 induction r with
 | zero =>
  intro i hi hex
  obtain ⟨j,hj1,hj2,_⟩:=hex
  omega
 | succ r ih =>
  intro i hi hex
  refine a4p tx i hs ow (fun h1 h2 h3=>rfl) (fun h1 h2 h3 h4=>rfl) (fun h1 h2 h3 h4=>(by (obtain ⟨j,hj1,hj2,hj3⟩:=hex); (have hne:j≠i:=fun e=>by rw [e,(show aB (nth (M9 tx) i)=true by simp only [decide_eq_true_eq,decide_eq_false_iff_not] at h1 h2 h3 h4; simp [aB]; omega)] at hj3; simp at hj3); exact ih (i+1) ow ⟨j,by omega,hj2,hj3⟩)) (fun h1 h2 h3 h4=>rfl) (fun h1 h2 h3 h4 h5=>rfl) (fun h1 h2 h3 h4 h5=>(by (obtain ⟨j,hj1,hj2,hj3⟩:=hex); (have hne:j≠i:=fun e=>by rw [e,(show aB (nth (M9 tx) i)=true by simp only [decide_eq_true_eq,decide_eq_false_iff_not] at h1 h2 h3 h4 h5; simp [aB]; omega)] at hj3; simp at hj3); exact ih (i+1) ow ⟨j,by omega,hj2,hj3⟩)) (fun h1 h2 h3=>(by (obtain ⟨j,hj1,hj2,hj3⟩:=hex); (have hne:j≠i:=fun e=>by rw [e,(show aB (nth (M9 tx) i)=true by simp only [decide_eq_true_eq,decide_eq_false_iff_not] at h1 h2 h3; simp [aB]; omega)] at hj3; simp at hj3); exact ih (i+1) ow ⟨j,by omega,hj2,hj3⟩)) (fun h1=>absurd h1 yg_)
@[simp] abbrev d4z (a:ByteArray):Fr:=(mkF 36 [(0,(AV.str a)),(2,bF),(13,(AV.str a)),(14,(iN a.size)),(15,z_)])
theorem b3x (tx:ByteArray) (hb:bJ tx=true):AC 106 [(AV.str tx)] [] (bT,[]):=by
 have hB:=hb
 simp only [bJ,Bool.and_eq_true,decide_eq_true_eq] at hB
 obtain ⟨q1,q2,q3⟩:=hB
 have hs:tx.size < 100:=by omega
 exact r9 (fn:=Tryz.f106) (ann:=wJ) (Has.o Tryz.func106) (.r (.s (.y 2 (bB ((tx.size:Int) == 0)) bF (Yes.b (beq_eq_false_iff_ne.2 ow)) (.n3 (.y 6 (bB (decide ((tx.size:Int) > 16))) bF (Yes.b yg_) (.rn (.g (.loop (a0x tx) (c9x tx hs tx.size 0 ow (fun j hj hj2=>c9X q3 (by rw [rY]; exact hj2))) (.qr 0 bT)))))))))
theorem b3y (tx : ByteArray) (hb : bJ tx = false) : AC 106 [(AV.str tx)] [] (bF, []) :=
  r9 (fn := Tryz.f106) (ann := wJ) (Has.o Tryz.func106) (.r (.s (.two ((tx.size : Int) == 0) (fun h1 h1' => (.u2 (.g (.u (.qr 0 bF))))) (fun h1 h1' => (.n2 (.g (.two (decide ((tx.size : Int) > 16)) (fun h2 h2' => (.qr 0 bF)) (fun h2 h2' => (.r (.g (.loop (a0x tx) (show j6 a9i (some [0, 2, 13, 14, 15]) (some [0, 2]) (d4z tx) [] (.ret) (a0x tx) [] from (d0i tx (by have q := h1'; have q2 := h2'; omega) tx.size 0 ow (by
        have q := h1'; have q2 := h2'
        have h3 : (M9 tx).all aB = false := by
          cases h4 : (M9 tx).all aB with
          | false => rfl
          | true =>
            have h5 : bJ tx = true := by simp only [bJ, Bool.and_eq_true, decide_eq_true_eq]; exact ⟨by omega, by omega, h4⟩
            rw [h5] at hb; simp at hb
        obtain ⟨j, hj, hj2⟩ := d1z h3
        exact ⟨j, Nat.zero_le _, by rw [rY] at hj; exact hj, hj2⟩))) (.q 0 bF))))))))))))
theorem uH (tx:ByteArray) :AC 106 [(AV.str tx)] [] ((bB (bJ tx)),[]):=by
 cases hb:bJ tx with
 | true=>exact b3x tx hb
 | false=>exact b3y tx hb
def O5 (c:j5):Bool:=bJ c.key.app&&(bJ c.key.id&&((decide (c.status=1) || decide (c.status=2))&&((decide (0<=c.over)&&decide (c.over<=3))&&((decide (1<=c.lease)&&decide (c.lease<=1048576))&&stR c.stamp))))
attribute [local irreducible] bJ stR
def b4M:Ann:={ refs:=[1],fin:=some 0 }
theorem mJ {p:Prop} (h:p:=by simp only [O5]; simp_all <;> omega):p:=h
theorem a1z (c:j5) :AC 59 [(AV.agg (j5.row c))] [] ((bB (O5 c)),[]) :=
 r9 (fn:=Tryz.f59) (ann:=b4M) (Has.o Tryz.func59) (.r (.s (.c 3 ((uH c.key.app).lift kr kr []) (.two (!(bJ c.key.app)) (fun h1 h1'=>(.u4 (.g (.u (.qr 0 bF mJ))))) (fun h1 h1'=>(.n3 (.c 9 ((uH c.key.id).lift kr kr []) (.n (.g (.two (!(bJ c.key.id)) (fun h2 h2'=>(.qr 0 bF mJ)) (fun h2 h2'=>(.r (.two (c.status != 1) (fun h3 h3'=>(.u2 (.g (.two (c.status != 2) (fun h4 h4'=>(.qr 0 bF mJ)) (fun h4 h4'=>(.r (.two (decide (c.over < 0)) (fun h5 h5'=>(.u2 (.g (.u (.qr 0 bF mJ))))) (fun h5 h5'=>(.n2 (.g (.two (decide (c.over > 3)) (fun h6 h6'=>(.qr 0 bF mJ)) (fun h6 h6'=>(.r (.two (decide (c.lease >= 1)) (fun h7 h7'=>(.u2 (.two (decide (c.lease<=1048576)) (fun h8 h8'=>(.u2 (.c 11 ((zV c.stamp).lift kr kr []) (.q 0 (bB (stR c.stamp)) mJ)))) (fun h8 h8'=>(.n2 (.q 0 bF mJ)))))) (fun h7 h7'=>(.n5 (.q 0 bF mJ))))))))))))))))) (fun h3 h3'=>(.n2 (.rn (.two (decide (c.over < 0)) (fun h4 h4'=>(.u2 (.g (.u (.qr 0 bF mJ))))) (fun h4 h4'=>(.n2 (.g (.two (decide (c.over > 3)) (fun h5 h5'=>(.qr 0 bF mJ)) (fun h5 h5'=>(.r (.two (decide (c.lease >= 1)) (fun h6 h6'=>(.u2 (.two (decide (c.lease<=1048576)) (fun h7 h7'=>(.u2 (.c 11 ((zV c.stamp).lift kr kr []) (.q 0 (bB (stR c.stamp)) mJ)))) (fun h7 h7'=>(.n2 (.q 0 bF mJ)))))) (fun h6 h6'=>(.n5 (.q 0 bF mJ)))))))))))))))))))))))))))
attribute [local irreducible] O5 L8
theorem sH (l:l9E) (x:Entry) (al:l9K):(J4 l x al).length<=al.length+1:=by
 unfold J4; split
 · simp
 · omega
attribute [local irreducible] J4 O1
def a2b:Ann:={ gh:=[(18,.frz 8)],gha:=[(4,.vir 8 9),(17,.cut 7)],base:=6,fin:=some 6,live:=[(7,[0,2,8,9,19,20,21])],out:=[(7,[0,2,8,9,19,20,21])] }
@[simp] abbrev b6F (a:Int) (b:Nat) (c:Nat) (d:Nat) (e:l9C) (f:Nat):Fr:=(mkF 82 [(0,(oO 5 0 0 0)),(2,(iI (d9 a))),(8,(AV.osl 6 b 9 0 c)),(9,(iN d)),(19,(sA 9 (mC e))),(20,(iN e.length)),(21,(iN (f+1)))])
@[simp] abbrev Q9 (a:Nat) (b:l9E):Ob:=(o_ 0 2 (a0y a b))
@[simp] abbrev zB (a:Nat) (b:l9E) (c:Int) (d:Int) (e:Int) (f:l9K) (g:Nat) (h:Int) (i:Int) (j:Int) (k:Int) (l:Nat) (m:l9C):Heap:=[Q9 a b,(o_ a 10 (mE b)),J3 c d e,M4 f g,(o_ g 2 (mK (l5 f))),eH h i j k,(o_ l 9 (mC m))]
@[simp] abbrev d2o (a:Int) (b:Nat) (c:Nat) (d:Nat) (e:l9C) (f:Nat):Fr:=(mkF 82 [(0,(oO 5 0 0 0)),(2,(iI (d9 a))),(8,(AV.osl 6 b 9 0 c)),(9,(iN (d+1))),(19,(sA 9 (mC e))),(20,(iN e.length)),(21,(iN (f+1)))])
@[simp] abbrev a6R (a:l9E) (b:l9C) (c:Nat) (d:Int) (e:Nat):Ob:=(o_ 0 2 [[(iI (q9 32)),(AV.osl 1 (H9 (q9 32) a (Entry.mk (nth b c) (d9 d)) e) 10 0 (List.length (F6 (q9 32) a (Entry.mk (nth b c) (d9 d)))))]])
@[simp] abbrev a3W (a:l9E) (b:l9C) (c:Nat) (d:Int) (e:Nat):Ob:=(o_ (H9 (q9 32) a (Entry.mk (nth b c) (d9 d)) e) 10 (mE (F6 (q9 32) a (Entry.mk (nth b c) (d9 d)))))
@[simp] abbrev a3V (a:l9E) (b:l9C) (c:Nat) (d:Int) (e:l9K) (f:Nat):Ob:=(o_ 0 2 [[(iN ((List.length (J4 a (Entry.mk (nth b c) (d9 d)) e)))),(AV.osl 4 (O1 a (Entry.mk (nth b c) (d9 d)) f) 2 0 (List.length (l5 (J4 a (Entry.mk (nth b c) (d9 d)) e))))]])
@[simp] abbrev a3U (a:l9E) (b:l9C) (c:Nat) (d:Int) (e:Nat) (f:l9K):Ob:=(o_ (O1 a (Entry.mk (nth b c) (d9 d)) e) 2 (mK (l5 (J4 a (Entry.mk (nth b c) (d9 d)) f))))
@[simp] abbrev b6E (a:l9E) (b:l9C) (c:Nat) (d:Int) (e:Nat) (f:Int) (g:Int) (h:Int) (i:l9K) (j:Nat) (k:Int) (l:Int) (m:Int) (n:Int) (o:Nat) (p:l9C):Heap:=[a6R a b c d e,a3W a b c d e,J3 f g h,a3V a b c d i j,a3U a b c d j i,eH k l m n,(o_ o 9 (mC p))]
@[simp] abbrev vU (a b:Nat):=(AV.osl 6 (a+1) 9 0 (b+1))
@[simp] abbrev c8t (a:Int) (b:Nat) (c:Nat) (d:Nat) (e:l9C) (f:Nat):Fr:=(mkF 82 [(0,(oO 5 0 0 0)),(2,(iI (d9 a))),(8,(vU b c)),(9,(iN d)),(19,(sA 9 (mC e))),(20,(iN e.length)),(21,(iN (f+1)))])
@[simp] abbrev a6S (a:l9E) (b:l9C) (c:Nat) (d:Int) (e:Nat) (f:Int) (g:Int) (h:Int) (i:l9K) (j:Nat) (k:Int) (l:Int) (m:Int) (n:Int) (o:Nat) (p:l9C):Heap:=[a6R a b c d e,a3W a b c d e,J3 f g h,a3V a b c d i j,a3U a b c d j i,eH k l m n,a3Z o p b c]
@[simp] abbrev d1v (a:l9E) (b:l9C) (c:Nat) (d:Int) (e:Nat):=[[(iI (q9 32)),(AV.osl 1 (H9 (q9 32) a (Entry.mk (l7 a (nth b c).key).card (d9 d)) e) 10 0 (List.length (F6 (q9 32) a (Entry.mk (l7 a (nth b c).key).card (d9 d)))))]]
@[simp] abbrev c8s (a:l9E) (b:l9C) (c:Nat) (d:Int) (e:Nat) (f:Int) (g:Int) (h:Int) (i:l9K) (j:Nat) (k:Int) (l:Int) (m:Int) (n:Int) (o:Nat) (p:l9C):Heap:=[(o_ 0 2 (d1v a b c d e)),(o_ (H9 (q9 32) a (Entry.mk (l7 a (nth b c).key).card (d9 d)) e) 10 (mE (F6 (q9 32) a (Entry.mk (l7 a (nth b c).key).card (d9 d))))),J3 f g h,M4 i j,(o_ j 2 (mK (l5 i))),eH k l m n,(o_ o 9 (mC p))]
@[simp] abbrev b6H (a:Int) (b:Nat) (c:Nat) (d:Nat) (e:l9C) (f:Nat):Fr:=(mkF 82 [(0,(oO 5 0 0 0)),(2,(iI (d9 a))),(8,(AV.osl 6 b 9 0 c)),(9,(iN d)),(19,(sA 9 (mC e))),(20,(iN e.length)),(21,(iN f))])
@[simp] abbrev c8r (a:Nat) (b:l9E) (c:Int) (d:Int) (e:Int) (f:l9K) (g:Nat) (h:Int) (i:Int) (j:Int) (k:Int) (l:Nat) (m:l9C) (n:l9C) (o:Nat):Heap:=[Q9 a b,(o_ a 10 (mE b)),J3 c d e,M4 f g,(o_ g 2 (mK (l5 f))),eH h i j k,(o_ l 9 (mC m)),(o_ 0 9 [(j5.row (nth n o))])]
@[simp] abbrev b6G (a:Nat) (b:l9E) (c:Int) (d:Int) (e:Int) (f:l9K) (g:Nat) (h:Int) (i:Int) (j:Int) (k:Int) (l:Nat) (m:l9C) (n:l9C) (o:Nat):Heap:=[Q9 a b,(o_ a 10 (mE b)),J3 c d e,M4 f g,(o_ g 2 (mK (l5 f))),eH h i j k,(o_ l 9 (mC m)),(o_ 0 9 [(j5.row (nth n o))]),(o_ 0 10 [[e_,e_,z_,z_,z_,z_,z_,z_,bF,z_]])]
@[simp] abbrev a3T (a:l9E) (b:l9C) (c:Nat):Ob:=(o_ 0 10 [(Entry.row (l7 a (nth b c).key))])
@[simp] abbrev c8q (a:l9E) (b:l9C) (c:Nat) (d:Int) (e:Nat) (f:Int) (g:Int) (h:Int) (i:l9K) (j:Nat) (k:Int) (l:Int) (m:Int) (n:Int) (o:Nat) (p:l9C):Heap:=[a6R a b c d e,a3W a b c d e,J3 f g h,a3V a b c d i j,a3U a b c d j i,eH k l m n,(o_ o 9 (mC p)),(o_ 0 9 [(j5.row (nth b c))]),a3T a b c]
@[simp] abbrev c8p (a:Nat) (b:l9C) (c:l9C) (d:Nat) (e:l9E):Heap:=[(o_ a 9 (mC b)),(o_ 0 9 [(j5.row (nth c d))]),a3T e c d]
@[simp] abbrev c8o (a:l9E) (b:l9C) (c:Nat) (d:Int) (e:Nat) (f:Int) (g:Int) (h:Int) (i:l9K) (j:Nat) (k:Int) (l:Int) (m:Int) (n:Int) (o:Nat) (p:l9C):Heap:=[a6R a b c d e,a3W a b c d e,J3 f g h,a3V a b c d i j,a3U a b c d j i,eH k l m n,a3Z o p b c,(o_ 0 9 [(j5.row (nth b c))]),a3T a b c]
@[simp] abbrev a1h (a:Nat) (b:l9E) (c:Int) (d:Int) (e:Int) (f:l9K) (g:Nat) (h:Int) (i:Int) (j:Int) (k:Int) (l:Nat) (m:l9C) (n:l9C) (o:Nat):Heap:=[Q9 a b,(o_ a 10 (mE b)),J3 c d e,M4 f g,(o_ g 2 (mK (l5 f))),eH h i j k,(o_ l 9 (mC m)),(o_ 0 9 [(j5.row (nth n o))]),a3T b n o]
@[simp] abbrev vT :=(l9 Tryz.prog (X a2b) (x9 Tryz.f33 0))
theorem a5G (q:Nat) (qa:Nat) (cs:l9C) (now:Int) (gf:Int) (gl:Int) (gt:Int) (nd:Int) (s1:Int) (s2:Int) (s3:Int) (l:l9E) (g:Nat) (al:l9K) (ga:Nat) (out:l9C) (k:Nat) (h:Nat) (rf:Nat) (i:Nat) (hq:q+cs.length < 1000) (hqa:qa+cs.length < 100000) (hk:k=out.length) (hkl:k<=i) (hrf:rf<=i) (hl:l.length<=q+i) (ha:al.length<=qa+i) (hle_:i<=cs.length) {eX:Ex} {FX:Fr} {HX:Heap} (k1:(decide ((i:Int) < (cs.length:Int)))=true->(!(O5 (nth cs i)))=true->j6 vT (some [0,2,8,9,19,20,21]) (some [0,2,8,9,19,20,21]) (b6F now h k rf cs i) (zB g l gf gl gt al ga nd s1 s2 s3 h out) eX FX HX) (k2:(decide ((i:Int) < (cs.length:Int)))=true->(!(O5 (nth cs i)))=false->(!(A8 l (nth cs i).key))=true->((J2 (q9 32) l (Entry.mk (nth cs i) (d9 now))) != 0)=true->j6 vT (some [0,2,8,9,19,20,21]) (some [0,2,8,9,19,20,21]) (d2o now h k rf cs i) (b6E l cs i now g gf gl gt al ga nd s1 s2 s3 h out) eX FX HX) (k3:(decide ((i:Int) < (cs.length:Int)))=true->(!(O5 (nth cs i)))=false->(!(A8 l (nth cs i).key))=true->((J2 (q9 32) l (Entry.mk (nth cs i) (d9 now))) != 0)=false->j6 vT (some [0,2,8,9,19,20,21]) (some [0,2,8,9,19,20,21]) (c8t now h k rf cs i) (a6S l cs i now g gf gl gt al ga nd s1 s2 s3 h out) eX FX HX) (k4:(decide ((i:Int) < (cs.length:Int)))=true->(!(O5 (nth cs i)))=false->(!(A8 l (nth cs i).key))=false->(decide (L8 (l7 l (nth cs i).key).card.stamp (nth cs i).stamp < 0))=true->((J2 (q9 32) l (Entry.mk (nth cs i) (d9 now))) != 0)=true->j6 vT (some [0,2,8,9,19,20,21]) (some [0,2,8,9,19,20,21]) (d2o now h k rf cs i) (b6E l cs i now g gf gl gt al ga nd s1 s2 s3 h out) eX FX HX) (k5:(decide ((i:Int) < (cs.length:Int)))=true->(!(O5 (nth cs i)))=false->(!(A8 l (nth cs i).key))=false->(decide (L8 (l7 l (nth cs i).key).card.stamp (nth cs i).stamp < 0))=true->((J2 (q9 32) l (Entry.mk (nth cs i) (d9 now))) != 0)=false->j6 vT (some [0,2,8,9,19,20,21]) (some [0,2,8,9,19,20,21]) (c8t now h k rf cs i) (a6S l cs i now g gf gl gt al ga nd s1 s2 s3 h out) eX FX HX) (k6:(decide ((i:Int) < (cs.length:Int)))=true->(!(O5 (nth cs i)))=false->(!(A8 l (nth cs i).key))=false->(decide (L8 (l7 l (nth cs i).key).card.stamp (nth cs i).stamp < 0))=false->(p9.eqb (l7 l (nth cs i).key).card.stamp (nth cs i).stamp)=true->(!(l7 l (nth cs i).key).card.gone)=true->j6 vT (some [0,2,8,9,19,20,21]) (some [0,2,8,9,19,20,21]) (b6F now h k rf cs i) (c8s l cs i now g gf gl gt al ga nd s1 s2 s3 h out) eX FX HX) (k7:(decide ((i:Int) < (cs.length:Int)))=true->(!(O5 (nth cs i)))=false->(!(A8 l (nth cs i).key))=false->(decide (L8 (l7 l (nth cs i).key).card.stamp (nth cs i).stamp < 0))=false->(p9.eqb (l7 l (nth cs i).key).card.stamp (nth cs i).stamp)=true->(!(l7 l (nth cs i).key).card.gone)=false->j6 vT (some [0,2,8,9,19,20,21]) (some [0,2,8,9,19,20,21]) (b6F now h k rf cs i) (zB g l gf gl gt al ga nd s1 s2 s3 h out) eX FX HX) (k8:(decide ((i:Int) < (cs.length:Int)))=true->(!(O5 (nth cs i)))=false->(!(A8 l (nth cs i).key))=false->(decide (L8 (l7 l (nth cs i).key).card.stamp (nth cs i).stamp < 0))=false->(p9.eqb (l7 l (nth cs i).key).card.stamp (nth cs i).stamp)=false->j6 vT (some [0,2,8,9,19,20,21]) (some [0,2,8,9,19,20,21]) (b6F now h k rf cs i) (zB g l gf gl gt al ga nd s1 s2 s3 h out) eX FX HX) (k9:(decide ((i:Int) < (cs.length:Int)))=false->((.exit 0:Ex),(b6H now h k rf cs i),(zB g l gf gl gt al ga nd s1 s2 s3 h out))=(eX,FX,HX)):j6 vT (some [0,2,8,9,19,20,21]) (some [0,2,8,9,19,20,21]) (b6H now h k rf cs i) (zB g l gf gl gt al ga nd s1 s2 s3 h out) eX FX HX:=by
 have p1:=gM (q9 32) l ⟨nth cs i,d9 now⟩
 have p2:=sH l ⟨nth cs i,d9 now⟩ al
 have p3:=gM (q9 32) l ⟨(l7 l (nth cs i).key).card,d9 now⟩
 exact I9 (.r (.g (.two (decide ((i:Int) < (cs.length:Int))) (fun h1 h1'=>(.r (.h' [(o_ 0 2 (a0y g l)),(o_ g 10 (mE l)),(o_ 0 3 (gT gf gl gt)),(o_ 0 2 (jO al ga)),(o_ ga 2 (mK (l5 al))),(o_ 0 7 (a4Q nd s1 s2 s3)),(o_ h 9 (mC out)),(o_ 0 9 [[e_,e_,z_,z_,z_,z_,z_,z_,bF]])] (.is 0 9 9 (mC cs) (i:Int) (j5.row (nth cs i)) (N7.mk _ ow ow) (.s (.c 1 ((a1z (nth cs i)).lift kr kr (c8r g l gf gl gt al ga nd s1 s2 s3 h out cs i)) (.g (.two (!(O5 (nth cs i))) (fun h2 h2'=>(.r (.h' (c8r g l gf gl gt al ga nd s1 s2 s3 h out cs i) (.y 0 (.int .i64 (cb_ i)) (iN (i+1)) Yes.o (.h' (zB g l gf gl gt al ga nd s1 s2 s3 h out) (.b 7 (.g (.l (k1 h1 h2))))))))) (fun h2 h2'=>(.r (.c 1 (l6.put2 [0,1,2,3,4,5] (b6G g l gf gl gt al ga nd s1 s2 s3 h out cs i) (oO 0 0 0 0) (b6G g l gf gl gt al ga nd s1 s2 s3 h out cs i) (Y2 l g al ga gf gl gt nd s1 s2 s3 ) (rlA) (rlA)) (.c 4 (get_at (q9 32) l (nth cs i).key g (List.length l) oa oa [(o_ 0 3 (gT gf gl gt)),(o_ 0 2 (jO al ga)),(o_ ga 2 (mK (l5 al))),(o_ 0 7 (a4Q nd s1 s2 s3)),(o_ h 9 (mC out)),(o_ 0 9 [(j5.row (nth cs i))]),(o_ 0 10 [[e_,e_,z_,z_,z_,z_,z_,z_,bF,z_]])]) (.rd (AV.agg (Key.row (nth cs i).key)) (b6G g l gf gl gt al ga nd s1 s2 s3 h out cs i) (.s (.two (!(A8 l (nth cs i).key)) (fun h3 h3'=>(.u5 (.ru (.ch 4 (c8q l cs i now g gf gl gt al ga nd s1 s2 s3 h out) (wS l g al ga gf gl gt nd s1 s2 s3 (Entry.mk (nth cs i) (d9 now)) oa oa (c8p h out cs i l)) (.g (.two ((J2 (q9 32) l (Entry.mk (nth cs i) (d9 now))) != 0) (fun h4 h4'=>(.r (.y 1 (.int .i64 (cb_ rf)) (iN (rf+1)) Yes.o (.s (.y 0 (.int .i64 (cb_ i)) (iN (i+1)) Yes.o (.h' (b6E l cs i now g gf gl gt al ga nd s1 s2 s3 h out) (.b 7 (.g (.l (k2 h1 h2 h3 h4)))))))))) (fun h4 h4'=>(.r (.ap 3 30 (AV.osl 6 h 9 0 k) (cy_ cs i) (vU h k) (c8o l cs i now g gf gl gt al ga nd s1 s2 s3 h out) (G7 (row:=j5.row) (l:=out) (x:=(nth cs i)) (T:=tt) (e:=50) (te:=dB) (z:=1) (b:=24) (y:=[.sl .nil 0 []]) kr kr rfl E5 E5 kr Y5 rfl rfl jF) (.s (.y 0 (.int .i64 (cb_ i)) (iN (i+1)) Yes.o (.h' (a6S l cs i now g gf gl gt al ga nd s1 s2 s3 h out) (.b 7 (.g (.l (k3 h1 h2 h3 h4)))))))))))))))) (fun h3 h3'=>(.n5 (.c 8 ((vE (l7 l (nth cs i).key).card.stamp (nth cs i).stamp).lift kr kr (a1h g l gf gl gt al ga nd s1 s2 s3 h out cs i)) (.g (.two (decide (L8 (l7 l (nth cs i).key).card.stamp (nth cs i).stamp < 0)) (fun h4 h4'=>(.r (.ch 4 (c8q l cs i now g gf gl gt al ga nd s1 s2 s3 h out) (wS l g al ga gf gl gt nd s1 s2 s3 (Entry.mk (nth cs i) (d9 now)) oa oa (c8p h out cs i l)) (.g (.two ((J2 (q9 32) l (Entry.mk (nth cs i) (d9 now))) != 0) (fun h5 h5'=>(.r (.y 1 (.int .i64 (cb_ rf)) (iN (rf+1)) Yes.o (.s (.y 0 (.int .i64 (cb_ i)) (iN (i+1)) Yes.o (.h' (b6E l cs i now g gf gl gt al ga nd s1 s2 s3 h out) (.b 7 (.g (.l (k4 h1 h2 h3 h4 h5)))))))))) (fun h5 h5'=>(.r (.ap 3 30 (AV.osl 6 h 9 0 k) (cy_ cs i) (vU h k) (c8o l cs i now g gf gl gt al ga nd s1 s2 s3 h out) (G7 (row:=j5.row) (l:=out) (x:=(nth cs i)) (T:=tt) (e:=50) (te:=dB) (z:=1) (b:=24) (y:=[.sl .nil 0 []]) kr kr rfl E5 E5 kr Y5 rfl rfl jF) (.s (.y 0 (.int .i64 (cb_ i)) (iN (i+1)) Yes.o (.h' (a6S l cs i now g gf gl gt al ga nd s1 s2 s3 h out) (.b 7 (.g (.l (k5 h1 h2 h3 h4 h5))))))))))))))) (fun h4 h4'=>(.r (.two (p9.eqb (l7 l (nth cs i).key).card.stamp (nth cs i).stamp) (fun h5 h5'=>(.u3 (.g (.two (!(l7 l (nth cs i).key).card.gone) (fun h6 h6'=>(.r (.c 1 (l6.put2 [0,1,2,3,4,5] (a1h g l gf gl gt al ga nd s1 s2 s3 h out cs i) (oO 0 0 0 0) (a1h g l gf gl gt al ga nd s1 s2 s3 h out cs i) (Y2 l g al ga gf gl gt nd s1 s2 s3 ) (rlA) (rlA)) (.ch 6 [(o_ 0 2 (d1v l cs i now g)),(o_ (H9 (q9 32) l (Entry.mk (l7 l (nth cs i).key).card (d9 now)) g) 10 (mE (F6 (q9 32) l (Entry.mk (l7 l (nth cs i).key).card (d9 now))))),(o_ 0 3 (gT gf gl gt)),(o_ 0 2 (jO al ga)),(o_ ga 2 (mK (l5 al))),(o_ 0 7 (a4Q nd s1 s2 s3)),(o_ h 9 (mC out)),(o_ 0 9 [(j5.row (nth cs i))]),(o_ 0 10 [(Entry.row (l7 l (nth cs i).key))])] (a2Y (q9 32) l (Entry.mk (l7 l (nth cs i).key).card (d9 now)) g (List.length l) oa oa [(o_ 0 3 (gT gf gl gt)),(o_ 0 2 (jO al ga)),(o_ ga 2 (mK (l5 al))),(o_ 0 7 (a4Q nd s1 s2 s3)),(o_ h 9 (mC out)),(o_ 0 9 [(j5.row (nth cs i))]),(o_ 0 10 [(Entry.row (l7 l (nth cs i).key))])]) (.rd (AV.agg (j5.row (l7 l (nth cs i).key).card)) (a1h g l gf gl gt al ga nd s1 s2 s3 h out cs i) (.s (.y 0 (.int .i64 (cb_ i)) (iN (i+1)) Yes.o (.h' (c8s l cs i now g gf gl gt al ga nd s1 s2 s3 h out) (.b 7 (.g (.l (k6 h1 h2 h3 h4 h5 h6)))))))))))) (fun h6 h6'=>(.r (.h' (a1h g l gf gl gt al ga nd s1 s2 s3 h out cs i) (.y 0 (.int .i64 (cb_ i)) (iN (i+1)) Yes.o (.h' (zB g l gf gl gt al ga nd s1 s2 s3 h out) (.b 7 (.g (.l (k7 h1 h2 h3 h4 h5 h6))))))))))))) (fun h5 h5'=>(.n3 (.rn (.h' (a1h g l gf gl gt al ga nd s1 s2 s3 h out cs i) (.y 0 (.int .i64 (cb_ i)) (iN (i+1)) Yes.o (.h' (zB g l gf gl gt al ga nd s1 s2 s3 h out) (.b 7 (.g (.l (k8 h1 h2 h3 h4 h5))))))))))))))))))))))))))))))))) (fun h1 h1'=>(.l (k9 h1))))))
def aQ (q:Nat) (qa:Nat) (cs:List j5) (now:Int) (gf:Int) (gl:Int) (gt:Int) (nd:Int) (s1:Int) (s2:Int) (s3:Int) (i:Nat) (s:(List Entry) × Nat × (List Key) × Nat × (List j5) × Nat × Nat × Nat):(List Entry) × Nat × (List Key) × Nat × (List j5) × Nat × Nat × Nat:=(if (!(O5 (nth cs i)))=true then (s.1,s.2.1,s.2.2.1,s.2.2.2.1,s.2.2.2.2.1,s.2.2.2.2.2.1,s.2.2.2.2.2.2.1,s.2.2.2.2.2.2.2) else (if (!(A8 s.1 (nth cs i).key))=true then (if ((J2 (q9 32) s.1 (Entry.mk (nth cs i) (d9 now))) != 0)=true then (F6 (q9 32) s.1 (Entry.mk (nth cs i) (d9 now)),(H9 (q9 32) s.1 (Entry.mk (nth cs i) (d9 now)) s.2.1),J4 s.1 (Entry.mk (nth cs i) (d9 now)) s.2.2.1,(O1 s.1 (Entry.mk (nth cs i) (d9 now)) s.2.2.2.1),s.2.2.2.2.1,s.2.2.2.2.2.1,s.2.2.2.2.2.2.1,s.2.2.2.2.2.2.2+1) else (F6 (q9 32) s.1 (Entry.mk (nth cs i) (d9 now)),(H9 (q9 32) s.1 (Entry.mk (nth cs i) (d9 now)) s.2.1),J4 s.1 (Entry.mk (nth cs i) (d9 now)) s.2.2.1,(O1 s.1 (Entry.mk (nth cs i) (d9 now)) s.2.2.2.1),s.2.2.2.2.1++[(nth cs i)],(s.2.2.2.2.2.1+1),(s.2.2.2.2.2.2.1+1),s.2.2.2.2.2.2.2)) else (if (decide (L8 (l7 s.1 (nth cs i).key).card.stamp (nth cs i).stamp < 0))=true then (if ((J2 (q9 32) s.1 (Entry.mk (nth cs i) (d9 now))) != 0)=true then (F6 (q9 32) s.1 (Entry.mk (nth cs i) (d9 now)),(H9 (q9 32) s.1 (Entry.mk (nth cs i) (d9 now)) s.2.1),J4 s.1 (Entry.mk (nth cs i) (d9 now)) s.2.2.1,(O1 s.1 (Entry.mk (nth cs i) (d9 now)) s.2.2.2.1),s.2.2.2.2.1,s.2.2.2.2.2.1,s.2.2.2.2.2.2.1,s.2.2.2.2.2.2.2+1) else (F6 (q9 32) s.1 (Entry.mk (nth cs i) (d9 now)),(H9 (q9 32) s.1 (Entry.mk (nth cs i) (d9 now)) s.2.1),J4 s.1 (Entry.mk (nth cs i) (d9 now)) s.2.2.1,(O1 s.1 (Entry.mk (nth cs i) (d9 now)) s.2.2.2.1),s.2.2.2.2.1++[(nth cs i)],(s.2.2.2.2.2.1+1),(s.2.2.2.2.2.2.1+1),s.2.2.2.2.2.2.2)) else (if (p9.eqb (l7 s.1 (nth cs i).key).card.stamp (nth cs i).stamp)=true then (if (!(l7 s.1 (nth cs i).key).card.gone)=true then (F6 (q9 32) s.1 (Entry.mk (l7 s.1 (nth cs i).key).card (d9 now)),(H9 (q9 32) s.1 (Entry.mk (l7 s.1 (nth cs i).key).card (d9 now)) s.2.1),s.2.2.1,s.2.2.2.1,s.2.2.2.2.1,s.2.2.2.2.2.1,s.2.2.2.2.2.2.1,s.2.2.2.2.2.2.2) else (s.1,s.2.1,s.2.2.1,s.2.2.2.1,s.2.2.2.2.1,s.2.2.2.2.2.1,s.2.2.2.2.2.2.1,s.2.2.2.2.2.2.2)) else (s.1,s.2.1,s.2.2.1,s.2.2.2.1,s.2.2.2.2.1,s.2.2.2.2.2.1,s.2.2.2.2.2.2.1,s.2.2.2.2.2.2.2)))))
theorem T9 {p:Prop} (h:p:=by have p1:=gM (q9 32) l ⟨nth cs i,d9 now⟩; have p2:=sH l ⟨nth cs i,d9 now⟩ al; have p3:=gM (q9 32) l ⟨(l7 l (nth cs i).key).card,d9 now⟩; first | omega | assumption | (simp; done) | (simp; omega) | (simp [*]; done) | (simp [*]; omega)):p:=h
theorem c2r {p:Prop} (h:p:=by rw [hF] <;> simp only [iter,aQ,h2,h3,h4,h5,if_true,Bool.false_eq_true,if_false]):p:=h
theorem b9z (q:Nat) (qa:Nat) (cs:l9C) (now:Int) (gf:Int) (gl:Int) (gt:Int) (nd:Int) (s1:Int) (s2:Int) (s3:Int) (hq:q+cs.length < 1000) (hqa:qa+cs.length < 100000)  (r_:Nat):∀ (l:l9E) (g:Nat) (al:l9K) (ga:Nat) (out:l9C) (k:Nat) (h:Nat) (rf:Nat) (i:Nat) (sF:(l9E) × Nat × (l9K) × Nat × (l9C) × Nat × Nat × Nat),i+r_=cs.length->k=out.length->k<=i->rf<=i->l.length<=q+i->al.length<=qa+i->sF=iter (aQ q qa cs now gf gl gt nd s1 s2 s3) r_ i (l,g,al,ga,out,k,h,rf) ->
 j6 (l9 Tryz.prog (X a2b) (x9 Tryz.f33 0)) (some [0,2,8,9,19,20,21]) (some [0,2,8,9,19,20,21]) (b6H now h k rf cs i) (zB g l gf gl gt al ga nd s1 s2 s3 h out) (.exit 0) (mkF 82 [(0,(oO 5 0 0 0)),(2,(iI (d9 now))),(8,(AV.osl 6 sF.2.2.2.2.2.2.1 9 0 sF.2.2.2.2.2.1)),(9,(iN sF.2.2.2.2.2.2.2)),(19,(sA 9 (mC cs))),(20,(iN cs.length)),(21,(iN cs.length))]) [(o_ 0 2 [[(iI (q9 32)),(AV.osl 1 sF.2.1 10 0 (List.length sF.1))]]),(o_ sF.2.1 10 (mE sF.1)),(o_ 0 3 [[(iI gf),(iI gl),(iI gt)]]),(o_ 0 2 [[(iN ((List.length sF.2.2.1))),(AV.osl 4 sF.2.2.2.1 2 0 (List.length (l5 sF.2.2.1)))]]),(o_ sF.2.2.2.1 2 (mK (l5 sF.2.2.1))),(o_ 0 7 [[(iI nd),(iI s1),(iI s2),(iI s3),(oO 0 0 0 0),(oO 2 0 0 0),(oO 3 0 0 0)]]),(o_ sF.2.2.2.2.2.2.1 9 (mC sF.2.2.2.2.1))]:=by
 induction r_ with
 | zero =>
  intro l g al ga out k h rf i sF hi_ hk hkl hrf hl ha  hF
  obtain rfl:cs.length=i:=by omega
  have e_:sF=(l,g,al,ga,out,k,h,rf):=hF
  refine a5G q qa cs now gf gl gt nd s1 s2 s3 l g al ga out k h rf cs.length hq hqa hk hkl hrf hl ha (Nat.le_refl _) (fun h _=>by simp at h <;> omega) (fun h _ _ _=>by simp at h <;> omega) (fun h _ _ _=>by simp at h <;> omega) (fun h _ _ _ _=>by simp at h <;> omega) (fun h _ _ _ _=>by simp at h <;> omega) (fun h _ _ _ _ _=>by simp at h <;> omega) (fun h _ _ _ _ _=>by simp at h <;> omega) (fun h _ _ _ _=>by simp at h <;> omega) (fun _=>?_)
  first | done | rfl | (rw [e_]; done) | (rw [e_]; rfl)
 | succ r_ ih =>
  intro l g al ga out k h rf i sF hi_ hk hkl hrf hl ha  hF
  refine a5G q qa cs now gf gl gt nd s1 s2 s3 l g al ga out k h rf i hq hqa hk hkl hrf hl ha ow (fun h1 h2=>?_) (fun h1 h2 h3 h4=>?_) (fun h1 h2 h3 h4=>?_) (fun h1 h2 h3 h4 h5=>?_) (fun h1 h2 h3 h4 h5=>?_) (fun h1 h2 h3 h4 h5 h6=>?_) (fun h1 h2 h3 h4 h5 h6=>?_) (fun h1 h2 h3 h4 h5=>?_) (fun h=>by simp at h <;> omega)
  · exact ih l g al ga out k h rf (i+1) sF ow T9 T9 T9 T9 T9  (by rw [hF] <;> simp only [iter,aQ,h2,if_true,Bool.false_eq_true,if_false])
  · exact ih (F6 (q9 32) l (Entry.mk (nth cs i) (d9 now))) (H9 (q9 32) l (Entry.mk (nth cs i) (d9 now)) g) (J4 l (Entry.mk (nth cs i) (d9 now)) al) (O1 l (Entry.mk (nth cs i) (d9 now)) ga) out k h (rf+1) (i+1) sF ow T9 T9 T9 T9 T9  (by rw [hF] <;> simp only [iter,aQ,h2,h3,h4,if_true,Bool.false_eq_true,if_false])
  · exact ih (F6 (q9 32) l (Entry.mk (nth cs i) (d9 now))) (H9 (q9 32) l (Entry.mk (nth cs i) (d9 now)) g) (J4 l (Entry.mk (nth cs i) (d9 now)) al) (O1 l (Entry.mk (nth cs i) (d9 now)) ga) (out++[(nth cs i)]) (k+1) (h+1) rf (i+1) sF ow T9 T9 T9 T9 T9  (by rw [hF] <;> simp only [iter,aQ,h2,h3,h4,if_true,Bool.false_eq_true,if_false])
  · exact ih (F6 (q9 32) l (Entry.mk (nth cs i) (d9 now))) (H9 (q9 32) l (Entry.mk (nth cs i) (d9 now)) g) (J4 l (Entry.mk (nth cs i) (d9 now)) al) (O1 l (Entry.mk (nth cs i) (d9 now)) ga) out k h (rf+1) (i+1) sF ow T9 T9 T9 T9 T9  c2r
  · exact ih (F6 (q9 32) l (Entry.mk (nth cs i) (d9 now))) (H9 (q9 32) l (Entry.mk (nth cs i) (d9 now)) g) (J4 l (Entry.mk (nth cs i) (d9 now)) al) (O1 l (Entry.mk (nth cs i) (d9 now)) ga) (out++[(nth cs i)]) (k+1) (h+1) rf (i+1) sF ow T9 T9 T9 T9 T9  c2r
  · exact ih (F6 (q9 32) l (Entry.mk (l7 l (nth cs i).key).card (d9 now))) (H9 (q9 32) l (Entry.mk (l7 l (nth cs i).key).card (d9 now)) g) al ga out k h rf (i+1) sF ow T9 T9 T9 T9 T9  (by rw [hF] <;> simp only [iter,aQ,h2,h3,h4,h5,h6,if_true,Bool.false_eq_true,if_false])
  · exact ih l g al ga out k h rf (i+1) sF ow T9 T9 T9 T9 T9  (by rw [hF] <;> simp only [iter,aQ,h2,h3,h4,h5,h6,if_true,Bool.false_eq_true,if_false])
  · exact ih l g al ga out k h rf (i+1) sF ow T9 T9 T9 T9 T9  c2r
theorem sQ {σ:Type} (f:Nat->σ->σ) (P:Nat->σ->Prop) (n:Nat) (h:∀ i s,i < n->P i s->P (i+1) (f i s)) (r:Nat):∀ (i:Nat) (s:σ),i+r<=n->P i s->P (i+r) (iter f r i s):=by
 induction r with
 | zero=>intro i s _ hp; exact hp
 | succ r ih =>
  intro i s hi hp
  have:=ih (i+1) (f i s) ow (h i s ow hp)
  rw [show i+(r+1)=i+1+r by omega]; exact this
theorem b9w {σ τ:Type} (f:Nat->σ->σ) (f':Nat->τ->τ) (p:σ->τ) (h:∀ i s,p (f i s)=f' i (p s)) (r:Nat):∀ (i:Nat) (s:σ),p (iter f r i s)=iter f' r i (p s):=by
 induction r with
 | zero=>intro i s; rfl
 | succ r ih=>intro i s; show p (iter f r (i+1) (f i s))=iter f' r (i+1) (f' i (p s)); rw [ih,h]
def aX (now:Int) (s:List Entry × List Key × List j5 × Nat) (c:j5):List Entry × List Key × List j5 × Nat :=
 if O5 c=true then
  if A8 s.1 c.key=true/\decide (L8 (l7 s.1 c.key).card.stamp c.stamp < 0)=false then
   if p9.eqb (l7 s.1 c.key).card.stamp c.stamp=true/\(l7 s.1 c.key).card.gone=false then (F6 (q9 32) s.1 ⟨(l7 s.1 c.key).card,now⟩,s.2.1,s.2.2.1,s.2.2.2) else s
  else (F6 (q9 32) s.1 ⟨c,now⟩,J4 s.1 ⟨c,now⟩ s.2.1,if J2 (q9 32) s.1 ⟨c,now⟩=0 then s.2.2.1++[c] else s.2.2.1,if J2 (q9 32) s.1 ⟨c,now⟩=0 then s.2.2.2 else s.2.2.2+1)
 else s
def M0 (now:Int) (cs:List j5) (l:List Entry) (al:List Key):List Entry × List Key × List j5 × Nat:=cs.foldl (aX (d9 now)) (l,al,[],0)
theorem b9B (now:Int) (s:l9E × l9K × l9C × Nat) (c:j5):(aX now s c).1.length<=s.1.length+1/\(aX now s c).2.1.length<=s.2.1.length+1/\(aX now s c).2.2.1.length<=s.2.2.1.length+1/\(aX now s c).2.2.2<=s.2.2.2+1:=by
 have p1:=gM (q9 32) s.1 ⟨c,now⟩
 have p2:=sH s.1 ⟨c,now⟩ s.2.1
 have p3:=gM (q9 32) s.1 ⟨(l7 s.1 c.key).card,now⟩
 unfold aX
 split
 · split
   · split
     · exact ⟨p3,Nat.le_succ _,Nat.le_succ _,Nat.le_succ _⟩
     · exact ⟨by omega,by omega,by omega,by omega⟩
   · refine ⟨p1,p2,?_,?_⟩ <;> simp only <;> split <;> simp <;> omega
 · exact ⟨by omega,by omega,by omega,by omega⟩
theorem b9C (now:Int) (cs:l9C):∀ (s:l9E × l9K × l9C × Nat),(cs.foldl (aX now) s).1.length<=s.1.length+cs.length/\(cs.foldl (aX now) s).2.1.length<=s.2.1.length+cs.length/\(cs.foldl (aX now) s).2.2.1.length<=s.2.2.1.length+cs.length/\(cs.foldl (aX now) s).2.2.2<=s.2.2.2+cs.length:=by
 induction cs with
 | nil=>intro s; simp
 | cons c cs ih =>
  intro s
  obtain ⟨h1,h2,h3,h4⟩:=ih (aX now s c)
  obtain ⟨k1,k2,k3,k4⟩:=b9B now s c
  simp only [List.foldl_cons,List.length_cons]
  exact ⟨by omega,by omega,by omega,by omega⟩
theorem b9D (now:Int) (cs:l9C) (l:l9E) (al:l9K):(M0 now cs l al).1.length<=l.length+cs.length/\(M0 now cs l al).2.1.length<=al.length+cs.length/\(M0 now cs l al).2.2.1.length<=cs.length/\(M0 now cs l al).2.2.2<=cs.length:=by
 have h:=b9C (d9 now) cs (l,al,[],0)
 simpa [M0] using h
def a1c (t:List Entry × Nat × List Key × Nat × List j5 × Nat × Nat × Nat):List Entry × List Key × List j5 × Nat:=(t.1,t.2.2.1,t.2.2.2.2.1,t.2.2.2.2.2.2.2)
theorem c9K (q qa:Nat) (cs:l9C) (now gf gl gt nd s1 s2 s3:Int) (i:Nat) (s:l9E × Nat × l9K × Nat × l9C × Nat × Nat × Nat) :
 a1c (aQ q qa cs now gf gl gt nd s1 s2 s3 i s)=aX (d9 now) (a1c s) (nth cs i):=by
 unfold a1c aQ aX
 generalize O5 (nth cs i)=b1
 generalize A8 s.1 (nth cs i).key=b2
 generalize decide (L8 (l7 s.1 (nth cs i).key).card.stamp (nth cs i).stamp < 0)=b3
 generalize p9.eqb (l7 s.1 (nth cs i).key).card.stamp (nth cs i).stamp=b4
 generalize (l7 s.1 (nth cs i).key).card.gone=b5
 generalize J2 (q9 32) s.1 (Entry.mk (nth cs i) (d9 now))=z
 by_cases hz:z=0 <;> cases b1 <;> cases b2 <;> cases b3 <;> cases b4 <;> cases b5 <;> simp [hz]
theorem c9J (q qa:Nat) (cs:l9C) (now gf gl gt nd s1 s2 s3:Int) (i:Nat) (s:l9E × Nat × l9K × Nat × l9C × Nat × Nat × Nat) (h:s.2.2.2.2.2.1=s.2.2.2.2.1.length) :
 (aQ q qa cs now gf gl gt nd s1 s2 s3 i s).2.2.2.2.2.1=(aQ q qa cs now gf gl gt nd s1 s2 s3 i s).2.2.2.2.1.length:=by
 unfold aQ
 repeat' split
 all_goals simp [h]
def uL (now:Int) (cs:List j5) (l:List Entry) (g:Nat) (al:List Key) (ga:Nat):List Entry × Nat × List Key × Nat × List j5 × Nat × Nat × Nat:=iter (aQ 0 0 cs now 0 0 0 0 0 0 0) cs.length 0 (l,g,al,ga,[],0,0,0)
def iJ (now:Int) (cs:List j5) (l:List Entry) (g:Nat) (al:List Key) (ga:Nat):Nat:=(uL now cs l g al ga).2.1
def iK (now:Int) (cs:List j5) (l:List Entry) (g:Nat) (al:List Key) (ga:Nat):Nat:=(uL now cs l g al ga).2.2.2.1
def a1d (now:Int) (cs:List j5) (l:List Entry) (g:Nat) (al:List Key) (ga:Nat):Nat:=(uL now cs l g al ga).2.2.2.2.2.2.1
theorem b9A (q qa:Nat) (cs:l9C) (now gf gl gt nd s1 s2 s3:Int) (l:l9E) (g:Nat) (al:l9K) (ga:Nat) :
 ((M0 now cs l al).1,iJ now cs l g al ga,(M0 now cs l al).2.1,iK now cs l g al ga,(M0 now cs l al).2.2.1,(M0 now cs l al).2.2.1.length,a1d now cs l g al ga,(M0 now cs l al).2.2.2)=iter (aQ q qa cs now gf gl gt nd s1 s2 s3) cs.length 0 (l,g,al,ga,[],0,0,0):=by
 have e:iter (aQ q qa cs now gf gl gt nd s1 s2 s3) cs.length 0 (l,g,al,ga,[],0,0,0)=uL now cs l g al ga:=rfl
 have h1:a1c (uL now cs l g al ga)=iter (fun i s=>aX (d9 now) s (nth cs i)) cs.length 0 (l,al,[],0):=b9w (aQ 0 0 cs now 0 0 0 0 0 0 0) (fun i s=>aX (d9 now) s (nth cs i)) a1c (fun i s=>c9K 0 0 cs now 0 0 0 0 0 0 0 i s) cs.length 0 (l,g,al,ga,[],0,0,0)
 rw [dX (fun i s=>aX (d9 now) s (nth cs i)) (aX (d9 now)) cs (fun i s hi=>rfl)] at h1
 have h2:(uL now cs l g al ga).2.2.2.2.2.1=(uL now cs l g al ga).2.2.2.2.1.length:=sQ (aQ 0 0 cs now 0 0 0 0 0 0 0) (fun _ s=>s.2.2.2.2.2.1=s.2.2.2.2.1.length) cs.length (fun i s _ hs=>c9J 0 0 cs now 0 0 0 0 0 0 0 i s hs) cs.length 0 (l,g,al,ga,[],0,0,0) ow rfl
 rw [e]
 unfold M0 iJ iK a1d
 unfold a1c at h1
 generalize uL now cs l g al ga=x at h1 h2 ⊢
 obtain ⟨x1,x2,x3,x4,x5,x6,x7,x8⟩:=x
 simp only at h1 h2 ⊢
 rw [<- h1]
 simp only [h2]
attribute [local irreducible] M0 iJ iK a1d
@[simp] abbrev c2h (a:Int) (b:l9C) (c:l9E) (d:Nat) (e:l9K) (f:Nat):Ob:=(o_ 0 2 [[(iI (q9 32)),(AV.osl 1 (iJ a b c d e f) 10 0 (List.length (M0 a b c e).1))]])
@[simp] abbrev c2g (a:Int) (b:l9C) (c:l9E) (d:Nat) (e:l9K) (f:Nat):Ob:=(o_ (iJ a b c d e f) 10 (mE (M0 a b c e).1))
@[simp] abbrev c2f (a:Int) (b:l9C) (c:l9E) (d:l9K) (e:Nat) (f:Nat):Ob:=(o_ 0 2 [[(iN ((List.length (M0 a b c d).2.1))),(AV.osl 4 (iK a b c e d f) 2 0 (List.length (l5 (M0 a b c d).2.1)))]])
@[simp] abbrev c2e (a:Int) (b:l9C) (c:l9E) (d:Nat) (e:l9K) (f:Nat):Ob:=(o_ (iK a b c d e f) 2 (mK (l5 (M0 a b c e).2.1)))
@[simp] abbrev c8n (a:Int) (b:l9C) (c:l9E) (d:Nat) (e:l9K) (f:Nat) (g:Int) (h:Int) (i:Int) (j:Int) (k:Int) (l:Int) (m:Int):Heap:=[c2h a b c d e f,c2g a b c d e f,J3 g h i,c2f a b c e d f,c2e a b c d e f,eH j k l m]
@[simp] abbrev c8m (a:Nat) (b:l9E) (c:Int) (d:Int) (e:Int) (f:l9K) (g:Nat) (h:Int) (i:Int) (j:Int) (k:Int):Heap:=[Q9 a b,(o_ a 10 (mE b)),J3 c d e,M4 f g,(o_ g 2 (mK (l5 f))),eH h i j k,(o_ 0 9 (mC []))]
@[simp] abbrev c8l (a:Int) (b:l9C) (c:l9E) (d:Nat) (e:l9K) (f:Nat):Fr:=(mkF 82 [(0,(oO 5 0 0 0)),(2,(iI (d9 a))),(8,(AV.osl 6 (a1d a b c d e f) 9 0 (List.length (M0 a b c e).2.2.1))),(9,(iN (((M0 a b c e).2.2.2)))),(19,(sA 9 (mC b))),(20,(iN b.length)),(21,(iN b.length))])
@[simp] abbrev c8k (a:Int) (b:l9C) (c:l9E) (d:Nat) (e:l9K) (f:Nat) (g:Int) (h:Int) (i:Int) (j:Int) (k:Int) (l:Int) (m:Int):Heap:=[c2h a b c d e f,c2g a b c d e f,J3 g h i,c2f a b c e d f,c2e a b c d e f,eH j k l m,(o_ (a1d a b c d e f) 9 (mC (M0 a b c e).2.2.1))]
theorem b9y (cs:l9C) (now:Int) (l:l9E) (g:Nat) (al:l9K) (ga:Nat) (gf gl gt nd s1 s2 s3:Int) (hl:l.length+cs.length < 1000) (ha:al.length+cs.length < 100000):AC 33 [(oO 5 0 0 0),(sA 9 (mC cs)),(iI now)] [(o_ 0 2 (a0y g l)),(o_ g 10 (mE l)),(o_ 0 3 (gT gf gl gt)),(o_ 0 2 (jO al ga)),(o_ ga 2 (mK (l5 al))),(o_ 0 7 (a4Q nd s1 s2 s3))] ((AV.tup [(sA 9 (mC (M0 now cs l al).2.2.1)),(iN ((M0 now cs l al).2.2.2))]),(c8n now cs l g al ga gf gl gt nd s1 s2 s3)):=by
 have k1:=b9D now cs l al
 exact r9 (fn:=Tryz.f33) (ann:=a2b) (Has.o Tryz.func33) (.r (.s (.rn (.y 1 (.int .i64 (if 1099511627776 < now then 1099511627776 else now)) (iI (min now 1099511627776)) (Yes.int yv_) (.y 2 (.int .i64 (if (min now 1099511627776) > 0 then (min now 1099511627776) else 0)) (b5J now) (Yes.int yv_) (.s (.s (.s (.h' (c8m g l gf gl gt al ga nd s1 s2 s3) (.y 1 (.int .i64 ((List.length (mC cs):Nat):Int)) (iN cs.length) (Yes.len _ _ _) (.g (.loop (c8l now cs l g al ga) (show j6 vT (some [0,2,8,9,19,20,21]) (some [0,2,8,9,19,20,21]) (mkF 82 [(0,(oO 5 0 0 0)),(2,(b5J now)),(8,(AV.osl 6 0 9 0 0)),(9,z_),(19,(sA 9 (mC cs))),(20,(iN cs.length)),(21,z_)]) (c8m g l gf gl gt al ga nd s1 s2 s3) (.exit 0) (c8l now cs l g al ga) (c8k now cs l g al ga gf gl gt nd s1 s2 s3) from (b9z l.length al.length cs now gf gl gt nd s1 s2 s3 hl ha cs.length l g al ga [] 0 0 0 0 _ ow rfl ow ow ow ow (b9A _ _ cs now gf gl gt nd s1 s2 s3 l g al ga))) (.r (.w 8 (mC (M0 now cs l al).2.2.1) (And.intro (G8 (room:=none) kr om) (j5.y8 _ _):G6 (c8k now cs l g al ga gf gl gt nd s1 s2 s3) 9 (AV.osl 6 (a1d now cs l g al ga) 9 0 (List.length (M0 now cs l al).2.2.1))=some (mC (M0 now cs l al).2.2.1)/\AV.D7 0 (mC (M0 now cs l al).2.2.1)=true) (.g (.h' (c8n now cs l g al ga gf gl gt nd s1 s2 s3) (.q 6 (AV.tup [(sA 9 (mC (M0 now cs l al).2.2.1)),(iN (((M0 now cs l al).2.2.2)))]))))))))))))))))))
section
variable {P:Program} {X:Env} {F:Fr} {H H2:Heap} {ar:Nat} {o:Oper}
end
section
variable {α:Type} [Inhabited α]
theorem b1x (l:List α) (q:Nat):nth l q=l.getD q default:=rfl
theorem a7X (l:List α) {i:Nat} (h:i < l.length) (x:α) (q:Nat):nth (l.set i x) q=if i=q then x else nth l q:=by
 simp only [b1x,List.getD_eq_getElem?_getD]
 by_cases e:i=q
 · subst e; rw [List.getElem?_set_self h,if_pos rfl]; rfl
 · rw [List.getElem?_set_ne e,if_neg e]
theorem nC (l m:List α) (q:Nat):nth (l++m) q=if q < l.length then nth l q else nth m (q - l.length):=by
 simp only [b1x,List.getD_eq_getElem?_getD]
 split
 · rename_i h; rw [List.getElem?_append_left h]
 · rename_i h; rw [List.getElem?_append_right ya_]
theorem c9T {l m:List α} (hl:l.length=m.length) (h:∀ q,q < l.length->nth l q=nth m q):l=m:=by
 apply List.ext_getElem hl
 intro q h1 h2
 have:=h q h1
 rwa [V9 h1,V9 h2] at this
def U0 (a b n:Nat) (l:List α):List α:=iter (fun i l=>(l.set (a+i) (nth l (b+i))).set (b+i) (nth l (a+i))) n 0 l
theorem a5e (a b n:Nat) (l:List α) (hab:a+n<=b) (hb:b+n<=l.length):∀ k,k<=n->(U0 a b k l).length=l.length/\∀ q,nth (U0 a b k l) q=if a<=q/\q < a+k then nth l (b+(q - a)) else if b<=q/\q < b+k then nth l (a+(q - b)) else nth l q:=by
 intro k
 induction k with
 | zero =>
  intro _
  refine ⟨rfl,fun q=>?_⟩
  rw [if_neg ya_,if_neg ya_]
  rfl
 | succ k ih =>
  intro hk
  obtain ⟨h1,h2⟩:=ih ya_
  have e:U0 a b (k+1) l=((U0 a b k l).set (a+k) (nth (U0 a b k l) (b+k))).set (b+k) (nth (U0 a b k l) (a+k)):=a0l _ _ _
  refine ⟨by rw [e]; simp [h1],fun q=>?_⟩
  rw [e,a7X _ yg_,a7X _ ya_,h2,h2,h2]
  by_cases c1:b+k=q
  · subst c1
    rw [if_pos rfl,if_neg ya_,if_neg ya_,if_neg ya_,if_pos ya_]
    congr 1; omega
  · rw [if_neg c1]
    by_cases c2:a+k=q
    · subst c2
      rw [if_pos rfl,if_neg ya_,if_neg ya_,if_pos ya_]
      congr 1; omega
    · rw [if_neg c2]
      have e1:(a<=q/\q < a+(k+1))↔(a<=q/\q < a+k):=by omega
      have e2:(b<=q/\q < b+(k+1))↔(b<=q/\q < b+k):=by omega
      simp only [e1,e2]
theorem b7A {a b n:Nat} {l:List α} (hab:a+n<=b) (hb:b+n<=l.length):(U0 a b n l).length=l.length:=(a5e a b n l hab hb n (Nat.le_refl _)).1
theorem nT (X U M V Y:List α) {a b n:Nat} (ha:a=X.length) (hU:U.length=n) (hV:V.length=n) (hb:b=X.length+n+M.length) :
 U0 a b n (X++(U++(M++(V++Y))))=X++(V++(M++(U++Y))):=by
 obtain ⟨h1,h2⟩:=a5e a b n (X++(U++(M++(V++Y)))) ya_ yg_ n (Nat.le_refl _)
 refine c9T (by rw [h1]; simp; omega) fun q hq=>?_
 rw [h2]
 simp only [nC,hU,hV]
 by_cases c1:q < X.length
 · rw [if_neg ya_,if_neg ya_,if_pos c1,if_pos c1]
 · rw [if_neg (c:=q < X.length) c1,if_neg (c:=q < X.length) c1]
   by_cases c2:q - X.length < n
   · rw [if_pos ya_,if_pos (c:=q - X.length < n) c2,if_neg ya_,if_neg ya_,if_neg ya_,if_pos ya_]
     congr 1; omega
   · rw [if_neg ya_,if_neg (c:=q - X.length < n) c2,if_neg (c:=q - X.length < n) c2]
     by_cases c3:q - X.length - n < M.length
     · rw [if_neg ya_,if_pos c3,if_pos c3]
     · rw [if_neg (c:=q - X.length - n < M.length) c3,if_neg (c:=q - X.length - n < M.length) c3]
       by_cases c4:q - X.length - n - M.length < n
       · rw [if_pos ya_,if_pos (c:=q - X.length - n - M.length < n) c4,if_neg ya_,if_pos ya_]
         congr 1; omega
       · rw [if_neg ya_,if_neg c4,if_neg c4]
def K3 (m:Nat):Nat->Nat->Nat->List α->List α × Nat
 | 0,i,_,l=>(l,i)
 | r+1,i,j,l=>if i=j then (l,i) else if j < i then K3 m r (i - j) j (U0 (m - i) m j l) else K3 m r i (j - i) (U0 (m - i) (m+j - i) i l)
def P9 (a m b:Nat) (l:List α):List α:=U0 (m - (K3 m (m - a+(b - m)) (m - a) (b - m) l).2) m (K3 m (m - a+(b - m)) (m - a) (b - m) l).2 (K3 m (m - a+(b - m)) (m - a) (b - m) l).1
theorem a2T (m:Nat) (T:List α) (r:Nat):∀ (X U V Y:List α) (i j:Nat),i+j<=r+1->0 < i->0 < j->U.length=i->V.length=j->m=X.length+i->T=X++(V++(U++Y)) ->
 0 < (K3 m r i j (X++(U++(V++Y)))).2/\(K3 m r i j (X++(U++(V++Y)))).2<=i/\(K3 m r i j (X++(U++(V++Y)))).2<=j/\(K3 m r i j (X++(U++(V++Y)))).1.length=T.length/\U0 (m - (K3 m r i j (X++(U++(V++Y)))).2) m (K3 m r i j (X++(U++(V++Y)))).2 (K3 m r i j (X++(U++(V++Y)))).1=T:=by
 induction r with
 | zero=>intro X U V Y i j h1 h2 h3; omega
 | succ r ih =>
  intro X U V Y i j h1 h2 h3 hU hV hm hT
  simp only [K3]
  by_cases c1:i=j
  · rw [if_pos c1]
    refine ⟨h2,Nat.le_refl _,by simp only; omega,by rw [hT]; simp; omega,?_⟩
    subst c1
    have:=nT X U [] V Y (a:=m - i) (b:=m) (n:=i) ya_ hU hV yg_
    rw [hT]
    simpa using this
  · rw [if_neg c1]
    by_cases c2:j < i
    · rw [if_pos c2]
      have hP:(U.take j).length=j:=by simp; omega
      have hQ:(U.drop j).length=i - j:=by simp; omega
      have e:=nT X (U.take j) (U.drop j) V Y (a:=m - i) (b:=m) (n:=j) ya_ hP hV ya_
      rw [<- List.append_assoc (U.take j),List.take_append_drop] at e
      rw [e]
      have:=ih (X++V) (U.drop j) (U.take j) Y (i - j) j ya_ ya_ h3 hQ hP yg_ (by rw [hT,<- List.append_assoc (U.take j),List.take_append_drop]; simp)
      simp only [List.append_assoc] at this ⊢
      exact ⟨this.1,by omega,this.2.2.1,this.2.2.2⟩
    · rw [if_neg c2]
      have hP:(V.take (j - i)).length=j - i:=by simp; omega
      have hQ:(V.drop (j - i)).length=i:=by simp; omega
      have e:=nT X U (V.take (j - i)) (V.drop (j - i)) Y (a:=m - i) (b:=m+j - i) (n:=i) ya_ hU hQ ya_
      rw [<- List.append_assoc (V.take (j - i)) (V.drop (j - i)),List.take_append_drop] at e
      rw [e]
      have:=ih X (V.drop (j - i)) (V.take (j - i)) (U++Y) i (j - i) ya_ h2 ya_ hQ hP hm (by rw [hT,<- List.append_assoc (V.take (j - i)) (V.drop (j - i)),List.take_append_drop])
      exact ⟨this.1,this.2.1,by omega,this.2.2.2⟩
theorem b2Q (X U V Y:List α) {a m b:Nat} (ha:a=X.length) (hm:m=X.length+U.length) (hb:b=X.length+U.length+V.length) (h1:0 < U.length) (h2:0 < V.length):P9 a m b (X++(U++(V++Y)))=X++(V++(U++Y)):=by
 have e1:m - a=U.length:=by omega
 have e2:b - m=V.length:=by omega
 unfold P9
 rw [e1,e2]
 exact (a2T m _ _ X U V Y U.length V.length ya_ h1 h2 rfl rfl hm rfl).2.2.2.2
def bsr (p:Nat->Bool):Nat->Nat->Nat->Nat
 | 0,lo,_=>lo
 | r+1,lo,hi=>if lo < hi then if p ((lo+hi) / 2)=true then bsr p r ((lo+hi) / 2+1) hi else bsr p r lo ((lo+hi) / 2) else lo
theorem nN (p:Nat->Bool) (r:Nat):∀ (lo hi:Nat),hi - lo<=r->lo<=hi->lo<=bsr p r lo hi/\bsr p r lo hi<=hi/\(lo < bsr p r lo hi->p (bsr p r lo hi - 1)=true)/\(bsr p r lo hi < hi->p (bsr p r lo hi)=false):=by
 induction r with
 | zero =>
  intro lo hi h1 h2
  simp only [bsr]
  exact ⟨Nat.le_refl _,h2,fun h=>by omega,fun h=>by omega⟩
 | succ r ih =>
  intro lo hi h1 h2
  simp only [bsr]
  by_cases c:lo < hi
  · rw [if_pos c]
    by_cases d:p ((lo+hi) / 2)=true
    · rw [if_pos d]
      obtain ⟨k1,k2,k3,k4⟩:=ih ((lo+hi) / 2+1) hi ya_ ya_
      refine ⟨by omega,k2,fun _=>?_,k4⟩
      rcases Nat.lt_or_ge ((lo+hi) / 2+1) (bsr p r ((lo+hi) / 2+1) hi) with h | h
      · exact k3 h
      · have:bsr p r ((lo+hi) / 2+1) hi=(lo+hi) / 2+1:=by omega
        rw [this]; simpa using d
    · rw [if_neg d]
      obtain ⟨k1,k2,k3,k4⟩:=ih lo ((lo+hi) / 2) ya_ ya_
      refine ⟨k1,by omega,k3,fun _=>?_⟩
      rcases Nat.lt_or_ge (bsr p r lo ((lo+hi) / 2)) ((lo+hi) / 2) with h | h
      · exact k4 h
      · have:bsr p r lo ((lo+hi) / 2)=(lo+hi) / 2:=by omega
        rw [this]; simpa using d
  · rw [if_neg c]
    exact ⟨Nat.le_refl _,h2,fun h=>by omega,fun h=>by omega⟩
def mgL (lt:α->α->Bool):Nat->List α->List α->List α
 | 0,L,R=>L++R
 | _+1,[],R=>R
 | _+1,L,[]=>L
 | n+1,x :: L,y :: R=>if lt y x=true then y :: mgL lt n (x :: L) R else x :: mgL lt n L (y :: R)
def mg (lt:α->α->Bool) (L R:List α):List α:=mgL lt (L.length+R.length) L R
theorem Z9 (lt:α->α->Bool) (R:List α):mg lt [] R=R:=by
 unfold mg; cases h:([]:List α).length+R.length <;> simp [mgL]
theorem dW (lt:α->α->Bool) (L:List α):mg lt L []=L:=by
 unfold mg
 cases L with
 | nil=>simp [mgL]
 | cons x L=>simp [mgL]
theorem jU (lt:α->α->Bool) (x y:α) (L R:List α):mg lt (x :: L) (y :: R)=if lt y x=true then y :: mg lt (x :: L) R else x :: mg lt L (y :: R):=by
 unfold mg
 have h1:(x :: L).length+(y :: R).length=((x :: L).length+R.length)+1:=by simp; omega
 have h2:L.length+(y :: R).length=(x :: L).length+R.length:=by simp; omega
 rw [h1,h2]
 rfl
theorem a4f {p:Prop} (h:p:=by simp at h ⊢; omega):p:=h
theorem a1U (lt:α->α->Bool) {L2 R2:List α} (n:Nat):∀ (L1 R1:List α),L1.length+R1.length<=n->(∀ x∈L2,∀ y∈R1,lt y x=true)->(∀ x∈L1,∀ y∈R2,lt y x=false)->mg lt (L1++L2) (R1++R2)=mg lt L1 R1++mg lt L2 R2:=by
 induction n with
 | zero =>
  intro L1 R1 h _ _
  obtain rfl:L1=[]:=List.eq_nil_of_length_eq_zero ya_
  obtain rfl:R1=[]:=List.eq_nil_of_length_eq_zero ya_
  rw [Z9]; rfl
 | succ n ih =>
  intro L1 R1 h h1 h2
  cases L1 with
  | nil =>
   cases R1 with
   | nil=>rw [Z9]; rfl
   | cons y R1 =>
    have:=ih [] R1 a4f (fun x hx y' hy'=>h1 x hx y' (List.mem_cons_of_mem _ hy')) (fun x hx=>by simp at hx)
    rw [Z9] at this ⊢
    simp only [List.nil_append,List.cons_append] at this ⊢
    cases L2 with
    | nil=>rw [Z9,Z9]
    | cons x L2=>rw [jU,if_pos (h1 x ye_ y ye_),this]
  | cons x L1 =>
   cases R1 with
   | nil =>
    have:=ih L1 [] a4f (fun x hx y' hy'=>by simp at hy') (fun x' hx' y hy=>h2 x' (List.mem_cons_of_mem _ hx') y hy)
    rw [dW] at this ⊢
    simp only [List.nil_append,List.cons_append] at this ⊢
    cases R2 with
    | nil=>rw [dW,dW]
    | cons y R2=>rw [jU,if_neg (by rw [h2 x ye_ y ye_]; simp),this]
   | cons y R1 =>
    simp only [List.cons_append]
    rw [jU,jU]
    have k1:=ih (x :: L1) R1 a4f (fun x hx y' hy'=>h1 x hx y' (List.mem_cons_of_mem _ hy')) h2
    have k2:=ih L1 (y :: R1) a4f h1 (fun x' hx' y hy=>h2 x' (List.mem_cons_of_mem _ hx') y hy)
    simp only [List.cons_append] at k1 k2
    split
    · rw [k1]; rfl
    · rw [k2]; rfl
theorem a4t (lt:α->α->Bool) (n:Nat):∀ (L R:List α),L.length+R.length<=n->List.Perm (mg lt L R) (L++R):=by
 induction n with
 | zero =>
  intro L R h
  obtain rfl:L=[]:=List.eq_nil_of_length_eq_zero ya_
  obtain rfl:R=[]:=List.eq_nil_of_length_eq_zero ya_
  rw [Z9]; exact .refl _
 | succ n ih =>
  intro L R h
  cases L with
  | nil=>rw [Z9]; exact .refl _
  | cons x L =>
   cases R with
   | nil=>rw [dW]; simp
   | cons y R =>
    rw [jU]
    split
    · refine (List.Perm.cons y (ih (x :: L) R a4f)).trans ?_
      exact (List.perm_middle (a:=y) (l₁:=x :: L) (l₂:=R)).symm
    · exact List.Perm.cons x (ih L (y :: R) a4f)
theorem sM (lt:α->α->Bool) (L R:List α):(mg lt L R).length=L.length+R.length:=by
 have:=(a4t lt _ L R (Nat.le_refl _)).length_eq
 simpa using this
end
attribute [local irreducible] D5 R3 R8
theorem dZ {n h:Nat} (hn:n < 4611686018427387904) (hh:h=n / 2):IntKind.i64.wrap (Int.fdiv (IntKind.u64.wrap (n:Int)) (2 ^ (min (Int.toNat 1) 64)))=(h:Int):=by
 have h1:IntKind.u64.wrap (n:Int)=(n:Int):=by simp [IntKind.wrap,IntKind.signed,IntKind.bits]; omega
 have h2:(2:Int) ^ (min (Int.toNat 1) 64)=2:=rfl
 rw [h1,h2,Int.fdiv_eq_ediv_of_nonneg _ ow,IntKind.wrap_i64]
 omega
section
variable {α:Type} [Inhabited α]
def ltF (cmp:α->α->Int) (x y:α):Bool:=decide (cmp x y < 0)
def mAt (lt:α->α->Bool) (a m b:Nat) (l:List α):List α:=l.take a++(mg lt ((l.drop a).take (m - a)) ((l.drop m).take (b - m))++l.drop b)
def shU (r k:Nat) (l:List α):List α:=iter (fun k l=>(l.set k (nth l (k+1))).set (k+1) (nth l k)) r k l
def shD:Nat->Nat->List α->List α
 | 0,_,l=>l
 | r+1,k,l=>shD r (k - 1) ((l.set k (nth l (k - 1))).set (k - 1) (nth l k))
end
def a1a:Ann:={ base:=1,fin:=some 1,live:=[(1,[0,1,2,3,10])],out:=[(1,[0,1,2,3,10])] }
@[simp] abbrev d2E (a:Nat) (b:l9E) (c:Nat) (d:Nat) (e:Nat):Heap:=[(o_ a 10 (mE ((b.set (c+d) (nth b (e+d))).set (e+d) (nth b (c+d)))))]
@[simp] abbrev c6J (a:Nat) (b:Nat) (c:Nat) (d:Nat) (e:Nat) (f:Nat):Fr:=(mkF 38 [(0,(AV.osl 0 a 10 0 b)),(1,(iN c)),(2,(iN d)),(3,(iN e)),(10,(iN f))])
@[simp] abbrev fZ (a b:Nat):=(IntKind.i64.wrap ((a:Int)+(b:Int)))
@[simp] abbrev a4N (a:l9E) (b c:Nat):=(AV.agg (Entry.row (nth a (b+c))))
theorem a8j (a:Nat) (b:Nat) (k:Nat) (n:Nat) (g:Nat) (l:l9E) (i:Nat) (hab:a+k<=b) (hb:b+k<=n) (hnb:n < 1048576) (hn:n=l.length) (hle_:i<=k) {eX:Ex} {FX:Fr} {HX:Heap} (k1:(decide ((i:Int) < (k:Int)))=true->j6 (l9 Tryz.prog (X a1a) (x9 Tryz.f233 0)) (some [0,1,2,3,10]) (some [0,1,2,3,10]) (mkF 38 [(0,(AV.osl 0 g 10 0 n)),(1,(iN a)),(2,(iN b)),(3,(iN k)),(10,(iN (i+1)))]) (d2E g l a i b) eX FX HX) (k2:(decide ((i:Int) < (k:Int)))=false->((.exit 0:Ex),(c6J g n a b k i),[(o_ g 10 (mE l))])=(eX,FX,HX)):j6 (l9 Tryz.prog (X a1a) (x9 Tryz.f233 0)) (some [0,1,2,3,10]) (some [0,1,2,3,10]) (c6J g n a b k i) [(o_ g 10 (mE l))] eX FX HX :=
 I9 (.r (.g (.two (decide ((i:Int) < (k:Int))) (fun h1 h1'=>(.r (.y 3 (.int .i64 (fZ a i)) (iN (a+i)) Yes.o (.y 7 (.int .i64 (fZ b i)) (iN (b+i)) Yes.o (.y 11 (.int .i64 (fZ b i)) (iN (b+i)) Yes.o (.io 12 0 g 10 10 0 n ((b+i:Nat):Int) (b+i) (F8.mk _ ow ow) (.t 13 (a4N l b i) [(o_ g 10 (mE l))] (H6 (D6 (row:=Entry.row) (l:=l) (k:=10) (room:=none) kr om) kr:K7 tt 93 0 [(o_ g 10 (mE l))] (rowAt [(o_ g 10 (mE l))] 0 g (b+i))=some ((a4N l b i),([(o_ g 10 (mE l))]:Heap))) (.y 17 (.int .i64 (fZ a i)) (iN (a+i)) Yes.o (.io 18 0 g 10 10 0 n ((a+i:Nat):Int) (a+i) (F8.mk _ ow ow) (.t 19 (a4N l a i) [(o_ g 10 (mE l))] (H6 (D6 (row:=Entry.row) (l:=l) (k:=10) (room:=none) kr om) kr:K7 tt 93 0 [(o_ g 10 (mE l))] (rowAt [(o_ g 10 (mE l))] 0 g (a+i))=some ((a4N l a i),([(o_ g 10 (mE l))]:Heap))) (.io 20 0 g 10 10 0 n ((a+i:Nat):Int) (a+i) (F8.mk _ ow ow) (.st 21 0 g (a+i) 10 0 (a4N l b i) [(o_ g 10 (mE (l.set (a+i) (nth l (b+i)))))] (Q5 (us:=(Entry.row (nth l (b+i)))) (D6 (row:=Entry.row) (l:=l) (k:=10) (room:=none) kr om) kr xC xB) (.io 22 0 g 10 10 0 n ((b+i:Nat):Int) (b+i) (F8.mk _ ow ow) (.st 23 0 g (b+i) 10 0 (a4N l a i) (d2E g l a i b) (Q5 (us:=(Entry.row (nth l (a+i)))) (D6 (row:=Entry.row) (l:=l.set (a+i) (nth l (b+i))) (k:=10) (room:=none) kr om) kr xC xB) (.s (.y 1 (.int .i64 (cb_ i)) (iN (i+1)) Yes.o (.g (.l (k1 h1))))))))))))))))))) (fun h1 h1'=>(.l (k2 h1))))))
def c6Y (a:Nat) (b:Nat) (k:Nat) (n:Nat) (g:Nat) (i:Nat) (s:(List Entry)):(List Entry):=((s.set (a+i) (nth s (b+i))).set (b+i) (nth s (a+i)))
@[simp] abbrev d2D (a:Nat) (b:Nat) (c:Nat) (d:Nat) (e:Nat):Fr:=(mkF 38 [(0,(AV.osl 0 a 10 0 b)),(1,(iN c)),(2,(iN d)),(3,(iN e)),(10,(iN e))])
theorem c4g (a:Nat) (b:Nat) (k:Nat) (n:Nat) (g:Nat) (hab:a+k<=b) (hb:b+k<=n) (hnb:n < 1048576)  (r_:Nat):∀ (l:l9E) (i:Nat) (sF:(l9E)),i+r_=k->n=l.length->sF=iter (c6Y a b k n g) r_ i (l) ->
 j6 (l9 Tryz.prog (X a1a) (x9 Tryz.f233 0)) (some [0,1,2,3,10]) (some [0,1,2,3,10]) (c6J g n a b k i) [(o_ g 10 (mE l))] (.exit 0) (d2D g n a b k) [(o_ g 10 (mE sF))]:=by
 induction r_ with
 | zero =>
  intro l i sF hi_ hn  hF
  obtain rfl:k=i:=by omega
  have e_:sF=(l):=hF
  refine a8j a b k n g l k hab hb hnb hn (Nat.le_refl _) (fun h=>by simp at h <;> omega) (fun _=>?_)
  first | done | rfl | (rw [e_]; done) | (rw [e_]; rfl)
 | succ r_ ih =>
  intro l i sF hi_ hn  hF
  refine a8j a b k n g l i hab hb hnb hn ow (fun h1=>?_) (fun h=>by simp at h <;> omega)
  · exact ih ((l.set (a+i) (nth l (b+i))).set (b+i) (nth l (a+i))) (i+1) sF ow U2  (by rw [hF] <;> simp only [iter,c6Y,if_true,Bool.false_eq_true,if_false])
theorem c4f (f:Nat) (xs:List AV) (a b k n g:Nat) (l:l9E) (hxs:AV.bdds 1 xs=true) (hn:n=l.length) (hnb:n < 1048576) (hab:a+k<=b) (hb:b+k<=n):AC 233 [(AV.osl 0 g 10 0 n),(iN a),(iN b),(iN k),(AV.func f xs)] [(o_ g 10 (mE l))] ((AV.tup []),[(o_ g 10 (mE (U0 a b k l)))]) :=
 r9 (fn:=Tryz.f233) (ann:=a1a) (Has.o Tryz.func233) (.r (.g (.loop (d2D g n a b k) (c4g a b k n g hab hb hnb k l 0 (U0 a b k l) ow hn rfl) (.q 1 (AV.tup [])))))
theorem a8k (f:Nat) (xs:List AV) (a b k n g:Nat) (l:l9E) (hxs:AV.bdds 1 xs=true) (hn:n=l.length) (hnb:n < 1048576) (hab:a+k<=b) (hb:b+k<=n) (H:Heap):AC 233 [(AV.osl 0 g 10 0 n),(iN a),(iN b),(iN k),(AV.func f xs)] (([(o_ g 10 (mE l))]:Heap)++H) ((AV.tup []),([(o_ g 10 (mE (U0 a b k l)))]:Heap)++H):=(c4f f xs a b k n g l hxs hn hnb hab hb).ext jX kr ob ob kr H
def a4u:Ann:={ base:=1,fin:=some 1,live:=[(2,[0,2,4,10,11])],out:=[(2,[0,2,4,10,11])] }
@[simp] abbrev d2C (a:Nat) (b:Nat) (c:Nat) (d:Nat) (e:l9E):Heap:=[(o_ a 10 (mE (U0 (b - c) (b+d - c) c e)))]
@[simp] abbrev d2B (a:Nat) (b:Nat) (c:Nat) (d:Nat) (e:List AV) (f:Nat) (g:Nat):Fr:=(mkF 58 [(0,(AV.osl 0 a 10 0 b)),(2,(iN c)),(4,(AV.func d e)),(10,(iN f)),(11,(iN g))])
theorem Z0 {p:Prop} (h:p:=by first | exact hxs | omega):p:=h
@[simp] abbrev c5M :=(l9 Tryz.prog (X a4u) (x9 Tryz.f229 0))
@[simp] abbrev qD (a b:Nat):=(IntKind.i64.wrap ((a:Int) - (b:Int)))
theorem c4h (f:Nat) (xs:List AV) (p n g:Nat) (i j:Nat) (l:l9E) (hxs:AV.bdds 1 xs=true) (hn:n=l.length) (hnb:n < 1048576) (hi:0 < i) (hj:0 < j) (hip:i<=p) (hjp:p+j<=n) {eX:Ex} {FX:Fr} {HX:Heap} (k1:((i:Int) != (j:Int))=true->(decide ((i:Int) > (j:Int)))=true->j6 c5M (some [0,2,4,10,11]) (some [0,2,4,10,11]) (mkF 58 [(0,(AV.osl 0 g 10 0 n)),(2,(iN p)),(4,(AV.func f xs)),(10,(iN (i - j))),(11,(iN j))]) [(o_ g 10 (mE (U0 (p - i) p j l)))] eX FX HX) (k2:((i:Int) != (j:Int))=true->(decide ((i:Int) > (j:Int)))=false->j6 c5M (some [0,2,4,10,11]) (some [0,2,4,10,11]) (mkF 58 [(0,(AV.osl 0 g 10 0 n)),(2,(iN p)),(4,(AV.func f xs)),(10,(iN i)),(11,(iN (j - i)))]) (d2C g p i j l) eX FX HX) (k3:((i:Int) != (j:Int))=false->((.exit 0:Ex),(d2B g n p f xs i j),[(o_ g 10 (mE l))])=(eX,FX,HX)):j6 c5M (some [0,2,4,10,11]) (some [0,2,4,10,11]) (d2B g n p f xs i j) [(o_ g 10 (mE l))] eX FX HX :=
 I9 (.r (.g (.two ((i:Int) != (j:Int)) (fun h1 h1'=>(.r (.g (.two (decide ((i:Int) > (j:Int))) (fun h2 h2'=>(.r (.y 3 (.int .i64 (qD p i)) (iN (p - i)) Yes.o (.ch 7 [(o_ g 10 (mE (U0 (p - i) p j l)))] (a8k f xs (p - i) p j n g l Z0 Z0 Z0 Z0 Z0 []) (.s (.y 2 (.int .i64 (qD i j)) (iN (i - j)) Yes.o (.g (.l (k1 h1 h2))))))))) (fun h2 h2'=>(.r (.y 3 (.int .i64 (qD p i)) (iN (p - i)) Yes.o (.y 6 (.int .i64 (fZ p j)) (iN (p+j)) Yes.o (.y 8 (iW (((p+j:Nat):Int) - (i:Int))) (iN (p+j - i)) Yes.o (.ch 11 (d2C g p i j l) (a8k f xs (p - i) (p+j - i) i n g l Z0 Z0 Z0 Z0 Z0 []) (.s (.y 2 (.int .i64 (qD j i)) (iN (j - i)) Yes.o (.g (.l (k2 h1 h2))))))))))))))) (fun h1 h1'=>(.l (k3 h1))))))
theorem b1R {p:Prop} (h:p:=by rw [b7A ow ow]; exact hn):p:=h
theorem c4j (f:Nat) (xs:List AV) (p n g:Nat) (hxs:AV.bdds 1 xs=true) (r:Nat):∀ (i j:Nat) (l:l9E),i+j<=r+1->n=l.length->n < 1048576->0 < i->0 < j->i<=p->p+j<=n ->
 j6 (l9 Tryz.prog (X a4u) (x9 Tryz.f229 0)) (some [0,2,4,10,11]) (some [0,2,4,10,11]) (mkF 58 [(0,(AV.osl 0 g 10 0 n)),(2,(iN p)),(4,(AV.func f xs)),(10,(iN i)),(11,(iN j))]) [(o_ g 10 (mE l))] (.exit 0) (mkF 58 [(0,(AV.osl 0 g 10 0 n)),(2,(iN p)),(4,(AV.func f xs)),(10,(iN ((K3 p r i j l).2))),(11,(iN ((K3 p r i j l).2)))]) [(o_ g 10 (mE (K3 p r i j l).1))]:=by
 induction r with
 | zero=>intro i j l h1 hn hnb hi hj; omega
 | succ r ih =>
  intro i j l h1 hn hnb hi hj hip hjp
  refine c4h f xs p n g i j l hxs hn hnb hi hj hip hjp (fun h2 h3=>?_) (fun h2 h3=>?_) (fun h2=>?_)
  · have h2':i≠j:=by simp at h2; omega
    have h3':j < i:=by simp at h3; omega
    simp only [K3,if_neg h2',if_pos h3']
    exact ih (i - j) j _ ow b1R hnb ow hj ow hjp
  · have h2':i≠j:=by simp at h2; omega
    have h3':¬ j < i:=by simp at h3; omega
    simp only [K3,if_neg h2',if_neg h3']
    exact ih i (j - i) _ ow b1R hnb hi ow hip ow
  · have h2':i=j:=by simp at h2; omega
    simp only [K3,if_pos h2']
    subst h2'
    rfl
@[simp] abbrev d4D (a:Nat) (b:Nat) (c:Nat) (d:Nat) (e:List AV) (f:Nat) (g:Nat) (h:l9E):Fr:=(mkF 58 [(0,(AV.osl 0 a 10 0 b)),(2,(iN c)),(4,(AV.func d e)),(10,(iN ((K3 c (c - f+(g - c)) (c - f) (g - c) h).2))),(11,(iN ((K3 c (c - f+(g - c)) (c - f) (g - c) h).2)))])
theorem c4i (f:Nat) (xs:List AV) (a p b n g:Nat) (l:l9E) (hxs:AV.bdds 1 xs=true) (hn:n=l.length) (hnb:n < 1048576) (hap:a < p) (hpb:p < b) (hbn:b<=n) (hl2:(K3 p (p - a+(b - p)) (p - a) (b - p) l).1.length=l.length) (hk:(K3 p (p - a+(b - p)) (p - a) (b - p) l).2<=p - a) (hk2:(K3 p (p - a+(b - p)) (p - a) (b - p) l).2<=b - p):AC 229 [(AV.osl 0 g 10 0 n),(iN a),(iN p),(iN b),(AV.func f xs)] [(o_ g 10 (mE l))] ((AV.tup []),[(o_ g 10 (mE (P9 a p b l)))]) :=
 r9 (fn:=Tryz.f229) (ann:=a4u) (Has.o Tryz.func229) (.r (.y 2 (.int .i64 (qD p a)) (iN (p - a)) Yes.o (.s (.y 2 (.int .i64 (qD b p)) (iN (b - p)) Yes.o (.g (.loop (d4D g n p f xs a b l) (c4j f xs p n g hxs (p - a+(b - p)) (p - a) (b - p) l ow hn hnb ow ow ow ow) (.r (.y 3 (iW ((p:Int) - (((K3 p (p - a+(b - p)) (p - a) (b - p) l).2:Nat):Int))) (iN (p - (K3 p (p - a+(b - p)) (p - a) (b - p) l).2)) Yes.o (.ch 7 [(o_ g 10 (mE (U0 (p - (K3 p (p - a+(b - p)) (p - a) (b - p) l).2) p (K3 p (p - a+(b - p)) (p - a) (b - p) l).2 (K3 p (p - a+(b - p)) (p - a) (b - p) l).1)))] (a8k f xs (p - (K3 p (p - a+(b - p)) (p - a) (b - p) l).2) p (K3 p (p - a+(b - p)) (p - a) (b - p) l).2 n g (K3 p (p - a+(b - p)) (p - a) (b - p) l).1 Z0 Z0 Z0 Z0 Z0 []) (.q 1 (AV.tup [])))))))))))
theorem b9h (f:Nat) (xs:List AV) (a p b n g:Nat) (l:l9E) (hxs:AV.bdds 1 xs=true) (hn:n=l.length) (hnb:n < 1048576) (hap:a < p) (hpb:p < b) (hbn:b<=n) (hl2:(K3 p (p - a+(b - p)) (p - a) (b - p) l).1.length=l.length) (hk:(K3 p (p - a+(b - p)) (p - a) (b - p) l).2<=p - a) (hk2:(K3 p (p - a+(b - p)) (p - a) (b - p) l).2<=b - p) (H:Heap):AC 229 [(AV.osl 0 g 10 0 n),(iN a),(iN p),(iN b),(AV.func f xs)] (([(o_ g 10 (mE l))]:Heap)++H) ((AV.tup []),([(o_ g 10 (mE (P9 a p b l)))]:Heap)++H):=(c4i f xs a p b n g l hxs hn hnb hap hpb hbn hl2 hk hk2).ext jX kr ob ob kr H
def Y0:Ann:={ base:=1,fin:=some 1,live:=[(3,[0,1,4,10,11]),(9,[0,10,13]),(15,[0,2,4,14,15]),(21,[0,14,17]),(33,[0,1,2,3,4,18,19,20,21,22])],out:=[(3,[0,1,10]),(9,[0,10,13]),(15,[0,2,14]),(21,[0,14,17]),(33,[0,1,2,3,4,18,19,20])] }
@[simp] abbrev c5L :=(l9 Tryz.prog (X Y0) (x9 Tryz.f219 0))
@[simp] abbrev qC (a b:Nat):=(iN (((a+b) / 2)+1))
@[simp] abbrev a4M (a b:Nat):=(iI (IntKind.i64.wrap (Int.fdiv (IntKind.u64.wrap ((a+b:Nat):Int)) (2 ^ (min (Int.toNat 1) 64)))))
@[simp] abbrev a4L (a:l9E) (b c:Nat):=(AV.agg (Entry.row (nth a ((b+c) / 2))))
@[simp] abbrev a4K (a b:Nat):=(IntKind.i64.wrap (((((a+b) / 2):Nat):Int)+1))
theorem a7A (cmp:Entry->Entry->Int) (f:Nat) (xs:List AV) (hc:h9E cmp f xs) (a n g:Nat) (l:l9E) (lo hi:Nat) (hn:n=l.length) (hnb:n < 1048576) (ha:a < n) (hlh:lo<=hi) (hhi:hi<=n) {eX:Ex} {FX:Fr} {HX:Heap} (k1:(decide ((lo:Int) < (hi:Int)))=true->(decide ((cmp (nth l ((lo+hi) / 2)) (nth l a)) < 0))=true->j6 c5L (some [0,1,4,10,11]) (some [0,1,10]) (mkF 220 [(0,(AV.osl 0 g 10 0 n)),(1,(iN a)),(4,(AV.func f xs)),(10,(qC lo hi)),(11,(iN hi))]) [(o_ g 10 (mE l))] eX FX HX) (k2:(decide ((lo:Int) < (hi:Int)))=true->(decide ((cmp (nth l ((lo+hi) / 2)) (nth l a)) < 0))=false->j6 c5L (some [0,1,4,10,11]) (some [0,1,10]) (mkF 220 [(0,(AV.osl 0 g 10 0 n)),(1,(iN a)),(4,(AV.func f xs)),(10,(iN lo)),(11,(iN (((lo+hi) / 2))))]) [(o_ g 10 (mE l))] eX FX HX) (k3:(decide ((lo:Int) < (hi:Int)))=false->((.exit 0:Ex),(mkF 220 [(0,(AV.osl 0 g 10 0 n)),(1,(iN a)),(10,(iN lo))]),[(o_ g 10 (mE l))])=(eX,FX,HX)):j6 c5L (some [0,1,4,10,11]) (some [0,1,10]) (mkF 220 [(0,(AV.osl 0 g 10 0 n)),(1,(iN a)),(4,(AV.func f xs)),(10,(iN lo)),(11,(iN hi))]) [(o_ g 10 (mE l))] eX FX HX :=
 I9 (.r (.g (.two (decide ((lo:Int) < (hi:Int))) (fun h1 h1'=>(.r (.y 2 (.int .i64 (fZ lo hi)) (iN (lo+hi)) Yes.o (.y 5 (a4M lo hi) (iN (((lo+hi) / 2))) (Yes.int (dZ ow (rfl))) (.s (.io 3 0 g 10 10 0 n ((((lo+hi) / 2):Nat):Int) ((lo+hi) / 2) (F8.mk _ ow ow) (.t 4 (a4L l lo hi) [(o_ g 10 (mE l))] (H6 (D6 (row:=Entry.row) (l:=l) (k:=10) (room:=none) kr om) kr:K7 tt 93 0 [(o_ g 10 (mE l))] (rowAt [(o_ g 10 (mE l))] 0 g ((lo+hi) / 2))=some ((a4L l lo hi),([(o_ g 10 (mE l))]:Heap))) (.io 7 0 g 10 10 0 n (a:Int) a (F8.mk _ ow ow) (.t 8 (cl_ l a) [(o_ g 10 (mE l))] (H6 (D6 (row:=Entry.row) (l:=l) (k:=10) (room:=none) kr om) kr:K7 tt 93 0 [(o_ g 10 (mE l))] (rowAt [(o_ g 10 (mE l))] 0 g a)=some ((cl_ l a),([(o_ g 10 (mE l))]:Heap))) (.c 9 (hc (nth l ((lo+hi) / 2)) (nth l a) [(o_ g 10 (mE l))]) (.g (.two (decide ((cmp (nth l ((lo+hi) / 2)) (nth l a)) < 0)) (fun h2 h2'=>(.r (.y 1 (.int .i64 (a4K lo hi)) (qC lo hi) Yes.o (.g (.l (k1 h1 h2)))))) (fun h2 h2'=>(.r (.g (.l (k2 h1 h2))))))))))))))))) (fun h1 h1'=>(.l (k3 h1))))))
theorem pQ {p:Prop} (h:p:=by simpa using h5):p:=h
theorem c3e (cmp:Entry->Entry->Int) (f:Nat) (xs:List AV) (hc:h9E cmp f xs) (a n g:Nat) (l:l9E) (hn:n=l.length) (hnb:n < 1048576) (ha:a < n) (r:Nat):∀ (lo hi:Nat),hi - lo<=r->lo<=hi->hi<=n ->
 j6 (l9 Tryz.prog (X Y0) (x9 Tryz.f219 0)) (some [0,1,4,10,11]) (some [0,1,10]) (mkF 220 [(0,(AV.osl 0 g 10 0 n)),(1,(iN a)),(4,(AV.func f xs)),(10,(iN lo)),(11,(iN hi))]) [(o_ g 10 (mE l))] (.exit 0) (mkF 220 [(0,(AV.osl 0 g 10 0 n)),(1,(iN a)),(10,(iN ((bsr (fun c=>decide (cmp (nth l c) (nth l a) < 0)) r lo hi))))]) [(o_ g 10 (mE l))]:=by
 induction r with
 | zero =>
  intro lo hi h1 h2 h3
  obtain rfl:lo=hi:=by omega
  refine a7A cmp f xs hc a n g l lo lo hn hnb ha h2 h3 (fun h _=>by simp at h) (fun h _=>by simp at h) (fun _=>?_)
  simp only [bsr]
 | succ r ih =>
  intro lo hi h1 h2 h3
  refine a7A cmp f xs hc a n g l lo hi hn hnb ha h2 h3 (fun h4 h5=>?_) (fun h4 h5=>?_) (fun h4=>?_)
  · have h4':lo < hi:=by simp at h4; omega
    simp only [bsr,if_pos h4']
    rw [if_pos pQ]
    exact ih ((lo+hi) / 2+1) hi ow ow ow
  · have h4':lo < hi:=by simp at h4; omega
    simp only [bsr,if_pos h4']
    rw [if_neg pQ]
    exact ih lo ((lo+hi) / 2) ow ow ow
  · have h4':¬ lo < hi:=by simp at h4; omega
    simp only [bsr,if_neg h4']
@[simp] abbrev c5K :=(l9 Tryz.prog (X Y0) (x9 Tryz.f219 2))
theorem a7z (cmp:Entry->Entry->Int) (f:Nat) (xs:List AV) (hc:h9E cmp f xs) (p n g:Nat) (l:l9E) (lo hi:Nat) (hn:n=l.length) (hnb:n < 1048576) (ha:p < n) (hlh:lo<=hi) (hhi:hi<=n) {eX:Ex} {FX:Fr} {HX:Heap} (k1:(decide ((lo:Int) < (hi:Int)))=true->(!(decide ((cmp (nth l p) (nth l ((lo+hi) / 2))) < 0)))=true->j6 c5K (some [0,2,4,14,15]) (some [0,2,14]) (mkF 220 [(0,(AV.osl 0 g 10 0 n)),(2,(iN p)),(4,(AV.func f xs)),(14,(qC lo hi)),(15,(iN hi))]) [(o_ g 10 (mE l))] eX FX HX) (k2:(decide ((lo:Int) < (hi:Int)))=true->(!(decide ((cmp (nth l p) (nth l ((lo+hi) / 2))) < 0)))=false->j6 c5K (some [0,2,4,14,15]) (some [0,2,14]) (mkF 220 [(0,(AV.osl 0 g 10 0 n)),(2,(iN p)),(4,(AV.func f xs)),(14,(iN lo)),(15,(iN (((lo+hi) / 2))))]) [(o_ g 10 (mE l))] eX FX HX) (k3:(decide ((lo:Int) < (hi:Int)))=false->((.exit 4:Ex),(mkF 220 [(0,(AV.osl 0 g 10 0 n)),(2,(iN p)),(14,(iN lo))]),[(o_ g 10 (mE l))])=(eX,FX,HX)):j6 c5K (some [0,2,4,14,15]) (some [0,2,14]) (mkF 220 [(0,(AV.osl 0 g 10 0 n)),(2,(iN p)),(4,(AV.func f xs)),(14,(iN lo)),(15,(iN hi))]) [(o_ g 10 (mE l))] eX FX HX :=
 I9 (.r (.g (.two (decide ((lo:Int) < (hi:Int))) (fun h1 h1'=>(.r (.y 2 (.int .i64 (fZ lo hi)) (iN (lo+hi)) Yes.o (.y 5 (a4M lo hi) (iN (((lo+hi) / 2))) (Yes.int (dZ ow (rfl))) (.s (.io 3 0 g 10 10 0 n (p:Int) p (F8.mk _ ow ow) (.t 4 (cl_ l p) [(o_ g 10 (mE l))] (H6 (D6 (row:=Entry.row) (l:=l) (k:=10) (room:=none) kr om) kr:K7 tt 93 0 [(o_ g 10 (mE l))] (rowAt [(o_ g 10 (mE l))] 0 g p)=some ((cl_ l p),([(o_ g 10 (mE l))]:Heap))) (.io 7 0 g 10 10 0 n ((((lo+hi) / 2):Nat):Int) ((lo+hi) / 2) (F8.mk _ ow ow) (.t 8 (a4L l lo hi) [(o_ g 10 (mE l))] (H6 (D6 (row:=Entry.row) (l:=l) (k:=10) (room:=none) kr om) kr:K7 tt 93 0 [(o_ g 10 (mE l))] (rowAt [(o_ g 10 (mE l))] 0 g ((lo+hi) / 2))=some ((a4L l lo hi),([(o_ g 10 (mE l))]:Heap))) (.c 9 (hc (nth l p) (nth l ((lo+hi) / 2)) [(o_ g 10 (mE l))]) (.g (.two (!(decide ((cmp (nth l p) (nth l ((lo+hi) / 2))) < 0))) (fun h2 h2'=>(.r (.y 1 (.int .i64 (a4K lo hi)) (qC lo hi) Yes.o (.g (.l (k1 h1 h2)))))) (fun h2 h2'=>(.r (.g (.l (k2 h1 h2))))))))))))))))) (fun h1 h1'=>(.l (k3 h1))))))
theorem c3d (cmp:Entry->Entry->Int) (f:Nat) (xs:List AV) (hc:h9E cmp f xs) (p n g:Nat) (l:l9E) (hn:n=l.length) (hnb:n < 1048576) (ha:p < n) (r:Nat):∀ (lo hi:Nat),hi - lo<=r->lo<=hi->hi<=n ->
 j6 (l9 Tryz.prog (X Y0) (x9 Tryz.f219 2)) (some [0,2,4,14,15]) (some [0,2,14]) (mkF 220 [(0,(AV.osl 0 g 10 0 n)),(2,(iN p)),(4,(AV.func f xs)),(14,(iN lo)),(15,(iN hi))]) [(o_ g 10 (mE l))] (.exit 4) (mkF 220 [(0,(AV.osl 0 g 10 0 n)),(2,(iN p)),(14,(iN ((bsr (fun c=>!decide (cmp (nth l p) (nth l c) < 0)) r lo hi))))]) [(o_ g 10 (mE l))]:=by
 induction r with
 | zero =>
  intro lo hi h1 h2 h3
  obtain rfl:lo=hi:=by omega
  refine a7z cmp f xs hc p n g l lo lo hn hnb ha h2 h3 (fun h _=>by simp at h) (fun h _=>by simp at h) (fun _=>?_)
  simp only [bsr]
 | succ r ih =>
  intro lo hi h1 h2 h3
  refine a7z cmp f xs hc p n g l lo hi hn hnb ha h2 h3 (fun h4 h5=>?_) (fun h4 h5=>?_) (fun h4=>?_)
  · have h4':lo < hi:=by simp at h4; omega
    simp only [bsr,if_pos h4']
    rw [if_pos pQ]
    exact ih ((lo+hi) / 2+1) hi ow ow ow
  · have h4':lo < hi:=by simp at h4; omega
    simp only [bsr,if_pos h4']
    rw [if_neg pQ]
    exact ih lo ((lo+hi) / 2) ow ow ow
  · have h4':¬ lo < hi:=by simp at h4; omega
    simp only [bsr,if_neg h4']
@[simp] abbrev c5J :=(l9 Tryz.prog (X Y0) (x9 Tryz.f219 4))
theorem a7x (cmp:Entry->Entry->Int) (f:Nat) (xs:List AV) (hc:h9E cmp f xs) (a p b mid nn q n g:Nat) (l:l9E) (lo hi:Nat) (hn:n=l.length) (hnb:n < 1048576) (hlh:lo<=hi) (hhi:hi<=n/\hi<=q+1/\q < n+lo) {eX:Ex} {FX:Fr} {HX:Heap} (k1:(decide ((lo:Int) < (hi:Int)))=true->(!(decide ((cmp (nth l (q - ((lo+hi) / 2))) (nth l ((lo+hi) / 2))) < 0)))=true->j6 c5J (some [0,1,2,3,4,18,19,20,21,22]) (some [0,1,2,3,4,18,19,20]) (mkF 220 [(0,(AV.osl 0 g 10 0 n)),(1,(iN a)),(2,(iN p)),(3,(iN b)),(4,(AV.func f xs)),(18,(iN mid)),(19,(iN nn)),(20,(qC lo hi)),(21,(iN hi)),(22,(iN q))]) [(o_ g 10 (mE l))] eX FX HX) (k2:(decide ((lo:Int) < (hi:Int)))=true->(!(decide ((cmp (nth l (q - ((lo+hi) / 2))) (nth l ((lo+hi) / 2))) < 0)))=false->j6 c5J (some [0,1,2,3,4,18,19,20,21,22]) (some [0,1,2,3,4,18,19,20]) (mkF 220 [(0,(AV.osl 0 g 10 0 n)),(1,(iN a)),(2,(iN p)),(3,(iN b)),(4,(AV.func f xs)),(18,(iN mid)),(19,(iN nn)),(20,(iN lo)),(21,(iN (((lo+hi) / 2)))),(22,(iN q))]) [(o_ g 10 (mE l))] eX FX HX) (k3:(decide ((lo:Int) < (hi:Int)))=false->((.exit 8:Ex),(mkF 220 [(0,(AV.osl 0 g 10 0 n)),(1,(iN a)),(2,(iN p)),(3,(iN b)),(4,(AV.func f xs)),(18,(iN mid)),(19,(iN nn)),(20,(iN lo))]),[(o_ g 10 (mE l))])=(eX,FX,HX)):j6 c5J (some [0,1,2,3,4,18,19,20,21,22]) (some [0,1,2,3,4,18,19,20]) (mkF 220 [(0,(AV.osl 0 g 10 0 n)),(1,(iN a)),(2,(iN p)),(3,(iN b)),(4,(AV.func f xs)),(18,(iN mid)),(19,(iN nn)),(20,(iN lo)),(21,(iN hi)),(22,(iN q))]) [(o_ g 10 (mE l))] eX FX HX :=
 I9 (.r (.g (.two (decide ((lo:Int) < (hi:Int))) (fun h1 h1'=>(.r (.y 2 (.int .i64 (fZ lo hi)) (iN (lo+hi)) Yes.o (.y 5 (a4M lo hi) (iN (((lo+hi) / 2))) (Yes.int (dZ ow (rfl))) (.s (.y 4 (iW ((q:Int) - ((((lo+hi) / 2):Nat):Int))) (iN (q - ((lo+hi) / 2))) Yes.o (.io 5 0 g 10 10 0 n ((q - ((lo+hi) / 2):Nat):Int) (q - ((lo+hi) / 2)) (F8.mk _ ow ow) (.t 6 (AV.agg (Entry.row (nth l (q - ((lo+hi) / 2))))) [(o_ g 10 (mE l))] (H6 (D6 (row:=Entry.row) (l:=l) (k:=10) (room:=none) kr om) kr:K7 tt 93 0 [(o_ g 10 (mE l))] (rowAt [(o_ g 10 (mE l))] 0 g (q - ((lo+hi) / 2)))=some ((AV.agg (Entry.row (nth l (q - ((lo+hi) / 2))))),([(o_ g 10 (mE l))]:Heap))) (.io 9 0 g 10 10 0 n ((((lo+hi) / 2):Nat):Int) ((lo+hi) / 2) (F8.mk _ ow ow) (.t 10 (a4L l lo hi) [(o_ g 10 (mE l))] (H6 (D6 (row:=Entry.row) (l:=l) (k:=10) (room:=none) kr om) kr:K7 tt 93 0 [(o_ g 10 (mE l))] (rowAt [(o_ g 10 (mE l))] 0 g ((lo+hi) / 2))=some ((a4L l lo hi),([(o_ g 10 (mE l))]:Heap))) (.c 11 (hc (nth l (q - ((lo+hi) / 2))) (nth l ((lo+hi) / 2)) [(o_ g 10 (mE l))]) (.g (.two (!(decide ((cmp (nth l (q - ((lo+hi) / 2))) (nth l ((lo+hi) / 2))) < 0))) (fun h2 h2'=>(.r (.y 1 (.int .i64 (a4K lo hi)) (qC lo hi) Yes.o (.g (.l (k1 h1 h2)))))) (fun h2 h2'=>(.r (.g (.l (k2 h1 h2)))))))))))))))))) (fun h1 h1'=>(.l (k3 h1))))))
theorem a7y (cmp:Entry->Entry->Int) (f:Nat) (xs:List AV) (hc:h9E cmp f xs) (a p b mid nn q n g:Nat) (l:l9E) (hn:n=l.length) (hnb:n < 1048576) (r:Nat):∀ (lo hi:Nat),hi - lo<=r->lo<=hi->hi<=n/\hi<=q+1/\q < n+lo ->
 j6 (l9 Tryz.prog (X Y0) (x9 Tryz.f219 4)) (some [0,1,2,3,4,18,19,20,21,22]) (some [0,1,2,3,4,18,19,20]) (mkF 220 [(0,(AV.osl 0 g 10 0 n)),(1,(iN a)),(2,(iN p)),(3,(iN b)),(4,(AV.func f xs)),(18,(iN mid)),(19,(iN nn)),(20,(iN lo)),(21,(iN hi)),(22,(iN q))]) [(o_ g 10 (mE l))] (.exit 8) (mkF 220 [(0,(AV.osl 0 g 10 0 n)),(1,(iN a)),(2,(iN p)),(3,(iN b)),(4,(AV.func f xs)),(18,(iN mid)),(19,(iN nn)),(20,(iN ((bsr (fun c=>!decide (cmp (nth l (q - c)) (nth l c) < 0)) r lo hi))))]) [(o_ g 10 (mE l))]:=by
 induction r with
 | zero =>
  intro lo hi h1 h2 h3
  obtain rfl:lo=hi:=by omega
  refine a7x cmp f xs hc a p b mid nn q n g l lo lo hn hnb h2 h3 (fun h _=>by simp at h) (fun h _=>by simp at h) (fun _=>?_)
  simp only [bsr]
 | succ r ih =>
  intro lo hi h1 h2 h3
  refine a7x cmp f xs hc a p b mid nn q n g l lo hi hn hnb h2 h3 (fun h4 h5=>?_) (fun h4 h5=>?_) (fun h4=>?_)
  · have h4':lo < hi:=by simp at h4; omega
    simp only [bsr,if_pos h4']
    rw [if_pos pQ]
    exact ih ((lo+hi) / 2+1) hi ow ow ow
  · have h4':lo < hi:=by simp at h4; omega
    simp only [bsr,if_pos h4']
    rw [if_neg pQ]
    exact ih lo ((lo+hi) / 2) ow ow ow
  · have h4':¬ lo < hi:=by simp at h4; omega
    simp only [bsr,if_neg h4']
@[simp] abbrev d2A (a:Nat) (b:l9E) (c:Nat):Heap:=[(o_ a 10 (mE ((b.set c (nth b (c+1))).set (c+1) (nth b c))))]
@[simp] abbrev c6I (a:Nat) (b:Nat) (c:Nat) (d:Nat):Fr:=(mkF 220 [(0,(AV.osl 0 a 10 0 b)),(10,(iN c)),(13,(iN d))])
theorem a7v (i:Nat) (n:Nat) (g:Nat) (l:l9E) (kk:Nat) (hi1:1<=i) (hin:i<=n) (hnb:n < 1048576) (hn:n=l.length) (hle_:kk<=(i - 1)) {eX:Ex} {FX:Fr} {HX:Heap} (k1:(decide ((kk:Int) < ((i - 1:Nat):Int)))=true->j6 (l9 Tryz.prog (X Y0) (x9 Tryz.f219 1)) (some [0,10,13]) (some [0,10,13]) (mkF 220 [(0,(AV.osl 0 g 10 0 n)),(10,(iN i)),(13,(iN (kk+1)))]) (d2A g l kk) eX FX HX) (k2:(decide ((kk:Int) < ((i - 1:Nat):Int)))=false->((.exit 2:Ex),(c6I g n i kk),[(o_ g 10 (mE l))])=(eX,FX,HX)):j6 (l9 Tryz.prog (X Y0) (x9 Tryz.f219 1)) (some [0,10,13]) (some [0,10,13]) (c6I g n i kk) [(o_ g 10 (mE l))] eX FX HX :=
 I9 (.r (.y 2 (.int .i64 (cj_ i)) (iN (i - 1)) Yes.o (.g (.two (decide ((kk:Int) < ((i - 1:Nat):Int))) (fun h1 h1'=>(.r (.y 4 (.int .i64 (cb_ kk)) (iN (kk+1)) Yes.o (.y 7 (.int .i64 (cb_ kk)) (iN (kk+1)) Yes.o (.io 8 0 g 10 10 0 n ((kk+1:Nat):Int) (kk+1) (F8.mk _ ow ow) (.t 9 (AV.agg (Entry.row (nth l (kk+1)))) [(o_ g 10 (mE l))] (H6 (D6 (row:=Entry.row) (l:=l) (k:=10) (room:=none) kr om) kr:K7 tt 93 0 [(o_ g 10 (mE l))] (rowAt [(o_ g 10 (mE l))] 0 g (kk+1))=some ((AV.agg (Entry.row (nth l (kk+1)))),([(o_ g 10 (mE l))]:Heap))) (.io 12 0 g 10 10 0 n (kk:Int) kk (F8.mk _ ow ow) (.t 13 (cl_ l kk) [(o_ g 10 (mE l))] (H6 (D6 (row:=Entry.row) (l:=l) (k:=10) (room:=none) kr om) kr:K7 tt 93 0 [(o_ g 10 (mE l))] (rowAt [(o_ g 10 (mE l))] 0 g kk)=some ((cl_ l kk),([(o_ g 10 (mE l))]:Heap))) (.io 14 0 g 10 10 0 n (kk:Int) kk (F8.mk _ ow ow) (.st 15 0 g kk 10 0 (AV.agg (Entry.row (nth l (kk+1)))) [(o_ g 10 (mE (l.set kk (nth l (kk+1)))))] (Q5 (us:=(Entry.row (nth l (kk+1)))) (D6 (row:=Entry.row) (l:=l) (k:=10) (room:=none) kr om) kr xC xB) (.io 16 0 g 10 10 0 n ((kk+1:Nat):Int) (kk+1) (F8.mk _ ow ow) (.st 17 0 g (kk+1) 10 0 (cl_ l kk) (d2A g l kk) (Q5 (us:=(Entry.row (nth l kk))) (D6 (row:=Entry.row) (l:=l.set kk (nth l (kk+1))) (k:=10) (room:=none) kr om) kr xC xB) (.s (.y 1 (.int .i64 (cb_ kk)) (iN (kk+1)) Yes.o (.g (.l (k1 h1))))))))))))))))) (fun h1 h1'=>(.l (k2 h1)))))))
def b2I (i:Nat) (n:Nat) (g:Nat) (kk:Nat) (s:(List Entry)):(List Entry):=((s.set kk (nth s (kk+1))).set (kk+1) (nth s kk))
theorem c2Z (i:Nat) (n:Nat) (g:Nat) (hi1:1<=i) (hin:i<=n) (hnb:n < 1048576)  (r_:Nat):∀ (l:l9E) (kk:Nat) (sF:(l9E)),kk+r_=(i - 1)->n=l.length->sF=iter (b2I i n g) r_ kk (l) ->
 j6 (l9 Tryz.prog (X Y0) (x9 Tryz.f219 1)) (some [0,10,13]) (some [0,10,13]) (c6I g n i kk) [(o_ g 10 (mE l))] (.exit 2) (mkF 220 [(0,(AV.osl 0 g 10 0 n)),(10,(iN i)),(13,(iN ((i - 1))))]) [(o_ g 10 (mE sF))]:=by
 induction r_ with
 | zero =>
  intro l kk sF hi_ hn  hF
  obtain rfl:(i - 1)=kk:=by omega
  have e_:sF=(l):=hF
  refine a7v i n g l (i - 1) hi1 hin hnb hn (Nat.le_refl _) (fun h=>by simp at h <;> omega) (fun _=>?_)
  first | done | rfl | (rw [e_]; done) | (rw [e_]; rfl)
 | succ r_ ih =>
  intro l kk sF hi_ hn  hF
  refine a7v i n g l kk hi1 hin hnb hn ow (fun h1=>?_) (fun h=>by simp at h <;> omega)
  · exact ih ((l.set kk (nth l (kk+1))).set (kk+1) (nth l kk)) (kk+1) sF ow U2  (by rw [hF] <;> simp only [iter,b2I,if_true,Bool.false_eq_true,if_false])
theorem c3a (i n g r k:Nat) (l:l9E):shU r k l=iter (b2I i n g) r k l:=rfl
@[simp] abbrev c8G (a:Nat) (b:Nat) (c:Nat) (d:Nat):Fr:=(mkF 220 [(0,(AV.osl 0 a 10 0 b)),(14,(iN c)),(17,(iN d))])
theorem a7w (i kk n g:Nat) (l:l9E) (hn:n=l.length) (hnb:n < 1048576) (hk:kk < n) {eX:Ex} {FX:Fr} {HX:Heap} (k1:(decide ((kk:Int) > (i:Int)))=true->j6 (l9 Tryz.prog (X Y0) (x9 Tryz.f219 3)) (some [0,14,17]) (some [0,14,17]) (mkF 220 [(0,(AV.osl 0 g 10 0 n)),(14,(iN i)),(17,(iN (kk - 1)))]) (b7f g l kk) eX FX HX) (k2:(decide ((kk:Int) > (i:Int)))=false->((.exit 6:Ex),(c8G g n i kk),[(o_ g 10 (mE l))])=(eX,FX,HX)):j6 (l9 Tryz.prog (X Y0) (x9 Tryz.f219 3)) (some [0,14,17]) (some [0,14,17]) (c8G g n i kk) [(o_ g 10 (mE l))] eX FX HX :=
 I9 (.r (.g (.two (decide ((kk:Int) > (i:Int))) (fun h1 h1'=>(.r (.y 4 (.int .i64 (cj_ kk)) (iN (kk - 1)) Yes.o (.y 7 (.int .i64 (cj_ kk)) (iN (kk - 1)) Yes.o (.io 8 0 g 10 10 0 n ((kk - 1:Nat):Int) (kk - 1) (F8.mk _ ow ow) (.t 9 (cm_ l kk) [(o_ g 10 (mE l))] (H6 (D6 (row:=Entry.row) (l:=l) (k:=10) (room:=none) kr om) kr:K7 tt 93 0 [(o_ g 10 (mE l))] (rowAt [(o_ g 10 (mE l))] 0 g (kk - 1))=some ((cm_ l kk),([(o_ g 10 (mE l))]:Heap))) (.io 12 0 g 10 10 0 n (kk:Int) kk (F8.mk _ ow ow) (.t 13 (cl_ l kk) [(o_ g 10 (mE l))] (H6 (D6 (row:=Entry.row) (l:=l) (k:=10) (room:=none) kr om) kr:K7 tt 93 0 [(o_ g 10 (mE l))] (rowAt [(o_ g 10 (mE l))] 0 g kk)=some ((cl_ l kk),([(o_ g 10 (mE l))]:Heap))) (.io 14 0 g 10 10 0 n (kk:Int) kk (F8.mk _ ow ow) (.st 15 0 g kk 10 0 (cm_ l kk) [(o_ g 10 (mE (l.set kk (nth l (kk - 1)))))] (Q5 (us:=(Entry.row (nth l (kk - 1)))) (D6 (row:=Entry.row) (l:=l) (k:=10) (room:=none) kr om) kr xC xB) (.io 16 0 g 10 10 0 n ((kk - 1:Nat):Int) (kk - 1) (F8.mk _ ow ow) (.st 17 0 g (kk - 1) 10 0 (cl_ l kk) (b7f g l kk) (Q5 (us:=(Entry.row (nth l kk))) (D6 (row:=Entry.row) (l:=l.set kk (nth l (kk - 1))) (k:=10) (room:=none) kr om) kr xC xB) (.s (.y 1 (.int .i64 (cj_ kk)) (iN (kk - 1)) Yes.o (.g (.l (k1 h1))))))))))))))))) (fun h1 h1'=>(.l (k2 h1))))))
theorem c3c (i n g:Nat) (hnb:n < 1048576) (r:Nat):∀ (kk:Nat) (l:l9E),kk=i+r->n=l.length->kk < n ->
 j6 (l9 Tryz.prog (X Y0) (x9 Tryz.f219 3)) (some [0,14,17]) (some [0,14,17]) (mkF 220 [(0,(AV.osl 0 g 10 0 n)),(14,(iN i)),(17,(iN kk))]) [(o_ g 10 (mE l))] (.exit 6) (mkF 220 [(0,(AV.osl 0 g 10 0 n)),(14,(iN i)),(17,(iN i))]) [(o_ g 10 (mE (shD r kk l)))]:=by
 induction r with
 | zero =>
  intro kk l h1 hn hk
  obtain rfl:kk=i:=by omega
  exact a7w kk kk n g l hn hnb hk (fun h=>by simp at h) (fun _=>rfl)
 | succ r ih =>
  intro kk l h1 hn hk
  refine a7w i kk n g l hn hnb hk (fun _=>?_) (fun h=>by simp at h; omega)
  simp only [shD]
  exact ih (kk - 1) _ ow (by simpa using hn) ow
section
variable {α:Type} [Inhabited α]
theorem c6W (X:List α) (x y:α) (Z:List α) {k:Nat} (hk:k=X.length):((X++x :: y :: Z).set k (nth (X++x :: y :: Z) (k+1))).set (k+1) (nth (X++x :: y :: Z) k)=X++y :: x :: Z:=by
 have:=nT X [x] [] [y] Z (a:=k) (b:=k+1) (n:=1) hk rfl rfl yg_
 simpa [U0,iter] using this
theorem a5i (x:α) (R:List α):∀ (X Y:List α) (k:Nat),k=X.length->shU R.length k (X++x :: (R++Y))=X++(R++x :: Y):=by
 induction R with
 | nil=>intro X Y k hk; rfl
 | cons y R ih =>
  intro X Y k hk
  have h1:shU (y :: R).length k (X++x :: ((y :: R)++Y))=shU R.length (k+1) (((X++x :: y :: (R++Y)).set k (nth (X++x :: y :: (R++Y)) (k+1))).set (k+1) (nth (X++x :: y :: (R++Y)) k)):=rfl
  rw [h1,c6W X x y (R++Y) hk]
  have:=ih (X++[y]) Y (k+1) rV
  simpa using this
theorem a5j (y:α) (r:Nat):∀ (X L Y:List α) (k:Nat),L.length=r->k=X.length+r->shD r k (X++(L++y :: Y))=X++y :: (L++Y):=by
 induction r with
 | zero =>
  intro X L Y k hL hk
  obtain rfl:L=[]:=List.eq_nil_of_length_eq_zero hL
  rfl
 | succ r ih =>
  intro X L Y k hL hk
  rcases List.eq_nil_or_concat L with rfl | ⟨L',z,rfl⟩
  · simp at hL
  · rw [List.concat_eq_append] at *
    have hL':L'.length=r:=by simpa using hL
    simp only [shD]
    have e0:X++((L'++[z])++y :: Y)=(X++L')++z :: y :: Y:=by simp
    obtain ⟨k',rfl⟩:∃ k',k=k'+1:=⟨k - 1,by omega⟩
    rw [e0,Nat.add_sub_cancel,List.set_comm _ _ ya_,c6W (X++L') z y Y (k:=k') yg_]
    have:=ih X L' (z :: Y) k' hL' ya_
    simpa using this
theorem piece (A L Z:List α) {a k:Nat} (ha:a=A.length) (hk:k=L.length):((A++(L++Z)).drop a).take k=L:=by
 subst ha hk
 rw [List.drop_append_of_le_length (Nat.le_refl _),List.drop_length,List.nil_append,List.take_append_of_le_length (Nat.le_refl _),List.take_length]
theorem a0h (lt:α->α->Bool) (A L R B:List α) {a m b:Nat} (ha:a=A.length) (hm:m=A.length+L.length) (hb:b=A.length+L.length+R.length):mAt lt a m b (A++(L++(R++B)))=A++(mg lt L R++B):=by
 unfold mAt
 have h1:(A++(L++(R++B))).take a=A:=by subst ha; rw [List.take_append_of_le_length (Nat.le_refl _),List.take_length]
 have h2:((A++(L++(R++B))).drop a).take (m - a)=L:=piece A L (R++B) ha ya_
 have h3:((A++(L++(R++B))).drop m).take (b - m)=R:=by
  have:=piece (A++L) R B (a:=m) (k:=b - m) yg_ ya_
  simpa using this
 have h4:(A++(L++(R++B))).drop b=B:=by
  have e:A++(L++(R++B))=(A++(L++R))++B:=by simp
  rw [e,List.drop_append_of_le_length yg_,List.drop_of_length_le yg_,List.nil_append]
 rw [h1,h2,h3,h4]
theorem sm1 (A L1 L2 R1 R2 B:List α) {l:List α} (hl:l=A++(L1++(L2++(R1++(R2++B))))) {s m e:Nat} (hs:s=A.length+L1.length) (hm:m=s+L2.length) (he:e=m+R1.length) :
 (if s < m/\m < e then P9 s m e l else l)=A++(L1++(R1++(L2++(R2++B)))):=by
 subst hl
 split
 · rename_i h
   have:=b2Q (A++L1) L2 R1 (R2++B) (a:=s) (m:=m) (b:=e) yg_ yg_ yg_ ya_ ya_
   simpa using this
 · rename_i h
   rcases Nat.eq_zero_or_pos L2.length with h1 | h1
   · obtain rfl:L2=[]:=List.eq_nil_of_length_eq_zero h1
     rfl
   · obtain rfl:R1=[]:=List.eq_nil_of_length_eq_zero ya_
     rfl
theorem sm2 (lt:α->α->Bool) (A L1 R1 Z:List α) {a s mid:Nat} (ha:a=A.length) (hs:s=a+L1.length) (hmid:mid=s+R1.length) :
 (if a < s/\s < mid then mAt lt a s mid (A++(L1++(R1++Z))) else A++(L1++(R1++Z)))=A++(mg lt L1 R1++Z):=by
 split
 · exact a0h lt A L1 R1 Z ha ya_ ya_
 · rename_i h
   rcases Nat.eq_zero_or_pos L1.length with h1 | h1
   · obtain rfl:L1=[]:=List.eq_nil_of_length_eq_zero h1
     rw [Z9]; rfl
   · obtain rfl:R1=[]:=List.eq_nil_of_length_eq_zero ya_
     rw [dW]; rfl
theorem sm3 (lt:α->α->Bool) (A M L2 R2 B:List α) {mid e b:Nat} (hm:mid=A.length+M.length) (he:e=mid+L2.length) (hb:b=e+R2.length) :
 (if mid < e/\e < b then mAt lt mid e b (A++(M++(L2++(R2++B)))) else A++(M++(L2++(R2++B))))=A++(M++(mg lt L2 R2++B)):=by
 have:=sm2 lt (A++M) L2 R2 B (a:=mid) (s:=e) (mid:=b) yg_ he hb
 simpa using this
theorem tY (X U V Y:List α) {l:List α} (hl:l=X++(U++(V++Y))) {a m b:Nat} (ha:a=X.length) (hm:m=a+U.length) (hb:b=m+V.length) (h1:0 < U.length) (h2:0 < V.length) :
 (K3 m (m - a+(b - m)) (m - a) (b - m) l).1.length=l.length/\(K3 m (m - a+(b - m)) (m - a) (b - m) l).2<=m - a/\(K3 m (m - a+(b - m)) (m - a) (b - m) l).2<=b - m:=by
 have e1:m - a=U.length:=by omega
 have e2:b - m=V.length:=by omega
 rw [e1,e2,hl]
 obtain ⟨_,k2,k3,k4,_⟩:=a2T m _ (U.length+V.length) X U V Y U.length V.length ya_ h1 h2 rfl rfl ya_ rfl
 exact ⟨by rw [k4]; simp; omega,k2,k3⟩
end
end Go.Proofs.YtmghjcbabebanaaGreat.AM
