/-
  Part 7 of 8: an abstract machine over the model; walks; plain laws.
-/
import Derived.Test.YtmghjcbabebanaaGreatMServerTicks6
set_option maxRecDepth 100000
set_option linter.unusedVariables false
set_option linter.unusedSimpArgs false
namespace Go.Proofs.YtmghjcbabebanaaGreat.AM
open Go Go.Proofs.YtmghjcbabebanaaGreat
attribute [local irreducible] E9 H6 K5 Tp.J5 Tp.K8 Tp.ask Tp.card Tp.cards Tp.key Tp.keyT Tp.next Tp.step j5 l6
def Tp.fA:Nat->Tp->List Key
 | 0,_=>[]
 | n+1,t=>t.key :: fA n t.keyT
def Tp.sU:Nat->Tp->Tp
 | 0,t=>t
 | n+1,t=>sU n t.keyT
theorem Tp.vX (n:Nat):∀ (t:Tp),(Tp.fA n t).length=n:=by
 induction n with
 | zero=>intro t; rfl
 | succ n ih=>intro t; simp only [Tp.fA,List.length_cons]; rw [ih]
def uI:Ann:={ gh:=[(18,.frzf 3 11 9),(18,.frzf 3 12 2)],gha:=[(14,.virf 3 12 2)],base:=1,fin:=some 1,live:=[(15,[0,2,3,4])],out:=[(15,[0,2,3,4])] }
@[simp] abbrev d7Q (a:Tp) (b:Nat) (c:Nat) (d:Nat) (e:l9K):Heap:=[(o_ 0 2 [(Tp.row a.keyT)]),G8,(o_ 0 13 [[(iN b),z_,z_,z_,z_,z_,z_,e_,e_,bF,H9,w9,(d9 3 (c+1) 2 (d+1))]]),(o_ (c+1) 2 (mK (e++[a.key])))]
@[simp] abbrev d7P (a:Nat):Fr:=(mkF 76 [(0,(j3 0)),(2,(j3 1)),(3,(j3 2)),(4,(iN a))])
@[simp] abbrev d2Q (a:Nat) (b:Nat) (c:Nat):Ob:=(o_ 0 13 [[(iN a),z_,z_,z_,z_,z_,z_,e_,e_,bF,H9,w9,(d9 3 b 2 c)]])
@[simp] abbrev d1w (a:Tp) (b:Nat) (c:Nat) (d:Nat) (e:l9K):Heap:=[(o_ 0 2 [(Tp.row a)]),G8,d2Q b c d,(o_ c 2 (mK e))]
abbrev d1v (a:Tp) (b:Nat) (c:Nat) (d:Nat) (e:l9K):Heap:=[(o_ 0 2 [(Tp.row a.keyT)]),G8,d2Q b c d,(o_ c 2 (mK e))]
theorem a7f (kd:Nat) (t:Tp) (out:l9K) (k g n:Nat) (hl:t.l.length < 9223372036854775808) (hk:k=out.length) (hkb:k < 1000) (hn:n < 1000) {eX:Ex} {FX:Fr} {HX:Heap} (k1:(decide ((n:Int) > 0))=true->l6 (C8 uI Tryz.f29 0) (some [0,2,3,4]) (some [0,2,3,4]) (mkF 76 [(0,(j3 0)),(2,(j3 1)),(3,(j3 2)),(4,(iN (n - 1)))]) (d7Q t kd g k out) eX FX HX) (k2:(decide ((n:Int) > 0))=false->((.exit 1:Ex),(d7P n),(d1w t kd g k out))=(eX,FX,HX)):l6 (C8 uI Tryz.f29 0) (some [0,2,3,4]) (some [0,2,3,4]) (d7P n) (d1w t kd g k out) eX FX HX :=
 J7 (.r (.g (.two (decide ((n:Int) > 0)) (fun h1 h1'=>(.r (.ch 3 (d1v t kd g k out) (j5.put2 [0] (d1w t kd g k out) (p9 (Key.row t.key)) (d1v t kd g k out) (uY t oa) D5 D5) (.ap 5 31 (d9 3 g 2 k) (AV.sl .clip 2 [(Key.row t.key)]) (d9 3 (g+1) 2 (k+1)) [(o_ 0 2 [(Tp.row t.keyT)]),(o_ 0 13 [[z_,z_,z_,z_,z_,z_,z_,e_,e_,bF,H9,w9,w9]]),(o_ 0 13 [[(iN kd),z_,z_,z_,z_,z_,z_,e_,e_,bF,H9,w9,(d9 3 g 2 k)]]),(o_ (g+1) 2 (mK (out++[t.key])))] (I4 (row:=Key.row) (l:=out) (x:=t.key) (T:=tt) (e:=28) (te:=a6g) (z:=1) (b:=24) (y:=[.sl .nil 0 []]) kr kr rfl D8 D8 kr Z0 rfl rfl b4W) (.rd (d9 3 g 2 k) (d1v t kd g k out) (.s (.h' (d7Q t kd g k out) (.y 1 (.int .i64 (cj_ n)) (iN (n - 1)) Yes.o (.g (.l (k1 h1))))))))))) (fun h1 h1'=>(.l (k2 h1))))))
theorem c1M (kd:Nat) (n:Nat):∀ (t:Tp) (out:l9K) (k g:Nat),t.l.length < 9223372036854775808->k=out.length->k+n < 1000 ->
 l6 (C8 uI Tryz.f29 0) (some [0,2,3,4]) (some [0,2,3,4]) (mkF 76 [(0,(j3 0)),(2,(j3 1)),(3,(j3 2)),(4,(iN n))]) [(o_ 0 2 [(Tp.row t)]),(o_ 0 13 [[z_,z_,z_,z_,z_,z_,z_,e_,e_,bF,H9,w9,w9]]),(o_ 0 13 [[(iN kd),z_,z_,z_,z_,z_,z_,e_,e_,bF,H9,w9,(d9 3 g 2 k)]]),(o_ g 2 (mK out))] (.exit 1) (mkF 76 [(0,(j3 0)),(2,(j3 1)),(3,(j3 2)),(4,(iN 0))]) [(o_ 0 2 [(Tp.row (Tp.sU n t))]),(o_ 0 13 [[z_,z_,z_,z_,z_,z_,z_,e_,e_,bF,H9,w9,w9]]),(o_ 0 13 [[(iN kd),z_,z_,z_,z_,z_,z_,e_,e_,bF,H9,w9,(d9 3 (g+n) 2 (k+n))]]),(o_ (g+n) 2 (mK (out++Tp.fA n t)))]:=by
 induction n with
 | zero =>
  intro t out k g hl hk hb
  refine a7f kd t out k g 0 hl hk ow ow (fun h=>by simp at h) fun _=>?_
  simp [Tp.fA,Tp.sU]
 | succ n ih =>
  intro t out k g hl hk hb
  refine a7f kd t out k g (n+1) hl hk ow ow (fun _=>?_) fun h=>by simp at h <;> omega
  have q:=ih t.keyT (out++[t.key]) (k+1) (g+1) (by rw [Tp.mP]; exact hl) uH ow
  rw [show k+1+n=k+(n+1) by omega,show g+1+n=g+(n+1) by omega,List.append_assoc] at q
  exact q
theorem a3Y (kd n:Nat) (t:Tp) (hl:t.l.length < 9223372036854775808) (hn:n < 1000) :
 l6 (C8 uI Tryz.f29 0) (some [0,2,3,4]) (some [0,2,3,4]) (mkF 76 [(0,(j3 0)),(2,(j3 1)),(3,(j3 2)),(4,(iN n))]) [(o_ 0 2 [(Tp.row t)]),(o_ 0 13 [[z_,z_,z_,z_,z_,z_,z_,e_,e_,bF,H9,w9,w9]]),(o_ 0 13 [[(iN kd),z_,z_,z_,z_,z_,z_,e_,e_,bF,H9,w9,(d9 3 0 2 0)]]),(o_ 0 2 (mK ([]:l9K)))] (.exit 1) (mkF 76 [(0,(j3 0)),(2,(j3 1)),(3,(j3 2)),(4,(iN 0))]) [(o_ 0 2 [(Tp.row (Tp.sU n t))]),(o_ 0 13 [[z_,z_,z_,z_,z_,z_,z_,e_,e_,bF,H9,w9,w9]]),(o_ 0 13 [[(iN kd),z_,z_,z_,z_,z_,z_,e_,e_,bF,H9,w9,(d9 3 n 2 n)]]),(o_ n 2 (mK (Tp.fA n t)))]:=by
 have q:=c1M kd n t [] 0 0 hl rfl ow
 simpa only [Nat.zero_add,List.nil_append] using q
def Tp.msgA (t:Tp):Msg × Tp :=
 let op:Nat:=1+((t.step 9).next 5)
 let t3:=(t.step 9).step 5
 (⟨0,(op:Nat),0,0,(t.next 9:Nat),0,0,if ((op:Int) != 5)=true then t3.key else ⟨⟨#[]⟩,⟨#[]⟩⟩,false,0,[],[]⟩,if ((op:Int) != 5)=true then t3.keyT else t3)
def d6Q:List Int:=[0,1,22,24,255]
def Tp.msg2 (t:Tp):Msg × Tp :=
 if (((1+t.next 5:Nat):Int) == 1)=true then
  let a:=(t.step 5).msgA; let t5:=a.2.step 30
  ({ a.1 with kind:=(1+t.next 5:Nat),seq:=((a.2.next 30:Nat):Int) - 1,n:=(t5.next 70:Nat),status:=((t5.step 70).next 5:Nat) },(t5.step 70).step 5)
 else if (((1+t.next 5:Nat):Int) == 2)=true then
  let a:=(t.step 5).msgA; let t5:=a.2.step 30; let t8:=((t5.step 5).step 2).step 1073741824
  ({ a.1 with kind:=(1+t.next 5:Nat),seq:=((a.2.next 30:Nat):Int) - 1,code:=nth d6Q (t5.next 5),full:=(((t5.step 5).next 2:Nat):Int) == 0,sum:=IntKind.u32.wrap (((t5.step 5).step 2).next 1073741824:Nat),cards:=(t8.step 6).cards (t8.next 6) },(t8.step 6).J5 (t8.next 6))
 else if (((1+t.next 5:Nat):Int) == 5)=true then
  (⟨(1+t.next 5:Nat),0,0,0,0,0,0,⟨⟨#[]⟩,⟨#[]⟩⟩,false,0,[],Tp.fA ((t.step 5).next 6) ((t.step 5).step 6)⟩,Tp.sU ((t.step 5).next 6) ((t.step 5).step 6))
 else (⟨(1+t.next 5:Nat),0,0,0,0,0,0,⟨⟨#[]⟩,⟨#[]⟩⟩,false,0,((t.step 5).step 7).cards ((t.step 5).next 7),[]⟩,((t.step 5).step 7).J5 ((t.step 5).next 7))
abbrev xU (a:Tp):Heap:=[(o_ 0 2 [(Tp.row (a.step 5))]),G8,G8]
abbrev jW (a:Tp):Ob:=(o_ 0 13 [[(iN (1+(a.next 5))),z_,z_,z_,z_,z_,z_,e_,e_,bF,H9,w9,w9]])
abbrev mZ (a:Tp):Heap:=[(o_ 0 2 [(Tp.row ((a.step 5).step 9))]),G8,jW a]
abbrev mY (a:Tp):Heap:=[(o_ 0 2 [(Tp.row (a.step 5))]),G8,jW a]
abbrev pU (a:Tp):Ob:=(o_ 0 2 [(Tp.row (((a.step 5).step 9).step 5))])
abbrev sJ (a:Tp):Heap:=[pU a,G8,jW a]
abbrev pR (a:Tp):Ob:=(o_ 0 2 [(Tp.row (((a.step 5).step 9).step 5).keyT)])
abbrev b8Z (a:Tp):=(iN (1+(((a.step 5).step 9).next 5)))
abbrev mX (a:Tp):Ob:=(o_ 0 13 [[(iN (1+(a.next 5))),(b8Z a),z_,z_,(iN ((a.step 5).next 9)),z_,z_,e_,e_,bF,H9,w9,w9]])
abbrev sI (a:Tp):Heap:=[pR a,G8,mX a]
abbrev kX (a:Tp):Heap:=[pU a,G8,mX a]
abbrev pQ (a:Tp):Ob:=(o_ 0 2 [(Tp.row ((((a.step 5).step 9).step 5).keyT.step 30))])
abbrev pO (a:Tp):Ob:=(o_ 0 13 [[(iN (1+(a.next 5))),(b8Z a),z_,z_,(iN ((a.step 5).next 9)),z_,z_,(AV.str (((a.step 5).step 9).step 5).key.app),(AV.str (((a.step 5).step 9).step 5).key.id),bF,H9,w9,w9]])
abbrev kW (a:Tp):Heap:=[pQ a,G8,pO a]
abbrev qE (a:Tp):Heap:=[pR a,G8,pO a]
abbrev iE (a:Tp):Ob:=(o_ 0 13 [[(iN (1+(a.next 5))),(b8Z a),z_,z_,(iN ((a.step 5).next 9)),z_,(iI ((((((a.step 5).step 9).step 5).keyT.next 30:Nat):Int) - 1)),(AV.str (((a.step 5).step 9).step 5).key.app),(AV.str (((a.step 5).step 9).step 5).key.id),bF,H9,w9,w9]])
abbrev kV (a:Tp):Heap:=[pQ a,G8,iE a]
abbrev nJ (a:Tp):Heap:=[(o_ 0 2 [(Tp.row (((((a.step 5).step 9).step 5).keyT.step 30).step 70))]),G8,iE a]
abbrev qD (a:Tp):Heap:=[(o_ 0 2 [(Tp.row ((((((a.step 5).step 9).step 5).keyT.step 30).step 70).step 5))]),G8,iE a]
abbrev kK (a:Tp):Ob:=(o_ 0 2 [(Tp.row ((((a.step 5).step 9).step 5).step 30))])
abbrev kU (a:Tp):Heap:=[kK a,G8,mX a]
abbrev eF (a:Tp):Ob:=(o_ 0 13 [[(iN (1+(a.next 5))),(b8Z a),z_,z_,(iN ((a.step 5).next 9)),z_,(iI ((((((a.step 5).step 9).step 5).next 30:Nat):Int) - 1)),e_,e_,bF,H9,w9,w9]])
abbrev kT (a:Tp):Heap:=[kK a,G8,eF a]
abbrev nI (a:Tp):Heap:=[(o_ 0 2 [(Tp.row (((((a.step 5).step 9).step 5).step 30).step 70))]),G8,eF a]
abbrev qC (a:Tp):Heap:=[(o_ 0 2 [(Tp.row ((((((a.step 5).step 9).step 5).step 30).step 70).step 5))]),G8,eF a]
abbrev kS (a:Tp):Heap:=[(o_ 0 2 [(Tp.row ((a.step 5).step 6))]),G8,jW a]
abbrev d3j :Fr:=(mkF 76 [(0,(j3 0)),(2,(j3 1)),(3,(j3 2)),(4,(iN 0))])
abbrev e1r (a:Tp):Fr:=(mkF 76 [(0,(j3 0)),(2,(j3 1)),(3,(j3 2)),(4,(iN ((a.step 5).next 6)))])
abbrev wG (a:Tp):Heap:=[(o_ 0 2 [(Tp.row ((a.step 5).step 6))]),G8,(o_ 0 13 [[(iN (1+(a.next 5))),z_,z_,z_,z_,z_,z_,e_,e_,bF,H9,w9,(d9 3 0 2 0)]]),(o_ 0 2 (mK []))]
abbrev jL (a:Tp):Ob:=(o_ 0 2 [(Tp.row (Tp.sU ((a.step 5).next 6) ((a.step 5).step 6)))])
abbrev kJ (a:Tp):Ob:=(o_ ((a.step 5).next 6) 2 (mK (Tp.fA ((a.step 5).next 6) ((a.step 5).step 6))))
abbrev wF (a:Tp):Heap:=[jL a,G8,(o_ 0 13 [[(iN (1+a.next 5)),z_,z_,z_,z_,z_,z_,e_,e_,bF,H9,w9,(d9 3 ((a.step 5).next 6) 2 ((a.step 5).next 6))]]),kJ a]
abbrev qB (a:Tp):Heap:=[jL a,G8,(o_ 0 13 [[(iN (1+a.next 5)),z_,z_,z_,z_,z_,z_,e_,e_,bF,H9,(sA 9 (mC [])),(d9 3 ((a.step 5).next 6) 2 ((a.step 5).next 6))]]),kJ a]
abbrev pY (a:Tp):Heap:=[jL a]
abbrev kI (a:Tp):Ob:=(o_ 0 2 [(Tp.row (((a.step 5).step (6+1)).J5 ((a.step 5).next (6+1))))])
abbrev kR (a:Tp):Heap:=[kI a,G8,jW a]
abbrev pX (a:Tp):Heap:=[kI a]
abbrev nH (a:Tp):Heap:=[(o_ 0 2 [(Tp.row (((((a.step 5).step 9).step 5).keyT.step 30).step 5))]),G8,iE a]
abbrev nG (a:Tp):Heap:=[(o_ 0 2 [(Tp.row ((((((a.step 5).step 9).step 5).keyT.step 30).step 5).step 2))]),G8,iE a]
abbrev nE (a:Tp):Heap:=[(o_ 0 2 [(Tp.row (((((((a.step 5).step 9).step 5).keyT.step 30).step 5).step 2).step 1073741824))]),G8,iE a]
abbrev pW (a:Tp):Heap:=[(o_ 0 2 [(Tp.row (((((((((a.step 5).step 9).step 5).keyT.step 30).step 5).step 2).step 1073741824).step (5+1)).J5 ((((((((a.step 5).step 9).step 5).keyT.step 30).step 5).step 2).step 1073741824).next (5+1))))]),G8,iE a]
abbrev nD (a:Tp):Heap:=[(o_ 0 2 [(Tp.row (((((a.step 5).step 9).step 5).step 30).step 5))]),G8,eF a]
abbrev nC (a:Tp):Heap:=[(o_ 0 2 [(Tp.row ((((((a.step 5).step 9).step 5).step 30).step 5).step 2))]),G8,eF a]
abbrev nA (a:Tp):Heap:=[(o_ 0 2 [(Tp.row (((((((a.step 5).step 9).step 5).step 30).step 5).step 2).step 1073741824))]),G8,eF a]
abbrev pV (a:Tp):Heap:=[(o_ 0 2 [(Tp.row (((((((((a.step 5).step 9).step 5).step 30).step 5).step 2).step 1073741824).step (5+1)).J5 ((((((((a.step 5).step 9).step 5).step 30).step 5).step 2).step 1073741824).next (5+1))))]),G8,eF a]
theorem aS {p:Prop} (h:p:=by first | omega | assumption | (simp; done) | (simp; omega) | (simp only [Tp.bA,Tp.mP,Tp.uE,Tp.a3P]; assumption)):p:=h
theorem c1L (t:Tp) (hl:t.l.length < 9223372036854775808):AC 29 [(AV.obj 0 0 0 0)] [(o_ 0 2 [(Tp.row t)])] ((p9 (Msg.row t.msg2.1)),[(o_ 0 2 [(Tp.row t.msg2.2)])]):=by
 have n5:=t.next_lt 5 ow
 have n6:=(t.step 5).next_lt 6 ow
 have n7:=((t.step 5).step 9).next_lt 5 ow
 have n8:=(((t.step 5).step 9).step 5).keyT.next_lt 30 ow
 have n9:=(((t.step 5).step 9).step 5).next_lt 30 ow
 have n10:=((((t.step 5).step 9).step 5).keyT.step 30).next_lt 5 ow
 have n11:=((((t.step 5).step 9).step 5).step 30).next_lt 5 ow
 exact x9 (fn:=Tryz.f29) (ann:=uI) (Has.o Tryz.func29) (.r (.s (.ch 1 (xU t) (j5.put2 [0] [(o_ 0 2 [(Tp.row t)]),(o_ 0 13 [[(AV.int .i64 0),(AV.int .i64 0),(AV.int .i64 0),(AV.int .i64 0),(AV.int .i64 0),(AV.int .i64 0),(AV.int .i64 0),(AV.str ⟨#[]⟩),(AV.str ⟨#[]⟩),(AV.bool false),H9,w9,w9]]),(o_ 0 13 [[(AV.int .i64 0),(AV.int .i64 0),(AV.int .i64 0),(AV.int .i64 0),(AV.int .i64 0),(AV.int .i64 0),(AV.int .i64 0),(AV.str ⟨#[]⟩),(AV.str ⟨#[]⟩),(AV.bool false),H9,w9,w9]])] (AV.int .i64 ((t.next 5:Nat):Int)) (xU t) (H7 t 5 aS) D5 D5) (.y 2 (iW (1+((t.next 5:Nat):Int))) (AV.int .i64 ((1+(t.next 5):Nat):Int)) Yes.o (.s (.s (.g (.two (((1+(t.next 5):Nat):Int) == 1) (fun h1 h1'=>(.two (((1+(t.next 5):Nat):Int) == 1) (fun h2 h2'=>(.r (.ch 1 (mZ t) (j5.put2 [0] (mY t) (AV.int .i64 (((t.step 5).next 9:Nat):Int)) (mZ t) (H7 (t.step 5) 9 aS) D5 D5) (.ch 3 (sJ t) (j5.put2 [0] (mZ t) (AV.int .i64 ((((t.step 5).step 9).next 5:Nat):Int)) (sJ t) (H7 ((t.step 5).step 9) 5 aS) D5 D5) (.y 4 (iW (1+((((t.step 5).step 9).next 5:Nat):Int))) (AV.int .i64 ((1+(((t.step 5).step 9).next 5):Nat):Int)) Yes.o (.s (.g (.two (((1+(((t.step 5).step 9).next 5):Nat):Int) != 5) (fun h3 h3'=>(.r (.ch 1 (sI t) (j5.put2 [0] (kX t) (p9 (Key.row (((t.step 5).step 9).step 5).key)) (sI t) (uY (((t.step 5).step 9).step 5) aS) D5 D5) (.s (.ch 1 (kW t) (j5.put2 [0] (qE t) (AV.int .i64 (((((t.step 5).step 9).step 5).keyT.next 30:Nat):Int)) (kW t) (H7 (((t.step 5).step 9).step 5).keyT 30 aS) D5 D5) (.y 2 (iW ((((((t.step 5).step 9).step 5).keyT.next 30:Nat):Int) - 1)) (AV.int .i64 ((((((t.step 5).step 9).step 5).keyT.next 30:Nat):Int) - 1)) Yes.o (.s (.h' (kV t) (.y 2 (AV.bool (((1+(t.next 5):Nat):Int) == 1)) (AV.bool true) (Yes.b h1) (.ru (.ch 1 (nJ t) (j5.put2 [0] (kV t) (AV.int .i64 ((((((t.step 5).step 9).step 5).keyT.step 30).next 70:Nat):Int)) (nJ t) (H7 ((((t.step 5).step 9).step 5).keyT.step 30) 70 aS) D5 D5) (.ch 3 (qD t) (j5.put2 [0] (nJ t) (AV.int .i64 (((((((t.step 5).step 9).step 5).keyT.step 30).step 70).next 5:Nat):Int)) (qD t) (H7 (((((t.step 5).step 9).step 5).keyT.step 30).step 70) 5 aS) D5 D5) (.s (.o (rfl:0=0) (.o (rfl:0=0) (.g (.h' [(o_ 0 2 [(Tp.row ((((((t.step 5).step 9).step 5).keyT.step 30).step 70).step 5))])] (.q 1 (p9 [(AV.int .i64 ((1+(t.next 5):Nat):Int)),(AV.int .i64 ((1+(((t.step 5).step 9).next 5):Nat):Int)),(AV.int .i64 (((((((t.step 5).step 9).step 5).keyT.step 30).step 70).next 5:Nat):Int)),(AV.int .i64 0),(AV.int .i64 (((t.step 5).next 9:Nat):Int)),(AV.int .i64 ((((((t.step 5).step 9).step 5).keyT.step 30).next 70:Nat):Int)),(AV.int .i64 ((((((t.step 5).step 9).step 5).keyT.next 30:Nat):Int) - 1)),(AV.str (((t.step 5).step 9).step 5).key.app),(AV.str (((t.step 5).step 9).step 5).key.id),(AV.bool false),H9,(AV.sl .any 9 (List.map j4.row [])),(AV.sl .any 2 (List.map Key.row []))]) (by (try delta xU mZ mY sJ sI kX kW qE kV nJ qD kU kT nI qC kS wG wF qB pY kR pX nH nG nE pW nD nC nA pV G8 G8 jW pU pR mX pQ pO iE kK eF jL kJ kI); unfold Tp.msg2 Tp.msgA; simp only []; (try rw [if_pos h1]); (try rw [if_pos h2]); (try rw [if_pos h3]); first | done | rfl | (simp only [h1,h2,h3,if_true,Bool.false_eq_true,if_false]; first | done | rfl)))))))))))))))))))) (fun h3 h3'=>(.r (.ch 1 (kU t) (j5.put2 [0] (kX t) (AV.int .i64 (((((t.step 5).step 9).step 5).next 30:Nat):Int)) (kU t) (H7 (((t.step 5).step 9).step 5) 30 aS) D5 D5) (.y 2 (iW ((((((t.step 5).step 9).step 5).next 30:Nat):Int) - 1)) (AV.int .i64 ((((((t.step 5).step 9).step 5).next 30:Nat):Int) - 1)) Yes.o (.s (.h' (kT t) (.y 2 (AV.bool (((1+(t.next 5):Nat):Int) == 1)) (AV.bool true) (Yes.b h1) (.ru (.ch 1 (nI t) (j5.put2 [0] (kT t) (AV.int .i64 ((((((t.step 5).step 9).step 5).step 30).next 70:Nat):Int)) (nI t) (H7 ((((t.step 5).step 9).step 5).step 30) 70 aS) D5 D5) (.ch 3 (qC t) (j5.put2 [0] (nI t) (AV.int .i64 (((((((t.step 5).step 9).step 5).step 30).step 70).next 5:Nat):Int)) (qC t) (H7 (((((t.step 5).step 9).step 5).step 30).step 70) 5 aS) D5 D5) (.s (.o (rfl:0=0) (.o (rfl:0=0) (.g (.h' [(o_ 0 2 [(Tp.row ((((((t.step 5).step 9).step 5).step 30).step 70).step 5))])] (.q 1 (p9 [(AV.int .i64 ((1+(t.next 5):Nat):Int)),(AV.int .i64 ((1+(((t.step 5).step 9).next 5):Nat):Int)),(AV.int .i64 (((((((t.step 5).step 9).step 5).step 30).step 70).next 5:Nat):Int)),(AV.int .i64 0),(AV.int .i64 (((t.step 5).next 9:Nat):Int)),(AV.int .i64 ((((((t.step 5).step 9).step 5).step 30).next 70:Nat):Int)),(AV.int .i64 ((((((t.step 5).step 9).step 5).next 30:Nat):Int) - 1)),(AV.str ⟨#[]⟩),(AV.str ⟨#[]⟩),(AV.bool false),H9,(AV.sl .any 9 (List.map j4.row [])),(AV.sl .any 2 (List.map Key.row []))]) (by (try delta xU mZ mY sJ sI kX kW qE kV nJ qD kU kT nI qC kS wG wF qB pY kR pX nH nG nE pW nD nC nA pV G8 G8 jW pU pR mX pQ pO iE kK eF jL kJ kI); unfold Tp.msg2 Tp.msgA; simp only []; (try rw [if_pos h1]); (try rw [if_pos h2]); (try rw [if_neg yV]); first | done | rfl | (simp only [h1,h2,h3,if_true,Bool.false_eq_true,if_false]; first | done | rfl)))))))))))))))))))))))))) (fun h2 h2'=>(.r (.g (.two (((1+(t.next 5):Nat):Int) == 5) (fun h3 h3'=>(.r (.ch 1 (kS t) (j5.put2 [0] (mY t) (AV.int .i64 (((t.step 5).next 6:Nat):Int)) (kS t) (H7 (t.step 5) 6 aS) D5 D5) (.o (rfl:0=0) (.g (.loop d3j (a3Y (1+t.next 5) ((t.step 5).next 6) ((t.step 5).step 6) (by simp only [Tp.bA]; exact hl) ow) (.r (.o (rfl:0=0) (.w 3 ((Tp.fA ((t.step 5).next 6) ((t.step 5).step 6)).map Key.row) (And.intro rfl (And.intro (G5 (room:=none) kr (by first | omega | (simp [Tp.vX]; done) | (simp [Tp.vX]; omega))) (Key.z8 _ _)):0=0/\I5 (qB t) 2 (d9 3 ((t.step 5).next 6) 2 ((t.step 5).next 6))=some ((Tp.fA ((t.step 5).next 6) ((t.step 5).step 6)).map Key.row)/\AV.F3 0 ((Tp.fA ((t.step 5).next 6) ((t.step 5).step 6)).map Key.row)=true) (.g (.h' (pY t) (.q 1 (p9 [(AV.int .i64 ((1+t.next 5:Nat):Int)),(AV.int .i64 0),(AV.int .i64 0),(AV.int .i64 0),(AV.int .i64 0),(AV.int .i64 0),(AV.int .i64 0),(AV.str ⟨#[]⟩),(AV.str ⟨#[]⟩),(AV.bool false),H9,(AV.sl .any 9 (List.map j4.row [])),(AV.sl .any 2 ((Tp.fA ((t.step 5).next 6) ((t.step 5).step 6)).map Key.row))]) (by (try delta xU mZ mY sJ sI kX kW qE kV nJ qD kU kT nI qC kS wG wF qB pY kR pX nH nG nE pW nD nC nA pV G8 G8 jW pU pR mX pQ pO iE kK eF jL kJ kI); exact absurd (h2.symm.trans h1) ye_))))))))))))) (fun h3 h3'=>(.r (.ch 1 (kR t) (j5.put2 [0] (mY t) (AV.sl .any 9 (((t.step 5).step (6+1) |>.cards ((t.step 5).next (6+1))).map j4.row)) (kR t) (tK (t.step 5) 6 aS aS) D5 D5) (.s (.o (rfl:0=0) (.o (rfl:0=0) (.g (.h' (pX t) (.q 1 (p9 [(AV.int .i64 ((1+(t.next 5):Nat):Int)),(AV.int .i64 0),(AV.int .i64 0),(AV.int .i64 0),(AV.int .i64 0),(AV.int .i64 0),(AV.int .i64 0),(AV.str ⟨#[]⟩),(AV.str ⟨#[]⟩),(AV.bool false),H9,(AV.sl .any 9 (((t.step 5).step (6+1) |>.cards ((t.step 5).next (6+1))).map j4.row)),(AV.sl .any 2 (List.map Key.row []))]) (by (try delta xU mZ mY sJ sI kX kW qE kV nJ qD kU kT nI qC kS wG wF qB pY kR pX nH nG nE pW nD nC nA pV G8 G8 jW pU pR mX pQ pO iE kK eF jL kJ kI); exact absurd (h2.symm.trans h1) ye_)))))))))))))))) (fun h1 h1'=>(.r (.g (.two (((1+(t.next 5):Nat):Int) == 2) (fun h2 h2'=>(.r (.ch 1 (mZ t) (j5.put2 [0] (mY t) (AV.int .i64 (((t.step 5).next 9:Nat):Int)) (mZ t) (H7 (t.step 5) 9 aS) D5 D5) (.ch 3 (sJ t) (j5.put2 [0] (mZ t) (AV.int .i64 ((((t.step 5).step 9).next 5:Nat):Int)) (sJ t) (H7 ((t.step 5).step 9) 5 aS) D5 D5) (.y 4 (iW (1+((((t.step 5).step 9).next 5:Nat):Int))) (AV.int .i64 ((1+(((t.step 5).step 9).next 5):Nat):Int)) Yes.o (.s (.g (.two (((1+(((t.step 5).step 9).next 5):Nat):Int) != 5) (fun h3 h3'=>(.r (.ch 1 (sI t) (j5.put2 [0] (kX t) (p9 (Key.row (((t.step 5).step 9).step 5).key)) (sI t) (uY (((t.step 5).step 9).step 5) aS) D5 D5) (.s (.ch 1 (kW t) (j5.put2 [0] (qE t) (AV.int .i64 (((((t.step 5).step 9).step 5).keyT.next 30:Nat):Int)) (kW t) (H7 (((t.step 5).step 9).step 5).keyT 30 aS) D5 D5) (.y 2 (iW ((((((t.step 5).step 9).step 5).keyT.next 30:Nat):Int) - 1)) (AV.int .i64 ((((((t.step 5).step 9).step 5).keyT.next 30:Nat):Int) - 1)) Yes.o (.s (.h' (kV t) (.y 2 (AV.bool (((1+(t.next 5):Nat):Int) == 1)) (AV.bool false) (Yes.b h1) (.rn (.ch 2 (nH t) (j5.put2 [0] (kV t) (AV.int .i64 ((((((t.step 5).step 9).step 5).keyT.step 30).next 5:Nat):Int)) (nH t) (H7 ((((t.step 5).step 9).step 5).keyT.step 30) 5 aS) D5 D5) (.is 3 1 1 (List.map y5 [0,1,22,24,255]) ((((((t.step 5).step 9).step 5).keyT.step 30).next 5:Nat):Int) (y5 (nth [0,1,22,24,255] (((((t.step 5).step 9).step 5).keyT.step 30).next 5))) (N7.mk _ ow yg_) (.ch 6 (nG t) (j5.put2 [0] (nH t) (AV.int .i64 (((((((t.step 5).step 9).step 5).keyT.step 30).step 5).next 2:Nat):Int)) (nG t) (H7 (((((t.step 5).step 9).step 5).keyT.step 30).step 5) 2 aS) D5 D5) (.ch 9 (nE t) (j5.put2 [0] (nG t) (AV.int .i64 ((((((((t.step 5).step 9).step 5).keyT.step 30).step 5).step 2).next 1073741824:Nat):Int)) (nE t) (H7 ((((((t.step 5).step 9).step 5).keyT.step 30).step 5).step 2) 1073741824 aS) D5 D5) (.ch 12 (pW t) (j5.put2 [0] (nE t) (AV.sl .any 9 (((((((((t.step 5).step 9).step 5).keyT.step 30).step 5).step 2).step 1073741824).step (5+1) |>.cards ((((((((t.step 5).step 9).step 5).keyT.step 30).step 5).step 2).step 1073741824).next (5+1))).map j4.row)) (pW t) (tK (((((((t.step 5).step 9).step 5).keyT.step 30).step 5).step 2).step 1073741824) 5 aS aS) D5 D5) (.s (.o (rfl:0=0) (.o (rfl:0=0) (.g (.h' [(o_ 0 2 [(Tp.row (((((((((t.step 5).step 9).step 5).keyT.step 30).step 5).step 2).step 1073741824).step (5+1)).J5 ((((((((t.step 5).step 9).step 5).keyT.step 30).step 5).step 2).step 1073741824).next (5+1))))])] (.q 1 (p9 [(AV.int .i64 ((1+(t.next 5):Nat):Int)),(AV.int .i64 ((1+(((t.step 5).step 9).next 5):Nat):Int)),(AV.int .i64 0),(AV.int .i64 (nth [0,1,22,24,255] (((((t.step 5).step 9).step 5).keyT.step 30).next 5))),(AV.int .i64 (((t.step 5).next 9:Nat):Int)),(AV.int .i64 0),(AV.int .i64 ((((((t.step 5).step 9).step 5).keyT.next 30:Nat):Int) - 1)),(AV.str (((t.step 5).step 9).step 5).key.app),(AV.str (((t.step 5).step 9).step 5).key.id),(AV.bool ((((((((t.step 5).step 9).step 5).keyT.step 30).step 5).next 2:Nat):Int) == 0)),(AV.int .u32 (IntKind.u32.wrap ((((((((t.step 5).step 9).step 5).keyT.step 30).step 5).step 2).next 1073741824:Nat):Int))),(AV.sl .any 9 (((((((((t.step 5).step 9).step 5).keyT.step 30).step 5).step 2).step 1073741824).step (5+1) |>.cards ((((((((t.step 5).step 9).step 5).keyT.step 30).step 5).step 2).step 1073741824).next (5+1))).map j4.row)),(AV.sl .any 2 (List.map Key.row []))]) (by (try delta xU mZ mY sJ sI kX kW qE kV nJ qD kU kT nI qC kS wG wF qB pY kR pX nH nG nE pW nD nC nA pV G8 G8 jW pU pR mX pQ pO iE kK eF jL kJ kI); unfold Tp.msg2 Tp.msgA; simp only []; (try rw [if_neg a3e]); (try rw [if_pos h2]); (try rw [if_pos h3]); first | done | rfl | (simp only [h1,h2,h3,if_true,Bool.false_eq_true,if_false]; first | done | rfl))))))))))))))))))))))) (fun h3 h3'=>(.r (.ch 1 (kU t) (j5.put2 [0] (kX t) (AV.int .i64 (((((t.step 5).step 9).step 5).next 30:Nat):Int)) (kU t) (H7 (((t.step 5).step 9).step 5) 30 aS) D5 D5) (.y 2 (iW ((((((t.step 5).step 9).step 5).next 30:Nat):Int) - 1)) (AV.int .i64 ((((((t.step 5).step 9).step 5).next 30:Nat):Int) - 1)) Yes.o (.s (.h' (kT t) (.y 2 (AV.bool (((1+(t.next 5):Nat):Int) == 1)) (AV.bool false) (Yes.b h1) (.rn (.ch 2 (nD t) (j5.put2 [0] (kT t) (AV.int .i64 ((((((t.step 5).step 9).step 5).step 30).next 5:Nat):Int)) (nD t) (H7 ((((t.step 5).step 9).step 5).step 30) 5 aS) D5 D5) (.is 3 1 1 (List.map y5 [0,1,22,24,255]) ((((((t.step 5).step 9).step 5).step 30).next 5:Nat):Int) (y5 (nth [0,1,22,24,255] (((((t.step 5).step 9).step 5).step 30).next 5))) (N7.mk _ ow yg_) (.ch 6 (nC t) (j5.put2 [0] (nD t) (AV.int .i64 (((((((t.step 5).step 9).step 5).step 30).step 5).next 2:Nat):Int)) (nC t) (H7 (((((t.step 5).step 9).step 5).step 30).step 5) 2 aS) D5 D5) (.ch 9 (nA t) (j5.put2 [0] (nC t) (AV.int .i64 ((((((((t.step 5).step 9).step 5).step 30).step 5).step 2).next 1073741824:Nat):Int)) (nA t) (H7 ((((((t.step 5).step 9).step 5).step 30).step 5).step 2) 1073741824 aS) D5 D5) (.ch 12 (pV t) (j5.put2 [0] (nA t) (AV.sl .any 9 (((((((((t.step 5).step 9).step 5).step 30).step 5).step 2).step 1073741824).step (5+1) |>.cards ((((((((t.step 5).step 9).step 5).step 30).step 5).step 2).step 1073741824).next (5+1))).map j4.row)) (pV t) (tK (((((((t.step 5).step 9).step 5).step 30).step 5).step 2).step 1073741824) 5 aS aS) D5 D5) (.s (.o (rfl:0=0) (.o (rfl:0=0) (.g (.h' [(o_ 0 2 [(Tp.row (((((((((t.step 5).step 9).step 5).step 30).step 5).step 2).step 1073741824).step (5+1)).J5 ((((((((t.step 5).step 9).step 5).step 30).step 5).step 2).step 1073741824).next (5+1))))])] (.q 1 (p9 [(AV.int .i64 ((1+(t.next 5):Nat):Int)),(AV.int .i64 ((1+(((t.step 5).step 9).next 5):Nat):Int)),(AV.int .i64 0),(AV.int .i64 (nth [0,1,22,24,255] (((((t.step 5).step 9).step 5).step 30).next 5))),(AV.int .i64 (((t.step 5).next 9:Nat):Int)),(AV.int .i64 0),(AV.int .i64 ((((((t.step 5).step 9).step 5).next 30:Nat):Int) - 1)),(AV.str ⟨#[]⟩),(AV.str ⟨#[]⟩),(AV.bool ((((((((t.step 5).step 9).step 5).step 30).step 5).next 2:Nat):Int) == 0)),(AV.int .u32 (IntKind.u32.wrap ((((((((t.step 5).step 9).step 5).step 30).step 5).step 2).next 1073741824:Nat):Int))),(AV.sl .any 9 (((((((((t.step 5).step 9).step 5).step 30).step 5).step 2).step 1073741824).step (5+1) |>.cards ((((((((t.step 5).step 9).step 5).step 30).step 5).step 2).step 1073741824).next (5+1))).map j4.row)),(AV.sl .any 2 (List.map Key.row []))]) (by (try delta xU mZ mY sJ sI kX kW qE kV nJ qD kU kT nI qC kS wG wF qB pY kR pX nH nG nE pW nD nC nA pV G8 G8 jW pU pR mX pQ pO iE kK eF jL kJ kI); unfold Tp.msg2 Tp.msgA; simp only []; (try rw [if_neg a3e]); (try rw [if_pos h2]); (try rw [if_neg yV]); first | done | rfl | (simp only [h1,h2,h3,if_true,Bool.false_eq_true,if_false]; first | done | rfl))))))))))))))))))))))))))))) (fun h2 h2'=>(.r (.g (.two (((1+(t.next 5):Nat):Int) == 5) (fun h3 h3'=>(.r (.ch 1 (kS t) (j5.put2 [0] (mY t) (AV.int .i64 (((t.step 5).next 6:Nat):Int)) (kS t) (H7 (t.step 5) 6 aS) D5 D5) (.o (rfl:0=0) (.g (.loop d3j (a3Y (1+t.next 5) ((t.step 5).next 6) ((t.step 5).step 6) (by simp only [Tp.bA]; exact hl) ow) (.r (.o (rfl:0=0) (.w 3 ((Tp.fA ((t.step 5).next 6) ((t.step 5).step 6)).map Key.row) (And.intro rfl (And.intro (G5 (room:=none) kr (by first | omega | (simp [Tp.vX]; done) | (simp [Tp.vX]; omega))) (Key.z8 _ _)):0=0/\I5 (qB t) 2 (d9 3 ((t.step 5).next 6) 2 ((t.step 5).next 6))=some ((Tp.fA ((t.step 5).next 6) ((t.step 5).step 6)).map Key.row)/\AV.F3 0 ((Tp.fA ((t.step 5).next 6) ((t.step 5).step 6)).map Key.row)=true) (.g (.h' (pY t) (.q 1 (p9 [(AV.int .i64 ((1+t.next 5:Nat):Int)),(AV.int .i64 0),(AV.int .i64 0),(AV.int .i64 0),(AV.int .i64 0),(AV.int .i64 0),(AV.int .i64 0),(AV.str ⟨#[]⟩),(AV.str ⟨#[]⟩),(AV.bool false),H9,(AV.sl .any 9 (List.map j4.row [])),(AV.sl .any 2 ((Tp.fA ((t.step 5).next 6) ((t.step 5).step 6)).map Key.row))]) (by (try delta xU mZ mY sJ sI kX kW qE kV nJ qD kU kT nI qC kS wG wF qB pY kR pX nH nG nE pW nD nC nA pV G8 G8 jW pU pR mX pQ pO iE kK eF jL kJ kI); unfold Tp.msg2 Tp.msgA; simp only []; (try rw [if_neg a3e]); (try rw [if_neg a9n]); (try rw [if_pos h3]); first | done | rfl | (simp only [h1,h2,h3,if_true,Bool.false_eq_true,if_false]; first | done | rfl)))))))))))))) (fun h3 h3'=>(.r (.ch 1 (kR t) (j5.put2 [0] (mY t) (AV.sl .any 9 (((t.step 5).step (6+1) |>.cards ((t.step 5).next (6+1))).map j4.row)) (kR t) (tK (t.step 5) 6 aS aS) D5 D5) (.s (.o (rfl:0=0) (.o (rfl:0=0) (.g (.h' (pX t) (.q 1 (p9 [(AV.int .i64 ((1+(t.next 5):Nat):Int)),(AV.int .i64 0),(AV.int .i64 0),(AV.int .i64 0),(AV.int .i64 0),(AV.int .i64 0),(AV.int .i64 0),(AV.str ⟨#[]⟩),(AV.str ⟨#[]⟩),(AV.bool false),H9,(AV.sl .any 9 (((t.step 5).step (6+1) |>.cards ((t.step 5).next (6+1))).map j4.row)),(AV.sl .any 2 (List.map Key.row []))]) (by (try delta xU mZ mY sJ sI kX kW qE kV nJ qD kU kT nI qC kS wG wF qB pY kR pX nH nG nE pW nD nC nA pV G8 G8 jW pU pR mX pQ pO iE kK eF jL kJ kI); unfold Tp.msg2 Tp.msgA; simp only []; (try rw [if_neg a3e]); (try rw [if_neg a9n]); (try rw [if_neg yV]); first | done | rfl | (simp only [h1,h2,h3,if_true,Bool.false_eq_true,if_false]; first | done | rfl)))))))))))))))))))))))))))
structure y8 where
 kind:Int
 src:Int
 m:Msg
 n:Nat
 deriving Inhabited
def y8.row (x:y8):List AV:=[(iI x.kind),(iI x.src),(iI x.m.kind),(iI x.m.op),(iI x.m.status),(iI x.m.code),(iI x.m.tag),(iI x.m.n),(iI x.m.seq),(AV.str x.m.key.app),(AV.str x.m.key.id),(bB x.m.full),(AV.int .u32 x.m.sum),(sA 9 (mC x.m.cards)),(sA 2 (mK x.m.keys)),(iN x.n)]
@[simp] theorem y8.U9 (n:Nat) (x:y8):AV.bdds n x.row=true:=by simp [y8.row,AV.bdds,AV.bdd]
@[simp] theorem y8.z8 (n:Nat) (l:List y8):AV.F3 n (l.map y8.row)=true:=by induction l with | nil=>rfl | cons x l ih=>simp [AV.F3,y8.U9,ih]
theorem Tp.d6e (n:Nat):∀ (t:Tp),(Tp.sU n t).l=t.l:=by
 induction n with
 | zero=>intro t; rfl
 | succ n ih=>intro t; simp only [Tp.sU]; rw [ih,Tp.mP]
theorem Tp.c3q (t:Tp):t.msg2.2.l=t.l:=by
 have hA:∀ u:Tp,u.msgA.2.l=u.l:=fun u=>by
  unfold Tp.msgA
  simp only []
  split <;> simp only [Tp.bA,Tp.mP]
 unfold Tp.msg2
 split
 · simp only [Tp.bA,hA]
 · split
   · simp only [Tp.bA,hA,Tp.a3P]
   · split
     · simp only [Tp.d6e,Tp.bA]
     · simp only [Tp.a3P,Tp.bA]
attribute [local irreducible] Tp.msg2
def a1D:Ann:={ gh:=[(13,.frz 6),(13,.cut 0)],gha:=[(2,.vir 6 16),(12,.cut 2)],fin:=some 0,live:=[(3,[0,1,5,6])],out:=[(3,[0,1,5,6])] }
@[simp] abbrev a0k (a:List Int):=(sA 1 (a.map y5))
@[simp] abbrev a0j (a b:Nat):=(d9 1 (a+1) 16 (b+1))
@[simp] abbrev wE (a:List Int) (b:Nat) (c:Nat) (d:Nat):Fr:=(mkF 56 [(0,(a0k a)),(1,(iN b)),(5,(j3 0)),(6,(a0j c d))])
@[simp] abbrev a5q (a:Tp):Ob:=(o_ 0 2 [(Tp.row ((((((a.step 9).step 6).step 25).ask.2.step 30).step 20).step 500))])
@[simp] abbrev d3i (a:Tp) (b:Nat) (c:List y8):Heap:=[a5q a,(o_ (b+1) 16 ((c++[(y8.mk 9 (((a.step 9).next 6:Nat):Int) (((a.step 9).step 6).step 25).ask.1 ((((((a.step 9).step 6).step 25).ask.2.step 30).step 20).next 500))]).map y8.row))]
@[simp] abbrev a5p (a:Tp):Ob:=(o_ 0 2 [(Tp.row (((((a.step 9).step 6).step 25).ask.2.step 30).step 20))])
@[simp] abbrev d3h (a:Tp) (b:Nat) (c:List y8):Heap:=[a5p a,(o_ (b+1) 16 ((c++[(y8.mk 9 (((a.step 9).next 6:Nat):Int) (((a.step 9).step 6).step 25).ask.1 (1+(((a.step 9).step 6).next 25)))]).map y8.row))]
@[simp] abbrev d3g (a:Tp) (b:Nat) (c:List y8):Heap:=[a5q a,(o_ (b+1) 16 ((c++[(y8.mk ((a.next 9:Nat):Int) (((a.step 9).next 6:Nat):Int) (((a.step 9).step 6).step 25).ask.1 ((((((a.step 9).step 6).step 25).ask.2.step 30).step 20).next 500))]).map y8.row))]
@[simp] abbrev d3f (a:Tp) (b:Nat) (c:List y8):Heap:=[a5p a,(o_ (b+1) 16 ((c++[(y8.mk ((a.next 9:Nat):Int) (((a.step 9).next 6:Nat):Int) (((a.step 9).step 6).step 25).ask.1 (1+(((a.step 9).step 6).next 25)))]).map y8.row))]
@[simp] abbrev a5o (a:Tp):Ob:=(o_ 0 2 [(Tp.row ((((((a.step 9).step 6).step 25).msg2.2.step 30).step 20).step 500))])
@[simp] abbrev d3e (a:Tp) (b:Nat) (c:List y8):Heap:=[a5o a,(o_ (b+1) 16 ((c++[(y8.mk 9 (((a.step 9).next 6:Nat):Int) (((a.step 9).step 6).step 25).msg2.1 ((((((a.step 9).step 6).step 25).msg2.2.step 30).step 20).next 500))]).map y8.row))]
@[simp] abbrev a5n (a:Tp):Ob:=(o_ 0 2 [(Tp.row (((((a.step 9).step 6).step 25).msg2.2.step 30).step 20))])
@[simp] abbrev d3d (a:Tp) (b:Nat) (c:List y8):Heap:=[a5n a,(o_ (b+1) 16 ((c++[(y8.mk 9 (((a.step 9).next 6:Nat):Int) (((a.step 9).step 6).step 25).msg2.1 (1+(((a.step 9).step 6).next 25)))]).map y8.row))]
@[simp] abbrev d3c (a:Tp) (b:Nat) (c:List y8):Heap:=[a5o a,(o_ (b+1) 16 ((c++[(y8.mk ((a.next 9:Nat):Int) (((a.step 9).next 6:Nat):Int) (((a.step 9).step 6).step 25).msg2.1 ((((((a.step 9).step 6).step 25).msg2.2.step 30).step 20).next 500))]).map y8.row))]
@[simp] abbrev d3b (a:Tp) (b:Nat) (c:List y8):Heap:=[a5n a,(o_ (b+1) 16 ((c++[(y8.mk ((a.next 9:Nat):Int) (((a.step 9).next 6:Nat):Int) (((a.step 9).step 6).step 25).msg2.1 (1+(((a.step 9).step 6).next 25)))]).map y8.row))]
@[simp] abbrev c0h (a:List Int) (b:Nat) (c:Nat) (d:Nat):Fr:=(mkF 56 [(0,(a0k a)),(1,(iN b)),(5,(j3 0)),(6,(d9 1 c 16 d))])
@[simp] abbrev c0g (a:Tp) (b:Nat) (c:List y8):Heap:=[(o_ 0 2 [(Tp.row a)]),(o_ b 16 (c.map y8.row))]
@[simp] abbrev b1K :Ob:=(o_ 0 16 [[z_,z_,z_,z_,z_,z_,z_,z_,z_,e_,e_,bF,H9,w9,w9,z_]])
@[simp] abbrev c0f (a:Tp) (b:Nat) (c:List y8):Heap:=[(o_ 0 2 [(Tp.row (a.step 9))]),(o_ b 16 (c.map y8.row)),b1K]
@[simp] abbrev c0e (a:Tp) (b:Nat) (c:List y8):Heap:=[(o_ 0 2 [(Tp.row ((a.step 9).step 6))]),(o_ b 16 (c.map y8.row)),b1K]
@[simp] abbrev c6d (a:Tp):Ob:=(o_ 0 2 [(Tp.row (((a.step 9).step 6).step 25))])
@[simp] abbrev d3a (a:Tp) (b:Nat) (c:List y8):Heap:=[c6d a,(o_ b 16 (c.map y8.row)),b1K]
@[simp] abbrev a0i (a:Tp):=(iN ((a.step 9).next 6))
@[simp] abbrev a6C (a:Tp):=(iN (1+(((a.step 9).step 6).next 25)))
@[simp] abbrev b1J (a:Tp):Ob:=(o_ 0 16 [[(iN (a.next 9)),(a0i a),z_,z_,z_,z_,z_,z_,z_,e_,e_,bF,H9,w9,w9,(a6C a)]])
@[simp] abbrev d2Z (a:Tp) (b:Nat) (c:List y8):Heap:=[(o_ 0 2 [(Tp.row (((a.step 9).step 6).step 25).ask.2)]),(o_ b 16 (c.map y8.row)),b1J a]
@[simp] abbrev d2Y (a:Tp) (b:Nat) (c:List y8):Heap:=[c6d a,(o_ b 16 (c.map y8.row)),b1J a]
@[simp] abbrev b8M (a:Tp):=(iI (((a.step 9).step 6).step 25).ask.1.kind)
@[simp] abbrev b8L (a:Tp):=(iI (((a.step 9).step 6).step 25).ask.1.op)
@[simp] abbrev b8K (a:Tp):=(iI (((a.step 9).step 6).step 25).ask.1.status)
@[simp] abbrev b8J (a:Tp):=(iI (((a.step 9).step 6).step 25).ask.1.code)
@[simp] abbrev b8I (a:Tp):=(iI (((a.step 9).step 6).step 25).ask.1.tag)
@[simp] abbrev b8H (a:Tp):=(iI (((a.step 9).step 6).step 25).ask.1.n)
@[simp] abbrev b8G (a:Tp):=(iI (((a.step 9).step 6).step 25).ask.1.seq)
@[simp] abbrev b8F (a:Tp):=(AV.str (((a.step 9).step 6).step 25).ask.1.key.app)
@[simp] abbrev b8E (a:Tp):=(AV.str (((a.step 9).step 6).step 25).ask.1.key.id)
@[simp] abbrev b8D (a:Tp):=(bB (((a.step 9).step 6).step 25).ask.1.full)
@[simp] abbrev b8C (a:Tp):=(AV.int .u32 (((a.step 9).step 6).step 25).ask.1.sum)
@[simp] abbrev b8B (a:Tp):=(sA 9 (mC (((a.step 9).step 6).step 25).ask.1.cards))
@[simp] abbrev b8A (a:Tp):=(sA 2 (mK (((a.step 9).step 6).step 25).ask.1.keys))
@[simp] abbrev b8Y (a:Tp):=[[(iN (a.next 9)),(a0i a),(b8M a),(b8L a),(b8K a),(b8J a),(b8I a),(b8H a),(b8G a),(b8F a),(b8E a),(b8D a),(b8C a),(b8B a),(b8A a),(a6C a)]]
@[simp] abbrev b1I (a:Tp):Ob:=(o_ 0 16 (b8Y a))
@[simp] abbrev c0d (a:Tp) (b:Nat) (c:List y8):Heap:=[(o_ 0 2 [(Tp.row ((((a.step 9).step 6).step 25).ask.2.step 30))]),(o_ b 16 (c.map y8.row)),b1I a]
@[simp] abbrev b8X (a:Tp):=[[(iI 9),(a0i a),(b8M a),(b8L a),(b8K a),(b8J a),(b8I a),(b8H a),(b8G a),(b8F a),(b8E a),(b8D a),(b8C a),(b8B a),(b8A a),(a6C a)]]
@[simp] abbrev c6c (a:Tp):Ob:=(o_ 0 16 (b8X a))
@[simp] abbrev c0c (a:Tp) (b:Nat) (c:List y8):Heap:=[a5p a,(o_ b 16 (c.map y8.row)),c6c a]
@[simp] abbrev d2X (a:Tp) (b:Nat) (c:List y8):Heap:=[a5q a,(o_ b 16 (c.map y8.row)),c6c a]
@[simp] abbrev b9Z (a:Tp) (b:Nat) (c:List y8):Heap:=[a5p a,(o_ b 16 (c.map y8.row)),b1I a]
@[simp] abbrev d2W (a:Tp) (b:Nat) (c:List y8):Heap:=[a5q a,(o_ b 16 (c.map y8.row)),b1I a]
@[simp] abbrev d2V (a:Tp) (b:Nat) (c:List y8):Heap:=[(o_ 0 2 [(Tp.row (((a.step 9).step 6).step 25).msg2.2)]),(o_ b 16 (c.map y8.row)),b1J a]
@[simp] abbrev b8z (a:Tp):=(iI (((a.step 9).step 6).step 25).msg2.1.kind)
@[simp] abbrev b8y (a:Tp):=(iI (((a.step 9).step 6).step 25).msg2.1.op)
@[simp] abbrev b8x (a:Tp):=(iI (((a.step 9).step 6).step 25).msg2.1.status)
@[simp] abbrev b8w (a:Tp):=(iI (((a.step 9).step 6).step 25).msg2.1.code)
@[simp] abbrev b8v (a:Tp):=(iI (((a.step 9).step 6).step 25).msg2.1.tag)
@[simp] abbrev b8u (a:Tp):=(iI (((a.step 9).step 6).step 25).msg2.1.n)
@[simp] abbrev b8t (a:Tp):=(iI (((a.step 9).step 6).step 25).msg2.1.seq)
@[simp] abbrev b8s (a:Tp):=(AV.str (((a.step 9).step 6).step 25).msg2.1.key.app)
@[simp] abbrev b8r (a:Tp):=(AV.str (((a.step 9).step 6).step 25).msg2.1.key.id)
@[simp] abbrev b8q (a:Tp):=(bB (((a.step 9).step 6).step 25).msg2.1.full)
@[simp] abbrev b8p (a:Tp):=(AV.int .u32 (((a.step 9).step 6).step 25).msg2.1.sum)
@[simp] abbrev b8o (a:Tp):=(sA 9 (mC (((a.step 9).step 6).step 25).msg2.1.cards))
@[simp] abbrev b8n (a:Tp):=(sA 2 (mK (((a.step 9).step 6).step 25).msg2.1.keys))
@[simp] abbrev b8W (a:Tp):=[[(iN (a.next 9)),(a0i a),(b8z a),(b8y a),(b8x a),(b8w a),(b8v a),(b8u a),(b8t a),(b8s a),(b8r a),(b8q a),(b8p a),(b8o a),(b8n a),(a6C a)]]
@[simp] abbrev b1H (a:Tp):Ob:=(o_ 0 16 (b8W a))
@[simp] abbrev b9Y (a:Tp) (b:Nat) (c:List y8):Heap:=[(o_ 0 2 [(Tp.row ((((a.step 9).step 6).step 25).msg2.2.step 30))]),(o_ b 16 (c.map y8.row)),b1H a]
@[simp] abbrev b8V (a:Tp):=[[(iI 9),(a0i a),(b8z a),(b8y a),(b8x a),(b8w a),(b8v a),(b8u a),(b8t a),(b8s a),(b8r a),(b8q a),(b8p a),(b8o a),(b8n a),(a6C a)]]
@[simp] abbrev c6b (a:Tp):Ob:=(o_ 0 16 (b8V a))
@[simp] abbrev b9X (a:Tp) (b:Nat) (c:List y8):Heap:=[a5n a,(o_ b 16 (c.map y8.row)),c6b a]
@[simp] abbrev d2U (a:Tp) (b:Nat) (c:List y8):Heap:=[a5o a,(o_ b 16 (c.map y8.row)),c6b a]
@[simp] abbrev b9W (a:Tp) (b:Nat) (c:List y8):Heap:=[a5n a,(o_ b 16 (c.map y8.row)),b1H a]
@[simp] abbrev d2T (a:Tp) (b:Nat) (c:List y8):Heap:=[a5o a,(o_ b 16 (c.map y8.row)),b1H a]
theorem kY {p:Prop} (h:p:=by first | omega | assumption | (simp only [Tp.bA,Tp.d2O,Tp.c3q,Tp.uE]; assumption) | (simp; done) | (simp; omega)):p:=h
theorem a0H {p:Prop} (h:p:=by first | omega | (show _ * 168<=_; omega) | (simp; omega)):p:=h
@[simp] abbrev xK :=(C8 a1D Tryz.f9 0)
@[simp] abbrev b8m (a:Tp):=(iN ((((((a.step 9).step 6).step 25).ask.2.step 30).step 20).next 500))
@[simp] abbrev d0E (a:Tp):=[[(iI 9),(a0i a),(b8M a),(b8L a),(b8K a),(b8J a),(b8I a),(b8H a),(b8G a),(b8F a),(b8E a),(b8D a),(b8C a),(b8B a),(b8A a),(b8m a)]]
@[simp] abbrev d0D (a:Tp):=[[(iN (a.next 9)),(a0i a),(b8M a),(b8L a),(b8K a),(b8J a),(b8I a),(b8H a),(b8G a),(b8F a),(b8E a),(b8D a),(b8C a),(b8B a),(b8A a),(b8m a)]]
@[simp] abbrev b8l (a:Tp):=(iN ((((((a.step 9).step 6).step 25).msg2.2.step 30).step 20).next 500))
@[simp] abbrev d0C (a:Tp):=[[(iI 9),(a0i a),(b8z a),(b8y a),(b8x a),(b8w a),(b8v a),(b8u a),(b8t a),(b8s a),(b8r a),(b8q a),(b8p a),(b8o a),(b8n a),(b8l a)]]
@[simp] abbrev d0B (a:Tp):=[[(iN (a.next 9)),(a0i a),(b8z a),(b8y a),(b8x a),(b8w a),(b8v a),(b8u a),(b8t a),(b8s a),(b8r a),(b8q a),(b8p a),(b8o a),(b8n a),(b8l a)]]
@[reducible] def a0K:TI:={ d:=.struct [(3,0),(3,1),(33,2),(2,15)],size:=16,bytes:=168,zero:=[.int .i64 0,.int .i64 0,.int .i64 0,.int .i64 0,.int .i64 0,.int .i64 0,.int .i64 0,.int .i64 0,.int .i64 0,.str ⟨#[]⟩,.str ⟨#[]⟩,.bool false,.int .u32 0,.sl .nil 0 [],.sl .nil 0 [],.int .i64 0] }
theorem a0o (tape:List Int) (nn:Nat) (t:Tp) (out:List y8) (k g:Nat) (hl:t.l.length < 9223372036854775808) (hk:k=out.length) (hkb:k < 1000) (hn:nn < 1000) {eX:Ex} {FX:Fr} {HX:Heap} (k1:(l9 k nn)=true->(l9 t.pos tape.length)=true->(decide (((t.next 9:Nat):Int) < 3))=true->((((((t.step 9).step 6).step 25).ask.2.next 30:Nat):Int) == 0)=true->(((((((t.step 9).step 6).step 25).ask.2.step 30).next 20:Nat):Int) == 0)=true->l6 xK (some [0,1,5,6]) (some [0,1,5,6]) (wE tape nn g k) (d3i t g out) eX FX HX) (k2:(l9 k nn)=true->(l9 t.pos tape.length)=true->(decide (((t.next 9:Nat):Int) < 3))=true->((((((t.step 9).step 6).step 25).ask.2.next 30:Nat):Int) == 0)=true->(((((((t.step 9).step 6).step 25).ask.2.step 30).next 20:Nat):Int) == 0)=false->l6 xK (some [0,1,5,6]) (some [0,1,5,6]) (wE tape nn g k) (d3h t g out) eX FX HX) (k3:(l9 k nn)=true->(l9 t.pos tape.length)=true->(decide (((t.next 9:Nat):Int) < 3))=true->((((((t.step 9).step 6).step 25).ask.2.next 30:Nat):Int) == 0)=false->(((((((t.step 9).step 6).step 25).ask.2.step 30).next 20:Nat):Int) == 0)=true->l6 xK (some [0,1,5,6]) (some [0,1,5,6]) (wE tape nn g k) (d3g t g out) eX FX HX) (k4:(l9 k nn)=true->(l9 t.pos tape.length)=true->(decide (((t.next 9:Nat):Int) < 3))=true->((((((t.step 9).step 6).step 25).ask.2.next 30:Nat):Int) == 0)=false->(((((((t.step 9).step 6).step 25).ask.2.step 30).next 20:Nat):Int) == 0)=false->l6 xK (some [0,1,5,6]) (some [0,1,5,6]) (wE tape nn g k) (d3f t g out) eX FX HX) (k5:(l9 k nn)=true->(l9 t.pos tape.length)=true->(decide (((t.next 9:Nat):Int) < 3))=false->((((((t.step 9).step 6).step 25).msg2.2.next 30:Nat):Int) == 0)=true->(((((((t.step 9).step 6).step 25).msg2.2.step 30).next 20:Nat):Int) == 0)=true->l6 xK (some [0,1,5,6]) (some [0,1,5,6]) (wE tape nn g k) (d3e t g out) eX FX HX) (k6:(l9 k nn)=true->(l9 t.pos tape.length)=true->(decide (((t.next 9:Nat):Int) < 3))=false->((((((t.step 9).step 6).step 25).msg2.2.next 30:Nat):Int) == 0)=true->(((((((t.step 9).step 6).step 25).msg2.2.step 30).next 20:Nat):Int) == 0)=false->l6 xK (some [0,1,5,6]) (some [0,1,5,6]) (wE tape nn g k) (d3d t g out) eX FX HX) (k7:(l9 k nn)=true->(l9 t.pos tape.length)=true->(decide (((t.next 9:Nat):Int) < 3))=false->((((((t.step 9).step 6).step 25).msg2.2.next 30:Nat):Int) == 0)=false->(((((((t.step 9).step 6).step 25).msg2.2.step 30).next 20:Nat):Int) == 0)=true->l6 xK (some [0,1,5,6]) (some [0,1,5,6]) (wE tape nn g k) (d3c t g out) eX FX HX) (k8:(l9 k nn)=true->(l9 t.pos tape.length)=true->(decide (((t.next 9:Nat):Int) < 3))=false->((((((t.step 9).step 6).step 25).msg2.2.next 30:Nat):Int) == 0)=false->(((((((t.step 9).step 6).step 25).msg2.2.step 30).next 20:Nat):Int) == 0)=false->l6 xK (some [0,1,5,6]) (some [0,1,5,6]) (wE tape nn g k) (d3b t g out) eX FX HX) (k9:(l9 k nn)=true->(l9 t.pos tape.length)=false->((.exit 0:Ex),(c0h tape nn g k),(c0g t g out))=(eX,FX,HX)) (k10:(l9 k nn)=false->((.exit 0:Ex),(c0h tape nn g k),(c0g t g out))=(eX,FX,HX)):l6 xK (some [0,1,5,6]) (some [0,1,5,6]) (c0h tape nn g k) (c0g t g out) eX FX HX:=by
 have n25:=((t.step 9).step 6).next_lt 25 ow
 exact J7 (.r (.two (l9 k nn) (fun h1 h1'=>(.u5 (.y 10 (.int .i64 ((List.length (tape.map y5):Nat):Int)) (iN tape.length) (Yes.len _ _ _) (.u (.g (.two (l9 t.pos tape.length) (fun h2 h2'=>(.r (.ch 1 (c0f t g out) (j5.put2 [0] [(o_ 0 2 [(Tp.row t)]),(o_ g 16 (out.map y8.row)),(o_ 0 16 [[z_,z_,z_,z_,z_,z_,z_,z_,z_,e_,e_,bF,H9,w9,w9,z_]])] (iN (t.next 9)) (c0f t g out) (H7 t 9 kY) D5 D5) (.ch 3 (c0e t g out) (j5.put2 [0] (c0f t g out) (iN ((t.step 9).next 6)) (c0e t g out) (H7 (t.step 9) 6 kY) D5 D5) (.ch 5 (d3a t g out) (j5.put2 [0] (c0e t g out) (iN (((t.step 9).step 6).next 25)) (d3a t g out) (H7 ((t.step 9).step 6) 25 kY) D5 D5) (.y 6 (iW (1+((((t.step 9).step 6).next 25:Nat):Int))) (a6C t) Yes.o (.s (.g (.two (decide (((t.next 9:Nat):Int) < 3)) (fun h3 h3'=>(.r (.ch 1 (d2Z t g out) (j5.put2 [0] (d2Y t g out) (p9 (Msg.row (((t.step 9).step 6).step 25).ask.1)) (d2Z t g out) (c1Q (((t.step 9).step 6).step 25) kY) D5 D5) (.s (.ch 1 (c0d t g out) (j5.put2 [0] [(o_ 0 2 [(Tp.row (((t.step 9).step 6).step 25).ask.2)]),(o_ g 16 (out.map y8.row)),(o_ 0 16 (b8Y t))] (iN ((((t.step 9).step 6).step 25).ask.2.next 30)) (c0d t g out) (H7 (((t.step 9).step 6).step 25).ask.2 30 kY) D5 D5) (.g (.two ((((((t.step 9).step 6).step 25).ask.2.next 30:Nat):Int) == 0) (fun h4 h4'=>(.r (.s (.ch 1 (c0c t g out) (j5.put2 [0] [(o_ 0 2 [(Tp.row ((((t.step 9).step 6).step 25).ask.2.step 30))]),(o_ g 16 (out.map y8.row)),(o_ 0 16 (b8X t))] (iN (((((t.step 9).step 6).step 25).ask.2.step 30).next 20)) (c0c t g out) (H7 ((((t.step 9).step 6).step 25).ask.2.step 30) 20 kY) D5 D5) (.g (.two (((((((t.step 9).step 6).step 25).ask.2.step 30).next 20:Nat):Int) == 0) (fun h5 h5'=>(.r (.ch 1 (d2X t g out) (j5.put2 [0] (c0c t g out) (b8m t) (d2X t g out) (H7 (((((t.step 9).step 6).step 25).ask.2.step 30).step 20) 500 kY) D5 D5) (.s (.h' [(o_ 0 2 [(Tp.row ((((((t.step 9).step 6).step 25).ask.2.step 30).step 20).step 500))]),(o_ g 16 (out.map y8.row)),(o_ 0 16 (d0E t))] (.ap 3 25 (d9 1 g 16 k) (AV.sl .clip 16 (d0E t)) (a0j g k) [(o_ 0 2 [(Tp.row ((((((t.step 9).step 6).step 25).ask.2.step 30).step 20).step 500))]),(o_ (g+1) 16 ((out++[(y8.mk 9 (((t.step 9).next 6:Nat):Int) (((t.step 9).step 6).step 25).ask.1 ((((((t.step 9).step 6).step 25).ask.2.step 30).step 20).next 500))]).map y8.row)),(o_ 0 16 (d0E t))] (I4 (row:=y8.row) (l:=out) (x:=(y8.mk 9 (((t.step 9).next 6:Nat):Int) (((t.step 9).step 6).step 25).ask.1 ((((((t.step 9).step 6).step 25).ask.2.step 30).step 20).next 500))) (T:=tt) (e:=35) (te:=a0K) (z:=1) (b:=24) (y:=[.sl .nil 0 []]) kr kr rfl D8 D8 kr Z0 rfl rfl a0H) (.h' (d3i t g out) (.b 2 (.g (.l (k1 h1 h2 h3 h4 h5))))))))))) (fun h5 h5'=>(.r (.ap 3 25 (d9 1 g 16 k) (AV.sl .clip 16 (b8X t)) (a0j g k) [(o_ 0 2 [(Tp.row (((((t.step 9).step 6).step 25).ask.2.step 30).step 20))]),(o_ (g+1) 16 ((out++[(y8.mk 9 (((t.step 9).next 6:Nat):Int) (((t.step 9).step 6).step 25).ask.1 (1+(((t.step 9).step 6).next 25)))]).map y8.row)),(o_ 0 16 (b8X t))] (I4 (row:=y8.row) (l:=out) (x:=(y8.mk 9 (((t.step 9).next 6:Nat):Int) (((t.step 9).step 6).step 25).ask.1 (1+(((t.step 9).step 6).next 25)))) (T:=tt) (e:=35) (te:=a0K) (z:=1) (b:=24) (y:=[.sl .nil 0 []]) kr kr rfl D8 D8 kr Z0 rfl rfl a0H) (.h' (d3h t g out) (.b 2 (.g (.l (k2 h1 h2 h3 h4 h5)))))))))))))) (fun h4 h4'=>(.r (.ch 1 (b9Z t g out) (j5.put2 [0] (c0d t g out) (iN (((((t.step 9).step 6).step 25).ask.2.step 30).next 20)) (b9Z t g out) (H7 ((((t.step 9).step 6).step 25).ask.2.step 30) 20 kY) D5 D5) (.g (.two (((((((t.step 9).step 6).step 25).ask.2.step 30).next 20:Nat):Int) == 0) (fun h5 h5'=>(.r (.ch 1 (d2W t g out) (j5.put2 [0] (b9Z t g out) (b8m t) (d2W t g out) (H7 (((((t.step 9).step 6).step 25).ask.2.step 30).step 20) 500 kY) D5 D5) (.s (.h' [(o_ 0 2 [(Tp.row ((((((t.step 9).step 6).step 25).ask.2.step 30).step 20).step 500))]),(o_ g 16 (out.map y8.row)),(o_ 0 16 (d0D t))] (.ap 3 25 (d9 1 g 16 k) (AV.sl .clip 16 (d0D t)) (a0j g k) [(o_ 0 2 [(Tp.row ((((((t.step 9).step 6).step 25).ask.2.step 30).step 20).step 500))]),(o_ (g+1) 16 ((out++[(y8.mk ((t.next 9:Nat):Int) (((t.step 9).next 6:Nat):Int) (((t.step 9).step 6).step 25).ask.1 ((((((t.step 9).step 6).step 25).ask.2.step 30).step 20).next 500))]).map y8.row)),(o_ 0 16 (d0D t))] (I4 (row:=y8.row) (l:=out) (x:=(y8.mk ((t.next 9:Nat):Int) (((t.step 9).next 6:Nat):Int) (((t.step 9).step 6).step 25).ask.1 ((((((t.step 9).step 6).step 25).ask.2.step 30).step 20).next 500))) (T:=tt) (e:=35) (te:=a0K) (z:=1) (b:=24) (y:=[.sl .nil 0 []]) kr kr rfl D8 D8 kr Z0 rfl rfl a0H) (.h' (d3g t g out) (.b 2 (.g (.l (k3 h1 h2 h3 h4 h5))))))))))) (fun h5 h5'=>(.r (.ap 3 25 (d9 1 g 16 k) (AV.sl .clip 16 (b8Y t)) (a0j g k) [(o_ 0 2 [(Tp.row (((((t.step 9).step 6).step 25).ask.2.step 30).step 20))]),(o_ (g+1) 16 ((out++[(y8.mk ((t.next 9:Nat):Int) (((t.step 9).next 6:Nat):Int) (((t.step 9).step 6).step 25).ask.1 (1+(((t.step 9).step 6).next 25)))]).map y8.row)),(o_ 0 16 (b8Y t))] (I4 (row:=y8.row) (l:=out) (x:=(y8.mk ((t.next 9:Nat):Int) (((t.step 9).next 6:Nat):Int) (((t.step 9).step 6).step 25).ask.1 (1+(((t.step 9).step 6).next 25)))) (T:=tt) (e:=35) (te:=a0K) (z:=1) (b:=24) (y:=[.sl .nil 0 []]) kr kr rfl D8 D8 kr Z0 rfl rfl a0H) (.h' (d3f t g out) (.b 2 (.g (.l (k4 h1 h2 h3 h4 h5)))))))))))))))))))) (fun h3 h3'=>(.r (.ch 1 (d2V t g out) (j5.put2 [0] (d2Y t g out) (p9 (Msg.row (((t.step 9).step 6).step 25).msg2.1)) (d2V t g out) (c1L (((t.step 9).step 6).step 25) kY) D5 D5) (.s (.ch 1 (b9Y t g out) (j5.put2 [0] [(o_ 0 2 [(Tp.row (((t.step 9).step 6).step 25).msg2.2)]),(o_ g 16 (out.map y8.row)),(o_ 0 16 (b8W t))] (iN ((((t.step 9).step 6).step 25).msg2.2.next 30)) (b9Y t g out) (H7 (((t.step 9).step 6).step 25).msg2.2 30 kY) D5 D5) (.g (.two ((((((t.step 9).step 6).step 25).msg2.2.next 30:Nat):Int) == 0) (fun h4 h4'=>(.r (.s (.ch 1 (b9X t g out) (j5.put2 [0] [(o_ 0 2 [(Tp.row ((((t.step 9).step 6).step 25).msg2.2.step 30))]),(o_ g 16 (out.map y8.row)),(o_ 0 16 (b8V t))] (iN (((((t.step 9).step 6).step 25).msg2.2.step 30).next 20)) (b9X t g out) (H7 ((((t.step 9).step 6).step 25).msg2.2.step 30) 20 kY) D5 D5) (.g (.two (((((((t.step 9).step 6).step 25).msg2.2.step 30).next 20:Nat):Int) == 0) (fun h5 h5'=>(.r (.ch 1 (d2U t g out) (j5.put2 [0] (b9X t g out) (b8l t) (d2U t g out) (H7 (((((t.step 9).step 6).step 25).msg2.2.step 30).step 20) 500 kY) D5 D5) (.s (.h' [(o_ 0 2 [(Tp.row ((((((t.step 9).step 6).step 25).msg2.2.step 30).step 20).step 500))]),(o_ g 16 (out.map y8.row)),(o_ 0 16 (d0C t))] (.ap 3 25 (d9 1 g 16 k) (AV.sl .clip 16 (d0C t)) (a0j g k) [(o_ 0 2 [(Tp.row ((((((t.step 9).step 6).step 25).msg2.2.step 30).step 20).step 500))]),(o_ (g+1) 16 ((out++[(y8.mk 9 (((t.step 9).next 6:Nat):Int) (((t.step 9).step 6).step 25).msg2.1 ((((((t.step 9).step 6).step 25).msg2.2.step 30).step 20).next 500))]).map y8.row)),(o_ 0 16 (d0C t))] (I4 (row:=y8.row) (l:=out) (x:=(y8.mk 9 (((t.step 9).next 6:Nat):Int) (((t.step 9).step 6).step 25).msg2.1 ((((((t.step 9).step 6).step 25).msg2.2.step 30).step 20).next 500))) (T:=tt) (e:=35) (te:=a0K) (z:=1) (b:=24) (y:=[.sl .nil 0 []]) kr kr rfl D8 D8 kr Z0 rfl rfl a0H) (.h' (d3e t g out) (.b 2 (.g (.l (k5 h1 h2 h3 h4 h5))))))))))) (fun h5 h5'=>(.r (.ap 3 25 (d9 1 g 16 k) (AV.sl .clip 16 (b8V t)) (a0j g k) [(o_ 0 2 [(Tp.row (((((t.step 9).step 6).step 25).msg2.2.step 30).step 20))]),(o_ (g+1) 16 ((out++[(y8.mk 9 (((t.step 9).next 6:Nat):Int) (((t.step 9).step 6).step 25).msg2.1 (1+(((t.step 9).step 6).next 25)))]).map y8.row)),(o_ 0 16 (b8V t))] (I4 (row:=y8.row) (l:=out) (x:=(y8.mk 9 (((t.step 9).next 6:Nat):Int) (((t.step 9).step 6).step 25).msg2.1 (1+(((t.step 9).step 6).next 25)))) (T:=tt) (e:=35) (te:=a0K) (z:=1) (b:=24) (y:=[.sl .nil 0 []]) kr kr rfl D8 D8 kr Z0 rfl rfl a0H) (.h' (d3d t g out) (.b 2 (.g (.l (k6 h1 h2 h3 h4 h5)))))))))))))) (fun h4 h4'=>(.r (.ch 1 (b9W t g out) (j5.put2 [0] (b9Y t g out) (iN (((((t.step 9).step 6).step 25).msg2.2.step 30).next 20)) (b9W t g out) (H7 ((((t.step 9).step 6).step 25).msg2.2.step 30) 20 kY) D5 D5) (.g (.two (((((((t.step 9).step 6).step 25).msg2.2.step 30).next 20:Nat):Int) == 0) (fun h5 h5'=>(.r (.ch 1 (d2T t g out) (j5.put2 [0] (b9W t g out) (b8l t) (d2T t g out) (H7 (((((t.step 9).step 6).step 25).msg2.2.step 30).step 20) 500 kY) D5 D5) (.s (.h' [(o_ 0 2 [(Tp.row ((((((t.step 9).step 6).step 25).msg2.2.step 30).step 20).step 500))]),(o_ g 16 (out.map y8.row)),(o_ 0 16 (d0B t))] (.ap 3 25 (d9 1 g 16 k) (AV.sl .clip 16 (d0B t)) (a0j g k) [(o_ 0 2 [(Tp.row ((((((t.step 9).step 6).step 25).msg2.2.step 30).step 20).step 500))]),(o_ (g+1) 16 ((out++[(y8.mk ((t.next 9:Nat):Int) (((t.step 9).next 6:Nat):Int) (((t.step 9).step 6).step 25).msg2.1 ((((((t.step 9).step 6).step 25).msg2.2.step 30).step 20).next 500))]).map y8.row)),(o_ 0 16 (d0B t))] (I4 (row:=y8.row) (l:=out) (x:=(y8.mk ((t.next 9:Nat):Int) (((t.step 9).next 6:Nat):Int) (((t.step 9).step 6).step 25).msg2.1 ((((((t.step 9).step 6).step 25).msg2.2.step 30).step 20).next 500))) (T:=tt) (e:=35) (te:=a0K) (z:=1) (b:=24) (y:=[.sl .nil 0 []]) kr kr rfl D8 D8 kr Z0 rfl rfl a0H) (.h' (d3c t g out) (.b 2 (.g (.l (k7 h1 h2 h3 h4 h5))))))))))) (fun h5 h5'=>(.r (.ap 3 25 (d9 1 g 16 k) (AV.sl .clip 16 (b8W t)) (a0j g k) [(o_ 0 2 [(Tp.row (((((t.step 9).step 6).step 25).msg2.2.step 30).step 20))]),(o_ (g+1) 16 ((out++[(y8.mk ((t.next 9:Nat):Int) (((t.step 9).next 6:Nat):Int) (((t.step 9).step 6).step 25).msg2.1 (1+(((t.step 9).step 6).next 25)))]).map y8.row)),(o_ 0 16 (b8W t))] (I4 (row:=y8.row) (l:=out) (x:=(y8.mk ((t.next 9:Nat):Int) (((t.step 9).next 6:Nat):Int) (((t.step 9).step 6).step 25).msg2.1 (1+(((t.step 9).step 6).next 25)))) (T:=tt) (e:=35) (te:=a0K) (z:=1) (b:=24) (y:=[.sl .nil 0 []]) kr kr rfl D8 D8 kr Z0 rfl rfl a0H) (.h' (d3b t g out) (.b 2 (.g (.l (k8 h1 h2 h3 h4 h5))))))))))))))))))))))))))))) (fun h2 h2'=>(.l (k9 h1 h2))))))))) (fun h1 h1'=>(.n6 (.g (.n (.l (k10 h1))))))))
def uT (t:Tp):Msg × Tp:=if decide (((t.next 9:Nat):Int) < 3)=true then (((t.step 9).step 6).step 25).ask else (((t.step 9).step 6).step 25).msg2
def wY (t:Tp) (u:Msg × Tp):y8 × Tp:=(⟨if (((u.2.next 30:Nat):Int) == 0)=true then 9 else ((t.next 9:Nat):Int),(((t.step 9).next 6:Nat):Int),u.1,if ((((u.2.step 30).next 20:Nat):Int) == 0)=true then (((u.2.step 30).step 20).next 500) else (1+(((t.step 9).step 6).next 25))⟩,
 if ((((u.2.step 30).next 20:Nat):Int) == 0)=true then ((u.2.step 30).step 20).step 500 else (u.2.step 30).step 20)
def q20 (t:Tp):y8 × Tp:=wY t (uT t)
theorem d9O (t:Tp):(q20 t).2.l=t.l:=by
 have hm:(uT t).2.l=t.l:=by unfold uT; split <;> simp only [Tp.bA,Tp.d2O,Tp.c3q]
 unfold q20 wY
 simp only
 split <;> simp only [Tp.bA,hm]
def uU (len:Nat):Nat->Tp->List y8
 | 0,_=>[]
 | r+1,t=>if t.pos < len then (q20 t).1 :: uU len r (q20 t).2 else []
def a6m (len:Nat):Nat->Tp->Tp
 | 0,t=>t
 | r+1,t=>if t.pos < len then a6m len r (q20 t).2 else t
theorem c8Q (len r:Nat):∀ (t:Tp),(uU len r t).length<=r:=by
 induction r with
 | zero=>intro t; exact Nat.le_refl 0
 | succ r ih=>intro t; unfold uU; split; exact Nat.succ_le_succ (ih _); exact Nat.zero_le _
theorem b9H (tape:List Int) (nn:Nat) (hn:nn < 1000) (r:Nat):∀ (t:Tp) (out:List y8) (k g kF gF:Nat),t.l.length < 9223372036854775808->k=out.length->k+r=nn->kF=k+(uU tape.length r t).length->gF=g+(uU tape.length r t).length ->
 l6 (C8 a1D Tryz.f9 0) (some [0,1,5,6]) (some [0,1,5,6]) (mkF 56 [(0,(sA 1 (List.map y5 tape))),(1,(iN nn)),(5,(j3 0)),(6,(d9 1 g 16 k))]) [(o_ 0 2 [(Tp.row t)]),(o_ g 16 (List.map y8.row out))] (.exit 0) (mkF 56 [(0,(sA 1 (List.map y5 tape))),(1,(iN nn)),(5,(j3 0)),(6,(d9 1 gF 16 kF))]) [(o_ 0 2 [(Tp.row (a6m tape.length r t))]),(o_ gF 16 (List.map y8.row (out++uU tape.length r t)))]:=by
 induction r with
 | zero =>
  intro t out k g kF gF hl hk hr h1 h2
  have e:uU tape.length 0 t=[]:=rfl
  rw [e] at h1 h2 ⊢
  simp only [List.length_nil,Nat.add_zero,List.append_nil] at h1 h2 ⊢
  rw [h1,h2]
  refine a0o tape nn t out k g hl hk ow hn (fun h _ _ _ _=>absurd (of_decide_eq_true h) ow) (fun h _ _ _ _=>absurd (of_decide_eq_true h) ow) (fun h _ _ _ _=>absurd (of_decide_eq_true h) ow) (fun h _ _ _ _=>absurd (of_decide_eq_true h) ow) (fun h _ _ _ _=>absurd (of_decide_eq_true h) ow) (fun h _ _ _ _=>absurd (of_decide_eq_true h) ow) (fun h _ _ _ _=>absurd (of_decide_eq_true h) ow) (fun h _ _ _ _=>absurd (of_decide_eq_true h) ow) (fun h _=>absurd (of_decide_eq_true h) ow) fun _=>rfl
 | succ r ih =>
  intro t out k g kF gF hl hk hr h1 h2
  by_cases hp:t.pos < tape.length
  · have e:uU tape.length (r+1) t=(q20 t).1 :: uU tape.length r (q20 t).2:=if_pos hp
    have e2:a6m tape.length (r+1) t=a6m tape.length r (q20 t).2:=if_pos hp
    rw [e] at h1 h2 ⊢
    rw [e2]
    simp only [List.length_cons] at h1 h2
    have q:=ih (q20 t).2 (out++[(q20 t).1]) (k+1) (g+1) kF gF (by rw [d9O]; exact hl) uH ow ow ow
    rw [List.append_assoc] at q
    refine a0o tape nn t out k g hl hk ow hn (fun _ _ h3 h4 h5=>?_) (fun _ _ h3 h4 h5=>?_) (fun _ _ h3 h4 h5=>?_) (fun _ _ h3 h4 h5=>?_) (fun _ _ h3 h4 h5=>?_) (fun _ _ h3 h4 h5=>?_) (fun _ _ h3 h4 h5=>?_) (fun _ _ h3 h4 h5=>?_) (fun _ h=>absurd (of_decide_eq_false h) ow) (fun h=>absurd (of_decide_eq_false h) ow)
    · have e1:uT t=(((t.step 9).step 6).step 25).ask:=if_pos h3
      have e:q20 t=((y8.mk 9 (((t.step 9).next 6:Nat):Int) (((t.step 9).step 6).step 25).ask.1 ((((((t.step 9).step 6).step 25).ask.2.step 30).step 20).next 500)),((((((t.step 9).step 6).step 25).ask.2.step 30).step 20).step 500)):=by unfold q20 wY; rw [e1]; simp only [h4,h5,if_true,Bool.false_eq_true,if_false]
      rw [e] at q ⊢
      exact q
    · have e1:uT t=(((t.step 9).step 6).step 25).ask:=if_pos h3
      have e:q20 t=((y8.mk 9 (((t.step 9).next 6:Nat):Int) (((t.step 9).step 6).step 25).ask.1 (1+(((t.step 9).step 6).next 25))),(((((t.step 9).step 6).step 25).ask.2.step 30).step 20)):=by unfold q20 wY; rw [e1]; simp only [h4,h5,if_true,Bool.false_eq_true,if_false]
      rw [e] at q ⊢
      exact q
    · have e1:uT t=(((t.step 9).step 6).step 25).ask:=if_pos h3
      have e:q20 t=((y8.mk ((t.next 9:Nat):Int) (((t.step 9).next 6:Nat):Int) (((t.step 9).step 6).step 25).ask.1 ((((((t.step 9).step 6).step 25).ask.2.step 30).step 20).next 500)),((((((t.step 9).step 6).step 25).ask.2.step 30).step 20).step 500)):=by unfold q20 wY; rw [e1]; simp only [h4,h5,if_true,Bool.false_eq_true,if_false]
      rw [e] at q ⊢
      exact q
    · have e1:uT t=(((t.step 9).step 6).step 25).ask:=if_pos h3
      have e:q20 t=((y8.mk ((t.next 9:Nat):Int) (((t.step 9).next 6:Nat):Int) (((t.step 9).step 6).step 25).ask.1 (1+(((t.step 9).step 6).next 25))),(((((t.step 9).step 6).step 25).ask.2.step 30).step 20)):=by unfold q20 wY; rw [e1]; simp only [h4,h5,if_true,Bool.false_eq_true,if_false]
      rw [e] at q ⊢
      exact q
    · have e1:uT t=(((t.step 9).step 6).step 25).msg2:=if_neg yV
      have e:q20 t=((y8.mk 9 (((t.step 9).next 6:Nat):Int) (((t.step 9).step 6).step 25).msg2.1 ((((((t.step 9).step 6).step 25).msg2.2.step 30).step 20).next 500)),((((((t.step 9).step 6).step 25).msg2.2.step 30).step 20).step 500)):=by unfold q20 wY; rw [e1]; simp only [h4,h5,if_true,Bool.false_eq_true,if_false]
      rw [e] at q ⊢
      exact q
    · have e1:uT t=(((t.step 9).step 6).step 25).msg2:=if_neg yV
      have e:q20 t=((y8.mk 9 (((t.step 9).next 6:Nat):Int) (((t.step 9).step 6).step 25).msg2.1 (1+(((t.step 9).step 6).next 25))),(((((t.step 9).step 6).step 25).msg2.2.step 30).step 20)):=by unfold q20 wY; rw [e1]; simp only [h4,h5,if_true,Bool.false_eq_true,if_false]
      rw [e] at q ⊢
      exact q
    · have e1:uT t=(((t.step 9).step 6).step 25).msg2:=if_neg yV
      have e:q20 t=((y8.mk ((t.next 9:Nat):Int) (((t.step 9).next 6:Nat):Int) (((t.step 9).step 6).step 25).msg2.1 ((((((t.step 9).step 6).step 25).msg2.2.step 30).step 20).next 500)),((((((t.step 9).step 6).step 25).msg2.2.step 30).step 20).step 500)):=by unfold q20 wY; rw [e1]; simp only [h4,h5,if_true,Bool.false_eq_true,if_false]
      rw [e] at q ⊢
      exact q
    · have e1:uT t=(((t.step 9).step 6).step 25).msg2:=if_neg yV
      have e:q20 t=((y8.mk ((t.next 9:Nat):Int) (((t.step 9).next 6:Nat):Int) (((t.step 9).step 6).step 25).msg2.1 (1+(((t.step 9).step 6).next 25))),(((((t.step 9).step 6).step 25).msg2.2.step 30).step 20)):=by unfold q20 wY; rw [e1]; simp only [h4,h5,if_true,Bool.false_eq_true,if_false]
      rw [e] at q ⊢
      exact q
  · have e:uU tape.length (r+1) t=[]:=if_neg hp
    have e2:a6m tape.length (r+1) t=t:=if_neg hp
    rw [e] at h1 h2 ⊢
    rw [e2]
    simp only [List.length_nil,Nat.add_zero,List.append_nil] at h1 h2 ⊢
    rw [h1,h2]
    exact a0o tape nn t out k g hl hk ow hn (fun _ h _ _ _=>absurd (of_decide_eq_true h) ow) (fun _ h _ _ _=>absurd (of_decide_eq_true h) ow) (fun _ h _ _ _=>absurd (of_decide_eq_true h) ow) (fun _ h _ _ _=>absurd (of_decide_eq_true h) ow) (fun _ h _ _ _=>absurd (of_decide_eq_true h) ow) (fun _ h _ _ _=>absurd (of_decide_eq_true h) ow) (fun _ h _ _ _=>absurd (of_decide_eq_true h) ow) (fun _ h _ _ _=>absurd (of_decide_eq_true h) ow) (fun _ _=>rfl) (fun _=>rfl)
def D6 (tape:List Int) (n:Nat):List y8:=uU tape.length n ⟨tape,0⟩
theorem a5g (tape:List Int) (n:Nat):(D6 tape n).length<=n:=c8Q _ _ _
abbrev d2S (a:List Int) (b:Nat):Fr:=(mkF 56 [(0,(a0k a)),(1,(iN b)),(5,(j3 0)),(6,(d9 1 (D6 a b).length 16 (D6 a b).length))])
abbrev d2R (a:List Int) (b:Nat):Heap:=[(o_ 0 2 [(Tp.row (a6m a.length b ⟨a,0⟩))]),(o_ ((D6 a b).length) 16 ((D6 a b).map y8.row))]
theorem b9G (tape:List Int) (nn:Nat) (hl:tape.length < 9223372036854775808) (hn:nn < 1000):AC 9 [(a0k tape),(iN nn)] [] ((sA 16 ((D6 tape nn).map y8.row)),[]):=by
 have hal:=a5g tape nn
 exact x9 (fn:=Tryz.f9) (ann:=a1D) (Has.o Tryz.func9) (.r (.s (.s (.g (.loop (d2S tape nn) (show l6 xK (some [0,1,5,6]) (some [0,1,5,6]) (mkF 56 [(0,(a0k tape)),(1,(iN nn)),(5,(j3 0)),(6,(d9 1 0 16 0))]) [(o_ 0 2 [[(a0k tape),z_]]),(o_ 0 16 (List.map y8.row []))] (.exit 0) (d2S tape nn) (d2R tape nn) from (b9H tape nn hn nn ⟨tape,0⟩ [] 0 0 (D6 tape nn).length (D6 tape nn).length hl rfl ow (Nat.zero_add _).symm (Nat.zero_add _).symm)) (.r (.w 6 ((D6 tape nn).map y8.row) (And.intro (G5 (room:=none) kr om) (y8.z8 _ _):I5 (d2R tape nn) 16 (d9 1 (D6 tape nn).length 16 (D6 tape nn).length)=some ((D6 tape nn).map y8.row)/\AV.F3 0 ((D6 tape nn).map y8.row)=true) (.h' [] (.b 0 (.q 0 (sA 16 ((D6 tape nn).map y8.row))))))))))))
end Go.Proofs.YtmghjcbabebanaaGreat.AM
namespace Go.Proofs.YtmghjcbabebanaaGreat.AM
open Go
attribute [local irreducible] D7 E5 G6 J2 J9 K3 Q6 R4 R9 jX l8 maxS q9
structure CRI (n:Nat) (b:Int) (s:SS):Prop where
 i:SSI n b s
 st:e1p n s.d
attribute [local irreducible] N9 fZ gB
attribute [local irreducible] Tp.card Tp.K8 Tp.next Tp.step Tp.cards Tp.J5 Tp.key Tp.keyT Tp.fA Tp.sU
attribute [local irreducible] Tp.msg2
def sv0 (nd:Int):SS:=⟨⟨[],0,[],0,0,0,0,⟨0,nd,0⟩⟩,[],0,0,0,0⟩
theorem d9N (nd:Int):CRI 0 0 (sv0 nd) :=
 have hd:aP 0 (sv0 nd).d:=⟨a9x,by simp [sv0],by simp [sv0],by simp [sv0],by simp [sv0]⟩
 ⟨⟨hd,by simp [sv0],by simp [sv0],by simp [sv0],by simp [sv0],by simp [sv0]⟩,⟨hd,by simp [sv0],⟨by simp [sv0],by simp [sv0],by simp [sv0]⟩⟩⟩
open Go.Proofs.YtmghjcbabebanaaGreat
attribute [local irreducible] D6 D9 E9 G7 H6 K5 P8 U1 Y7 Z8 gT hdD j5 l6 qA rW stC stP stW
theorem b5v (nd p:Int) (h1:0<=nd) (h2:nd < 6):AC 8 [(iI nd),(sA 1 [[(iI p)]])] [] ((j3 11),[(o_ 0 2 [[(iI (r9 32)),(d9 1 (sv0 nd).d.g 10 (List.length (sv0 nd).d.l))]]),(o_ ((sv0 nd).d.g) 10 (mE (sv0 nd).d.l)),(o_ 0 3 [[(iI (sv0 nd).d.gf),(iI (sv0 nd).d.gl),(iI (sv0 nd).d.gt)]]),(o_ 0 2 [[(iN ((List.length (sv0 nd).d.al))),(d9 4 (sv0 nd).d.ga 2 (l7 (sv0 nd).d.al).length)]]),(o_ ((sv0 nd).d.ga) 2 (mK (l7 (sv0 nd).d.al))),(o_ 0 7 [[(iI nd),(iI (sv0 nd).d.st.t),(iI (sv0 nd).d.st.node),(iI (sv0 nd).d.st.n),(j3 0),(j3 2),(j3 3)]]),(o_ 0 3 [[(d9 7 0 1 1),(d9 8 0 1 1),(iI (sv0 nd).lost)]]),(o_ 0 1 (List.map y5 [p])),(o_ 0 1 [[(d9 9 (sv0 nd).qg 9 (List.length (sv0 nd).ql))]]),(o_ ((sv0 nd).qg) 9 (mC (sv0 nd).ql)),(o_ 1 1 []),(o_ 0 6 [[(iI (sv0 nd).now),(iI (sv0 nd).swept),(sA 1 [[(iI p)]]),z_,(j3 5),(j3 6)]])]):=b5y nd p h1 h2
def d0n:Ann:={ fin:=some 0 }
theorem c5k  :AC 51 [w9] [] (w9,[]) :=
 x9 (fn:=Tryz.f51) (ann:=d0n) (Has.o Tryz.func51) (.r (.s (.g (.u (.qr 0 w9)))))
def b3p:Ann:={ base:=2,fin:=some 2 }
theorem a9Z  :AC 26 [(j3 0)] b1T (w9,b1T) :=
 x9 (fn:=Tryz.f26) (ann:=b3p) (Has.o Tryz.func26) (.r (.s (.c 4 ((c5k).lift kr kr b1T) (.q 2 w9))))
abbrev S0:=Int × Int × Int × Int
def c2n:Ann:={ fin:=some 9 }
@[simp] abbrev d0A :=[[w9,(d9 7 0 1 0),z_]]
@[simp] abbrev iL :Ob:=(o_ 0 3 d0A)
abbrev b9V (a:Int):Heap:=[fG,fF,tO,fE,fD,a2z a,iL,(o_ 0 1 [])]
theorem b5z (nd:Int) (h1:0<=nd) (h2:nd < 6):AC 8 [(iI nd),w9] [] ((j3 8),[(o_ 0 2 [[(iI (r9 32)),(d9 1 0 10 ([]:l9E).length)]]),(o_ 0 10 (mE ([]:l9E))),(o_ 0 3 [[(iI ((0,0,0,0):S0).1),(iI ((0,0,0,0):S0).2.1),(iI ((0,0,0,0):S0).2.2.1)]]),(o_ 0 2 [[(iN (([]:l9K).length)),(d9 4 0 2 (l7 ([]:l9K)).length)]]),(o_ 0 2 (mK (l7 ([]:l9K)))),(o_ 0 7 (b9e nd)),(o_ 0 3 d0A),(o_ 0 1 []),(o_ 0 6 [[(iI ((0,0,0,0):S0).2.2.2),z_,w9,z_,(j3 5),(j3 6)]])]) :=
 x9 (fn:=Tryz.f8) (ann:=c2n) (Has.o Tryz.func8) (.r (.s (.ch 1 (a0r nd) (j5.put2 [] [] (j3 5) (a0r nd) (a1l nd 0 oa oa wM) trivial rlA) (.s (.rn (.ch 1 (b9V nd) (j5.put2 [] (a0r nd) (j3 6) (b9V nd) (b6s  ) trivial (⟨rfl,⟨rfl,trivial⟩⟩)) (.s (.c 1 (j5.put2 [6,7] (b9V nd) w9 (b9V nd) (a9Z  ) (⟨rfl,⟨rfl,trivial⟩⟩) (⟨rfl,⟨rfl,trivial⟩⟩)) (.g (.h' [(o_ 0 2 [[(iI (r9 32)),(d9 1 0 10 ([]:l9E).length)]]),(o_ 0 10 (mE ([]:l9E))),(o_ 0 3 [[z_,z_,z_]]),(o_ 0 2 [[(iN (([]:l9K).length)),(d9 4 0 2 (l7 ([]:l9K)).length)]]),(o_ 0 2 (mK (l7 ([]:l9K)))),(o_ 0 7 (a1z nd)),(o_ 0 3 d0A),(o_ 0 1 []),(o_ 0 6 [[z_,z_,w9,z_,(j3 5),(j3 6)]])] (.q 9 (j3 8))))))))))))
def st0 (x:S0):S0:=(tkF x.1 (x.2.2.2+1),tkL x.1 x.2.1 x.2.2.1 (x.2.2.2+1),tkT x.1 x.2.2.1 (x.2.2.2+1),x.2.2.2+1)
def c1X:Ann:={ base:=9,fin:=some 9 }
@[simp] abbrev c6a (a:S0):Ob:=(o_ 0 3 [[(iI a.1),(iI a.2.1),(iI a.2.2.1)]])
@[simp] abbrev a1H (a:Int):Ob:=(o_ 0 7 (b9e a))
@[simp] abbrev a3T (a:S0) (b:Int):Heap:=[fG,fF,c6a a,fE,fD,a1H b,iL,(o_ 0 1 []),(o_ 0 6 [[(iI a.2.2.2),z_,w9,z_,(j3 5),(j3 6)]])]
@[simp] abbrev b9U (a:S0) (b:Int):Heap:=[fG,fF,(o_ 0 3 [[(iI (st0 a).1),(iI (st0 a).2.1),(iI (st0 a).2.2.1)]]),fE,fD,a1H b,iL,(o_ 0 1 []),(o_ 0 6 [[(iI (st0 a).2.2.2),z_,w9,z_,(j3 5),(j3 6)]])]
abbrev c5Z (a:S0):Ob:=(o_ 0 6 [[(iI (a.2.2.2+1)),z_,w9,z_,(j3 5),(j3 6)]])
abbrev b9T (a:S0) (b:Int):Heap:=[fG,fF,c6a a,fE,fD,a1H b,iL,(o_ 0 1 []),c5Z a]
abbrev d7O (a:S0) (b:Int):Heap:=[fG,fF,(o_ 0 3 [[(iI (tkF a.1 (a.2.2.2+1))),(iI (tkL a.1 a.2.1 a.2.2.1 (a.2.2.2+1))),(iI (tkT a.1 a.2.2.1 (a.2.2.2+1)))]]),fE,fD,a1H b,iL,(o_ 0 1 []),c5Z a]
theorem b5i (nd:Int) (x:S0) (hn:0<=x.2.2.2) (hn2:x.2.2.2 < 1099511627776) (h1:(Int.tmod (x.2.2.2+1) 20 == 0)=false):AC 37 [(j3 8)] (a3T x nd) (w9,(b9U x nd)) :=
 x9 (fn:=Tryz.f37) (ann:=c1X) (Has.o Tryz.func37) (.r (.s (.y 4 (iW (x.2.2.2+1)) (iI (x.2.2.2+1)) Yes.o (.s (.c 4 (j5.put2 [0,1,2,3,4,5] (b9T x nd) (j3 2) (b9T x nd) (fU ([]:l9E) 0 ([]:l9K) 0 x.1 x.2.1 x.2.2.1 nd (y9.mk 0 nd 0) ) rlA rlA) (.ch 9 (d7O x nd) (j5.put2 [2] (b9T x nd) F4 (d7O x nd) (gZ x.1 x.2.1 x.2.2.1 (x.2.2.2+1) ) D5 D5) (.rd (iI (x.2.2.2+1)) (b9T x nd) (.s (.y 5 (bB ((Int.tmod (x.2.2.2+1) 20) == 0)) bF (Yes.b h1) (.rn (.s (.two ((Int.tmod (x.2.2.2+1) 15) == 0) (fun h1 h1'=>(.u5 (.rn (.g (.roll 1 (.r (.g (.n (.qr 9 w9))))))))) (fun h1 h1'=>(.n5 (.rn (.g (.roll 1 (.r (.g (.n (.qr 9 w9)))))))))))))))))))))
def a2e:Ann:={ base:=9,fin:=some 9,live:=[(3,[0,5,8,9])],out:=[(3,[5])] }
theorem a9r (nd:Int) (m:Nat) (x:S0) (i:Nat) (hm:m<=15) (hmx:(max 0 (min m 1024))=m) (hx:x.2.2.2=(i:Int)) (hle_:i<=(max 0 (min m 1024))) {eX:Ex} {FX:Fr} {HX:Heap} (k1:(l9 i (max 0 (min m 1024)))=true->l6 (C8 a2e Tryz.f11 0) (some [0,5,8,9]) (some [5]) (mkF 17 [(0,(j3 8)),(5,w9),(8,(iN ((max 0 (min m 1024))))),(9,(iN (i+1)))]) (b9U x nd) eX FX HX) (k2:(l9 i (max 0 (min m 1024)))=false->((.exit 0:Ex),(mkF 17 [(5,w9)]),(a3T x nd))=(eX,FX,HX)):l6 (C8 a2e Tryz.f11 0) (some [0,5,8,9]) (some [5]) (mkF 17 [(0,(j3 8)),(5,w9),(8,(iN ((max 0 (min m 1024))))),(9,(iN i))]) (a3T x nd) eX FX HX :=
 J7 (.r (.g (.two (l9 i (max 0 (min m 1024))) (fun h1 h1'=>(.r (.ch 2 (b9U x nd) (j5.put2 [0,1,2,3,4,5,6,7,8] (a3T x nd) w9 (b9U x nd) (b5i nd x oa oa (beq_eq_false_iff_ne.2 (fun e_=>by have h_:Int.tmod (x.2.2.2+1) 20=x.2.2.2+1:=Int.tmod_eq_of_lt ow ow; omega))) (⟨rfl,⟨Ob.ren0 (Entry.z8 0 _),⟨rfl,⟨rfl,⟨Ob.ren0 (Key.z8 0 _),⟨rfl,⟨rfl,⟨rfl,⟨rfl,trivial⟩⟩⟩⟩⟩⟩⟩⟩⟩) (⟨rfl,⟨Ob.ren0 (Entry.z8 0 _),⟨rfl,⟨rfl,⟨Ob.ren0 (Key.z8 0 _),⟨rfl,⟨rfl,⟨rfl,⟨rfl,trivial⟩⟩⟩⟩⟩⟩⟩⟩⟩)) (.s (.y 0 (iW ((i:Int)+1)) (iN (i+1)) Yes.o (.g (.l (k1 h1)))))))) (fun h1 h1'=>(.l (k2 h1))))))
def b4Z (nd:Int) (m:Nat) (i:Nat) (s:S0):S0:=(st0 s)
theorem c7V (nd:Int) (m:Nat) (hm:m<=15) (hmx:(max 0 (min m 1024))=m)  (r_:Nat):∀ (x:S0) (i:Nat) (sF:S0),i+r_=(max 0 (min m 1024))->x.2.2.2=(i:Int)->sF=iter (b4Z nd m) r_ i x ->
 l6 (C8 a2e Tryz.f11 0) (some [0,5,8,9]) (some [5]) (mkF 17 [(0,(j3 8)),(5,w9),(8,(iN ((max 0 (min m 1024))))),(9,(iN i))]) (a3T x nd) (.exit 0) (mkF 17 [(5,w9)]) (a3T sF nd):=by
 induction r_ with
 | zero =>
  intro x i sF hi_ hx  hF
  obtain rfl:(max 0 (min m 1024))=i:=by omega
  have e_:sF=x:=hF
  refine a9r nd m x (max 0 (min m 1024)) hm hmx hx J8 (fun h=>by simp at h <;> omega) (fun _=>?_)
  first | done | rfl | (rw [e_]; done) | (rw [e_]; rfl)
 | succ r_ ih =>
  intro x i sF hi_ hx  hF
  refine a9r nd m x i hm hmx hx ow (fun h1=>?_) (fun h=>by simp at h <;> omega)
  · exact ih (st0 x) (i+1) sF ow (by have hst:(st0 x).2.2.2=x.2.2.2+1:=rfl; first | omega | assumption | (simp; done) | (simp; omega) | (simp [*]; done) | (simp [*]; omega))  (by rw [hF] <;> simp only [iter,b4Z,if_true,Bool.false_eq_true,if_false])
def zA (nd:Int) (m:Nat) (x:S0):S0:=iter (b4Z nd m) m 0 x
abbrev e0Y (a:Int) (b:Nat) (c:S0):Heap:=[fG,fF,(o_ 0 3 [[(iI (zA a b c).1),(iI (zA a b c).2.1),(iI (zA a b c).2.2.1)]]),fE,fD,a1H a,iL,(o_ 0 1 []),(o_ 0 6 [[(iI (zA a b c).2.2.2),z_,w9,z_,(j3 5),(j3 6)]])]
theorem b5a (nd:Int) (m:Nat) (x:S0) (hm:m<=15) (hmx:(max 0 (min m 1024))=m) (hx:x.2.2.2=0):AC 11 [(j3 8),(iN m)] (a3T x nd) (w9,(e0Y nd m x)) :=
 x9 (fn:=Tryz.f11) (ann:=a2e) (Has.o Tryz.func11) (.r (.s (.s (.y 1 (.int .i64 (if 1024 < (m:Int) then 1024 else (m:Int))) (iN (min m 1024)) (Yes.int yv_) (.y 2 (.int .i64 (if ((min m 1024:Nat):Int) > 0 then ((min m 1024:Nat):Int) else 0)) (iN (max 0 (min m 1024))) (Yes.int yv_) (.g (.loop (mkF 17 [(5,w9)]) (c7V nd m hm hmx m x 0 (zA nd m x) ow (by simpa using hx) wM) (.qr 9 w9))))))))
def c4T:Ann:={ fin:=some 0 }
theorem b7Z  :AC 24 [(iI (-1)),z_] [] (AV.nilp,[]) :=
 x9 (fn:=Tryz.f24) (ann:=c4T) (Has.o Tryz.func24) (.r (.s (.u6 (.g (.u (.qr 0 AV.nilp))))))
def c2k:Ann:={ fin:=some 0 }
theorem b5w  :AC 8 [(iI (-1)),w9] [] (AV.nilp,[]) :=
 x9 (fn:=Tryz.f8) (ann:=c2k) (Has.o Tryz.func8) (.r (.s (.c 1 ((b7Z).lift kr kr []) (.s (.g (.u (.qr 0 AV.nilp)))))))
theorem b3d (nd p:Int) (s:SS) (f:Int) (q:Msg) (h:d9K s) (hs:bP s.d.l) (hr:R4 q=true) (hk:q.kind=1):AC 10 [(j3 11),(iI f),(p9 (Msg.row q))] [(o_ 0 2 [[(iI (r9 32)),(d9 1 s.d.g 10 s.d.l.length)]]),(o_ s.d.g 10 (mE s.d.l)),(o_ 0 3 [[(iI s.d.gf),(iI s.d.gl),(iI s.d.gt)]]),(o_ 0 2 [[(iN (s.d.al.length)),(d9 4 s.d.ga 2 (l7 s.d.al).length)]]),(o_ s.d.ga 2 (mK (l7 s.d.al))),(o_ 0 7 [[(iI nd),(iI s.d.st.t),(iI s.d.st.node),(iI s.d.st.n),(j3 0),(j3 2),(j3 3)]]),(o_ 0 3 [[(d9 7 0 1 1),(d9 8 0 1 1),(iI s.lost)]]),(o_ 0 1 (List.map y5 [p])),(o_ 0 1 [[(d9 9 s.qg 9 s.ql.length)]]),(o_ s.qg 9 (mC s.ql)),(o_ 1 1 []),(o_ 0 6 [[(iI s.now),(iI s.swept),(sA 1 [[(iI p)]]),z_,(j3 5),(j3 6)]])] ((sA 14 (List.map U4.row [U4.mk f (hdD nd s.d q s.now).m])),[(o_ 0 2 [[(iI (r9 32)),(d9 1 (G7 nd p s q).d.g 10 (List.length (G7 nd p s q).d.l))]]),(o_ ((G7 nd p s q).d.g) 10 (mE (G7 nd p s q).d.l)),(o_ 0 3 [[(iI (G7 nd p s q).d.gf),(iI (G7 nd p s q).d.gl),(iI (G7 nd p s q).d.gt)]]),(o_ 0 2 [[(iN ((List.length (G7 nd p s q).d.al))),(d9 4 (G7 nd p s q).d.ga 2 (l7 (G7 nd p s q).d.al).length)]]),(o_ ((G7 nd p s q).d.ga) 2 (mK (l7 (G7 nd p s q).d.al))),(o_ 0 7 [[(iI nd),(iI (G7 nd p s q).d.st.t),(iI (G7 nd p s q).d.st.node),(iI (G7 nd p s q).d.st.n),(j3 0),(j3 2),(j3 3)]]),(o_ 0 3 [[(d9 7 0 1 1),(d9 8 0 1 1),(iI (G7 nd p s q).lost)]]),(o_ 0 1 (List.map y5 [p])),(o_ 0 1 [[(d9 9 (G7 nd p s q).qg 9 (List.length (G7 nd p s q).ql))]]),(o_ ((G7 nd p s q).qg) 9 (mC (G7 nd p s q).ql)),(o_ 1 1 []),(o_ 0 6 [[(iI (G7 nd p s q).now),(iI (G7 nd p s q).swept),(sA 1 [[(iI p)]]),z_,(j3 5),(j3 6)]])]):=by
 obtain ⟨h1,h2,h3,h4,h5⟩:=h
 unfold G7
 rw [if_pos hr,if_pos hk]
 have hc:=c4m nd s.d q s.now hs h1 h3 h4
 exact (b6g nd p s f q hr hk ow ow ⟨h3,by omega⟩ h5 ow).post ⟨rfl,rfl,.inl rfl⟩
def I6:Msg:=⟨1,1,1,0,3,9,0,⟨⟨#[97]⟩,⟨#[98]⟩⟩,false,0,[],[]⟩
attribute [local irreducible] sv0
attribute [local irreducible] maskN
abbrev ltC (a b:j4):Bool:=decide (U7 a.key b.key < 0)
abbrev e1q (l:List j4):Prop:=List.Pairwise StC l
end Go.Proofs.YtmghjcbabebanaaGreat.AM
namespace Go.Proofs.YtmghjcbabebanaaGreat.AM
open Go
attribute [local irreducible] D7 E5 G6 J2 J9 K3 Q6 R9 jX l8 maxS q9
abbrev Prs:=SS × SS × List U4 × Nat
theorem d5O {n:Nat} {b nd p:Int} {s:SS} {q:Msg} (h:SSI n b s):SSI (n+65) b (G7 nd p s q):=by
 unfold G7
 have hm:SSI (n+65) b s:=⟨h.d.mono ya_,h.hn,h.hn2,h.hq,h.hs0,h.hs1⟩
 cases hr:R4 q with
 | false=>rw [if_neg ye_]; exact hm
 | true =>
  rw [if_pos rfl]
  obtain ⟨b1,b2,b3,b4⟩:=b0m hr
  split
  · exact ⟨(h.d.hd nd q s.now).mono ya_,h.hn,h.hn2,d6B _ _ _ _ _ h.hq,h.hs0,h.hs1⟩
  · split
    · have key:∀ (cs:l9C) (t:l9E × l9K × l9C × Nat),bP t.1->t.1.length<=32->bP (cs.foldl (bW (l8 s.now)) t).1/\(cs.foldl (bW (l8 s.now)) t).1.length<=32:=by
       intro cs
       induction cs with
       | nil=>intro t h1 h2; exact ⟨h1,h2⟩
       | cons c cs ih =>
        intro t h1 h2
        rw [List.foldl_cons]
        refine ih _ ?_ ?_
        · unfold bW
          split
          · split
            · split
              · exact nU h1 _
              · exact h1
            · exact nU h1 _
          · exact h1
        · unfold bW
          split
          · split
            · split
              · exact a2o _ h2
              · exact h2
            · exact a2o _ h2
          · exact h2
      have hi:=a7K s.now q.cards s.d.l s.d.al
      have hk:=key q.cards (s.d.l,s.d.al,[],0) h.d.srt h.d.len
      have ha:=h.d.al
      exact ⟨⟨hk.1,hk.2,by show (N9 s.now q.cards s.d.l s.d.al).2.1.length<=n+65; omega,h.d.g0,h.d.g1⟩,h.hn,h.hn2,h.hq,h.hs0,h.hs1⟩
    · exact hm
theorem SSI.rc {n:Nat} {b:Int} {s:SS} (h:SSI n b s) (hn:n < 90000):d9K s:=⟨h.d.len,Nat.lt_of_le_of_lt h.d.al hn,h.d.g0,h.d.g1,h.hq⟩
attribute [local irreducible] R4
structure PrI (nd:Int) (s:SS):Prop where
 srt:bP s.d.l
 len:s.d.l.length<=9
 r:∀ x∈s.d.l,Q6 x.card=true/\x.card.stamp.node=nd
attribute [local irreducible] N9 fZ gB
open Go.Proofs.YtmghjcbabebanaaGreat
attribute [local irreducible] D9 E9 G7 H6 K5 P8 U1 Y7 Z8 gT hdD j5 l6 qA rW tkM
@[simp] abbrev d1t (a:SS) (b:Int) (c:Int):Heap:=[a8K a,(o_ a.d.g 10 (mE a.d.l)),a8J a,a8I a,a8H a,(o_ 0 7 (d0G b a)),a5s a,(o_ 0 1 (List.map y5 [c])),a5r a,(o_ a.qg 9 (mC a.ql)),(o_ 1 1 []),(o_ 0 6 (b9a a c))]
theorem e0s (nd p:Int) (s:SS) (hn:s.now=0) (hq:s.ql=[]):(tkM nd p 15 0 s).2.1=[u7.mk p (xJ (P8 (List.map Entry.card s.d.l)))]/\(tkM nd p 15 0 s).1.d.l=s.d.l/\(∀ n b,SSI n b s->SSI n (b+15) (tkM nd p 15 0 s).1):=by
 have key:=oD (yZ nd p 15 0) (fun i t=>t.1.now=(i:Int)/\t.1.ql=[]/\t.1.d.l=s.d.l/\t.2.1=(if i=15 then [u7.mk p (xJ (P8 (List.map Entry.card s.d.l)))] else [])/\(∀ n b,SSI n b s->SSI n (b+(i:Int)) t.1)) 15 (fun i t hi ⟨h1,h2,h3,h4,h5⟩=>by
  have e:(yZ nd p 15 0 i t).1=P6 t.1:=rfl
  have e2:(yZ nd p 15 0 i t).2.1=t.2.1++gJ p t.1:=rfl
  rw [e,e2]
  have hp:gJ p t.1=if i=14 then [u7.mk p (xJ (P8 (List.map Entry.card s.d.l)))] else []:=by
   with_unfolding_all unfold gJ
   have hq0:D9 p (E8 t.1.ql)=[]:=by rw [h2]; with_unfolding_all rfl
   rw [hq0,List.append_nil,h1,h3]
   have hm:Int.tmod ((i:Int)+1) 15=((i:Int)+1) % 15:=Int.tmod_eq_emod_of_nonneg ow
   rw [hm]
   by_cases h14:i=14
   · subst h14; rfl
   · rw [if_neg yg_,if_neg h14]
  refine ⟨?_,?_,?_,?_,?_⟩
  · rw [uL,h1]; omega
  · have:=a9u t.1; rw [h2] at this; exact List.eq_nil_of_length_eq_zero (by simpa using this)
  · rw [c1W,h3]
  · rw [h4,hp,if_neg ow,List.nil_append]
    by_cases h14:i=14
    · rw [if_pos h14,if_pos ow]
    · rw [if_neg h14,if_neg ow]
  · intro n b hI
    have h:=h5 n b hI
    have hq':=a9u t.1
    have h2':=h.hq
    have hn':=h.hn
    have hb':=h.hn2
    refine ⟨?_,?_,?_,by omega,?_,?_⟩
    · have:=a4c h.d t.1.now; with_unfolding_all exact this
    · rw [uL]; omega
    · rw [uL]; omega
    · have:=h.hs0; with_unfolding_all exact this
    · have h6:(P6 t.1).swept=t.1.swept:=by with_unfolding_all rfl
      have:=h.hs1; rw [uL,h6]; omega) 15 0 (s,[],0,0) ow ⟨hn,hq,rfl,by simp,fun n b h=>by simpa using h⟩
 simp only [Nat.zero_add] at key
 with_unfolding_all unfold tkM
 exact ⟨by rw [key.2.2.2.1]; rfl,key.2.2.1,key.2.2.2.2⟩
attribute [local irreducible] Tp.card Tp.K8 Tp.next Tp.step Tp.key Tp.keyT
attribute [local irreducible] Tp.cards Tp.J5
abbrev c5P :Ob:=(o_ ((sv0 1).d.g) 10 (mE (sv0 1).d.l))
abbrev c5O :Ob:=(o_ 0 3 [[(iI (sv0 1).d.gf),(iI (sv0 1).d.gl),(iI (sv0 1).d.gt)]])
abbrev c5N :Ob:=(o_ ((sv0 1).d.ga) 2 (mK (l7 (sv0 1).d.al)))
abbrev c5M :Ob:=(o_ ((sv0 1).qg) 9 (mC (sv0 1).ql))
theorem c3N:SSI 0 15 (tkM 1 0 15 0 (sv0 1)).1:=by
 have h:=(e0s 1 0 (sv0 1) rfl rfl).2.2 0 0 (d9N 1).i
 simpa using h
@[simp] abbrev c5L :Ob:=(o_ ((tkM 1 0 15 0 (sv0 1)).1.d.g) 10 (mE (tkM 1 0 15 0 (sv0 1)).1.d.l))
@[simp] abbrev c5K :Ob:=(o_ 0 3 [[(iI (tkM 1 0 15 0 (sv0 1)).1.d.gf),(iI (tkM 1 0 15 0 (sv0 1)).1.d.gl),(iI (tkM 1 0 15 0 (sv0 1)).1.d.gt)]])
@[simp] abbrev c5J :Ob:=(o_ ((tkM 1 0 15 0 (sv0 1)).1.d.ga) 2 (mK (l7 (tkM 1 0 15 0 (sv0 1)).1.d.al)))
@[simp] abbrev c5I :Ob:=(o_ ((tkM 1 0 15 0 (sv0 1)).1.qg) 9 (mC (tkM 1 0 15 0 (sv0 1)).1.ql))
@[simp] abbrev d9X (a:Int) (b:Int):Heap:=[(o_ 0 2 [[(iI (r9 32)),(d9 1 (tkM 1 0 15 0 (sv0 1)).1.d.g 10 (List.length (tkM 1 0 15 0 (sv0 1)).1.d.l))]]),c5L,c5K,(o_ 0 2 [[(iN ((List.length (tkM 1 0 15 0 (sv0 1)).1.d.al))),(d9 4 (tkM 1 0 15 0 (sv0 1)).1.d.ga 2 (l7 (tkM 1 0 15 0 (sv0 1)).1.d.al).length)]]),c5J,(o_ 0 7 [[(iI a),(iI (tkM 1 0 15 0 (sv0 1)).1.d.st.t),(iI (tkM 1 0 15 0 (sv0 1)).1.d.st.node),(iI (tkM 1 0 15 0 (sv0 1)).1.d.st.n),(j3 0),(j3 2),(j3 3)]]),(o_ 0 3 [[(d9 7 0 1 1),(d9 8 0 1 1),(iI (tkM 1 0 15 0 (sv0 1)).1.lost)]]),(o_ 0 1 (List.map y5 [b])),(o_ 0 1 [[(d9 9 (tkM 1 0 15 0 (sv0 1)).1.qg 9 (List.length (tkM 1 0 15 0 (sv0 1)).1.ql))]]),c5I,(o_ 1 1 []),(o_ 0 6 [[(iI (tkM 1 0 15 0 (sv0 1)).1.now),(iI (tkM 1 0 15 0 (sv0 1)).1.swept),(sA 1 [[(iI b)]]),z_,(j3 5),(j3 6)]])]
theorem b7e (nd p:Int) (s:SS) (he:(nd,p,s)=(1,0,sv0 1)):AC 11 [(j3 11),(iI 15)] (d1t s nd p) ((sA 14 (List.map u7.row (tkM 1 0 15 0 (sv0 1)).2.1)),(d9X nd p)):=by
 have e1:nd=1:=congrArg (fun z=>z.1) he
 have e2:p=0:=congrArg (fun z=>z.2.1) he
 have e3:s=sv0 1:=congrArg (fun z=>z.2.2) he
 subst e1 e2 e3
 exact a2L 1 0 15 0 (sv0 1) ow D8 ow ow rfl (of_decide_eq_true kr) (of_decide_eq_true kr)
@[simp] abbrev c5H :Ob:=(o_ ((G7 1 0 (tkM 1 0 15 0 (sv0 1)).1 I6).d.g) 10 (mE (G7 1 0 (tkM 1 0 15 0 (sv0 1)).1 I6).d.l))
@[simp] abbrev c5G :Ob:=(o_ 0 3 [[(iI (G7 1 0 (tkM 1 0 15 0 (sv0 1)).1 I6).d.gf),(iI (G7 1 0 (tkM 1 0 15 0 (sv0 1)).1 I6).d.gl),(iI (G7 1 0 (tkM 1 0 15 0 (sv0 1)).1 I6).d.gt)]])
@[simp] abbrev c5F :Ob:=(o_ ((G7 1 0 (tkM 1 0 15 0 (sv0 1)).1 I6).d.ga) 2 (mK (l7 (G7 1 0 (tkM 1 0 15 0 (sv0 1)).1 I6).d.al)))
@[simp] abbrev c5E :Ob:=(o_ ((G7 1 0 (tkM 1 0 15 0 (sv0 1)).1 I6).qg) 9 (mC (G7 1 0 (tkM 1 0 15 0 (sv0 1)).1 I6).ql))
@[simp] abbrev d9W (a:Int) (b:Int):Heap:=[(o_ 0 2 [[(iI (r9 32)),(d9 1 (G7 1 0 (tkM 1 0 15 0 (sv0 1)).1 I6).d.g 10 (List.length (G7 1 0 (tkM 1 0 15 0 (sv0 1)).1 I6).d.l))]]),c5H,c5G,(o_ 0 2 [[(iN ((List.length (G7 1 0 (tkM 1 0 15 0 (sv0 1)).1 I6).d.al))),(d9 4 (G7 1 0 (tkM 1 0 15 0 (sv0 1)).1 I6).d.ga 2 (l7 (G7 1 0 (tkM 1 0 15 0 (sv0 1)).1 I6).d.al).length)]]),c5F,(o_ 0 7 [[(iI a),(iI (G7 1 0 (tkM 1 0 15 0 (sv0 1)).1 I6).d.st.t),(iI (G7 1 0 (tkM 1 0 15 0 (sv0 1)).1 I6).d.st.node),(iI (G7 1 0 (tkM 1 0 15 0 (sv0 1)).1 I6).d.st.n),(j3 0),(j3 2),(j3 3)]]),(o_ 0 3 [[(d9 7 0 1 1),(d9 8 0 1 1),(iI (G7 1 0 (tkM 1 0 15 0 (sv0 1)).1 I6).lost)]]),(o_ 0 1 (List.map y5 [b])),(o_ 0 1 [[(d9 9 (G7 1 0 (tkM 1 0 15 0 (sv0 1)).1 I6).qg 9 (List.length (G7 1 0 (tkM 1 0 15 0 (sv0 1)).1 I6).ql))]]),c5E,(o_ 1 1 []),(o_ 0 6 [[(iI (G7 1 0 (tkM 1 0 15 0 (sv0 1)).1 I6).now),(iI (G7 1 0 (tkM 1 0 15 0 (sv0 1)).1 I6).swept),(sA 1 [[(iI b)]]),z_,(j3 5),(j3 6)]])]
theorem b7d (nd p:Int) (s:SS) (f:Int) (he:(nd,p,s)=(1,0,(tkM 1 0 15 0 (sv0 1)).1)):AC 10 [(j3 11),(iI f),(p9 [(iI 1),(iI 1),(iI 1),z_,(iI 3),(iI 9),z_,(AV.str (ByteArray.mk #[97])),(AV.str (ByteArray.mk #[98])),bF,H9,w9,w9])] (d1t s nd p) ((sA 14 (List.map U4.row [U4.mk f (hdD 1 (tkM 1 0 15 0 (sv0 1)).1.d I6 (tkM 1 0 15 0 (sv0 1)).1.now).m])),(d9W nd p)):=by
 have e1:nd=1:=congrArg (fun z=>z.1) he
 have e2:p=0:=congrArg (fun z=>z.2.1) he
 have e3:s=(tkM 1 0 15 0 (sv0 1)).1:=congrArg (fun z=>z.2.2) he
 subst e1 e2 e3
 have q:=b3d 1 0 (tkM 1 0 15 0 (sv0 1)).1 f I6 (c3N.rc ow) c3N.d.srt kr rfl
 exact q.pre ⟨AV.l5 _,AV.l5 _,by simp [AV.wk,AV.wks,Tg.le,I6,Msg.row],trivial⟩
@[simp] abbrev c5D :Ob:=(o_ ((tkM 1 0 1 15 (G7 1 0 (tkM 1 0 15 0 (sv0 1)).1 I6)).1.d.g) 10 (mE (tkM 1 0 1 15 (G7 1 0 (tkM 1 0 15 0 (sv0 1)).1 I6)).1.d.l))
@[simp] abbrev c5C :Ob:=(o_ 0 3 [[(iI (tkM 1 0 1 15 (G7 1 0 (tkM 1 0 15 0 (sv0 1)).1 I6)).1.d.gf),(iI (tkM 1 0 1 15 (G7 1 0 (tkM 1 0 15 0 (sv0 1)).1 I6)).1.d.gl),(iI (tkM 1 0 1 15 (G7 1 0 (tkM 1 0 15 0 (sv0 1)).1 I6)).1.d.gt)]])
@[simp] abbrev c5B :Ob:=(o_ ((tkM 1 0 1 15 (G7 1 0 (tkM 1 0 15 0 (sv0 1)).1 I6)).1.d.ga) 2 (mK (l7 (tkM 1 0 1 15 (G7 1 0 (tkM 1 0 15 0 (sv0 1)).1 I6)).1.d.al)))
@[simp] abbrev c5A :Ob:=(o_ ((tkM 1 0 1 15 (G7 1 0 (tkM 1 0 15 0 (sv0 1)).1 I6)).1.qg) 9 (mC (tkM 1 0 1 15 (G7 1 0 (tkM 1 0 15 0 (sv0 1)).1 I6)).1.ql))
@[simp] abbrev d7e :=(iN ((List.length (tkM 1 0 1 15 (G7 1 0 (tkM 1 0 15 0 (sv0 1)).1 I6)).1.d.al)))
@[simp] abbrev d0z :=(iI (tkM 1 0 1 15 (G7 1 0 (tkM 1 0 15 0 (sv0 1)).1 I6)).1.now)
@[simp] abbrev d9V (a:Int) (b:Int):Heap:=[(o_ 0 2 [[(iI (r9 32)),(d9 1 (tkM 1 0 1 15 (G7 1 0 (tkM 1 0 15 0 (sv0 1)).1 I6)).1.d.g 10 (List.length (tkM 1 0 1 15 (G7 1 0 (tkM 1 0 15 0 (sv0 1)).1 I6)).1.d.l))]]),c5D,c5C,(o_ 0 2 [[d7e,(d9 4 (tkM 1 0 1 15 (G7 1 0 (tkM 1 0 15 0 (sv0 1)).1 I6)).1.d.ga 2 (l7 (tkM 1 0 1 15 (G7 1 0 (tkM 1 0 15 0 (sv0 1)).1 I6)).1.d.al).length)]]),c5B,(o_ 0 7 [[(iI a),(iI (tkM 1 0 1 15 (G7 1 0 (tkM 1 0 15 0 (sv0 1)).1 I6)).1.d.st.t),(iI (tkM 1 0 1 15 (G7 1 0 (tkM 1 0 15 0 (sv0 1)).1 I6)).1.d.st.node),(iI (tkM 1 0 1 15 (G7 1 0 (tkM 1 0 15 0 (sv0 1)).1 I6)).1.d.st.n),(j3 0),(j3 2),(j3 3)]]),(o_ 0 3 [[(d9 7 0 1 1),(d9 8 0 1 1),(iI (tkM 1 0 1 15 (G7 1 0 (tkM 1 0 15 0 (sv0 1)).1 I6)).1.lost)]]),(o_ 0 1 (List.map y5 [b])),(o_ 0 1 [[(d9 9 (tkM 1 0 1 15 (G7 1 0 (tkM 1 0 15 0 (sv0 1)).1 I6)).1.qg 9 (List.length (tkM 1 0 1 15 (G7 1 0 (tkM 1 0 15 0 (sv0 1)).1 I6)).1.ql))]]),c5A,(o_ 1 1 []),(o_ 0 6 [[d0z,(iI (tkM 1 0 1 15 (G7 1 0 (tkM 1 0 15 0 (sv0 1)).1 I6)).1.swept),(sA 1 [[(iI b)]]),z_,(j3 5),(j3 6)]])]
theorem b7c (nd p:Int) (s:SS) (he:(nd,p,s)=(1,0,(G7 1 0 (tkM 1 0 15 0 (sv0 1)).1 I6))):AC 11 [(j3 11),(iI 1)] (d1t s nd p) ((sA 14 (List.map u7.row (tkM 1 0 1 15 (G7 1 0 (tkM 1 0 15 0 (sv0 1)).1 I6)).2.1)),(d9V nd p)):=by
 have e1:nd=1:=congrArg (fun z=>z.1) he
 have e2:p=0:=congrArg (fun z=>z.2.1) he
 have e3:s=(G7 1 0 (tkM 1 0 15 0 (sv0 1)).1 I6):=congrArg (fun z=>z.2.2) he
 subst e1 e2 e3
 exact a2L 1 0 1 15 (G7 1 0 (tkM 1 0 15 0 (sv0 1)).1 I6) ow D8 ow ow kr (of_decide_eq_true kr) (of_decide_eq_true kr)
def b0B:Ann:={ fin:=some 0 }
abbrev c5z :Ob:=(o_ 0 3 [[(iI ((0,0,0,0):S0).1),(iI ((0,0,0,0):S0).2.1),(iI ((0,0,0,0):S0).2.2.1)]])
abbrev yS :Ob:=(o_ 0 7 [[z_,(iI (y9.mk 0 0 0).t),(iI (y9.mk 0 0 0).node),(iI (y9.mk 0 0 0).n),(j3 0),(j3 2),(j3 3)]])
abbrev c5y :Ob:=(o_ 0 6 [[(iI ((0,0,0,0):S0).2.2.2),z_,w9,z_,(j3 5),(j3 6)]])
abbrev b9R :Heap:=[fG,fF,c5z,fE,fD,yS,iL,(o_ 0 1 []),c5y]
abbrev c5x :Ob:=(o_ 0 2 [[(iI (r9 32)),(d9 10 (sv0 1).d.g 10 (List.length (sv0 1).d.l))]])
abbrev c5w :Ob:=(o_ 0 2 [[(iN ((List.length (sv0 1).d.al))),(d9 13 (sv0 1).d.ga 2 (l7 (sv0 1).d.al).length)]])
abbrev c5v :Ob:=(o_ 0 7 [[(iI 1),(iI (sv0 1).d.st.t),(iI (sv0 1).d.st.node),(iI (sv0 1).d.st.n),(j3 9),(j3 11),(j3 12)]])
abbrev c5u :Ob:=(o_ 0 3 [[(d9 16 0 1 1),(d9 17 0 1 1),(iI (sv0 1).lost)]])
abbrev c5t :Ob:=(o_ 0 1 [[(d9 18 (sv0 1).qg 9 (List.length (sv0 1).ql))]])
abbrev c5s :Ob:=(o_ 0 6 [[(iI (sv0 1).now),(iI (sv0 1).swept),(sA 1 [[z_]]),z_,(j3 14),(j3 15)]])
abbrev a8G :Heap:=[fG,fF,c5z,fE,fD,yS,iL,(o_ 0 1 []),c5y,c5x,c5P,c5O,c5w,c5N,c5v,c5u,(o_ 0 1 (List.map y5 [0])),c5t,c5M,(o_ 1 1 []),c5s]
abbrev a5m :Ob:=(o_ 0 3 [[(iI (zA 0 15 ((0,0,0,0):S0)).1),(iI (zA 0 15 ((0,0,0,0):S0)).2.1),(iI (zA 0 15 ((0,0,0,0):S0)).2.2.1)]])
abbrev a5l :Ob:=(o_ 0 6 [[(iI (zA 0 15 ((0,0,0,0):S0)).2.2.2),z_,w9,z_,(j3 5),(j3 6)]])
abbrev b9Q :Heap:=[fG,fF,a5m,fE,fD,yS,iL,(o_ 0 1 []),a5l,c5x,c5P,c5O,c5w,c5N,c5v,c5u,(o_ 0 1 (List.map y5 [0])),c5t,c5M,(o_ 1 1 []),c5s]
abbrev b9P :Heap:=[fG,fF,a5m,fE,fD,yS,iL,(o_ 0 1 []),a5l,(o_ 0 2 [[(iI (r9 32)),(d9 10 (tkM 1 0 15 0 (sv0 1)).1.d.g 10 (List.length (tkM 1 0 15 0 (sv0 1)).1.d.l))]]),c5L,c5K,(o_ 0 2 [[(iN ((List.length (tkM 1 0 15 0 (sv0 1)).1.d.al))),(d9 13 (tkM 1 0 15 0 (sv0 1)).1.d.ga 2 (l7 (tkM 1 0 15 0 (sv0 1)).1.d.al).length)]]),c5J,(o_ 0 7 [[(iI 1),(iI (tkM 1 0 15 0 (sv0 1)).1.d.st.t),(iI (tkM 1 0 15 0 (sv0 1)).1.d.st.node),(iI (tkM 1 0 15 0 (sv0 1)).1.d.st.n),(j3 9),(j3 11),(j3 12)]]),(o_ 0 3 [[(d9 16 0 1 1),(d9 17 0 1 1),(iI (tkM 1 0 15 0 (sv0 1)).1.lost)]]),(o_ 0 1 (List.map y5 [0])),(o_ 0 1 [[(d9 18 (tkM 1 0 15 0 (sv0 1)).1.qg 9 (List.length (tkM 1 0 15 0 (sv0 1)).1.ql))]]),c5I,(o_ 1 1 []),(o_ 0 6 [[(iI (tkM 1 0 15 0 (sv0 1)).1.now),(iI (tkM 1 0 15 0 (sv0 1)).1.swept),(sA 1 [[z_]]),z_,(j3 14),(j3 15)]])]
abbrev b9O :Heap:=[fG,fF,a5m,fE,fD,yS,iL,(o_ 0 1 []),a5l,(o_ 0 2 [[(iI (r9 32)),(d9 10 (G7 1 0 (tkM 1 0 15 0 (sv0 1)).1 I6).d.g 10 (List.length (G7 1 0 (tkM 1 0 15 0 (sv0 1)).1 I6).d.l))]]),c5H,c5G,(o_ 0 2 [[(iN ((List.length (G7 1 0 (tkM 1 0 15 0 (sv0 1)).1 I6).d.al))),(d9 13 (G7 1 0 (tkM 1 0 15 0 (sv0 1)).1 I6).d.ga 2 (l7 (G7 1 0 (tkM 1 0 15 0 (sv0 1)).1 I6).d.al).length)]]),c5F,(o_ 0 7 [[(iI 1),(iI (G7 1 0 (tkM 1 0 15 0 (sv0 1)).1 I6).d.st.t),(iI (G7 1 0 (tkM 1 0 15 0 (sv0 1)).1 I6).d.st.node),(iI (G7 1 0 (tkM 1 0 15 0 (sv0 1)).1 I6).d.st.n),(j3 9),(j3 11),(j3 12)]]),(o_ 0 3 [[(d9 16 0 1 1),(d9 17 0 1 1),(iI (G7 1 0 (tkM 1 0 15 0 (sv0 1)).1 I6).lost)]]),(o_ 0 1 (List.map y5 [0])),(o_ 0 1 [[(d9 18 (G7 1 0 (tkM 1 0 15 0 (sv0 1)).1 I6).qg 9 (List.length (G7 1 0 (tkM 1 0 15 0 (sv0 1)).1 I6).ql))]]),c5E,(o_ 1 1 []),(o_ 0 6 [[(iI (G7 1 0 (tkM 1 0 15 0 (sv0 1)).1 I6).now),(iI (G7 1 0 (tkM 1 0 15 0 (sv0 1)).1 I6).swept),(sA 1 [[z_]]),z_,(j3 14),(j3 15)]])]
abbrev a8F :Heap:=[fG,fF,a5m,fE,fD,yS,iL,(o_ 0 1 []),a5l,(o_ 0 2 [[(iI (r9 32)),(d9 10 (tkM 1 0 1 15 (G7 1 0 (tkM 1 0 15 0 (sv0 1)).1 I6)).1.d.g 10 (List.length (tkM 1 0 1 15 (G7 1 0 (tkM 1 0 15 0 (sv0 1)).1 I6)).1.d.l))]]),c5D,c5C,(o_ 0 2 [[d7e,(d9 13 (tkM 1 0 1 15 (G7 1 0 (tkM 1 0 15 0 (sv0 1)).1 I6)).1.d.ga 2 (l7 (tkM 1 0 1 15 (G7 1 0 (tkM 1 0 15 0 (sv0 1)).1 I6)).1.d.al).length)]]),c5B,(o_ 0 7 [[(iI 1),(iI (tkM 1 0 1 15 (G7 1 0 (tkM 1 0 15 0 (sv0 1)).1 I6)).1.d.st.t),(iI (tkM 1 0 1 15 (G7 1 0 (tkM 1 0 15 0 (sv0 1)).1 I6)).1.d.st.node),(iI (tkM 1 0 1 15 (G7 1 0 (tkM 1 0 15 0 (sv0 1)).1 I6)).1.d.st.n),(j3 9),(j3 11),(j3 12)]]),(o_ 0 3 [[(d9 16 0 1 1),(d9 17 0 1 1),(iI (tkM 1 0 1 15 (G7 1 0 (tkM 1 0 15 0 (sv0 1)).1 I6)).1.lost)]]),(o_ 0 1 (List.map y5 [0])),(o_ 0 1 [[(d9 18 (tkM 1 0 1 15 (G7 1 0 (tkM 1 0 15 0 (sv0 1)).1 I6)).1.qg 9 (List.length (tkM 1 0 1 15 (G7 1 0 (tkM 1 0 15 0 (sv0 1)).1 I6)).1.ql))]]),c5A,(o_ 1 1 []),(o_ 0 6 [[d0z,(iI (tkM 1 0 1 15 (G7 1 0 (tkM 1 0 15 0 (sv0 1)).1 I6)).1.swept),(sA 1 [[z_]]),z_,(j3 14),(j3 15)]])]
abbrev d7d :=(p9 [(iI 1),(iI 1),(iI 1),z_,(iI 3),(iI 9),z_,(AV.str (ByteArray.mk #[97])),(AV.str (ByteArray.mk #[98])),bF,H9,w9,w9])
theorem a8v  :AC 14 [] [] (bT,[]):=by
 have l1:(tkM 1 0 15 0 (sv0 1)).2.1.length=1:=by kernel_rfl
 have l2:(tkM 1 0 1 15 (G7 1 0 (tkM 1 0 15 0 (sv0 1)).1 I6)).2.1.length=1:=by kernel_rfl
 exact x9 (fn:=Tryz.f14) (ann:=b0B) (Has.o Tryz.func14) (.r (.s (.ch 0 b9R (j5.put2 [] [] (j3 8) b9R (b5z 0 (by first | omega | assumption | (simp; done) | (simp; omega) | exact kr | kernel_rfl | exact of_decide_eq_true kr) (by first | omega | assumption | (simp; done) | (simp; omega) | exact kr | kernel_rfl | exact of_decide_eq_true kr)) trivial (⟨rfl,⟨Ob.ren0 (Entry.z8 0 _),⟨rfl,⟨rfl,⟨Ob.ren0 (Key.z8 0 _),⟨rfl,⟨rfl,⟨rfl,⟨rfl,trivial⟩⟩⟩⟩⟩⟩⟩⟩⟩)) (.ch 2 a8G (j5.pre (args:=[(iI 1),(sA 1 [[z_]])]) (args':=[(iI 1),(AV.sl .clip 1 [[z_]])]) (j5.put2 [] b9R (j3 20) a8G (b5v 1 0 (by first | omega | assumption | (simp; done) | (simp; omega) | exact kr | kernel_rfl | exact of_decide_eq_true kr) (by first | omega | assumption | (simp; done) | (simp; omega) | exact kr | kernel_rfl | exact of_decide_eq_true kr)) trivial rlB) ⟨AV.l5 _,⟨rfl,rfl,.inl rfl⟩,trivial⟩) (.s (.n3 (.c 7 ((b5w).lift kr kr a8G) (.n (.rn (.ch 1 b9Q (j5.put2 [0,1,2,3,4,5,6,7,8] a8G w9 b9Q (b5a 0 15 ((0,0,0,0):S0) (by first | omega | assumption | (simp; done) | (simp; omega) | exact kr | kernel_rfl | exact of_decide_eq_true kr) (by first | omega | assumption | (simp; done) | (simp; omega) | exact kr | kernel_rfl | exact of_decide_eq_true kr) (by first | omega | assumption | (simp; done) | (simp; omega) | exact kr | kernel_rfl | exact of_decide_eq_true kr)) (⟨rfl,⟨Ob.ren0 (Entry.z8 0 _),⟨rfl,⟨rfl,⟨Ob.ren0 (Key.z8 0 _),⟨rfl,⟨rfl,⟨rfl,⟨rfl,trivial⟩⟩⟩⟩⟩⟩⟩⟩⟩) (⟨rfl,⟨Ob.ren0 (Entry.z8 0 _),⟨rfl,⟨rfl,⟨Ob.ren0 (Key.z8 0 _),⟨rfl,⟨rfl,⟨rfl,⟨rfl,trivial⟩⟩⟩⟩⟩⟩⟩⟩⟩)) (.ch 3 b9P (j5.put2 [9,10,11,12,13,14,15,16,17,18,19,20] b9Q (sA 14 (List.map u7.row (tkM 1 0 15 0 (sv0 1)).2.1)) b9P (b7e 1 0 (sv0 1) (by first | omega | assumption | (simp; done) | (simp; omega) | exact kr | kernel_rfl | exact of_decide_eq_true kr)) rlB rlB) (.s (.ch 3 b9O (j5.pre (args:=[(j3 20),(iI 4),d7d]) (args':=[(j3 20),(iI 4),d7d]) (j5.put2 [9,10,11,12,13,14,15,16,17,18,19,20] b9P (sA 14 (List.map U4.row [U4.mk 4 (hdD 1 (tkM 1 0 15 0 (sv0 1)).1.d I6 (tkM 1 0 15 0 (sv0 1)).1.now).m])) b9O (b7d 1 0 (tkM 1 0 15 0 (sv0 1)).1 4 (by first | omega | assumption | (simp; done) | (simp; omega) | exact kr | kernel_rfl | exact of_decide_eq_true kr)) rlB rlB) ⟨AV.l5 _,AV.l5 _,⟨AV.l5 _,AV.l5 _,AV.l5 _,AV.l5 _,AV.l5 _,AV.l5 _,AV.l5 _,AV.l5 _,AV.l5 _,AV.l5 _,AV.l5 _,⟨rfl,rfl,.inl rfl⟩,⟨rfl,rfl,.inl rfl⟩,trivial⟩,trivial⟩) (.s (.ch 1 a8F (j5.put2 [9,10,11,12,13,14,15,16,17,18,19,20] b9O (sA 14 (List.map u7.row (tkM 1 0 1 15 (G7 1 0 (tkM 1 0 15 0 (sv0 1)).1 I6)).2.1)) a8F (b7c 1 0 (G7 1 0 (tkM 1 0 15 0 (sv0 1)).1 I6) (by first | omega | assumption | (simp; done) | (simp; omega) | exact kr | kernel_rfl | exact of_decide_eq_true kr)) rlB rlB) (.s (.u2 (.y 5 (.int .i64 ((List.length (List.map u7.row (tkM 1 0 15 0 (sv0 1)).2.1):Nat):Int)) (iN ((tkM 1 0 15 0 (sv0 1)).2.1.length)) (Yes.len _ _ _) (.u (.y 6 (bB ((((tkM 1 0 15 0 (sv0 1)).2.1.length:Nat):Int) == 1)) bT (Yes.b kr) (.u2 (.is 10 14 14 (List.map u7.row (tkM 1 0 15 0 (sv0 1)).2.1) 0 (u7.row (nth (tkM 1 0 15 0 (sv0 1)).2.1 0)) (N7.mk _ ow ow) (.u4 (.y 14 (bB ((nth (tkM 1 0 15 0 (sv0 1)).2.1 0).m.kind == 4)) bT (Yes.b kr) (.u2 (.is 18 14 14 (List.map u7.row (tkM 1 0 15 0 (sv0 1)).2.1) 0 (u7.row (nth (tkM 1 0 15 0 (sv0 1)).2.1 0)) (N7.mk _ ow ow) (.u3 (.y 21 (bB ((nth (tkM 1 0 15 0 (sv0 1)).2.1 0).to == 0)) bT (Yes.b kr) (.u2 (.y 25 (.int .i64 ((List.length (List.map U4.row [U4.mk 4 (hdD 1 (tkM 1 0 15 0 (sv0 1)).1.d I6 (tkM 1 0 15 0 (sv0 1)).1.now).m]):Nat):Int)) (iN ([U4.mk 4 (hdD 1 (tkM 1 0 15 0 (sv0 1)).1.d I6 (tkM 1 0 15 0 (sv0 1)).1.now).m].length)) (Yes.len _ _ _) (.u (.y 26 (bB ((([U4.mk 4 (hdD 1 (tkM 1 0 15 0 (sv0 1)).1.d I6 (tkM 1 0 15 0 (sv0 1)).1.now).m].length:Nat):Int) == 1)) bT (Yes.b kr) (.u2 (.is 30 14 14 (List.map U4.row [U4.mk 4 (hdD 1 (tkM 1 0 15 0 (sv0 1)).1.d I6 (tkM 1 0 15 0 (sv0 1)).1.now).m]) 0 (U4.row (nth [U4.mk 4 (hdD 1 (tkM 1 0 15 0 (sv0 1)).1.d I6 (tkM 1 0 15 0 (sv0 1)).1.now).m] 0)) (N7.mk _ ow (Nat.le_of_ble_eq_true kr)) (.u3 (.y 33 (bB ((nth [U4.mk 4 (hdD 1 (tkM 1 0 15 0 (sv0 1)).1.d I6 (tkM 1 0 15 0 (sv0 1)).1.now).m] 0).to == 4)) bT (Yes.b kr) (.u2 (.is 37 14 14 (List.map U4.row [U4.mk 4 (hdD 1 (tkM 1 0 15 0 (sv0 1)).1.d I6 (tkM 1 0 15 0 (sv0 1)).1.now).m]) 0 (U4.row (nth [U4.mk 4 (hdD 1 (tkM 1 0 15 0 (sv0 1)).1.d I6 (tkM 1 0 15 0 (sv0 1)).1.now).m] 0)) (N7.mk _ ow (Nat.le_of_ble_eq_true kr)) (.u4 (.y 41 (bB ((nth [U4.mk 4 (hdD 1 (tkM 1 0 15 0 (sv0 1)).1.d I6 (tkM 1 0 15 0 (sv0 1)).1.now).m] 0).m.kind == 2)) bT (Yes.b kr) (.u2 (.y 45 (.int .i64 ((List.length (List.map u7.row (tkM 1 0 1 15 (G7 1 0 (tkM 1 0 15 0 (sv0 1)).1 I6)).2.1):Nat):Int)) (iN ((tkM 1 0 1 15 (G7 1 0 (tkM 1 0 15 0 (sv0 1)).1 I6)).2.1.length)) (Yes.len _ _ _) (.u (.y 46 (bB ((((tkM 1 0 1 15 (G7 1 0 (tkM 1 0 15 0 (sv0 1)).1 I6)).2.1.length:Nat):Int) == 1)) bT (Yes.b kr) (.u2 (.is 50 14 14 (List.map u7.row (tkM 1 0 1 15 (G7 1 0 (tkM 1 0 15 0 (sv0 1)).1 I6)).2.1) 0 (u7.row (nth (tkM 1 0 1 15 (G7 1 0 (tkM 1 0 15 0 (sv0 1)).1 I6)).2.1 0)) (N7.mk _ ow ow) (.u4 (.y 54 (bB ((nth (tkM 1 0 1 15 (G7 1 0 (tkM 1 0 15 0 (sv0 1)).1 I6)).2.1 0).m.kind == 3)) bT (Yes.b kr) (.u2 (.is 58 14 14 (List.map u7.row (tkM 1 0 1 15 (G7 1 0 (tkM 1 0 15 0 (sv0 1)).1 I6)).2.1) 0 (u7.row (nth (tkM 1 0 1 15 (G7 1 0 (tkM 1 0 15 0 (sv0 1)).1 I6)).2.1 0)) (N7.mk _ ow ow) (.u4 (.y 62 (.int .i64 ((List.length (mC (nth (tkM 1 0 1 15 (G7 1 0 (tkM 1 0 15 0 (sv0 1)).1 I6)).2.1 0).m.cards):Nat):Int)) (iN ((nth (tkM 1 0 1 15 (G7 1 0 (tkM 1 0 15 0 (sv0 1)).1 I6)).2.1 0).m.cards.length)) (Yes.len _ _ _) (.u (.y 63 (bB ((((nth (tkM 1 0 1 15 (G7 1 0 (tkM 1 0 15 0 (sv0 1)).1 I6)).2.1 0).m.cards.length:Nat):Int) == 1)) bT (Yes.b kr) (.u2 (.c 67 (j5.put2 [9,10,11,12,13,14,15,16,17,18,19,20] a8F d0z a8F (c2g 1 0 (tkM 1 0 1 15 (G7 1 0 (tkM 1 0 15 0 (sv0 1)).1 I6)).1 ) rlB rlB) (.u (.y 68 (bB ((tkM 1 0 1 15 (G7 1 0 (tkM 1 0 15 0 (sv0 1)).1 I6)).1.now == 16)) bT (Yes.b kr) (.g (.h' [] (.q 0 bT)))))))))))))))))))))))))))))))))))))))))))))))))))))))))))))
attribute [local irreducible] E8 Key.eqb M7 N8 aJ bU
theorem rlG {τ:Nat->Nat} {o0 o1 o2 o3 o4 p0 p2:Ob} (h0:o0.ren τ=p0:=by rfl) (h1:AV.F3 0 o1.els=true:=by exact aB 0 _) (h2:o2.ren τ=p2:=by rfl) (h3:AV.F3 0 o3.els=true:=by exact j4.z8 0 _) (h4:AV.F3 0 o4.els=true:=by exact j4.z8 0 _):dA τ [o0,o1,o2,o3,o4] [p0,o1,p2,o3,o4]:=⟨h0,⟨Ob.ren0 h1,⟨h2,⟨Ob.ren0 h3,⟨Ob.ren0 h4,trivial⟩⟩⟩⟩⟩
theorem rlH {τ:Nat->Nat} {o0 o1 o2 o3 o4 o5 o6 o7 o8 o9 o10 o11 o12 p0 p2 p3 p5 p6 p8 p11 p12:Ob} (h0:o0.ren τ=p0:=by rfl) (h1:AV.F3 0 o1.els=true:=by exact Entry.z8 0 _) (h2:o2.ren τ=p2:=by rfl) (h3:o3.ren τ=p3:=by rfl) (h4:AV.F3 0 o4.els=true:=by exact Key.z8 0 _) (h5:o5.ren τ=p5:=by rfl) (h6:o6.ren τ=p6:=by rfl) (h7:AV.F3 0 o7.els=true:=by exact aB 0 _) (h8:o8.ren τ=p8:=by rfl) (h9:AV.F3 0 o9.els=true:=by exact j4.z8 0 _) (h10:AV.F3 0 o10.els=true:=by exact j4.z8 0 _) (h11:o11.ren τ=p11:=by rfl) (h12:o12.ren τ=p12:=by rfl):dA τ [o0,o1,o2,o3,o4,o5,o6,o7,o8,o9,o10,o11,o12] [p0,o1,p2,p3,o4,p5,p6,o7,p8,o9,o10,p11,p12]:=⟨h0,⟨Ob.ren0 h1,⟨h2,⟨h3,⟨Ob.ren0 h4,⟨h5,⟨h6,⟨Ob.ren0 h7,⟨h8,⟨Ob.ren0 h9,⟨Ob.ren0 h10,⟨h11,⟨h12,trivial⟩⟩⟩⟩⟩⟩⟩⟩⟩⟩⟩⟩⟩
def b7l:Ann:={ fin:=some 0 }
@[simp] abbrev dH (a b:Int):=(sA 1 [[(iI a)],[(iI b)]])
theorem b3E (p1 p2:Int) (hp:¬ p1=p2):AC 102 [(dH p1 p2),(iI p1)] [] (z_,[]) :=
 x9 (fn:=Tryz.f102) (ann:=b7l) (Has.o Tryz.func102) (.r (.s (.g (.roll 3 (.r (.ru (.s (.g (.two (p1 == p1) (fun h1 h1'=>(.qr 0 z_ rP)) (fun h1 h1'=>(.r (.s (.ru (.s (.g (.two (p1 == p2) (fun h2 h2'=>(.qr 0 (iI 1) rP)) (fun h2 h2'=>(.r (.s (.g (.n (.qr 0 (iI (-1)) rP))))))))))))))))))))))
theorem b7k (p1 p2:Int) (hp:¬ p1=p2):AC 102 [(sA 1 (List.map y5 [p1,p2])),(iI p1)] [] (z_,[]):=b3E p1 p2 hp
def b7j:Ann:={ fin:=some 0 }
theorem b3D (p1 p2:Int) (hp:¬ p1=p2):AC 102 [(dH p1 p2),(iI p2)] [] ((iI 1),[]) :=
 x9 (fn:=Tryz.f102) (ann:=b7j) (Has.o Tryz.func102) (.r (.s (.g (.roll 3 (.r (.ru (.s (.g (.two (p2 == p1) (fun h1 h1'=>(.qr 0 z_ rP)) (fun h1 h1'=>(.r (.s (.ru (.s (.g (.two (p2 == p2) (fun h2 h2'=>(.qr 0 (iI 1) rP)) (fun h2 h2'=>(.r (.s (.g (.n (.qr 0 (iI (-1)) rP))))))))))))))))))))))
theorem b7i (p1 p2:Int) (hp:¬ p1=p2):AC 102 [(sA 1 (List.map y5 [p1,p2])),(iI p2)] [] ((iI 1),[]):=b3D p1 p2 hp
def b7p:Ann:={ fin:=some 0 }
theorem b3F (p x:Int) (h:¬ p=x):AC 102 [(sA 1 [[(iI p)]]),(iI x)] [] ((iI (-1)),[]) :=
 x9 (fn:=Tryz.f102) (ann:=b7p) (Has.o Tryz.func102) (.r (.s (.g (.roll 2 (.r (.ru (.s (.g (.two (x == p) (fun h1 h1'=>(.qr 0 z_ rP)) (fun h1 h1'=>(.r (.s (.g (.n (.qr 0 (iI (-1)) rP)))))))))))))))
theorem b7o (p x:Int) (h:¬ p=x):AC 102 [(sA 1 (List.map y5 [p])),(iI x)] [] ((iI (-1)),[]):=b3F p x h
def b8g:Ann:={ fin:=some 0 }
theorem b4a (p x:Int) (h:¬ p=x):AC 50 [(a1v p),(iI x)] [] (bF,[]) :=
 x9 (fn:=Tryz.f50) (ann:=b8g) (Has.o Tryz.func50) (.r (.s (.c 2 ((b7o p x oa).lift kr kr []) (.q 0 bF))))
def c2Z:Ann:={ refs:=[5],base:=5,fin:=some 5 }
@[simp] abbrev a6H (a:Int):=[[(d9 1 1 1 2),(d9 2 0 1 2),(iI a)]]
@[simp] abbrev gH (a:Int):Ob:=(o_ 0 3 (a6H a))
@[simp] abbrev a1r (a:Nat) (b:l9C):=(d9 4 a 9 b.length)
@[simp] abbrev jD (a:Nat) (b:l9C) (c:Nat) (d:l9C):Ob:=(o_ 0 1 [[(xM a b)],[(a1r c d)]])
@[simp] abbrev aG (a:Int) (b:Int) (c:Int) (d:Nat) (e:l9C) (f:Nat) (g:l9C):Heap:=[gH a,(o_ 1 1 (List.map y5 [b,c])),jD d e f g,(o_ d 9 (mC e)),(o_ f 9 (mC g))]
abbrev d9c (a:Int) (b:Int) (c:Int) (d:Nat) (e:l9C) (f:j4) (g:Nat) (h:l9C):Heap:=[gH a,(o_ 1 1 (List.map y5 [b,c])),(o_ 0 1 [[(a6M d e f)],[(a1r g h)]]),a2A d e f,(o_ g 9 (mC h))]
abbrev d5c (a:Nat) (b:l9C) (c:j4):Ob:=(o_ a 9 (mC (N8 b c)))
abbrev c1o (a:Int) (b:Int) (c:Int) (d:Nat) (e:l9C) (f:Nat) (g:l9C) (h:j4):Heap:=[gH a,(o_ 1 1 (List.map y5 [b,c])),jD d e f g,d5c d e h,(o_ f 9 (mC g))]
abbrev d2l (a:Int) (b:Int) (c:Int) (d:Nat) (e:l9C) (f:Nat) (g:l9C) (h:j4):Heap:=[gH a,(o_ 1 1 (List.map y5 [b,c])),jD d e f g,a2A d e h,(o_ f 9 (mC g))]
theorem b6A (p1 p2 lost:Int) (a:l9C) (ga:Nat) (b:l9C) (gb:Nat) (c:j4) (hl:a.length < 1000) (h:¬ 16 < (N8 a c).length+1):AC 65 [(j3 0),z_,(p9 (j4.row c))] (aG lost p1 p2 ga a gb b) (F4,(d9c lost p1 p2 ga a c gb b)):=by
 have hf:=jG a c
 exact x9 (fn:=Tryz.f65) (ann:=c2Z) (Has.o Tryz.func65) (.r (.s (.ch 8 (c1o lost p1 p2 ga a gb b c) (j5.put2 [3] (aG lost p1 p2 ga a gb b) (a1w ga a c) (c1o lost p1 p2 ga a gb b c) (oW c a ga a.length oa oa) (⟨Ob.ren0 (j4.z8 0 _),trivial⟩) (⟨Ob.ren0 (j4.z8 0 _),trivial⟩)) (.s (.ap 3 30 (a1w ga a c) (a6L c) (a6M ga a c) (d2l lost p1 p2 ga a gb b c) (I4 (row:=j4.row) (l:=(N8 a c)) (x:=c) (T:=tt) (e:=50) (te:=bZ) (z:=1) (b:=24) (y:=[.sl .nil 0 []]) kr kr rfl D8 D8 kr Z0 rfl rfl gV) (.s (.y 2 (a6K a c) bF (Yes.b a9j) (.rn (.g (.h' (d9c lost p1 p2 ga a c gb b) (.q 5 F4)))))))))))
def c2Y:Ann:={ refs:=[5],base:=5,fin:=some 5 }
abbrev d5b (a:Nat) (b:l9C) (c:j4):Ob:=(o_ (a+1) 9 (mC (aJ 1 ((N8 b c)++[c]))))
abbrev d9b (a:Int) (b:Int) (c:Int) (d:Nat) (e:l9C) (f:Nat) (g:l9C) (h:j4):Heap:=[gH a,(o_ 1 1 (List.map y5 [b,c])),jD d e f g,d5b d e h,(o_ f 9 (mC g))]
abbrev b8U (a:Int):=[[(d9 1 1 1 2),(d9 2 0 1 2),(iI (a6D a))]]
theorem b6z (p1 p2 lost:Int) (a:l9C) (ga:Nat) (b:l9C) (gb:Nat) (c:j4) (hl:a.length < 1000) (h:16 < (N8 a c).length+1):AC 65 [(j3 0),z_,(p9 (j4.row c))] (aG lost p1 p2 ga a gb b) (F4,[(o_ 0 3 (b8U lost)),(o_ 1 1 (List.map y5 [p1,p2])),(o_ 0 1 [[(d9 3 (ga+1) 9 ((N8 a c).length+1 - 1))],[(a1r gb b)]]),(o_ (ga+1) 9 (mC (aJ 1 ((N8 a c)++[c])))),(o_ gb 9 (mC b))]):=by
 have hf:=jG a c
 exact x9 (fn:=Tryz.f65) (ann:=c2Y) (Has.o Tryz.func65) (.r (.s (.ch 8 (c1o lost p1 p2 ga a gb b c) (j5.put2 [3] (aG lost p1 p2 ga a gb b) (a1w ga a c) (c1o lost p1 p2 ga a gb b c) (oW c a ga a.length oa oa) (⟨Ob.ren0 (j4.z8 0 _),trivial⟩) (⟨Ob.ren0 (j4.z8 0 _),trivial⟩)) (.s (.ap 3 30 (a1w ga a c) (a6L c) (a6M ga a c) (d2l lost p1 p2 ga a gb b c) (I4 (row:=j4.row) (l:=(N8 a c)) (x:=c) (T:=tt) (e:=50) (te:=bZ) (z:=1) (b:=24) (y:=[.sl .nil 0 []]) kr kr rfl D8 D8 kr Z0 rfl rfl gV) (.s (.y 2 (a6K a c) bT (Yes.b a9k) (.ru (.ch 1 (d9b lost p1 p2 ga a gb b c) (j5.put2 [3] (d2l lost p1 p2 ga a gb b c) (b9p ga a c) (d9b lost p1 p2 ga a gb b c) (lY ((N8 a c)++[c]) (ga+1) 1 ((N8 a c).length+1) oa oa oa) (⟨Ob.ren0 (j4.z8 0 _),trivial⟩) (⟨Ob.ren0 (j4.z8 0 _),trivial⟩)) (.s (.s (.g (.h' [(o_ 0 3 (b8U lost)),(o_ 1 1 (List.map y5 [p1,p2])),(o_ 0 1 [[(b9p ga a c)],[(a1r gb b)]]),(o_ (ga+1) 9 (mC (aJ 1 ((N8 a c)++[c])))),(o_ gb 9 (mC b))] (.q 5 F4))))))))))))))
theorem c2X (p1 p2 lost:Int) (a:l9C) (ga:Nat) (b:l9C) (gb:Nat) (c:j4) (hl:a.length < 1000):AC 65 [(j3 0),z_,(p9 (j4.row c))] [(o_ 0 3 [[(d9 1 1 1 2),(d9 2 0 1 2),(iI lost)]]),(o_ 1 1 (List.map y5 [p1,p2])),(o_ 0 1 [[(d9 3 ga 9 a.length)],[(d9 4 gb 9 b.length)]]),(o_ ga 9 (mC a)),(o_ gb 9 (mC b))] (F4,[(o_ 0 3 [[(d9 1 1 1 2),(d9 2 0 1 2),(iI (bU a c lost))]]),(o_ 1 1 (List.map y5 [p1,p2])),(o_ 0 1 [[(d9 3 (ga+1) 9 (U1 a c).length)],[(d9 4 gb 9 b.length)]]),(o_ (ga+1) 9 (mC (U1 a c))),(o_ gb 9 (mC b))]):=by
 rw [show List.length (U1 a c)=_ from uS a c]
 with_unfolding_all
  unfold U1 bU
  by_cases h:16 < (N8 a c).length+1
  · rw [if_pos h,if_pos h,if_pos h]; exact b6z p1 p2 lost a ga b gb c hl h
  · rw [if_neg h,if_neg h,if_neg h]; exact b6A p1 p2 lost a ga b gb c hl h
def c2W:Ann:={ refs:=[5],base:=5,fin:=some 5 }
abbrev d9a (a:Int) (b:Int) (c:Int) (d:Nat) (e:l9C) (f:Nat) (g:l9C) (h:j4):Heap:=[gH a,(o_ 1 1 (List.map y5 [b,c])),(o_ 0 1 [[(xM d e)],[(d9 4 (f+1) 9 ((N8 g h).length+1))]]),(o_ d 9 (mC e)),a2A f g h]
abbrev c1n (a:Int) (b:Int) (c:Int) (d:Nat) (e:l9C) (f:Nat) (g:l9C) (h:j4):Heap:=[gH a,(o_ 1 1 (List.map y5 [b,c])),jD d e f g,(o_ d 9 (mC e)),d5c f g h]
abbrev d2k (a:Int) (b:Int) (c:Int) (d:Nat) (e:l9C) (f:Nat) (g:l9C) (h:j4):Heap:=[gH a,(o_ 1 1 (List.map y5 [b,c])),jD d e f g,(o_ d 9 (mC e)),a2A f g h]
theorem b6y (p1 p2 lost:Int) (a:l9C) (ga:Nat) (b:l9C) (gb:Nat) (c:j4) (hl:b.length < 1000) (h:¬ 16 < (N8 b c).length+1):AC 65 [(j3 0),(iI 1),(p9 (j4.row c))] (aG lost p1 p2 ga a gb b) (F4,(d9a lost p1 p2 ga a gb b c)):=by
 have hf:=jG b c
 exact x9 (fn:=Tryz.f65) (ann:=c2W) (Has.o Tryz.func65) (.r (.s (.ch 8 (c1n lost p1 p2 ga a gb b c) (j5.put2 [4] (aG lost p1 p2 ga a gb b) (d9 4 gb 9 (N8 b c).length) (c1n lost p1 p2 ga a gb b c) (oW c b gb b.length oa oa) (⟨Ob.ren0 (j4.z8 0 _),trivial⟩) (⟨Ob.ren0 (j4.z8 0 _),trivial⟩)) (.s (.ap 3 30 (d9 4 gb 9 (N8 b c).length) (a6L c) (d9 4 (gb+1) 9 ((N8 b c).length+1)) (d2k lost p1 p2 ga a gb b c) (I4 (row:=j4.row) (l:=(N8 b c)) (x:=c) (T:=tt) (e:=50) (te:=bZ) (z:=1) (b:=24) (y:=[.sl .nil 0 []]) kr kr rfl D8 D8 kr Z0 rfl rfl gV) (.s (.y 2 (a6K b c) bF (Yes.b a9j) (.rn (.g (.h' (d9a lost p1 p2 ga a gb b c) (.q 5 F4)))))))))))
def c2V:Ann:={ refs:=[5],base:=5,fin:=some 5 }
abbrev d8Z (a:Int) (b:Int) (c:Int) (d:Nat) (e:l9C) (f:Nat) (g:l9C) (h:j4):Heap:=[gH a,(o_ 1 1 (List.map y5 [b,c])),jD d e f g,(o_ d 9 (mC e)),d5b f g h]
theorem b6x (p1 p2 lost:Int) (a:l9C) (ga:Nat) (b:l9C) (gb:Nat) (c:j4) (hl:b.length < 1000) (h:16 < (N8 b c).length+1):AC 65 [(j3 0),(iI 1),(p9 (j4.row c))] (aG lost p1 p2 ga a gb b) (F4,[(o_ 0 3 (b8U lost)),(o_ 1 1 (List.map y5 [p1,p2])),(o_ 0 1 [[(xM ga a)],[(d9 4 (gb+1) 9 ((N8 b c).length+1 - 1))]]),(o_ ga 9 (mC a)),(o_ (gb+1) 9 (mC (aJ 1 ((N8 b c)++[c]))))]):=by
 have hf:=jG b c
 exact x9 (fn:=Tryz.f65) (ann:=c2V) (Has.o Tryz.func65) (.r (.s (.ch 8 (c1n lost p1 p2 ga a gb b c) (j5.put2 [4] (aG lost p1 p2 ga a gb b) (d9 4 gb 9 (N8 b c).length) (c1n lost p1 p2 ga a gb b c) (oW c b gb b.length oa oa) (⟨Ob.ren0 (j4.z8 0 _),trivial⟩) (⟨Ob.ren0 (j4.z8 0 _),trivial⟩)) (.s (.ap 3 30 (d9 4 gb 9 (N8 b c).length) (a6L c) (d9 4 (gb+1) 9 ((N8 b c).length+1)) (d2k lost p1 p2 ga a gb b c) (I4 (row:=j4.row) (l:=(N8 b c)) (x:=c) (T:=tt) (e:=50) (te:=bZ) (z:=1) (b:=24) (y:=[.sl .nil 0 []]) kr kr rfl D8 D8 kr Z0 rfl rfl gV) (.s (.y 2 (a6K b c) bT (Yes.b a9k) (.ru (.ch 1 (d8Z lost p1 p2 ga a gb b c) (j5.put2 [4] (d2k lost p1 p2 ga a gb b c) (d9 4 (gb+1) 9 (((N8 b c).length+1) - 1)) (d8Z lost p1 p2 ga a gb b c) (lY ((N8 b c)++[c]) (gb+1) 1 ((N8 b c).length+1) oa oa oa) (⟨Ob.ren0 (j4.z8 0 _),trivial⟩) (⟨Ob.ren0 (j4.z8 0 _),trivial⟩)) (.s (.s (.g (.h' [(o_ 0 3 (b8U lost)),(o_ 1 1 (List.map y5 [p1,p2])),(o_ 0 1 [[(xM ga a)],[(d9 4 (gb+1) 9 (((N8 b c).length+1) - 1))]]),(o_ ga 9 (mC a)),(o_ (gb+1) 9 (mC (aJ 1 ((N8 b c)++[c]))))] (.q 5 F4))))))))))))))
theorem c2U (p1 p2 lost:Int) (a:l9C) (ga:Nat) (b:l9C) (gb:Nat) (c:j4) (hl:b.length < 1000):AC 65 [(j3 0),(iI 1),(p9 (j4.row c))] [(o_ 0 3 [[(d9 1 1 1 2),(d9 2 0 1 2),(iI lost)]]),(o_ 1 1 (List.map y5 [p1,p2])),(o_ 0 1 [[(d9 3 ga 9 a.length)],[(d9 4 gb 9 b.length)]]),(o_ ga 9 (mC a)),(o_ gb 9 (mC b))] (F4,[(o_ 0 3 [[(d9 1 1 1 2),(d9 2 0 1 2),(iI (bU b c lost))]]),(o_ 1 1 (List.map y5 [p1,p2])),(o_ 0 1 [[(d9 3 ga 9 a.length)],[(d9 4 (gb+1) 9 (U1 b c).length)]]),(o_ ga 9 (mC a)),(o_ (gb+1) 9 (mC (U1 b c)))]):=by
 rw [show List.length (U1 b c)=_ from uS b c]
 with_unfolding_all
  unfold U1 bU
  by_cases h:16 < (N8 b c).length+1
  · rw [if_pos h,if_pos h,if_pos h]; exact b6x p1 p2 lost a ga b gb c hl h
  · rw [if_neg h,if_neg h,if_neg h]; exact b6y p1 p2 lost a ga b gb c hl h
def a3p:Ann:={ gha:=[(8,.cut 5)],base:=5,fin:=some 5,live:=[(1,[0,7,8,9])],out:=[(1,[])] }
@[simp] abbrev d5a (a:l9C) (b:l9C) (c:Nat) (d:l9C) (e:Int):Ob:=(o_ 0 3 [[(d9 1 1 1 2),(d9 2 0 1 2),(iI (bU a (nth b c) (bU d (nth b c) e)))]])
@[simp] abbrev d4Z (a:Nat) (b:l9C) (c:l9C) (d:Nat) (e:Nat) (f:l9C):Ob:=(o_ 0 1 [[(d9 3 (a+1) 9 (U1 b (nth c d)).length)],[(d9 4 (e+1) 9 (U1 f (nth c d)).length)]])
@[simp] abbrev a5X (a:Nat) (b:l9C) (c:l9C) (d:Nat):Ob:=(o_ (a+1) 9 (mC (U1 b (nth c d))))
@[simp] abbrev d5k (a:l9C) (b:l9C) (c:Nat) (d:l9C) (e:Int) (f:Int) (g:Int) (h:Nat) (i:Nat):Heap:=[d5a a b c d e,(o_ 1 1 (List.map y5 [f,g])),d4Z h d b c i a,a5X h d b c,a5X i a b c]
@[simp] abbrev a5Y (a:l9C) (b:l9C) (c:Nat) (d:Int) (e:Int) (f:Int) (g:Nat) (h:Nat) (i:l9C):Heap:=[(o_ 0 3 [[(d9 1 1 1 2),(d9 2 0 1 2),(iI (bU a (nth b c) d))]]),(o_ 1 1 (List.map y5 [e,f])),(o_ 0 1 [[(d9 3 (g+1) 9 (U1 a (nth b c)).length)],[(a1r h i)]]),a5X g a b c,(o_ h 9 (mC i)),(o_ 0 9 [(j4.row (nth b c))])]
@[simp] abbrev d5j (a:Int) (b:Int) (c:Int) (d:Nat) (e:l9C) (f:Nat) (g:l9C) (h:l9C) (i:Nat):Heap:=[gH a,(o_ 1 1 (List.map y5 [b,c])),jD d e f g,(o_ d 9 (mC e)),(o_ f 9 (mC g)),(o_ 0 9 [(j4.row (nth h i))])]
@[simp] abbrev a9f (a:l9C) (b:l9C) (c:Nat) (d:l9C) (e:Int) (f:Int) (g:Int) (h:Nat) (i:Nat):Heap:=[d5a a b c d e,(o_ 1 1 (List.map y5 [f,g])),d4Z h d b c i a,a5X h d b c,a5X i a b c,(o_ 0 9 [(j4.row (nth b c))])]
@[simp] abbrev d0y :=(C8 a3p Tryz.f32 0)
theorem a7v (p1:Int) (p2:Int) (cs:l9C) (a:l9C) (ga:Nat) (b:l9C) (gb:Nat) (lost:Int) (i:Nat) (hcs:cs.length < 100) (hla:a.length<=100+i) (hlb:b.length<=100+i) (hle_:i<=cs.length) {eX:Ex} {FX:Fr} {HX:Heap} (k1:(l9 i cs.length)=true->l6 d0y (some [0,7,8,9]) (some []) (mkF 27 [(0,(j3 0)),(7,(sA 9 (mC cs))),(8,(iN cs.length)),(9,(iN (i+1)))]) (d5k b cs i a lost p1 p2 ga gb) eX FX HX) (k2:(l9 i cs.length)=false->((.exit 0:Ex),(mkF 27 []),(aG lost p1 p2 ga a gb b))=(eX,FX,HX)):l6 d0y (some [0,7,8,9]) (some []) (a8N cs i) (aG lost p1 p2 ga a gb b) eX FX HX:=by
 have ha:=lU a (nth cs i)
 have hb:=lU b (nth cs i)
 exact J7 (.r (.g (.two (l9 i cs.length) (fun h1 h1'=>(.r (.h' [(o_ 0 3 (a6H lost)),(o_ 1 1 (List.map y5 [p1,p2])),(o_ 0 1 [[(xM ga a)],[(a1r gb b)]]),(o_ ga 9 (mC a)),(o_ gb 9 (mC b)),(o_ 0 9 [[e_,e_,z_,z_,z_,z_,z_,z_,bF]])] (.is 0 9 9 (mC cs) (i:Int) (j4.row (nth cs i)) (N7.mk _ ow ow) (.s (.g (.roll 3 (.r (.ru (.s (.t 3 F4 (a5Y a cs i lost p1 p2 ga gb b) (j5.put2 [0,1,2,3,4] (d5j lost p1 p2 ga a gb b cs i) F4 (a5Y a cs i lost p1 p2 ga gb b) (c2X _ _ lost a ga b gb (nth cs i) oa) rlG rlG:AC 65 [(j3 0),z_,(cp_ cs i)] (d5j lost p1 p2 ga a gb b cs i) (F4,(a5Y a cs i lost p1 p2 ga gb b))) (.s (.s (.ru (.s (.t 3 F4 (a9f b cs i a lost p1 p2 ga gb) (j5.put2 [0,1,2,3,4] (a5Y a cs i lost p1 p2 ga gb b) F4 (a9f b cs i a lost p1 p2 ga gb) (c2U _ _ (bU a (nth cs i) lost) (U1 a (nth cs i)) (ga+1) b gb (nth cs i) oa) rlG rlG:AC 65 [(j3 0),(iI 1),(cp_ cs i)] (a5Y a cs i lost p1 p2 ga gb b) (F4,(a9f b cs i a lost p1 p2 ga gb))) (.s (.s (.rn (.h' (a9f b cs i a lost p1 p2 ga gb) (.y 0 (.int .i64 (cb_ i)) (iN (i+1)) Yes.o (.h' (d5k b cs i a lost p1 p2 ga gb) (.b 5 (.g (.l (k1 h1)))))))))))))))))))))))))) (fun h1 h1'=>(.l (k2 h1))))))
def a0X (p1:Int) (p2:Int) (cs:List j4) (i:Nat) (s:(List j4) × Nat × (List j4) × Nat × Int):(List j4) × Nat × (List j4) × Nat × Int:=(U1 s.1 (nth cs i),(s.2.1+1),U1 s.2.2.1 (nth cs i),(s.2.2.2.1+1),(bU s.2.2.1 (nth cs i) (bU s.1 (nth cs i) s.2.2.2.2)))
theorem c2Q (p1:Int) (p2:Int) (cs:l9C) (hcs:cs.length < 100)  (r_:Nat):∀ (a:l9C) (ga:Nat) (b:l9C) (gb:Nat) (lost:Int) (i:Nat) (sF:l9C × Nat × l9C × Nat × Int),i+r_=cs.length->a.length<=100+i->b.length<=100+i->sF=iter (a0X p1 p2 cs) r_ i (a,ga,b,gb,lost) ->
 l6 (C8 a3p Tryz.f32 0) (some [0,7,8,9]) (some []) (a8N cs i) (aG lost p1 p2 ga a gb b) (.exit 0) (mkF 27 []) [(o_ 0 3 [[(d9 1 1 1 2),(d9 2 0 1 2),(iI sF.2.2.2.2)]]),(o_ 1 1 (List.map y5 [p1,p2])),(o_ 0 1 [[(d9 3 sF.2.1 9 sF.1.length)],[(d9 4 sF.2.2.2.1 9 sF.2.2.1.length)]]),(o_ sF.2.1 9 (mC sF.1)),(o_ sF.2.2.2.1 9 (mC sF.2.2.1))]:=by
 induction r_ with
 | zero =>
  intro a ga b gb lost i sF hi_ hla hlb  hF
  obtain rfl:cs.length=i:=by omega
  have e_:sF=(a,ga,b,gb,lost):=hF
  refine a7v p1 p2 cs a ga b gb lost cs.length hcs hla hlb J8 (fun h=>by simp at h <;> omega) (fun _=>?_)
  first | done | rfl | (rw [e_]; done) | (rw [e_]; rfl)
 | succ r_ ih =>
  intro a ga b gb lost i sF hi_ hla hlb  hF
  refine a7v p1 p2 cs a ga b gb lost i hcs hla hlb ow (fun h1=>?_) (fun h=>by simp at h <;> omega)
  · exact ih (U1 a (nth cs i)) (ga+1) (U1 b (nth cs i)) (gb+1) (bU b (nth cs i) (bU a (nth cs i) lost)) (i+1) sF ow (by have ha:=lU a (nth cs i); have hb:=lU b (nth cs i); first | omega | assumption | (simp; done) | (simp; omega) | (simp [*]; done) | (simp [*]; omega)) (by have ha:=lU a (nth cs i); have hb:=lU b (nth cs i); first | omega | assumption | (simp; done) | (simp; omega) | (simp [*]; done) | (simp [*]; omega))  (by rw [hF] <;> simp only [iter,a0X,if_true,Bool.false_eq_true,if_false])
abbrev QT:=List j4 × Nat × List j4 × Nat × Int
def q2A (cs:List j4) (t:QT):QT:=iter (a0X 0 0 cs) cs.length 0 t
theorem a2n (cs:l9C) (t:QT) (h1:t.1.length<=16) (h2:t.2.2.1.length<=16):(q2A cs t).1.length<=16/\(q2A cs t).2.2.1.length<=16 :=
 oD (a0X 0 0 cs) (fun i s=>s.1.length<=16/\s.2.2.1.length<=16) cs.length (fun i s _ hs=>⟨a6l _ hs.1,a6l _ hs.2⟩) cs.length 0 t ow ⟨h1,h2⟩
theorem d6C (p1 p2:Int) (cs:l9C) (t:QT):q2A cs t=iter (a0X p1 p2 cs) cs.length 0 t:=rfl
abbrev d5i (a:l9C) (b:l9C) (c:Nat) (d:l9C) (e:Nat) (f:Int) (g:Int) (h:Int):Heap:=[(o_ 0 3 [[(d9 1 1 1 2),(d9 2 0 1 2),(iI (q2A a (b,c,d,e,f)).2.2.2.2)]]),(o_ 1 1 (List.map y5 [g,h])),(o_ 0 1 [[(d9 3 (q2A a (b,c,d,e,f)).2.1 9 (List.length (q2A a (b,c,d,e,f)).1))],[(d9 4 (q2A a (b,c,d,e,f)).2.2.2.1 9 (List.length (q2A a (b,c,d,e,f)).2.2.1))]]),(o_ ((q2A a (b,c,d,e,f)).2.1) 9 (mC (q2A a (b,c,d,e,f)).1)),(o_ ((q2A a (b,c,d,e,f)).2.2.2.1) 9 (mC (q2A a (b,c,d,e,f)).2.2.1))]
theorem a2P (cs:l9C) (p1 p2 lost:Int) (a:l9C) (ga:Nat) (b:l9C) (gb:Nat) (hla:a.length<=16) (hlb:b.length<=16) (hcs:cs.length < 100):AC 32 [(j3 0),(sA 9 (mC cs))] (aG lost p1 p2 ga a gb b) (F4,(d5i cs a ga b gb lost p1 p2)) :=
 x9 (fn:=Tryz.f32) (ann:=a3p) (Has.o Tryz.func32) (.r (.y 1 (.int .i64 ((List.length (mC cs):Nat):Int)) (iN cs.length) (Yes.len _ _ _) (.g (.loop (mkF 27 []) (show l6 d0y (some [0,7,8,9]) (some []) (mkF 27 [(0,(j3 0)),(7,(sA 9 (mC cs))),(8,(iN cs.length)),(9,z_)]) (aG lost p1 p2 ga a gb b) (.exit 0) (mkF 27 []) (d5i cs a ga b gb lost p1 p2) from (c2Q p1 p2 cs hcs cs.length a ga b gb lost 0 (q2A cs (a,ga,b,gb,lost)) ow ow ow (d6C p1 p2 cs _))) (.q 5 F4)))))
def b6o:Ann:={ gha:=[(5,.frz 7)],base:=5,fin:=some 5 }
abbrev d4Y (a:l9C):Ob:=(o_ 0 9 (mC (List.take (min a.length 4) a)))
abbrev d5h (a:Int) (b:Int) (c:Int) (d:Nat) (e:l9C) (f:Nat) (g:l9C):Heap:=[gH a,(o_ 1 1 (List.map y5 [b,c])),jD d e f g,(o_ d 9 (mC e)),(o_ f 9 (mC g)),d4Y e]
abbrev c7B (a:Nat) (b:l9C):Ob:=(o_ a 9 (mC (aJ (min b.length 4) b)))
abbrev c1r (a:Int) (b:Int) (c:Int) (d:Nat) (e:l9C) (f:Nat) (g:l9C):Heap:=[gH a,(o_ 1 1 (List.map y5 [b,c])),jD d e f g,c7B d e,(o_ f 9 (mC g)),(o_ 1 9 [])]
abbrev d5g (a:Int) (b:Int) (c:Int) (d:Nat) (e:l9C) (f:Nat) (g:l9C):Heap:=[gH a,(o_ 1 1 (List.map y5 [b,c])),jD d e f g,(o_ d 9 (mC e)),(o_ f 9 (mC g)),(o_ 1 9 [])]
abbrev a3N (a b:Int):=(sA 1 (List.map y5 [a,b]))
theorem b3m (p1 p2 lost:Int) (a:l9C) (ga:Nat) (b:l9C) (gb:Nat) (hp:¬ p1=p2) (hl:a.length < 1000):AC 79 [(j3 0),(iI p1)] (aG lost p1 p2 ga a gb b) ((sA 9 (mC (List.take (min a.length 4) a))),[(o_ 0 3 (a6H lost)),(o_ 1 1 (List.map y5 [p1,p2])),(o_ 0 1 [[(d9 3 ga 9 (a.length - (min a.length 4)))],[(a1r gb b)]]),(o_ ga 9 (mC (aJ (min a.length 4) a))),(o_ gb 9 (mC b))]) :=
 x9 (fn:=Tryz.f79) (ann:=b6o) (Has.o Tryz.func79) (.r (.s (.t 5 z_ (aG lost p1 p2 ga a gb b) (j5.borrow (args:=[(a3N p1 p2),(iI p1)]) (args':=[(d9 1 1 1 2),(iI p1)]) (H:=(aG lost p1 p2 ga a gb b)) (b7k p1 _ oa) rfl (show Brs (aG lost p1 p2 ga a gb b) [(d9 1 1 1 2),(iI p1)] [(a3N p1 p2),(iI p1)] from ⟨Br.osl (G5 (room:=none) kr uG) (aB _ _),Br.same kr,trivial⟩):AC 102 [(d9 1 1 1 2),(iI p1)] (aG lost p1 p2 ga a gb b) (z_,(aG lost p1 p2 ga a gb b))) (.s (.rn (.y 8 (.int .i64 (if 4 < ((a.length:Nat):Int) then 4 else ((a.length:Nat):Int))) (iN (min a.length 4)) (Yes.int yv_) (.s (.so 8 3 ga 9 0 a.length 0 ((min a.length 4:Nat):Int) (a6J ga a) (P7 (l:=0) (h:=min a.length 4) om om om om om om) (.ch 9 (d5h lost p1 p2 ga a gb b) (j5.iC (args:=[(a0l a)]) (args':=[(a6J ga a)]) (H:=(aG lost p1 p2 ga a gb b)) (kG (List.take (min a.length 4) a) oa) (gW (fun _=>rfl) _) (show Brs (aG lost p1 p2 ga a gb b) [(a6J ga a)] [(a0l a)] from ⟨Br.osl (wX (room:=none) kr c7I) (j4.z8 _ _),trivial⟩)) (.w' 7 (mC (List.take (min a.length 4) a)) (And.intro (G5 (room:=none) kr om) (j4.z8 _ _):I5 (d5h lost p1 p2 ga a gb b) 9 (d9 5 0 9 (List.take (min a.length 4) a).length)=some (mC (List.take (min a.length 4) a))/\AV.F3 0 (mC (List.take (min a.length 4) a))=true) (.s (.ch 13 (c1r lost p1 p2 ga a gb b) (j5.put2 [3] (d5g lost p1 p2 ga a gb b) (b9o ga a) (c1r lost p1 p2 ga a gb b) (lY a ga (min a.length 4) a.length oa oa oa) (⟨Ob.ren0 (j4.z8 0 _),trivial⟩) (⟨Ob.ren0 (j4.z8 0 _),trivial⟩)) (.rd (d9 2 0 1 2) (c1r lost p1 p2 ga a gb b) (.s (.g (.h' [(o_ 0 3 (a6H lost)),(o_ 1 1 (List.map y5 [p1,p2])),(o_ 0 1 [[(b9o ga a)],[(a1r gb b)]]),(o_ ga 9 (mC (aJ (min a.length 4) a))),(o_ gb 9 (mC b))] (.q 5 (a0l a))))))))))))))))))
theorem sP (p1 p2 lost:Int) (a:l9C) (ga:Nat) (b:l9C) (gb:Nat) (hp:¬ p1=p2) (hl:a.length < 1000):AC 79 [(j3 0),(iI p1)] [(o_ 0 3 [[(d9 1 1 1 2),(d9 2 0 1 2),(iI lost)]]),(o_ 1 1 (List.map y5 [p1,p2])),(o_ 0 1 [[(d9 3 ga 9 a.length)],[(d9 4 gb 9 b.length)]]),(o_ ga 9 (mC a)),(o_ gb 9 (mC b))] ((sA 9 (mC (E8 a))),[(o_ 0 3 [[(d9 1 1 1 2),(d9 2 0 1 2),(iI lost)]]),(o_ 1 1 (List.map y5 [p1,p2])),(o_ 0 1 [[(d9 3 ga 9 (M7 a).length)],[(d9 4 gb 9 b.length)]]),(o_ ga 9 (mC (M7 a))),(o_ gb 9 (mC b))]):=by
 with_unfolding_all
  unfold M7 E8
  rw [show List.length (aJ (min a.length 4) a)=_ from qP _ a]
  exact b3m p1 p2 lost a ga b gb hp hl
def b6n:Ann:={ gha:=[(5,.frz 7)],base:=5,fin:=some 5 }
abbrev d5f (a:Int) (b:Int) (c:Int) (d:Nat) (e:l9C) (f:Nat) (g:l9C):Heap:=[gH a,(o_ 1 1 (List.map y5 [b,c])),jD d e f g,(o_ d 9 (mC e)),(o_ f 9 (mC g)),d4Y g]
abbrev c1q (a:Int) (b:Int) (c:Int) (d:Nat) (e:l9C) (f:Nat) (g:l9C):Heap:=[gH a,(o_ 1 1 (List.map y5 [b,c])),jD d e f g,(o_ d 9 (mC e)),c7B f g,(o_ 1 9 [])]
theorem b3l (p1 p2 lost:Int) (a:l9C) (ga:Nat) (b:l9C) (gb:Nat) (hp:¬ p1=p2) (hl:b.length < 1000):AC 79 [(j3 0),(iI p2)] (aG lost p1 p2 ga a gb b) ((sA 9 (mC (List.take (min b.length 4) b))),[(o_ 0 3 (a6H lost)),(o_ 1 1 (List.map y5 [p1,p2])),(o_ 0 1 [[(xM ga a)],[(d9 4 gb 9 (b.length - (min b.length 4)))]]),(o_ ga 9 (mC a)),(o_ gb 9 (mC (aJ (min b.length 4) b)))]) :=
 x9 (fn:=Tryz.f79) (ann:=b6n) (Has.o Tryz.func79) (.r (.s (.t 5 (iI 1) (aG lost p1 p2 ga a gb b) (j5.borrow (args:=[(a3N p1 p2),(iI p2)]) (args':=[(d9 1 1 1 2),(iI p2)]) (H:=(aG lost p1 p2 ga a gb b)) (b7i _ p2 oa) rfl (show Brs (aG lost p1 p2 ga a gb b) [(d9 1 1 1 2),(iI p2)] [(a3N p1 p2),(iI p2)] from ⟨Br.osl (G5 (room:=none) kr uG) (aB _ _),Br.same kr,trivial⟩):AC 102 [(d9 1 1 1 2),(iI p2)] (aG lost p1 p2 ga a gb b) ((iI 1),(aG lost p1 p2 ga a gb b))) (.s (.rn (.y 8 (.int .i64 (if 4 < ((b.length:Nat):Int) then 4 else ((b.length:Nat):Int))) (iN (min b.length 4)) (Yes.int yv_) (.s (.so 8 4 gb 9 0 b.length 0 ((min b.length 4:Nat):Int) (d9 4 gb 9 (min b.length 4)) (P7 (l:=0) (h:=min b.length 4) om om om om om om) (.ch 9 (d5f lost p1 p2 ga a gb b) (j5.iC (args:=[(a0l b)]) (args':=[(d9 4 gb 9 (min b.length 4))]) (H:=(aG lost p1 p2 ga a gb b)) (kG (List.take (min b.length 4) b) oa) (gW (fun _=>rfl) _) (show Brs (aG lost p1 p2 ga a gb b) [(d9 4 gb 9 (min b.length 4))] [(a0l b)] from ⟨Br.osl (wX (room:=none) kr c7I) (j4.z8 _ _),trivial⟩)) (.w' 7 (mC (List.take (min b.length 4) b)) (And.intro (G5 (room:=none) kr om) (j4.z8 _ _):I5 (d5f lost p1 p2 ga a gb b) 9 (d9 5 0 9 (List.take (min b.length 4) b).length)=some (mC (List.take (min b.length 4) b))/\AV.F3 0 (mC (List.take (min b.length 4) b))=true) (.s (.ch 13 (c1q lost p1 p2 ga a gb b) (j5.put2 [4] (d5g lost p1 p2 ga a gb b) (d9 4 gb 9 (b.length - (min b.length 4))) (c1q lost p1 p2 ga a gb b) (lY b gb (min b.length 4) b.length oa oa oa) (⟨Ob.ren0 (j4.z8 0 _),trivial⟩) (⟨Ob.ren0 (j4.z8 0 _),trivial⟩)) (.rd (d9 2 0 1 2) (c1q lost p1 p2 ga a gb b) (.s (.g (.h' [(o_ 0 3 (a6H lost)),(o_ 1 1 (List.map y5 [p1,p2])),(o_ 0 1 [[(xM ga a)],[(d9 4 gb 9 (b.length - (min b.length 4)))]]),(o_ ga 9 (mC a)),(o_ gb 9 (mC (aJ (min b.length 4) b)))] (.q 5 (a0l b))))))))))))))))))
theorem sO (p1 p2 lost:Int) (a:l9C) (ga:Nat) (b:l9C) (gb:Nat) (hp:¬ p1=p2) (hl:b.length < 1000):AC 79 [(j3 0),(iI p2)] [(o_ 0 3 [[(d9 1 1 1 2),(d9 2 0 1 2),(iI lost)]]),(o_ 1 1 (List.map y5 [p1,p2])),(o_ 0 1 [[(d9 3 ga 9 a.length)],[(d9 4 gb 9 b.length)]]),(o_ ga 9 (mC a)),(o_ gb 9 (mC b))] ((sA 9 (mC (E8 b))),[(o_ 0 3 [[(d9 1 1 1 2),(d9 2 0 1 2),(iI lost)]]),(o_ 1 1 (List.map y5 [p1,p2])),(o_ 0 1 [[(d9 3 ga 9 a.length)],[(d9 4 gb 9 (M7 b).length)]]),(o_ ga 9 (mC a)),(o_ gb 9 (mC (M7 b)))]):=by
 with_unfolding_all
  unfold M7 E8
  rw [show List.length (aJ (min b.length 4) b)=_ from qP _ b]
  exact b3l p1 p2 lost a ga b gb hp hl
def a7r:Ann:={ own:=[36],gha:=[(8,.virf 46 0 9),(8,.virf 46 1 9)],fin:=some 5 }
abbrev d5e :Heap:=[(o_ 0 3 b9r)]
abbrev c1p (a:Int):Heap:=[(o_ 0 3 b9q),(o_ 0 1 (List.map y5 [a]))]
abbrev d5d (a:Int) (b:Int):Heap:=[(o_ 0 3 [[(d9 1 1 1 2),w9,z_]]),(o_ 1 1 (([a]++[b]).map y5)),(o_ 0 1 [[w9],[w9]])]
theorem b6q (p1 p2:Int) (hp:¬ p1=p2):AC 25 [(dH p1 p2)] [] ((j3 0),[(o_ 0 3 [[(d9 1 1 1 2),(d9 2 0 1 2),z_]]),(o_ 1 1 (List.map y5 [p1,p2])),(o_ 0 1 [[(d9 3 0 9 ([]:l9C).length)],[(d9 4 0 9 ([]:l9C).length)]]),(o_ 0 9 (mC ([]:l9C))),(o_ 0 9 (mC ([]:l9C)))]) :=
 x9 (fn:=Tryz.f25) (ann:=a7r) (Has.o Tryz.func25) (.r (.s (.s (.g (.roll 3 (.r (.ru (.s (.u6 (.c 12 ((a5c p1).lift kr kr d5e) (.u (.ru (.h' d5e (.ao 7 22 w9 (AV.sl .clip 1 [[(iI p1)]]) (d9 1 0 1 1) [(o_ 0 3 b9r),(o_ 0 1 (List.map y5 [p1]))] (aI (T:=tt) (e:=3) (te:=a9s) (z:=1) (b:=24) (y:=[.sl .nil 0 []]) (row:=y5) kr kr rfl D8 D8 ye_ Y3 rfl rfl rfl om) (.s (.s (.ru (.s (.u6 (.c 12 (j5.borrow (args:=[(a1v p1),(iI p2)]) (args':=[(d9 1 0 1 1),(iI p2)]) (H:=(c1p p1)) (b4a p1 p2 oa) rfl (show Brs (c1p p1) [(d9 1 0 1 1),(iI p2)] [(a1v p1),(iI p2)] from ⟨Br.osl (G5 (room:=none) kr uG) (aB _ _),Br.same kr,trivial⟩)) (.u (.ru (.h' (c1p p1) (.ao 7 22 (d9 1 0 1 1) (AV.sl .clip 1 [[(iI p2)]]) (d9 1 1 1 2) [(o_ 0 3 b9q),(o_ 1 1 (([p1]++[p2]).map y5))] (I8 (T:=tt) (e:=3) (te:=a9s) (z:=1) (b:=24) (y:=[.sl .nil 0 []]) (row:=y5) (l:=[p1]) kr kr rfl D8 D8 kr Y3 om rfl rfl (by first | omega | (show _ * 8<=_; omega) | (simp; done) | (simp; omega))) (.s (.s (.rn (.t 6 (d9 2 0 1 2) (d5d p1 p2) (a0Q (t:=102) (ti:={ d:=.slice 30,size:=1,bytes:=24,zero:=[.sl .nil 0 []] }) (te:=c7X) (kl:=.i64) (kc:=.i64) (c:=2) dV kr kr kr rfl kr rfl rfl rfl kr kr D8 D8 rfl rfl:Sat Tryz.prog (X a7r) (mkF 50 [(0,(dH p1 p2)),(2,AV.nilp),(3,(j3 0)),(5,(iI p2)),(6,d0P),(7,(j3 0)),(8,(dH p1 p2)),(9,(iI 2)),(10,(iI 2)),(11,bF),(12,(AV.ref [(iI p2)] 0)),(13,(iI p2)),(14,(j3 0)),(15,(j3 0)),(16,(j3 0)),(17,(d9 1 0 1 1)),(18,(iI 1)),(19,bT),(20,bT),(21,(j3 0)),(22,(j3 0)),(23,(j3 0)),(24,(d9 1 0 1 1)),(25,(iI p2)),(26,bF),(27,bT),(28,bT),(29,(j3 0)),(30,(j3 0)),(31,(j3 0)),(32,(j3 0)),(33,(d9 1 0 1 1)),(34,(iI p2)),(35,(AV.sl .clip 1 [[(iI p2)]])),(36,(d9 1 1 1 2)),(37,(j3 0)),(38,(j3 0)),(39,(iI 2)),(40,(j3 0)),(41,(j3 0)),(42,(j3 0)),(43,(j3 0)),(44,(d9 1 1 1 2)),(45,(iI 2))]) [(o_ 0 3 [[(d9 1 1 1 2),w9,z_]]),(o_ 1 1 (([p1]++[p2]).map y5))] 2 (Y4 Tryz.f25 8 6) (d9 2 0 1 2) (d5d p1 p2)) (.o (rfl:0=0) (.o (rfl:0=0) (.s (.g (.h' [(o_ 0 3 [[(d9 1 1 1 2),(d9 2 0 1 2),z_]]),(o_ 1 1 (([p1]++[p2]).map y5)),(o_ 0 1 [[(d9 3 0 9 0)],[(d9 4 0 9 0)]]),(o_ 0 9 (mC [])),(o_ 0 9 (mC []))] (.q 5 (j3 0)))))))))))))))))))))))))))))))))))
end Go.Proofs.YtmghjcbabebanaaGreat.AM
namespace Go.Proofs.YtmghjcbabebanaaGreat.AM
open Go Go.Proofs.YtmghjcbabebanaaGreat
attribute [local irreducible] D9 E5 E8 E9 H6 K5 M7 R4 U1 hdD j5 l6 l8 maxS q2A swC swF tkF tkL tkT
def c5h:Ann:={ own:=[7],fin:=some 1 }
theorem b8j (p1 p2:Int) :AC 51 [(AV.sl .op 1 [[(iI p1)],[(iI p2)]])] [] ((d9 0 0 1 2),[(o_ 0 1 (List.map y5 [p1,p2]))]) :=
 x9 (fn:=Tryz.f51) (ann:=c5h) (Has.o Tryz.func51) (.r (.s (.rn (.ao 2 22 (AV.sl .clip 1 []) (AV.sl .op 1 [[(iI p1)],[(iI p2)]]) (d9 0 0 1 2) [(o_ 0 1 (List.map y5 [p1,p2]))] (aI (T:=tt) (e:=3) (te:=a9s) (z:=1) (b:=24) (y:=[.sl .nil 0 []]) (row:=y5) kr kr rfl D8 D8 ye_ rfl rfl rfl rfl om) (.q 1 (d9 0 0 1 2))))))
theorem c5g (p1 p2:Int) :AC 51 [(sA 1 (List.map y5 [p1,p2]))] [] ((d9 0 0 1 2),[(o_ 0 1 (List.map y5 [p1,p2]))]):=j5.a2q (fun h=>by simp at h) (b8j p1 p2)
def b3n:Ann:={ base:=5,fin:=some 6 }
abbrev c1i (a:Int) (b:Int) (c:Int) (d:Nat) (e:l9C) (f:Nat) (g:l9C):Heap:=[gH a,(o_ 1 1 (List.map y5 [b,c])),jD d e f g,(o_ d 9 (mC e)),(o_ f 9 (mC g)),(o_ 0 1 (List.map y5 [b,c]))]
theorem a9X (p1 p2 lost:Int) (a:l9C) (ga:Nat) (b:l9C) (gb:Nat) :AC 26 [(j3 0)] (aG lost p1 p2 ga a gb b) ((d9 5 0 1 2),(c1i lost p1 p2 ga a gb b)) :=
 x9 (fn:=Tryz.f26) (ann:=b3n) (Has.o Tryz.func26) (.r (.s (.t 4 (d9 5 0 1 2) (c1i lost p1 p2 ga a gb b) (j5.iC (args:=[(a3N p1 p2)]) (args':=[(d9 1 1 1 2)]) (H:=(aG lost p1 p2 ga a gb b)) (c5g _ _ ) (gW (fun _=>rfl) _) (show Brs (aG lost p1 p2 ga a gb b) [(d9 1 1 1 2)] [(a3N p1 p2)] from ⟨Br.osl (G5 (room:=none) kr uG) (aB _ _),trivial⟩):AC 51 [(d9 1 1 1 2)] (aG lost p1 p2 ga a gb b) ((d9 5 0 1 2),(c1i lost p1 p2 ga a gb b))) (.g (.h' (c1i lost p1 p2 ga a gb b) (.q 6 (d9 5 0 1 2)))))))
structure S2 where
 d:DS
 a:List j4
 ga:Nat
 b:List j4
 gb:Nat
 lost:Int
 now:Int
 swept:Int
 nx:Nat
def s20 (nd:Int):S2:=⟨⟨[],0,[],0,0,0,0,⟨0,nd,0⟩⟩,[],0,[],0,0,0,0,0⟩
def c2l:Ann:={ gha:=[(5,.frzf 18 2 1)],fin:=some 13 }
abbrev b8T :=[[(d9 7 1 1 2),(d9 8 0 1 2),z_]]
abbrev d4M :Ob:=(o_ 0 3 b8T)
abbrev c7A :Ob:=(o_ 0 1 [[(d9 9 0 9 ([]:l9C).length)],[(d9 10 0 9 ([]:l9C).length)]])
abbrev c1d (a:Int) (b:Int) (c:Int):Heap:=[fG,fF,tO,fE,fD,a2z a,d4M,(o_ 1 1 (List.map y5 [b,c])),c7A,yT,yT]
abbrev d2j (a:Int) (b:Int) (c:Int):Heap:=[fG,fF,tO,fE,fD,a2z a,d4M,(o_ 1 1 (List.map y5 [b,c])),c7A,yT,yT,(o_ 0 1 (List.map y5 [b,c]))]
theorem b5x (nd p1 p2:Int) (h1:0<=nd) (h2:nd < 6) (hp:¬ p1=p2):AC 8 [(iI nd),(dH p1 p2)] [] ((j3 12),[(o_ 0 2 [[(iI (r9 32)),(d9 1 0 10 ([]:l9E).length)]]),(o_ 0 10 (mE ([]:l9E))),(o_ 0 3 [[z_,z_,z_]]),(o_ 0 2 [[(iN (([]:l9K).length)),(d9 4 0 2 (l7 ([]:l9K)).length)]]),(o_ 0 2 (mK (l7 ([]:l9K)))),(o_ 0 7 (b9e nd)),(o_ 0 3 b8T),(o_ 1 1 (List.map y5 [p1,p2])),(o_ 0 1 [[(d9 9 0 9 0)],[(d9 10 0 9 0)]]),(o_ 0 9 (mC ([]:l9C))),(o_ 0 9 (mC ([]:l9C))),(o_ 1 1 []),(o_ 0 6 [[z_,z_,(dH p1 p2),z_,(j3 5),(j3 6)]])]) :=
 x9 (fn:=Tryz.f8) (ann:=c2l) (Has.o Tryz.func8) (.r (.s (.ch 1 (a0r nd) (j5.put2 [] [] (j3 5) (a0r nd) (a1l nd 0 oa oa wM) trivial rlA) (.s (.rn (.ch 1 (c1d nd p1 p2) (j5.put2 [] (a0r nd) (j3 6) (c1d nd p1 p2) (b6q p1 p2 oa) trivial rlG) (.s (.t 1 (d9 11 0 1 2) (d2j nd p1 p2) (j5.put2 [6,7,8,9,10] (c1d nd p1 p2) (d9 11 0 1 2) (d2j nd p1 p2) (a9X _ _ 0 ([]:l9C) 0 ([]:l9C) 0 ) rlG (⟨rfl,⟨Ob.ren0 (aB 0 _),⟨rfl,⟨Ob.ren0 (j4.z8 0 _),⟨Ob.ren0 (j4.z8 0 _),⟨Ob.ren0 (aB 0 _),trivial⟩⟩⟩⟩⟩⟩):AC 26 [(j3 6)] (c1d nd p1 p2) ((d9 11 0 1 2),(d2j nd p1 p2))) (.w' 18 (List.map y5 [p1,p2]) (And.intro rfl (And.intro (G5 (room:=none) kr om) (aB _ _)):0=0/\I5 [(o_ 0 2 [[(iI (r9 32)),(d9 1 0 10 ([]:l9E).length)]]),(o_ 0 10 (mE ([]:l9E))),(o_ 0 3 [[z_,z_,z_]]),(o_ 0 2 [[(iN (([]:l9K).length)),(d9 4 0 2 (l7 ([]:l9K)).length)]]),(o_ 0 2 (mK (l7 ([]:l9K)))),(o_ 0 7 (a1z nd)),(o_ 0 3 b8T),(o_ 1 1 (List.map y5 [p1,p2])),(o_ 0 1 [[(d9 9 0 9 ([]:l9C).length)],[(d9 10 0 9 ([]:l9C).length)]]),(o_ 0 9 (mC ([]:l9C))),(o_ 0 9 (mC ([]:l9C))),(o_ 0 1 (List.map y5 [p1,p2])),(o_ 0 6 [[z_,z_,(d9 11 0 1 2),z_,(j3 5),(j3 6)]])] 1 (d9 11 0 1 2)=some (List.map y5 [p1,p2])/\AV.F3 0 (List.map y5 [p1,p2])=true) (.g (.h' [(o_ 0 2 [[(iI (r9 32)),(d9 1 0 10 ([]:l9E).length)]]),(o_ 0 10 (mE ([]:l9E))),(o_ 0 3 [[z_,z_,z_]]),(o_ 0 2 [[(iN (([]:l9K).length)),(d9 4 0 2 (l7 ([]:l9K)).length)]]),(o_ 0 2 (mK (l7 ([]:l9K)))),(o_ 0 7 (a1z nd)),(o_ 0 3 b8T),(o_ 1 1 (List.map y5 [p1,p2])),(o_ 0 1 [[(d9 9 0 9 ([]:l9C).length)],[(d9 10 0 9 ([]:l9C).length)]]),(o_ 0 9 (mC ([]:l9C))),(o_ 0 9 (mC ([]:l9C))),(o_ 1 1 []),(o_ 0 6 [[z_,z_,(a3N p1 p2),z_,(j3 5),(j3 6)]])] (.q 13 (j3 12)))))))))))))
theorem a2N (nd p1 p2:Int) (h1:0<=nd) (h2:nd < 6) (hp:¬ p1=p2):AC 8 [(iI nd),(sA 1 [[(iI p1)],[(iI p2)]])] [] ((j3 12),[(o_ 0 2 [[(iI (r9 32)),(d9 1 (s20 nd).d.g 10 (List.length (s20 nd).d.l))]]),(o_ ((s20 nd).d.g) 10 (mE (s20 nd).d.l)),(o_ 0 3 [[(iI (s20 nd).d.gf),(iI (s20 nd).d.gl),(iI (s20 nd).d.gt)]]),(o_ 0 2 [[(iN ((List.length (s20 nd).d.al))),(d9 4 (s20 nd).d.ga 2 (l7 (s20 nd).d.al).length)]]),(o_ ((s20 nd).d.ga) 2 (mK (l7 (s20 nd).d.al))),(o_ 0 7 [[(iI nd),(iI (s20 nd).d.st.t),(iI (s20 nd).d.st.node),(iI (s20 nd).d.st.n),(j3 0),(j3 2),(j3 3)]]),(o_ 0 3 [[(d9 7 1 1 2),(d9 8 0 1 2),(iI (s20 nd).lost)]]),(o_ 1 1 (List.map y5 [p1,p2])),(o_ 0 1 [[(d9 9 (s20 nd).ga 9 (List.length (s20 nd).a))],[(d9 10 (s20 nd).gb 9 (List.length (s20 nd).b))]]),(o_ ((s20 nd).ga) 9 (mC (s20 nd).a)),(o_ ((s20 nd).gb) 9 (mC (s20 nd).b)),(o_ 1 1 []),(o_ 0 6 [[(iI (s20 nd).now),(iI (s20 nd).swept),(sA 1 [[(iI p1)],[(iI p2)]]),(iN ((s20 nd).nx)),(j3 5),(j3 6)]])]):=b5x nd p1 p2 h1 h2 hp
def lC (nd now late:Int) (s:DS):DS:=swF nd (l8 now) (X9 s (l8 now) late) s
def e0t (nd now late:Int) (s:DS):List j4:=swC nd (l8 now) (X9 s (l8 now) late) s
def lD (now:Int) (s:DS):DS:=⟨List.foldl X6 s.l (Y9 s.l (l8 now)),s.g,s.al,s.ga,s.gf,s.gl,s.gt,s.st⟩
@[simp] abbrev d2i (a:DS) (b:Int):Heap:=[(o_ 0 2 (b9i a)),(o_ a.g 10 (mE a.l)),(o_ 0 3 (b1n a)),(o_ 0 2 (b9h a)),(o_ a.ga 2 (mK (l7 a.al))),(o_ 0 7 (b9g b a))]
@[simp] abbrev e1m (a:Int) (b:Int) (c:Int) (d:DS):Heap:=[(o_ 0 2 [[(iI (r9 32)),(d9 1 (lC a b c d).g 10 (List.length (lC a b c d).l))]]),(o_ ((lC a b c d).g) 10 (mE (lC a b c d).l)),(o_ 0 3 [[(iI (lC a b c d).gf),(iI (lC a b c d).gl),(iI (lC a b c d).gt)]]),(o_ 0 2 [[(iN ((List.length (lC a b c d).al))),(d9 4 (lC a b c d).ga 2 (l7 (lC a b c d).al).length)]]),(o_ ((lC a b c d).ga) 2 (mK (l7 (lC a b c d).al))),(o_ 0 7 [[(iI a),(iI (lC a b c d).st.t),(iI (lC a b c d).st.node),(iI (lC a b c d).st.n),(j3 0),(j3 2),(j3 3)]])]
theorem c4K (nd:Int) (s:DS) (now late:Int) (hs:bP s.l) (hl:s.l.length<=32) (ha:s.al.length < 60000) (hgt:0<=s.gt/\s.gt<=1048576):AC 76 [(j3 5),(iI now),(iI late)] (d2i s nd) ((sA 9 (mC (e0t nd now late s))),(e1m nd now late s)):=d0e s.l s.g s.al s.ga s.gf s.gl s.gt nd s.st now late hs hl ha hgt
@[simp] abbrev e1l (a:Int) (b:DS) (c:Int):Heap:=[(o_ 0 2 [[(iI (r9 32)),(d9 1 (lD a b).g 10 (List.length (lD a b).l))]]),(o_ ((lD a b).g) 10 (mE (lD a b).l)),(o_ 0 3 [[(iI (lD a b).gf),(iI (lD a b).gl),(iI (lD a b).gt)]]),(o_ 0 2 [[(iN ((List.length (lD a b).al))),(d9 4 (lD a b).ga 2 (l7 (lD a b).al).length)]]),(o_ ((lD a b).ga) 2 (mK (l7 (lD a b).al))),(o_ 0 7 [[(iI c),(iI (lD a b).st.t),(iI (lD a b).st.node),(iI (lD a b).st.n),(j3 0),(j3 2),(j3 3)]])]
theorem c4R (nd:Int) (s:DS) (now:Int) (hl:s.l.length < 1000):AC 77 [(j3 5),(iI now)] (d2i s nd) ((iN ((Y9 s.l (l8 now)).length)),(e1l now s nd)):=d0h s.l s.g s.al s.ga s.gf s.gl s.gt nd s.st now hl
def sqT (s:S2):QT:=(s.a,s.ga,s.b,s.gb,s.lost)
def sqA (nd:Int) (s:S2):QT:=q2A (stC nd s.now s.swept s.d) (sqT s)
def O6 (s:S2) (nx:Nat):S2:=⟨stT s.now s.d,M7 s.a,s.ga,M7 s.b,s.gb,s.lost,s.now+1,s.swept,nx⟩
def O5 (nd:Int) (s:S2) (nx:Nat):S2:=⟨stP nd s.now s.swept s.d,M7 (sqA nd s).1,(sqA nd s).2.1,M7 (sqA nd s).2.2.1,(sqA nd s).2.2.2.1,(sqA nd s).2.2.2.2,s.now+1,s.now+1,nx⟩
def zO (p1 p2:Int) (a b:List j4):List u7:=D9 p1 (E8 a)++D9 p2 (E8 b)
def c8L:Ann:={ own:=[136,103],gh:=[(16,.frz 3)],gha:=[(7,.vir 3 14)],base:=13,fin:=some 13 }
@[simp] abbrev a3M (a:S2):=[[(iI (r9 32)),(d9 1 a.d.g 10 a.d.l.length)]]
@[simp] abbrev aO (a:S2):Ob:=(o_ 0 2 (a3M a))
@[simp] abbrev b8S (a:S2):=[[(iI a.d.gf),(iI a.d.gl),(iI a.d.gt)]]
@[simp] abbrev eG (a:S2):Ob:=(o_ 0 3 (b8S a))
@[simp] abbrev a3L (a:S2):=[[(iN (a.d.al.length)),(d9 4 a.d.ga 2 (l7 a.d.al).length)]]
@[simp] abbrev aN (a:S2):Ob:=(o_ 0 2 (a3L a))
@[simp] abbrev X5 (a:S2):Ob:=(o_ a.d.ga 2 (mK (l7 a.d.al)))
@[simp] abbrev a6G (a:Int) (b:S2):=[[(iI a),(iI b.d.st.t),(iI b.d.st.node),(iI b.d.st.n),(j3 0),(j3 2),(j3 3)]]
@[simp] abbrev dJ (a:Int) (b:S2):Ob:=(o_ 0 7 (a6G a b))
@[simp] abbrev a3K (a:S2):=[[(d9 7 1 1 2),(d9 8 0 1 2),(iI a.lost)]]
@[simp] abbrev X4 (a:S2):Ob:=(o_ 0 3 (a3K a))
@[simp] abbrev b1m (c:S2):=[[(d9 9 c.ga 9 c.a.length)],[(d9 10 c.gb 9 c.b.length)]]
@[simp] abbrev cZ (a:S2):Ob:=(o_ 0 1 (b1m a))
@[simp] abbrev b8R (a:S2) (b c:Int):=[[(iI a.now),(iI a.swept),(sA 1 [[(iI b)],[(iI c)]]),(iN a.nx),(j3 5),(j3 6)]]
abbrev c1c (c:S2) (e:Int) (f:Int) (h:Int):Heap:=[aO c,(o_ c.d.g 10 (mE c.d.l)),eG c,aN c,X5 c,dJ e c,X4 c,(o_ 1 1 (List.map y5 [f,h])),cZ c,(o_ c.ga 9 (mC c.a)),(o_ c.gb 9 (mC c.b)),(o_ 1 1 []),(o_ 0 6 (b8R c f h))]
abbrev d0x (a:S2) (b c:Int):=[[(iI (a.now+1)),(iI a.swept),(sA 1 [[(iI b)],[(iI c)]]),(iN a.nx),(j3 5),(j3 6)]]
abbrev nM (a:S2) (b:Int) (c:Int):Ob:=(o_ 0 6 (d0x a b c))
abbrev gG (c:S2) (e:Int) (f:Int) (h:Int):Heap:=[aO c,(o_ c.d.g 10 (mE c.d.l)),eG c,aN c,X5 c,dJ e c,X4 c,(o_ 1 1 (List.map y5 [f,h])),cZ c,(o_ c.ga 9 (mC c.a)),(o_ c.gb 9 (mC c.b)),(o_ 1 1 []),nM c f h]
abbrev b1l (a:S2):=[[(iI (tkF a.d.gf (a.now+1))),(iI (tkL a.d.gf a.d.gl a.d.gt (a.now+1))),(iI (tkT a.d.gf a.d.gt (a.now+1)))]]
abbrev kM (a:S2):Ob:=(o_ 0 3 (b1l a))
abbrev qH (c:S2) (e:Int) (f:Int) (h:Int):Heap:=[aO c,(o_ c.d.g 10 (mE c.d.l)),kM c,aN c,X5 c,dJ e c,X4 c,(o_ 1 1 (List.map y5 [f,h])),cZ c,(o_ c.ga 9 (mC c.a)),(o_ c.gb 9 (mC c.b)),(o_ 1 1 []),nM c f h]
abbrev jC (c:S2) (e:Int) (f:Int) (h:Int):Heap:=[aO c,(o_ c.d.g 10 (mE c.d.l)),kM c,aN c,X5 c,dJ e c,X4 c,(o_ 1 1 (List.map y5 [f,h])),cZ c,(o_ c.ga 9 (mC c.a)),(o_ c.gb 9 (mC c.b)),(o_ 1 1 []),nM c f h,(o_ 0 14 (List.map u7.row []))]
abbrev a5W (c:S2):Ob:=(o_ 0 1 [[(d9 9 c.ga 9 (M7 c.a).length)],[(d9 10 c.gb 9 c.b.length)]])
abbrev qZ (b:S2):Ob:=(o_ b.ga 9 (mC (M7 b.a)))
abbrev c1m (a:S2) (c:Int) (e:Int) (f:Int):Heap:=[aO a,(o_ a.d.g 10 (mE a.d.l)),kM a,aN a,X5 a,dJ c a,X4 a,(o_ 1 1 (List.map y5 [e,f])),a5W a,qZ a,(o_ a.gb 9 (mC a.b)),(o_ 1 1 []),nM a e f,(o_ 0 14 (List.map u7.row []))]
abbrev c7z (b:Int) (c:S2):Ob:=(o_ 1 14 (([]++(D9 b (E8 c.a))).map u7.row))
abbrev d4X (a:S2) (c:Int) (e:Int) (f:Int):Heap:=[aO a,(o_ a.d.g 10 (mE a.d.l)),kM a,aN a,X5 a,dJ c a,X4 a,(o_ 1 1 (List.map y5 [e,f])),a5W a,qZ a,(o_ a.gb 9 (mC a.b)),(o_ 1 1 []),nM a e f,c7z e a]
abbrev d0w (c:S2):=[[(d9 9 c.ga 9 (M7 c.a).length)],[(d9 10 c.gb 9 (M7 c.b).length)]]
abbrev a5V (a:S2):Ob:=(o_ 0 1 (d0w a))
abbrev a5U (a:S2):Ob:=(o_ a.gb 9 (mC (M7 a.b)))
abbrev c1l (a:S2) (b:Int) (c:Int) (e:Int):Heap:=[aO a,(o_ a.d.g 10 (mE a.d.l)),kM a,aN a,X5 a,dJ b a,X4 a,(o_ 1 1 (List.map y5 [c,e])),a5V a,qZ a,a5U a,(o_ 1 1 []),nM a c e,c7z c a]
abbrev d4W (c:S2) (e:Int) (f:Int) (h:Int):Heap:=[aO c,(o_ c.d.g 10 (mE c.d.l)),kM c,aN c,X5 c,dJ e c,X4 c,(o_ 1 1 (List.map y5 [f,h])),a5V c,qZ c,a5U c,(o_ 1 1 []),nM c f h,(o_ 2 14 ((([]++(D9 f (E8 c.a)))++(D9 h (E8 c.b))).map u7.row))]
abbrev d7c (c:Int) (d:S2) (e:Int):=(sA 14 ((([]++(D9 c (E8 d.a)))++(D9 e (E8 d.b))).map u7.row))
abbrev b8Q (a:S2):=(bB ((Int.tmod (a.now+1) 20) == 0))
abbrev b8P (a:S2):=(bB ((Int.tmod (a.now+1) 15) == 0))
theorem c2G (nd p1 p2:Int) (s:S2) (hp:¬ p1=p2) (hn:0<=s.now) (hn2:s.now < 1099511627776) (hqa:s.a.length<=16) (hqb:s.b.length<=16) (h1:(Int.tmod (s.now+1) 20 == 0)=false) (h2:(Int.tmod (s.now+1) 15 == 0)=false):AC 37 [(j3 12)] (c1c s nd p1 p2) ((d7c p1 s p2),[(o_ 0 2 [[(iI (r9 32)),(d9 1 (O6 s s.nx).d.g 10 (List.length (O6 s s.nx).d.l))]]),(o_ ((O6 s s.nx).d.g) 10 (mE (O6 s s.nx).d.l)),(o_ 0 3 [[(iI (O6 s s.nx).d.gf),(iI (O6 s s.nx).d.gl),(iI (O6 s s.nx).d.gt)]]),(o_ 0 2 [[(iN ((List.length (O6 s s.nx).d.al))),(d9 4 (O6 s s.nx).d.ga 2 (l7 (O6 s s.nx).d.al).length)]]),(o_ ((O6 s s.nx).d.ga) 2 (mK (l7 (O6 s s.nx).d.al))),(o_ 0 7 [[(iI nd),(iI (O6 s s.nx).d.st.t),(iI (O6 s s.nx).d.st.node),(iI (O6 s s.nx).d.st.n),(j3 0),(j3 2),(j3 3)]]),(o_ 0 3 [[(d9 7 1 1 2),(d9 8 0 1 2),(iI (O6 s s.nx).lost)]]),(o_ 1 1 (List.map y5 [p1,p2])),(o_ 0 1 [[(d9 9 (O6 s s.nx).ga 9 (List.length (O6 s s.nx).a))],[(d9 10 (O6 s s.nx).gb 9 (List.length (O6 s s.nx).b))]]),(o_ ((O6 s s.nx).ga) 9 (mC (O6 s s.nx).a)),(o_ ((O6 s s.nx).gb) 9 (mC (O6 s s.nx).b)),(o_ 1 1 []),(o_ 0 6 [[(iI (O6 s s.nx).now),(iI (O6 s s.nx).swept),(dH p1 p2),(iN ((O6 s s.nx).nx)),(j3 5),(j3 6)]])]):=by
 have hpl:=Z4 p1 (E8 s.a)
 have hpm:=Z4 p2 (E8 s.b)
 exact x9 (fn:=Tryz.f37) (ann:=c8L) (Has.o Tryz.func37) (.r (.s (.y 4 (iW (s.now+1)) (iI (s.now+1)) Yes.o (.s (.c 4 (j5.put2 [0,1,2,3,4,5] (gG s nd p1 p2) (j3 2) (gG s nd p1 p2) (fU s.d.l s.d.g s.d.al s.d.ga s.d.gf s.d.gl s.d.gt nd s.d.st ) rlA rlA) (.ch 9 (qH s nd p1 p2) (j5.put2 [2] (gG s nd p1 p2) F4 (qH s nd p1 p2) (gZ s.d.gf s.d.gl s.d.gt (s.now+1) ) D5 D5) (.rd (iI (s.now+1)) (gG s nd p1 p2) (.s (.y 5 (b8Q s) bF (Yes.b h1) (.rn (.s (.h' (jC s nd p1 p2) (.y 5 (b8P s) bF (Yes.b h2) (.n6 (.rn (.g (.roll 3 (.r (.ru (.s (.ch 7 (c1m s nd p1 p2) (j5.put2 [6,7,8,9,10] (jC s nd p1 p2) (sA 9 (mC (E8 s.a))) (c1m s nd p1 p2) (sP p1 p2 s.lost s.a s.ga s.b s.gb oa oa) rlG rlG) (.c 8 ((bK p1 (E8 s.a)).lift kr kr (c1m s nd p1 p2)) (.ao 9 36 (d9 13 0 14 0) (sA 14 ((D9 p1 (E8 s.a)).map u7.row)) (d9 13 1 14 (0+(D9 p1 (E8 s.a)).length)) (d4X s nd p1 p2) (I8 (T:=tt) (e:=56) (te:=iQ) (z:=1) (b:=24) (y:=[.sl .nil 0 []]) (row:=u7.row) (l:=[]) kr kr rfl D8 D8 kr Y3 om rfl rfl iP) (.s (.s (.ru (.s (.ch 7 (c1l s nd p1 p2) (j5.put2 [6,7,8,9,10] (d4X s nd p1 p2) (sA 9 (mC (E8 s.b))) (c1l s nd p1 p2) (sO p1 p2 s.lost (M7 s.a) s.ga s.b s.gb oa oa) rlG rlG) (.c 8 ((bK p2 (E8 s.b)).lift kr kr (c1l s nd p1 p2)) (.ao 9 36 (d9 13 1 14 (0+(D9 p1 (E8 s.a)).length)) (sA 14 ((D9 p2 (E8 s.b)).map u7.row)) (d9 13 2 14 ((0+(D9 p1 (E8 s.a)).length)+(D9 p2 (E8 s.b)).length)) (d4W s nd p1 p2) (I8 (T:=tt) (e:=56) (te:=iQ) (z:=1) (b:=24) (y:=[.sl .nil 0 []]) (row:=u7.row) (l:=[]++(D9 p1 (E8 s.a))) kr kr rfl D8 D8 kr Y3 om rfl rfl iP) (.s (.s (.rn (.w 3 ((([]++(D9 p1 (E8 s.a)))++(D9 p2 (E8 s.b))).map u7.row) (And.intro (G5 (room:=none) kr om) (u7.z8 _ _):I5 (d4W s nd p1 p2) 14 (d9 13 2 14 ((0+(D9 p1 (E8 s.a)).length)+(D9 p2 (E8 s.b)).length))=some ((([]++(D9 p1 (E8 s.a)))++(D9 p2 (E8 s.b))).map u7.row)/\AV.F3 0 ((([]++(D9 p1 (E8 s.a)))++(D9 p2 (E8 s.b))).map u7.row)=true) (.g (.h' [(o_ 0 2 (a3M s)),(o_ s.d.g 10 (mE s.d.l)),(o_ 0 3 (b1l s)),(o_ 0 2 (a3L s)),(o_ s.d.ga 2 (mK (l7 s.d.al))),(o_ 0 7 (a6G nd s)),(o_ 0 3 (a3K s)),(o_ 1 1 (List.map y5 [p1,p2])),(o_ 0 1 (d0w s)),(o_ s.ga 9 (mC (M7 s.a))),(o_ s.gb 9 (mC (M7 s.b))),(o_ 1 1 []),(o_ 0 6 (d0x s p1 p2))] (.q 13 (d7c p1 s p2))))))))))))))))))))))))))))))))))))))
attribute [local simp] u7.row
def c8K:Ann:={ own:=[136,103],gh:=[(16,.frz 3)],gha:=[(7,.vir 3 14)],base:=13,fin:=some 13 }
abbrev d0v (a:S2) (b c:Int):=[[(iI (a.now+1)),(iI a.swept),(sA 1 [[(iI b)],[(iI c)]]),(iN ((a.nx+1) % 2)),(j3 5),(j3 6)]]
abbrev a5T (a:S2) (b:Int) (c:Int):Ob:=(o_ 0 6 (d0v a b c))
abbrev c1k (a:S2) (c:Int) (e:Int) (f:Int):Heap:=[aO a,(o_ a.d.g 10 (mE a.d.l)),kM a,aN a,X5 a,dJ c a,X4 a,(o_ 1 1 (List.map y5 [e,f])),a5W a,qZ a,(o_ a.gb 9 (mC a.b)),(o_ 1 1 []),a5T a e f,(o_ 1 14 (List.map u7.row ([]++([(u7.mk (nth [e,f] a.nx) (U5.mk 4 0 0 0 0 0 0 R8 false 0 (P8 (a.d.l.map (·.card)))))]))))]
abbrev c7y (b:Int) (c:Int) (e:S2):Ob:=(o_ 2 14 (List.map u7.row (([]++([(u7.mk (nth [b,c] e.nx) (U5.mk 4 0 0 0 0 0 0 R8 false 0 (P8 (e.d.l.map (·.card)))))]))++(D9 b (E8 e.a)))))
abbrev d4V (a:S2) (c:Int) (e:Int) (f:Int):Heap:=[aO a,(o_ a.d.g 10 (mE a.d.l)),kM a,aN a,X5 a,dJ c a,X4 a,(o_ 1 1 (List.map y5 [e,f])),a5W a,qZ a,(o_ a.gb 9 (mC a.b)),(o_ 1 1 []),a5T a e f,c7y e f a]
abbrev c1j (a:S2) (b:Int) (c:Int) (e:Int):Heap:=[aO a,(o_ a.d.g 10 (mE a.d.l)),kM a,aN a,X5 a,dJ b a,X4 a,(o_ 1 1 (List.map y5 [c,e])),a5V a,qZ a,a5U a,(o_ 1 1 []),a5T a c e,c7y c e a]
abbrev d4U (c:S2) (e:Int) (f:Int) (h:Int):Heap:=[aO c,(o_ c.d.g 10 (mE c.d.l)),kM c,aN c,X5 c,dJ e c,X4 c,(o_ 1 1 (List.map y5 [f,h])),a5V c,qZ c,a5U c,(o_ 1 1 []),a5T c f h,(o_ 3 14 (List.map u7.row ((([]++([(u7.mk (nth [f,h] c.nx) (U5.mk 4 0 0 0 0 0 0 R8 false 0 (P8 (c.d.l.map (·.card)))))]))++(D9 f (E8 c.a)))++(D9 h (E8 c.b)))))]
theorem c2F (nd p1 p2:Int) (s:S2) (hp:¬ p1=p2) (hn:0<=s.now) (hn2:s.now < 1099511627776) (hqa:s.a.length<=16) (hqb:s.b.length<=16) (hx:s.nx < 2) (hl:s.d.l.length<=32) (h1:(Int.tmod (s.now+1) 20 == 0)=false) (h2:(Int.tmod (s.now+1) 15 == 0)=true):AC 37 [(j3 12)] (c1c s nd p1 p2) ((sA 14 ((([(u7.mk (nth [p1,p2] s.nx) (xJ (P8 (s.d.l.map Entry.card))))]++(D9 p1 (E8 s.a)))++(D9 p2 (E8 s.b))).map u7.row)),[(o_ 0 2 [[(iI (r9 32)),(d9 1 (O6 s ((s.nx+1) % 2)).d.g 10 (List.length (O6 s ((s.nx+1) % 2)).d.l))]]),(o_ ((O6 s ((s.nx+1) % 2)).d.g) 10 (mE (O6 s ((s.nx+1) % 2)).d.l)),(o_ 0 3 [[(iI (O6 s ((s.nx+1) % 2)).d.gf),(iI (O6 s ((s.nx+1) % 2)).d.gl),(iI (O6 s ((s.nx+1) % 2)).d.gt)]]),(o_ 0 2 [[(iN ((List.length (O6 s ((s.nx+1) % 2)).d.al))),(d9 4 (O6 s ((s.nx+1) % 2)).d.ga 2 (l7 (O6 s ((s.nx+1) % 2)).d.al).length)]]),(o_ ((O6 s ((s.nx+1) % 2)).d.ga) 2 (mK (l7 (O6 s ((s.nx+1) % 2)).d.al))),(o_ 0 7 [[(iI nd),(iI (O6 s ((s.nx+1) % 2)).d.st.t),(iI (O6 s ((s.nx+1) % 2)).d.st.node),(iI (O6 s ((s.nx+1) % 2)).d.st.n),(j3 0),(j3 2),(j3 3)]]),(o_ 0 3 [[(d9 7 1 1 2),(d9 8 0 1 2),(iI (O6 s ((s.nx+1) % 2)).lost)]]),(o_ 1 1 (List.map y5 [p1,p2])),(o_ 0 1 [[(d9 9 (O6 s ((s.nx+1) % 2)).ga 9 (List.length (O6 s ((s.nx+1) % 2)).a))],[(d9 10 (O6 s ((s.nx+1) % 2)).gb 9 (List.length (O6 s ((s.nx+1) % 2)).b))]]),(o_ ((O6 s ((s.nx+1) % 2)).ga) 9 (mC (O6 s ((s.nx+1) % 2)).a)),(o_ ((O6 s ((s.nx+1) % 2)).gb) 9 (mC (O6 s ((s.nx+1) % 2)).b)),(o_ 1 1 []),(o_ 0 6 [[(iI (O6 s ((s.nx+1) % 2)).now),(iI (O6 s ((s.nx+1) % 2)).swept),(dH p1 p2),(iN ((O6 s ((s.nx+1) % 2)).nx)),(j3 5),(j3 6)]])]):=by
 have hpl:=Z4 p1 (E8 s.a)
 have hpm:=Z4 p2 (E8 s.b)
 exact x9 (fn:=Tryz.f37) (ann:=c8K) (Has.o Tryz.func37) (.r (.s (.y 4 (iW (s.now+1)) (iI (s.now+1)) Yes.o (.s (.c 4 (j5.put2 [0,1,2,3,4,5] (gG s nd p1 p2) (j3 2) (gG s nd p1 p2) (fU s.d.l s.d.g s.d.al s.d.ga s.d.gf s.d.gl s.d.gt nd s.d.st ) rlA rlA) (.ch 9 (qH s nd p1 p2) (j5.put2 [2] (gG s nd p1 p2) F4 (qH s nd p1 p2) (gZ s.d.gf s.d.gl s.d.gt (s.now+1) ) D5 D5) (.rd (iI (s.now+1)) (gG s nd p1 p2) (.s (.y 5 (b8Q s) bF (Yes.b h1) (.rn (.s (.h' (jC s nd p1 p2) (.y 5 (b8P s) bT (Yes.b h2) (.u6 (.ru (.is 9 1 1 (List.map y5 [p1,p2]) (s.nx:Int) (y5 (nth [p1,p2] s.nx)) (N7.mk _ ow yg_) (.c 15 (j5.put2 [0,1,2,3,4,5] (jC s nd p1 p2) (j3 0) (jC s nd p1 p2) (bX s.d.l s.d.g s.d.al s.d.ga (tkF s.d.gf (s.now+1)) (tkL s.d.gf s.d.gl s.d.gt (s.now+1)) (tkT s.d.gf s.d.gt (s.now+1)) nd s.d.st.t s.d.st.node s.d.st.n ) rlA rlA) (.c 16 (j5.put2 [0,1] (jC s nd p1 p2) (sA 9 (mC (s.d.l.map (·.card)))) (jC s nd p1 p2) (bS (r9 32) s.d.l s.d.g s.d.l.length oa oa) rlF rlF) (.c 17 ((vD (s.d.l.map (·.card)) oa).lift kr kr (jC s nd p1 p2)) (.ao 20 36 (d9 13 0 14 0) (AV.sl .clip 14 [[(iI (nth [p1,p2] s.nx)),(iI 4),z_,z_,z_,z_,z_,z_,e_,e_,bF,H9,(sA 9 (mC (P8 (s.d.l.map (·.card))))),w9]]) (d9 13 1 14 1) [(o_ 0 2 (a3M s)),(o_ s.d.g 10 (mE s.d.l)),(o_ 0 3 (b1l s)),(o_ 0 2 (a3L s)),(o_ s.d.ga 2 (mK (l7 s.d.al))),(o_ 0 7 (a6G nd s)),(o_ 0 3 (a3K s)),(o_ 1 1 (List.map y5 [p1,p2])),(o_ 0 1 (b1m s)),(o_ s.ga 9 (mC s.a)),(o_ s.gb 9 (mC s.b)),(o_ 1 1 []),(o_ 0 6 (d0x s p1 p2)),(o_ 1 14 (List.map u7.row ([]++([(u7.mk (nth [p1,p2] s.nx) (U5.mk 4 0 0 0 0 0 0 R8 false 0 (P8 (s.d.l.map (·.card)))))]))))] (I8 (T:=tt) (e:=56) (te:=iQ) (z:=1) (b:=24) (y:=[.sl .nil 0 []]) (row:=u7.row) (l:=[]) kr kr rfl D8 D8 kr Y3 om rfl rfl iP) (.rd (iN s.nx) (jC s nd p1 p2) (.rd (iN s.nx) (jC s nd p1 p2) (.rd (iN s.nx) (jC s nd p1 p2) (.rd (dH p1 p2) (jC s nd p1 p2) (.rd (dH p1 p2) (jC s nd p1 p2) (.rd (dH p1 p2) (jC s nd p1 p2) (.s (.y 5 (iW ((s.nx:Int)+1)) (iN (s.nx+1)) Yes.o (.y 11 (.int .i64 (Int.tmod ((s.nx+1:Nat):Int) 2)) (iN ((s.nx+1) % 2)) (Yes.rem) (.s (.g (.roll 3 (.r (.ru (.s (.ch 7 (c1k s nd p1 p2) (j5.put2 [6,7,8,9,10] [(o_ 0 2 (a3M s)),(o_ s.d.g 10 (mE s.d.l)),(o_ 0 3 (b1l s)),(o_ 0 2 (a3L s)),(o_ s.d.ga 2 (mK (l7 s.d.al))),(o_ 0 7 (a6G nd s)),(o_ 0 3 (a3K s)),(o_ 1 1 (List.map y5 [p1,p2])),(o_ 0 1 (b1m s)),(o_ s.ga 9 (mC s.a)),(o_ s.gb 9 (mC s.b)),(o_ 1 1 []),(o_ 0 6 (d0v s p1 p2)),(o_ 1 14 (List.map u7.row ([]++([(u7.mk (nth [p1,p2] s.nx) (U5.mk 4 0 0 0 0 0 0 R8 false 0 (P8 (s.d.l.map (·.card)))))]))))] (sA 9 (mC (E8 s.a))) (c1k s nd p1 p2) (sP p1 p2 s.lost s.a s.ga s.b s.gb oa oa) rlG rlG) (.c 8 ((bK p1 (E8 s.a)).lift kr kr (c1k s nd p1 p2)) (.ao 9 36 (d9 13 1 14 1) (sA 14 ((D9 p1 (E8 s.a)).map u7.row)) (d9 13 2 14 (1+(D9 p1 (E8 s.a)).length)) (d4V s nd p1 p2) (I8 (T:=tt) (e:=56) (te:=iQ) (z:=1) (b:=24) (y:=[.sl .nil 0 []]) (row:=u7.row) (l:=[]++([(u7.mk (nth [p1,p2] s.nx) (U5.mk 4 0 0 0 0 0 0 R8 false 0 (P8 (s.d.l.map (·.card)))))])) kr kr rfl D8 D8 kr Y3 om rfl rfl iP) (.s (.s (.ru (.s (.ch 7 (c1j s nd p1 p2) (j5.put2 [6,7,8,9,10] (d4V s nd p1 p2) (sA 9 (mC (E8 s.b))) (c1j s nd p1 p2) (sO p1 p2 s.lost (M7 s.a) s.ga s.b s.gb oa oa) rlG rlG) (.c 8 ((bK p2 (E8 s.b)).lift kr kr (c1j s nd p1 p2)) (.ao 9 36 (d9 13 2 14 (1+(D9 p1 (E8 s.a)).length)) (sA 14 ((D9 p2 (E8 s.b)).map u7.row)) (d9 13 3 14 ((1+(D9 p1 (E8 s.a)).length)+(D9 p2 (E8 s.b)).length)) (d4U s nd p1 p2) (I8 (T:=tt) (e:=56) (te:=iQ) (z:=1) (b:=24) (y:=[.sl .nil 0 []]) (row:=u7.row) (l:=([]++([(u7.mk (nth [p1,p2] s.nx) (U5.mk 4 0 0 0 0 0 0 R8 false 0 (P8 (s.d.l.map (·.card)))))]))++(D9 p1 (E8 s.a))) kr kr rfl D8 D8 kr Y3 om rfl rfl iP) (.s (.s (.rn (.w 3 (List.map u7.row ((([]++([(u7.mk (nth [p1,p2] s.nx) (U5.mk 4 0 0 0 0 0 0 R8 false 0 (P8 (s.d.l.map (·.card)))))]))++(D9 p1 (E8 s.a)))++(D9 p2 (E8 s.b)))) (And.intro (G5 (room:=none) kr om) (u7.z8 _ _):I5 (d4U s nd p1 p2) 14 (d9 13 3 14 ((1+(D9 p1 (E8 s.a)).length)+(D9 p2 (E8 s.b)).length))=some (List.map u7.row ((([]++([(u7.mk (nth [p1,p2] s.nx) (U5.mk 4 0 0 0 0 0 0 R8 false 0 (P8 (s.d.l.map (·.card)))))]))++(D9 p1 (E8 s.a)))++(D9 p2 (E8 s.b))))/\AV.F3 0 (List.map u7.row ((([]++([(u7.mk (nth [p1,p2] s.nx) (U5.mk 4 0 0 0 0 0 0 R8 false 0 (P8 (s.d.l.map (·.card)))))]))++(D9 p1 (E8 s.a)))++(D9 p2 (E8 s.b))))=true) (.g (.h' [(o_ 0 2 (a3M s)),(o_ s.d.g 10 (mE s.d.l)),(o_ 0 3 (b1l s)),(o_ 0 2 (a3L s)),(o_ s.d.ga 2 (mK (l7 s.d.al))),(o_ 0 7 (a6G nd s)),(o_ 0 3 (a3K s)),(o_ 1 1 (List.map y5 [p1,p2])),(o_ 0 1 (d0w s)),(o_ s.ga 9 (mC (M7 s.a))),(o_ s.gb 9 (mC (M7 s.b))),(o_ 1 1 []),(o_ 0 6 (d0v s p1 p2))] (.q 13 (sA 14 (List.map u7.row ((([]++([(u7.mk (nth [p1,p2] s.nx) (U5.mk 4 0 0 0 0 0 0 R8 false 0 (P8 (s.d.l.map (·.card)))))]))++(D9 p1 (E8 s.a)))++(D9 p2 (E8 s.b)))))))))))))))))))))))))))))))))))))))))))))))))))))))))
@[simp] abbrev e0m (a:S2) (b:Int):Heap:=[(o_ 0 2 [[(iI (r9 32)),(d9 1 (stT a.now a.d).g 10 (List.length (stT a.now a.d).l))]]),(o_ ((stT a.now a.d).g) 10 (mE (stT a.now a.d).l)),(o_ 0 3 [[(iI (stT a.now a.d).gf),(iI (stT a.now a.d).gl),(iI (stT a.now a.d).gt)]]),(o_ 0 2 [[(iN ((List.length (stT a.now a.d).al))),(d9 4 (stT a.now a.d).ga 2 (l7 (stT a.now a.d).al).length)]]),(o_ ((stT a.now a.d).ga) 2 (mK (l7 (stT a.now a.d).al))),(o_ 0 7 [[(iI b),(iI (stT a.now a.d).st.t),(iI (stT a.now a.d).st.node),(iI (stT a.now a.d).st.n),(j3 0),(j3 2),(j3 3)]])]
@[simp] abbrev a5S (a:Int) (b:S2):Ob:=(o_ 0 2 [[(iI (r9 32)),(d9 1 (stW a b.now b.swept b.d).g 10 (List.length (stW a b.now b.swept b.d).l))]])
@[simp] abbrev a5R (a:Int) (b:S2):Ob:=(o_ ((stW a b.now b.swept b.d).g) 10 (mE (stW a b.now b.swept b.d).l))
@[simp] abbrev a5Q (a:Int) (b:S2):Ob:=(o_ 0 3 [[(iI (stW a b.now b.swept b.d).gf),(iI (stW a b.now b.swept b.d).gl),(iI (stW a b.now b.swept b.d).gt)]])
@[simp] abbrev a5P (a:Int) (b:S2):Ob:=(o_ 0 2 [[(iN ((List.length (stW a b.now b.swept b.d).al))),(d9 4 (stW a b.now b.swept b.d).ga 2 (l7 (stW a b.now b.swept b.d).al).length)]])
@[simp] abbrev a5O (a:Int) (b:S2):Ob:=(o_ ((stW a b.now b.swept b.d).ga) 2 (mK (l7 (stW a b.now b.swept b.d).al)))
@[simp] abbrev a5N (a:Int) (b:S2):Ob:=(o_ 0 7 [[(iI a),(iI (stW a b.now b.swept b.d).st.t),(iI (stW a b.now b.swept b.d).st.node),(iI (stW a b.now b.swept b.d).st.n),(j3 0),(j3 2),(j3 3)]])
@[simp] abbrev d4T (a:Int) (b:S2):Heap:=[a5S a b,a5R a b,a5Q a b,a5P a b,a5O a b,a5N a b]
theorem a7V (nd:Int) (s:S2) (hs:bP s.d.l) (hl:s.d.l.length<=32) (ha:s.d.al.length < 60000) (hgt:0<=tkT s.d.gf s.d.gt (s.now+1)/\tkT s.d.gf s.d.gt (s.now+1)<=1048576):AC 76 [(j3 5),(iI (s.now+1)),(iI (((s.now+1) - s.swept) - 20))] (e0m s nd) ((sA 9 (mC (stC nd s.now s.swept s.d))),(d4T nd s)):=c4K nd (stT s.now s.d) (s.now+1) (((s.now+1) - s.swept) - 20) hs hl ha hgt
@[simp] abbrev b1k (a:Int) (b:S2):=[[(iI (r9 32)),(d9 1 (stP a b.now b.swept b.d).g 10 (List.length (stP a b.now b.swept b.d).l))]]
@[simp] abbrev jR (a:Int) (b:S2):Ob:=(o_ 0 2 (b1k a b))
@[simp] abbrev jQ (a:Int) (b:S2):Ob:=(o_ ((stP a b.now b.swept b.d).g) 10 (mE (stP a b.now b.swept b.d).l))
@[simp] abbrev b1j (a:Int) (b:S2):=[[(iI (stP a b.now b.swept b.d).gf),(iI (stP a b.now b.swept b.d).gl),(iI (stP a b.now b.swept b.d).gt)]]
@[simp] abbrev jP (a:Int) (b:S2):Ob:=(o_ 0 3 (b1j a b))
@[simp] abbrev b1i (a:Int) (b:S2):=[[(iN ((List.length (stP a b.now b.swept b.d).al))),(d9 4 (stP a b.now b.swept b.d).ga 2 (l7 (stP a b.now b.swept b.d).al).length)]]
@[simp] abbrev jO (a:Int) (b:S2):Ob:=(o_ 0 2 (b1i a b))
@[simp] abbrev jN (a:Int) (b:S2):Ob:=(o_ ((stP a b.now b.swept b.d).ga) 2 (mK (l7 (stP a b.now b.swept b.d).al)))
@[simp] abbrev b1h (a:Int) (b:S2):=[[(iI a),(iI (stP a b.now b.swept b.d).st.t),(iI (stP a b.now b.swept b.d).st.node),(iI (stP a b.now b.swept b.d).st.n),(j3 0),(j3 2),(j3 3)]]
@[simp] abbrev jM (a:Int) (b:S2):Ob:=(o_ 0 7 (b1h a b))
@[simp] abbrev e0l (a:Int) (b:S2):Heap:=[jR a b,jQ a b,jP a b,jO a b,jN a b,jM a b]
theorem a7Z (nd:Int) (s:S2) (hw:(stW nd s.now s.swept s.d).l.length < 1000):AC 77 [(j3 5),(iI (s.now+1))] (d4T nd s) ((iN ((Y9 (stW nd s.now s.swept s.d).l (l8 (s.now+1))).length)),(e0l nd s)):=c4R nd (stW nd s.now s.swept s.d) (s.now+1) hw
@[simp] abbrev d4S (a:S2) (b:Int) (c:Int):Heap:=[(o_ 0 3 [[(d9 1 1 1 2),(d9 2 0 1 2),(iI (sqT a).2.2.2.2)]]),(o_ 1 1 (List.map y5 [b,c])),(o_ 0 1 [[(d9 3 (sqT a).2.1 9 (List.length (sqT a).1))],[(d9 4 (sqT a).2.2.2.1 9 (List.length (sqT a).2.2.1))]]),(o_ ((sqT a).2.1) 9 (mC (sqT a).1)),(o_ ((sqT a).2.2.2.1) 9 (mC (sqT a).2.2.1))]
@[simp] abbrev a1X (a:Int) (b:S2):Ob:=(o_ ((sqA a b).2.1) 9 (mC (sqA a b).1))
@[simp] abbrev nL (a:Int) (b:S2):Ob:=(o_ ((sqA a b).2.2.2.1) 9 (mC (sqA a b).2.2.1))
@[simp] abbrev e0k (a:Int) (b:S2) (c:Int) (d:Int):Heap:=[(o_ 0 3 [[(d9 1 1 1 2),(d9 2 0 1 2),(iI (sqA a b).2.2.2.2)]]),(o_ 1 1 (List.map y5 [c,d])),(o_ 0 1 [[(d9 3 (sqA a b).2.1 9 (List.length (sqA a b).1))],[(d9 4 (sqA a b).2.2.2.1 9 (List.length (sqA a b).2.2.1))]]),a1X a b,nL a b]
theorem a4E (p1 p2 nd:Int) (s:S2) (hqa:s.a.length<=16) (hqb:s.b.length<=16) (hc1:(stC nd s.now s.swept s.d).length < 100):AC 32 [(j3 0),(sA 9 (mC (stC nd s.now s.swept s.d)))] (d4S s p1 p2) (F4,(e0k nd s p1 p2)):=a2P (stC nd s.now s.swept s.d) p1 p2 s.lost s.a s.ga s.b s.gb hqa hqb hc1
def c8J:Ann:={ own:=[136,103],gh:=[(16,.frz 3)],gha:=[(7,.vir 3 14)],base:=13,fin:=some 13 }
abbrev qG (c:Int) (d:S2) (e:Int) (f:Int):Heap:=[a5S c d,a5R c d,a5Q c d,a5P c d,a5O c d,a5N c d,X4 d,(o_ 1 1 (List.map y5 [e,f])),cZ d,(o_ d.ga 9 (mC d.a)),(o_ d.gb 9 (mC d.b)),(o_ 1 1 []),nM d e f]
abbrev b1g (a:Int) (b:S2):=[[(d9 7 1 1 2),(d9 8 0 1 2),(iI (sqA a b).2.2.2.2)]]
abbrev iM (a:Int) (b:S2):Ob:=(o_ 0 3 (b1g a b))
abbrev d0u (a:Int) (b:S2):=[[(d9 9 (sqA a b).2.1 9 (List.length (sqA a b).1))],[(d9 10 (sqA a b).2.2.2.1 9 (List.length (sqA a b).2.2.1))]]
abbrev a5M (a:Int) (b:S2):Ob:=(o_ 0 1 (d0u a b))
abbrev a2E (a:Int) (b:S2) (c:Int) (d:Int):Heap:=[a5S a b,a5R a b,a5Q a b,a5P a b,a5O a b,a5N a b,iM a b,(o_ 1 1 (List.map y5 [c,d])),a5M a b,a1X a b,nL a b,(o_ 1 1 []),nM b c d]
abbrev d0t (a:S2) (b c:Int):=[[(iI (a.now+1)),(iI (a.now+1)),(sA 1 [[(iI b)],[(iI c)]]),(iN a.nx),(j3 5),(j3 6)]]
abbrev vJ (a:S2) (b:Int) (c:Int):Ob:=(o_ 0 6 (d0t a b c))
abbrev a9e (a:Int) (b:S2) (c:Int) (d:Int):Heap:=[jR a b,jQ a b,jP a b,jO a b,jN a b,jM a b,iM a b,(o_ 1 1 (List.map y5 [c,d])),a5M a b,a1X a b,nL a b,(o_ 1 1 []),vJ b c d]
abbrev d4R (a:Int) (b:S2) (c:Int) (d:Int):Heap:=[a5S a b,a5R a b,a5Q a b,a5P a b,a5O a b,a5N a b,iM a b,(o_ 1 1 (List.map y5 [c,d])),a5M a b,a1X a b,nL a b,(o_ 1 1 []),vJ b c d]
abbrev jB (a:Int) (b:S2) (c:Int) (d:Int):Heap:=[jR a b,jQ a b,jP a b,jO a b,jN a b,jM a b,iM a b,(o_ 1 1 (List.map y5 [c,d])),a5M a b,a1X a b,nL a b,(o_ 1 1 []),vJ b c d,(o_ 0 14 (List.map u7.row []))]
abbrev a5L (a:Int) (b:S2):Ob:=(o_ 0 1 [[(d9 9 (sqA a b).2.1 9 (M7 (sqA a b).1).length)],[(d9 10 (sqA a b).2.2.2.1 9 (List.length (sqA a b).2.2.1))]])
abbrev qY (a:Int) (b:S2):Ob:=(o_ ((sqA a b).2.1) 9 (mC (M7 (sqA a b).1)))
abbrev c1h (a:Int) (b:S2) (c:Int) (d:Int):Heap:=[jR a b,jQ a b,jP a b,jO a b,jN a b,jM a b,iM a b,(o_ 1 1 (List.map y5 [c,d])),a5L a b,qY a b,nL a b,(o_ 1 1 []),vJ b c d,(o_ 0 14 (List.map u7.row []))]
abbrev c7x (a:Int) (b:Int) (c:S2):Ob:=(o_ 1 14 (([]++(D9 a (E8 (sqA b c).1))).map u7.row))
abbrev d4Q (a:Int) (b:S2) (c:Int) (d:Int):Heap:=[jR a b,jQ a b,jP a b,jO a b,jN a b,jM a b,iM a b,(o_ 1 1 (List.map y5 [c,d])),a5L a b,qY a b,nL a b,(o_ 1 1 []),vJ b c d,c7x c a b]
abbrev d0s (a:Int) (b:S2):=[[(d9 9 (sqA a b).2.1 9 (M7 (sqA a b).1).length)],[(d9 10 (sqA a b).2.2.2.1 9 (M7 (sqA a b).2.2.1).length)]]
abbrev a5K (a:Int) (b:S2):Ob:=(o_ 0 1 (d0s a b))
abbrev a5J (a:Int) (b:S2):Ob:=(o_ ((sqA a b).2.2.2.1) 9 (mC (M7 (sqA a b).2.2.1)))
abbrev c1g (a:Int) (b:S2) (c:Int) (d:Int):Heap:=[jR a b,jQ a b,jP a b,jO a b,jN a b,jM a b,iM a b,(o_ 1 1 (List.map y5 [c,d])),a5K a b,qY a b,a5J a b,(o_ 1 1 []),vJ b c d,c7x c a b]
abbrev d4P (a:Int) (b:S2) (c:Int) (d:Int):Heap:=[jR a b,jQ a b,jP a b,jO a b,jN a b,jM a b,iM a b,(o_ 1 1 (List.map y5 [c,d])),a5K a b,qY a b,a5J a b,(o_ 1 1 []),vJ b c d,(o_ 2 14 ((([]++(D9 c (E8 (sqA a b).1)))++(D9 d (E8 (sqA a b).2.2.1))).map u7.row))]
abbrev d7b (a b:Int) (c:S2) (d:Int):=(sA 14 ((([]++(D9 a (E8 (sqA b c).1)))++(D9 d (E8 (sqA b c).2.2.1))).map u7.row))
abbrev a1q (a:Int) (b:S2):=(sA 9 (mC (stC a b.now b.swept b.d)))
theorem c2E (nd p1 p2:Int) (s:S2) (hp:¬ p1=p2) (hn:0<=s.now) (hn2:s.now < 1099511627776) (hqa:s.a.length<=16) (hqb:s.b.length<=16) (hs0:0<=s.swept) (hs1:s.swept<=s.now) (hs:bP s.d.l) (hl:s.d.l.length<=32) (ha:s.d.al.length < 60000) (hgt:0<=tkT s.d.gf s.d.gt (s.now+1)/\tkT s.d.gf s.d.gt (s.now+1)<=1048576) (hc1:(stC nd s.now s.swept s.d).length < 100) (hw:(stW nd s.now s.swept s.d).l.length < 1000) (h1:(Int.tmod (s.now+1) 20 == 0)=true) (h2:(Int.tmod (s.now+1) 15 == 0)=false):AC 37 [(j3 12)] (c1c s nd p1 p2) ((d7b p1 nd s p2),[(o_ 0 2 [[(iI (r9 32)),(d9 1 (O5 nd s s.nx).d.g 10 (List.length (O5 nd s s.nx).d.l))]]),(o_ ((O5 nd s s.nx).d.g) 10 (mE (O5 nd s s.nx).d.l)),(o_ 0 3 [[(iI (O5 nd s s.nx).d.gf),(iI (O5 nd s s.nx).d.gl),(iI (O5 nd s s.nx).d.gt)]]),(o_ 0 2 [[(iN ((List.length (O5 nd s s.nx).d.al))),(d9 4 (O5 nd s s.nx).d.ga 2 (l7 (O5 nd s s.nx).d.al).length)]]),(o_ ((O5 nd s s.nx).d.ga) 2 (mK (l7 (O5 nd s s.nx).d.al))),(o_ 0 7 [[(iI nd),(iI (O5 nd s s.nx).d.st.t),(iI (O5 nd s s.nx).d.st.node),(iI (O5 nd s s.nx).d.st.n),(j3 0),(j3 2),(j3 3)]]),(o_ 0 3 [[(d9 7 1 1 2),(d9 8 0 1 2),(iI (O5 nd s s.nx).lost)]]),(o_ 1 1 (List.map y5 [p1,p2])),(o_ 0 1 [[(d9 9 (O5 nd s s.nx).ga 9 (List.length (O5 nd s s.nx).a))],[(d9 10 (O5 nd s s.nx).gb 9 (List.length (O5 nd s s.nx).b))]]),(o_ ((O5 nd s s.nx).ga) 9 (mC (O5 nd s s.nx).a)),(o_ ((O5 nd s s.nx).gb) 9 (mC (O5 nd s s.nx).b)),(o_ 1 1 []),(o_ 0 6 [[(iI (O5 nd s s.nx).now),(iI (O5 nd s s.nx).swept),(dH p1 p2),(iN ((O5 nd s s.nx).nx)),(j3 5),(j3 6)]])]):=by
 have hq1:(sqA nd s).1.length<=16/\(sqA nd s).2.2.1.length<=16:=a2n _ _ hqa hqb
 have hpl:=Z4 p1 (E8 (sqA nd s).1)
 have hpm:=Z4 p2 (E8 (sqA nd s).2.2.1)
 have hwp:(stP nd s.now s.swept s.d).l.length < 1000:=Nat.lt_of_le_of_lt (a5a _ _) hw
 exact x9 (fn:=Tryz.f37) (ann:=c8J) (Has.o Tryz.func37) (.r (.s (.y 4 (iW (s.now+1)) (iI (s.now+1)) Yes.o (.s (.c 4 (j5.put2 [0,1,2,3,4,5] (gG s nd p1 p2) (j3 2) (gG s nd p1 p2) (fU s.d.l s.d.g s.d.al s.d.ga s.d.gf s.d.gl s.d.gt nd s.d.st ) rlA rlA) (.ch 9 (qH s nd p1 p2) (j5.put2 [2] (gG s nd p1 p2) F4 (qH s nd p1 p2) (gZ s.d.gf s.d.gl s.d.gt (s.now+1) ) D5 D5) (.rd (iI (s.now+1)) (gG s nd p1 p2) (.s (.y 5 (b8Q s) bT (Yes.b h1) (.ru (.y 20 (iW ((s.now+1) - s.swept)) (iI ((s.now+1) - s.swept)) Yes.o (.y 21 (iW (((s.now+1) - s.swept) - 20)) (iI (((s.now+1) - s.swept) - 20)) Yes.o (.ch 22 (qG nd s p1 p2) (j5.put2 [0,1,2,3,4,5] (qH s nd p1 p2) (a1q nd s) (qG nd s p1 p2) (a7V nd s hs hl ha hgt) rlA rlA) (.t 23 F4 (a2E nd s p1 p2) (j5.pre (args:=[(j3 6),(a1q nd s)]) (args':=[(j3 6),(a1q nd s)]) (j5.put2 [6,7,8,9,10] (qG nd s p1 p2) F4 (a2E nd s p1 p2) (a4E _ _ nd s hqa hqb hc1) rlG rlG) ⟨AV.l5 _,⟨rfl,rfl,.inl rfl⟩,trivial⟩:AC 32 [(j3 6),(a1q nd s)] (qG nd s p1 p2) (F4,(a2E nd s p1 p2))) (.rd (j3 6) (qG nd s p1 p2) (.s (.s (.ch 8 (a9e nd s p1 p2) (j5.put2 [0,1,2,3,4,5] (d4R nd s p1 p2) (iN ((Y9 (stW nd s.now s.swept s.d).l (l8 (s.now+1))).length)) (a9e nd s p1 p2) (a7Z nd s hw) rlA rlA) (.s (.s (.h' (jB nd s p1 p2) (.y 5 (b8P s) bF (Yes.b h2) (.n6 (.rn (.g (.roll 3 (.r (.ru (.s (.ch 7 (c1h nd s p1 p2) (j5.put2 [6,7,8,9,10] (jB nd s p1 p2) (sA 9 (mC (E8 (sqA nd s).1))) (c1h nd s p1 p2) (sP p1 p2 (sqA nd s).2.2.2.2 (sqA nd s).1 (sqA nd s).2.1 (sqA nd s).2.2.1 (sqA nd s).2.2.2.1 oa oa) rlG rlG) (.c 8 ((bK p1 (E8 (sqA nd s).1)).lift kr kr (c1h nd s p1 p2)) (.ao 9 36 (d9 13 0 14 0) (sA 14 ((D9 p1 (E8 (sqA nd s).1)).map u7.row)) (d9 13 1 14 (0+(D9 p1 (E8 (sqA nd s).1)).length)) (d4Q nd s p1 p2) (I8 (T:=tt) (e:=56) (te:=iQ) (z:=1) (b:=24) (y:=[.sl .nil 0 []]) (row:=u7.row) (l:=[]) kr kr rfl D8 D8 kr Y3 om rfl rfl iP) (.s (.s (.ru (.s (.ch 7 (c1g nd s p1 p2) (j5.put2 [6,7,8,9,10] (d4Q nd s p1 p2) (sA 9 (mC (E8 (sqA nd s).2.2.1))) (c1g nd s p1 p2) (sO p1 p2 (sqA nd s).2.2.2.2 (M7 (sqA nd s).1) (sqA nd s).2.1 (sqA nd s).2.2.1 (sqA nd s).2.2.2.1 oa oa) rlG rlG) (.c 8 ((bK p2 (E8 (sqA nd s).2.2.1)).lift kr kr (c1g nd s p1 p2)) (.ao 9 36 (d9 13 1 14 (0+(D9 p1 (E8 (sqA nd s).1)).length)) (sA 14 ((D9 p2 (E8 (sqA nd s).2.2.1)).map u7.row)) (d9 13 2 14 ((0+(D9 p1 (E8 (sqA nd s).1)).length)+(D9 p2 (E8 (sqA nd s).2.2.1)).length)) (d4P nd s p1 p2) (I8 (T:=tt) (e:=56) (te:=iQ) (z:=1) (b:=24) (y:=[.sl .nil 0 []]) (row:=u7.row) (l:=[]++(D9 p1 (E8 (sqA nd s).1))) kr kr rfl D8 D8 kr Y3 om rfl rfl iP) (.s (.s (.rn (.w 3 ((([]++(D9 p1 (E8 (sqA nd s).1)))++(D9 p2 (E8 (sqA nd s).2.2.1))).map u7.row) (And.intro (G5 (room:=none) kr om) (u7.z8 _ _):I5 (d4P nd s p1 p2) 14 (d9 13 2 14 ((0+(D9 p1 (E8 (sqA nd s).1)).length)+(D9 p2 (E8 (sqA nd s).2.2.1)).length))=some ((([]++(D9 p1 (E8 (sqA nd s).1)))++(D9 p2 (E8 (sqA nd s).2.2.1))).map u7.row)/\AV.F3 0 ((([]++(D9 p1 (E8 (sqA nd s).1)))++(D9 p2 (E8 (sqA nd s).2.2.1))).map u7.row)=true) (.g (.h' [(o_ 0 2 (b1k nd s)),(o_ ((stP nd s.now s.swept s.d).g) 10 (mE (stP nd s.now s.swept s.d).l)),(o_ 0 3 (b1j nd s)),(o_ 0 2 (b1i nd s)),(o_ ((stP nd s.now s.swept s.d).ga) 2 (mK (l7 (stP nd s.now s.swept s.d).al))),(o_ 0 7 (b1h nd s)),(o_ 0 3 (b1g nd s)),(o_ 1 1 (List.map y5 [p1,p2])),(o_ 0 1 (d0s nd s)),(o_ ((sqA nd s).2.1) 9 (mC (M7 (sqA nd s).1))),(o_ ((sqA nd s).2.2.2.1) 9 (mC (M7 (sqA nd s).2.2.1))),(o_ 1 1 []),(o_ 0 6 (d0t s p1 p2))] (.q 13 (d7b p1 nd s p2)))))))))))))))))))))))))))))))))))))))))))))))
def c8I:Ann:={ own:=[136,103],gh:=[(16,.frz 3)],gha:=[(7,.vir 3 14)],base:=13,fin:=some 13 }
abbrev d0r (a:S2) (b c:Int):=[[(iI (a.now+1)),(iI (a.now+1)),(sA 1 [[(iI b)],[(iI c)]]),(iN ((a.nx+1) % 2)),(j3 5),(j3 6)]]
abbrev a5I (a:S2) (b:Int) (c:Int):Ob:=(o_ 0 6 (d0r a b c))
abbrev c1f (a:Int) (b:S2) (c:Int) (e:Int):Heap:=[jR a b,jQ a b,jP a b,jO a b,jN a b,jM a b,iM a b,(o_ 1 1 (List.map y5 [c,e])),a5L a b,qY a b,nL a b,(o_ 1 1 []),a5I b c e,(o_ 1 14 (List.map u7.row ([]++([(u7.mk (nth [c,e] b.nx) (U5.mk 4 0 0 0 0 0 0 R8 false 0 (P8 ((stP a b.now b.swept b.d).l.map (·.card)))))]))))]
abbrev c7w (a:Int) (b:Int) (c:S2) (e:Int):Ob:=(o_ 2 14 (List.map u7.row (([]++([(u7.mk (nth [a,b] c.nx) (U5.mk 4 0 0 0 0 0 0 R8 false 0 (P8 ((stP e c.now c.swept c.d).l.map (·.card)))))]))++(D9 a (E8 (sqA e c).1)))))
abbrev d4O (a:Int) (b:S2) (c:Int) (d:Int):Heap:=[jR a b,jQ a b,jP a b,jO a b,jN a b,jM a b,iM a b,(o_ 1 1 (List.map y5 [c,d])),a5L a b,qY a b,nL a b,(o_ 1 1 []),a5I b c d,c7w c d b a]
abbrev c1e (a:Int) (b:S2) (c:Int) (d:Int):Heap:=[jR a b,jQ a b,jP a b,jO a b,jN a b,jM a b,iM a b,(o_ 1 1 (List.map y5 [c,d])),a5K a b,qY a b,a5J a b,(o_ 1 1 []),a5I b c d,c7w c d b a]
abbrev d4N (a:Int) (b:S2) (c:Int) (e:Int):Heap:=[jR a b,jQ a b,jP a b,jO a b,jN a b,jM a b,iM a b,(o_ 1 1 (List.map y5 [c,e])),a5K a b,qY a b,a5J a b,(o_ 1 1 []),a5I b c e,(o_ 3 14 (List.map u7.row ((([]++([(u7.mk (nth [c,e] b.nx) (U5.mk 4 0 0 0 0 0 0 R8 false 0 (P8 ((stP a b.now b.swept b.d).l.map (·.card)))))]))++(D9 c (E8 (sqA a b).1)))++(D9 e (E8 (sqA a b).2.2.1)))))]
theorem c2D (nd p1 p2:Int) (s:S2) (hp:¬ p1=p2) (hn:0<=s.now) (hn2:s.now < 1099511627776) (hqa:s.a.length<=16) (hqb:s.b.length<=16) (hs0:0<=s.swept) (hs1:s.swept<=s.now) (hs:bP s.d.l) (hl:s.d.l.length<=32) (ha:s.d.al.length < 60000) (hgt:0<=tkT s.d.gf s.d.gt (s.now+1)/\tkT s.d.gf s.d.gt (s.now+1)<=1048576) (hc1:(stC nd s.now s.swept s.d).length < 100) (hw:(stW nd s.now s.swept s.d).l.length < 1000) (hx:s.nx < 2) (h1:(Int.tmod (s.now+1) 20 == 0)=true) (h2:(Int.tmod (s.now+1) 15 == 0)=true):AC 37 [(j3 12)] (c1c s nd p1 p2) ((sA 14 ((([(u7.mk (nth [p1,p2] s.nx) (xJ (P8 (List.map Entry.card (stP nd s.now s.swept s.d).l))))]++(D9 p1 (E8 (sqA nd s).1)))++(D9 p2 (E8 (sqA nd s).2.2.1))).map u7.row)),[(o_ 0 2 [[(iI (r9 32)),(d9 1 (O5 nd s ((s.nx+1) % 2)).d.g 10 (List.length (O5 nd s ((s.nx+1) % 2)).d.l))]]),(o_ ((O5 nd s ((s.nx+1) % 2)).d.g) 10 (mE (O5 nd s ((s.nx+1) % 2)).d.l)),(o_ 0 3 [[(iI (O5 nd s ((s.nx+1) % 2)).d.gf),(iI (O5 nd s ((s.nx+1) % 2)).d.gl),(iI (O5 nd s ((s.nx+1) % 2)).d.gt)]]),(o_ 0 2 [[(iN ((List.length (O5 nd s ((s.nx+1) % 2)).d.al))),(d9 4 (O5 nd s ((s.nx+1) % 2)).d.ga 2 (l7 (O5 nd s ((s.nx+1) % 2)).d.al).length)]]),(o_ ((O5 nd s ((s.nx+1) % 2)).d.ga) 2 (mK (l7 (O5 nd s ((s.nx+1) % 2)).d.al))),(o_ 0 7 [[(iI nd),(iI (O5 nd s ((s.nx+1) % 2)).d.st.t),(iI (O5 nd s ((s.nx+1) % 2)).d.st.node),(iI (O5 nd s ((s.nx+1) % 2)).d.st.n),(j3 0),(j3 2),(j3 3)]]),(o_ 0 3 [[(d9 7 1 1 2),(d9 8 0 1 2),(iI (O5 nd s ((s.nx+1) % 2)).lost)]]),(o_ 1 1 (List.map y5 [p1,p2])),(o_ 0 1 [[(d9 9 (O5 nd s ((s.nx+1) % 2)).ga 9 (List.length (O5 nd s ((s.nx+1) % 2)).a))],[(d9 10 (O5 nd s ((s.nx+1) % 2)).gb 9 (List.length (O5 nd s ((s.nx+1) % 2)).b))]]),(o_ ((O5 nd s ((s.nx+1) % 2)).ga) 9 (mC (O5 nd s ((s.nx+1) % 2)).a)),(o_ ((O5 nd s ((s.nx+1) % 2)).gb) 9 (mC (O5 nd s ((s.nx+1) % 2)).b)),(o_ 1 1 []),(o_ 0 6 [[(iI (O5 nd s ((s.nx+1) % 2)).now),(iI (O5 nd s ((s.nx+1) % 2)).swept),(dH p1 p2),(iN ((O5 nd s ((s.nx+1) % 2)).nx)),(j3 5),(j3 6)]])]):=by
 have hq1:(sqA nd s).1.length<=16/\(sqA nd s).2.2.1.length<=16:=a2n _ _ hqa hqb
 have hpl:=Z4 p1 (E8 (sqA nd s).1)
 have hpm:=Z4 p2 (E8 (sqA nd s).2.2.1)
 have hwp:(stP nd s.now s.swept s.d).l.length < 1000:=Nat.lt_of_le_of_lt (a5a _ _) hw
 exact x9 (fn:=Tryz.f37) (ann:=c8I) (Has.o Tryz.func37) (.r (.s (.y 4 (iW (s.now+1)) (iI (s.now+1)) Yes.o (.s (.c 4 (j5.put2 [0,1,2,3,4,5] (gG s nd p1 p2) (j3 2) (gG s nd p1 p2) (fU s.d.l s.d.g s.d.al s.d.ga s.d.gf s.d.gl s.d.gt nd s.d.st ) rlA rlA) (.ch 9 (qH s nd p1 p2) (j5.put2 [2] (gG s nd p1 p2) F4 (qH s nd p1 p2) (gZ s.d.gf s.d.gl s.d.gt (s.now+1) ) D5 D5) (.rd (iI (s.now+1)) (gG s nd p1 p2) (.s (.y 5 (b8Q s) bT (Yes.b h1) (.ru (.y 20 (iW ((s.now+1) - s.swept)) (iI ((s.now+1) - s.swept)) Yes.o (.y 21 (iW (((s.now+1) - s.swept) - 20)) (iI (((s.now+1) - s.swept) - 20)) Yes.o (.ch 22 (qG nd s p1 p2) (j5.put2 [0,1,2,3,4,5] (qH s nd p1 p2) (a1q nd s) (qG nd s p1 p2) (a7V nd s hs hl ha hgt) rlA rlA) (.t 23 F4 (a2E nd s p1 p2) (j5.pre (args:=[(j3 6),(a1q nd s)]) (args':=[(j3 6),(a1q nd s)]) (j5.put2 [6,7,8,9,10] (qG nd s p1 p2) F4 (a2E nd s p1 p2) (a4E _ _ nd s hqa hqb hc1) rlG rlG) ⟨AV.l5 _,⟨rfl,rfl,.inl rfl⟩,trivial⟩:AC 32 [(j3 6),(a1q nd s)] (qG nd s p1 p2) (F4,(a2E nd s p1 p2))) (.rd (j3 6) (qG nd s p1 p2) (.s (.s (.ch 8 (a9e nd s p1 p2) (j5.put2 [0,1,2,3,4,5] (d4R nd s p1 p2) (iN ((Y9 (stW nd s.now s.swept s.d).l (l8 (s.now+1))).length)) (a9e nd s p1 p2) (a7Z nd s hw) rlA rlA) (.s (.s (.h' (jB nd s p1 p2) (.y 5 (b8P s) bT (Yes.b h2) (.u6 (.ru (.is 9 1 1 (List.map y5 [p1,p2]) (s.nx:Int) (y5 (nth [p1,p2] s.nx)) (N7.mk _ ow yg_) (.c 15 (j5.put2 [0,1,2,3,4,5] (jB nd s p1 p2) (j3 0) (jB nd s p1 p2) (bX (stP nd s.now s.swept s.d).l (stP nd s.now s.swept s.d).g (stP nd s.now s.swept s.d).al (stP nd s.now s.swept s.d).ga (stP nd s.now s.swept s.d).gf (stP nd s.now s.swept s.d).gl (stP nd s.now s.swept s.d).gt nd (stP nd s.now s.swept s.d).st.t (stP nd s.now s.swept s.d).st.node (stP nd s.now s.swept s.d).st.n ) rlA rlA) (.c 16 (j5.put2 [0,1] (jB nd s p1 p2) (sA 9 (mC ((stP nd s.now s.swept s.d).l.map (·.card)))) (jB nd s p1 p2) (bS (r9 32) (stP nd s.now s.swept s.d).l (stP nd s.now s.swept s.d).g (List.length (stP nd s.now s.swept s.d).l) oa oa) rlF rlF) (.c 17 ((vD ((stP nd s.now s.swept s.d).l.map (·.card)) oa).lift kr kr (jB nd s p1 p2)) (.ao 20 36 (d9 13 0 14 0) (AV.sl .clip 14 [[(iI (nth [p1,p2] s.nx)),(iI 4),z_,z_,z_,z_,z_,z_,e_,e_,bF,H9,(sA 9 (mC (P8 ((stP nd s.now s.swept s.d).l.map (·.card))))),w9]]) (d9 13 1 14 1) [(o_ 0 2 (b1k nd s)),(o_ ((stP nd s.now s.swept s.d).g) 10 (mE (stP nd s.now s.swept s.d).l)),(o_ 0 3 (b1j nd s)),(o_ 0 2 (b1i nd s)),(o_ ((stP nd s.now s.swept s.d).ga) 2 (mK (l7 (stP nd s.now s.swept s.d).al))),(o_ 0 7 (b1h nd s)),(o_ 0 3 (b1g nd s)),(o_ 1 1 (List.map y5 [p1,p2])),(o_ 0 1 (d0u nd s)),(o_ ((sqA nd s).2.1) 9 (mC (sqA nd s).1)),(o_ ((sqA nd s).2.2.2.1) 9 (mC (sqA nd s).2.2.1)),(o_ 1 1 []),(o_ 0 6 (d0t s p1 p2)),(o_ 1 14 (List.map u7.row ([]++([(u7.mk (nth [p1,p2] s.nx) (U5.mk 4 0 0 0 0 0 0 R8 false 0 (P8 ((stP nd s.now s.swept s.d).l.map (·.card)))))]))))] (I8 (T:=tt) (e:=56) (te:=iQ) (z:=1) (b:=24) (y:=[.sl .nil 0 []]) (row:=u7.row) (l:=[]) kr kr rfl D8 D8 kr Y3 om rfl rfl iP) (.rd (iN s.nx) (jB nd s p1 p2) (.rd (iN s.nx) (jB nd s p1 p2) (.rd (iN s.nx) (jB nd s p1 p2) (.rd (dH p1 p2) (jB nd s p1 p2) (.rd (dH p1 p2) (jB nd s p1 p2) (.rd (dH p1 p2) (jB nd s p1 p2) (.s (.y 5 (iW ((s.nx:Int)+1)) (iN (s.nx+1)) Yes.o (.y 11 (.int .i64 (Int.tmod ((s.nx+1:Nat):Int) 2)) (iN ((s.nx+1) % 2)) (Yes.rem) (.s (.g (.roll 3 (.r (.ru (.s (.ch 7 (c1f nd s p1 p2) (j5.put2 [6,7,8,9,10] [(o_ 0 2 (b1k nd s)),(o_ ((stP nd s.now s.swept s.d).g) 10 (mE (stP nd s.now s.swept s.d).l)),(o_ 0 3 (b1j nd s)),(o_ 0 2 (b1i nd s)),(o_ ((stP nd s.now s.swept s.d).ga) 2 (mK (l7 (stP nd s.now s.swept s.d).al))),(o_ 0 7 (b1h nd s)),(o_ 0 3 (b1g nd s)),(o_ 1 1 (List.map y5 [p1,p2])),(o_ 0 1 (d0u nd s)),(o_ ((sqA nd s).2.1) 9 (mC (sqA nd s).1)),(o_ ((sqA nd s).2.2.2.1) 9 (mC (sqA nd s).2.2.1)),(o_ 1 1 []),(o_ 0 6 (d0r s p1 p2)),(o_ 1 14 (List.map u7.row ([]++([(u7.mk (nth [p1,p2] s.nx) (U5.mk 4 0 0 0 0 0 0 R8 false 0 (P8 ((stP nd s.now s.swept s.d).l.map (·.card)))))]))))] (sA 9 (mC (E8 (sqA nd s).1))) (c1f nd s p1 p2) (sP p1 p2 (sqA nd s).2.2.2.2 (sqA nd s).1 (sqA nd s).2.1 (sqA nd s).2.2.1 (sqA nd s).2.2.2.1 oa oa) rlG rlG) (.c 8 ((bK p1 (E8 (sqA nd s).1)).lift kr kr (c1f nd s p1 p2)) (.ao 9 36 (d9 13 1 14 1) (sA 14 ((D9 p1 (E8 (sqA nd s).1)).map u7.row)) (d9 13 2 14 (1+(D9 p1 (E8 (sqA nd s).1)).length)) (d4O nd s p1 p2) (I8 (T:=tt) (e:=56) (te:=iQ) (z:=1) (b:=24) (y:=[.sl .nil 0 []]) (row:=u7.row) (l:=[]++([(u7.mk (nth [p1,p2] s.nx) (U5.mk 4 0 0 0 0 0 0 R8 false 0 (P8 ((stP nd s.now s.swept s.d).l.map (·.card)))))])) kr kr rfl D8 D8 kr Y3 om rfl rfl iP) (.s (.s (.ru (.s (.ch 7 (c1e nd s p1 p2) (j5.put2 [6,7,8,9,10] (d4O nd s p1 p2) (sA 9 (mC (E8 (sqA nd s).2.2.1))) (c1e nd s p1 p2) (sO p1 p2 (sqA nd s).2.2.2.2 (M7 (sqA nd s).1) (sqA nd s).2.1 (sqA nd s).2.2.1 (sqA nd s).2.2.2.1 oa oa) rlG rlG) (.c 8 ((bK p2 (E8 (sqA nd s).2.2.1)).lift kr kr (c1e nd s p1 p2)) (.ao 9 36 (d9 13 2 14 (1+(D9 p1 (E8 (sqA nd s).1)).length)) (sA 14 ((D9 p2 (E8 (sqA nd s).2.2.1)).map u7.row)) (d9 13 3 14 ((1+(D9 p1 (E8 (sqA nd s).1)).length)+(D9 p2 (E8 (sqA nd s).2.2.1)).length)) (d4N nd s p1 p2) (I8 (T:=tt) (e:=56) (te:=iQ) (z:=1) (b:=24) (y:=[.sl .nil 0 []]) (row:=u7.row) (l:=([]++([(u7.mk (nth [p1,p2] s.nx) (U5.mk 4 0 0 0 0 0 0 R8 false 0 (P8 ((stP nd s.now s.swept s.d).l.map (·.card)))))]))++(D9 p1 (E8 (sqA nd s).1))) kr kr rfl D8 D8 kr Y3 om rfl rfl iP) (.s (.s (.rn (.w 3 (List.map u7.row ((([]++([(u7.mk (nth [p1,p2] s.nx) (U5.mk 4 0 0 0 0 0 0 R8 false 0 (P8 ((stP nd s.now s.swept s.d).l.map (·.card)))))]))++(D9 p1 (E8 (sqA nd s).1)))++(D9 p2 (E8 (sqA nd s).2.2.1)))) (And.intro (G5 (room:=none) kr om) (u7.z8 _ _):I5 (d4N nd s p1 p2) 14 (d9 13 3 14 ((1+(D9 p1 (E8 (sqA nd s).1)).length)+(D9 p2 (E8 (sqA nd s).2.2.1)).length))=some (List.map u7.row ((([]++([(u7.mk (nth [p1,p2] s.nx) (U5.mk 4 0 0 0 0 0 0 R8 false 0 (P8 ((stP nd s.now s.swept s.d).l.map (·.card)))))]))++(D9 p1 (E8 (sqA nd s).1)))++(D9 p2 (E8 (sqA nd s).2.2.1))))/\AV.F3 0 (List.map u7.row ((([]++([(u7.mk (nth [p1,p2] s.nx) (U5.mk 4 0 0 0 0 0 0 R8 false 0 (P8 ((stP nd s.now s.swept s.d).l.map (·.card)))))]))++(D9 p1 (E8 (sqA nd s).1)))++(D9 p2 (E8 (sqA nd s).2.2.1))))=true) (.g (.h' [(o_ 0 2 (b1k nd s)),(o_ ((stP nd s.now s.swept s.d).g) 10 (mE (stP nd s.now s.swept s.d).l)),(o_ 0 3 (b1j nd s)),(o_ 0 2 (b1i nd s)),(o_ ((stP nd s.now s.swept s.d).ga) 2 (mK (l7 (stP nd s.now s.swept s.d).al))),(o_ 0 7 (b1h nd s)),(o_ 0 3 (b1g nd s)),(o_ 1 1 (List.map y5 [p1,p2])),(o_ 0 1 (d0s nd s)),(o_ ((sqA nd s).2.1) 9 (mC (M7 (sqA nd s).1))),(o_ ((sqA nd s).2.2.2.1) 9 (mC (M7 (sqA nd s).2.2.1))),(o_ 1 1 []),(o_ 0 6 (d0r s p1 p2))] (.q 13 (sA 14 (List.map u7.row ((([]++([(u7.mk (nth [p1,p2] s.nx) (U5.mk 4 0 0 0 0 0 0 R8 false 0 (P8 ((stP nd s.now s.swept s.d).l.map (·.card)))))]))++(D9 p1 (E8 (sqA nd s).1)))++(D9 p2 (E8 (sqA nd s).2.2.1))))))))))))))))))))))))))))))))))))))))))))))))))))))))))))))))))
def st2 (nd:Int) (s:S2):S2 :=
 if (Int.tmod (s.now+1) 20 == 0)=true then O5 nd s (if (Int.tmod (s.now+1) 15 == 0)=true then 1 - s.nx else s.nx)
 else O6 s (if (Int.tmod (s.now+1) 15 == 0)=true then 1 - s.nx else s.nx)
def cB (nd p1 p2:Int) (s:S2):List u7 :=
 (if (Int.tmod (s.now+1) 15 == 0)=true then [u7.mk (if s.nx=0 then p1 else p2) (xJ (P8 (List.map Entry.card (st2 nd s).d.l)))] else []) ++
 (if (Int.tmod (s.now+1) 20 == 0)=true then zO p1 p2 (sqA nd s).1 (sqA nd s).2.2.1 else zO p1 p2 s.a s.b)
structure d9J (nd:Int) (s:S2):Prop where
 hn:0<=s.now
 hn2:s.now < 1099511627776
 hqa:s.a.length<=16
 hqb:s.b.length<=16
 hs0:0<=s.swept
 hs1:s.swept<=s.now
 hs:bP s.d.l
 hl:s.d.l.length<=32
 ha:s.d.al.length < 60000
 hgt:0<=tkT s.d.gf s.d.gt (s.now+1)/\tkT s.d.gf s.d.gt (s.now+1)<=1048576
 hc1:(stC nd s.now s.swept s.d).length < 100
 hw:(stW nd s.now s.swept s.d).l.length < 1000
 nx:s.nx=0\/s.nx=1
theorem b2O (nd p1 p2:Int) (s:S2) (hp:¬ p1=p2) (h:d9J nd s):AC 37 [(j3 12)] [(o_ 0 2 [[(iI (r9 32)),(d9 1 s.d.g 10 s.d.l.length)]]),(o_ s.d.g 10 (mE s.d.l)),(o_ 0 3 [[(iI s.d.gf),(iI s.d.gl),(iI s.d.gt)]]),(o_ 0 2 [[(iN (s.d.al.length)),(d9 4 s.d.ga 2 (l7 s.d.al).length)]]),(o_ s.d.ga 2 (mK (l7 s.d.al))),(o_ 0 7 [[(iI nd),(iI s.d.st.t),(iI s.d.st.node),(iI s.d.st.n),(j3 0),(j3 2),(j3 3)]]),(o_ 0 3 [[(d9 7 1 1 2),(d9 8 0 1 2),(iI s.lost)]]),(o_ 1 1 (List.map y5 [p1,p2])),(o_ 0 1 [[(d9 9 s.ga 9 s.a.length)],[(d9 10 s.gb 9 s.b.length)]]),(o_ s.ga 9 (mC s.a)),(o_ s.gb 9 (mC s.b)),(o_ 1 1 []),(o_ 0 6 [[(iI s.now),(iI s.swept),(sA 1 [[(iI p1)],[(iI p2)]]),(iN s.nx),(j3 5),(j3 6)]])] ((sA 14 (List.map u7.row (cB nd p1 p2 s))),[(o_ 0 2 [[(iI (r9 32)),(d9 1 (st2 nd s).d.g 10 (List.length (st2 nd s).d.l))]]),(o_ ((st2 nd s).d.g) 10 (mE (st2 nd s).d.l)),(o_ 0 3 [[(iI (st2 nd s).d.gf),(iI (st2 nd s).d.gl),(iI (st2 nd s).d.gt)]]),(o_ 0 2 [[(iN ((List.length (st2 nd s).d.al))),(d9 4 (st2 nd s).d.ga 2 (l7 (st2 nd s).d.al).length)]]),(o_ ((st2 nd s).d.ga) 2 (mK (l7 (st2 nd s).d.al))),(o_ 0 7 [[(iI nd),(iI (st2 nd s).d.st.t),(iI (st2 nd s).d.st.node),(iI (st2 nd s).d.st.n),(j3 0),(j3 2),(j3 3)]]),(o_ 0 3 [[(d9 7 1 1 2),(d9 8 0 1 2),(iI (st2 nd s).lost)]]),(o_ 1 1 (List.map y5 [p1,p2])),(o_ 0 1 [[(d9 9 (st2 nd s).ga 9 (List.length (st2 nd s).a))],[(d9 10 (st2 nd s).gb 9 (List.length (st2 nd s).b))]]),(o_ ((st2 nd s).ga) 9 (mC (st2 nd s).a)),(o_ ((st2 nd s).gb) 9 (mC (st2 nd s).b)),(o_ 1 1 []),(o_ 0 6 [[(iI (st2 nd s).now),(iI (st2 nd s).swept),(sA 1 [[(iI p1)],[(iI p2)]]),(iN ((st2 nd s).nx)),(j3 5),(j3 6)]])]):=by
 have _:0+0=0:=by rw [Nat.add_zero]
 obtain ⟨hn,hn2,hqa,hqb,hs0,hs1,hs,hl,ha,hgt,hc1,hw,hx⟩:=h
 have en:(s.nx+1) % 2=1 - s.nx:=by omega
 have et:nth [p1,p2] s.nx=if s.nx=0 then p1 else p2:=by rcases hx with hx | hx <;> rw [hx] <;> rfl
 unfold cB st2 zO
 cases h1:(Int.tmod (s.now+1) 20 == 0) <;> cases h2:(Int.tmod (s.now+1) 15 == 0) <;> simp only [if_true,Bool.false_eq_true,if_false,List.nil_append]
 · exact c2G nd p1 p2 s hp hn hn2 hqa hqb h1 h2
 · have q:=c2F nd p1 p2 s hp hn hn2 hqa hqb ow hl h1 h2
   rw [List.append_assoc,en,et] at q
   exact q
 · exact c2E nd p1 p2 s hp hn hn2 hqa hqb hs0 hs1 hs hl ha hgt hc1 hw h1 h2
 · have q:=c2D nd p1 p2 s hp hn hn2 hqa hqb hs0 hs1 hs hl ha hgt hc1 hw ow h1 h2
   rw [List.append_assoc,en,et] at q
   exact q
attribute [local irreducible] N9 P8 Y7 Z8 fZ gB gT rW stC stP stW
structure S2I (n:Nat) (b:Int) (s:S2):Prop where
 d:aP n s.d
 hn:0<=s.now
 hn2:s.now<=b
 hqa:s.a.length<=16
 hqb:s.b.length<=16
 hs0:0<=s.swept
 hs1:s.swept<=s.now
 nx:s.nx=0\/s.nx=1
theorem S2I.mono {n m:Nat} {b c:Int} {s:S2} (h:S2I n b s) (hm:n<=m) (hb:b<=c):S2I m c s:=⟨h.d.mono hm,h.hn,Int.le_trans h.hn2 hb,h.hqa,h.hqb,h.hs0,h.hs1,h.nx⟩
theorem S2I.ok {n:Nat} {b:Int} {s:S2} (h:S2I n b s) (hn:n < 60000) (hb:b < 1099511627776) (nd:Int):d9J nd s :=
 have h1:=d6x h.d nd s.now s.swept
 have h2:=(c1Z h.d nd s.now s.swept).len
 have h3:=h.hn2
 have h4:=h.d.al
 ⟨h.hn,by omega,h.hqa,h.hqb,h.hs0,h.hs1,h.d.srt,h.d.len,by omega,c1N s.d.gf (s.now+1) ⟨h.d.g0,h.d.g1⟩,by omega,by omega,h.nx⟩
theorem S2I.step {n:Nat} {b:Int} {s:S2} (h:S2I n b s) (nd:Int):S2I (n+32) (b+1) (st2 nd s):=by
 have h3:=h.hn2
 have h5:=h.hn
 have h6:=h.hs0
 have h7:=h.hs1
 have h0:=h.nx
 have hx:∀ c:Bool,(if c=true then 1 - s.nx else s.nx)=0\/(if c=true then 1 - s.nx else s.nx)=1:=fun c=>by split <;> omega
 have hq:=a2n (stC nd s.now s.swept s.d) (sqT s) h.hqa h.hqb
 unfold st2
 split
 · exact ⟨d6w h.d nd s.now s.swept,by show 0<=s.now+1; omega,by show s.now+1<=b+1; omega,Nat.le_trans (uR _) hq.1,Nat.le_trans (uR _) hq.2,by show 0<=s.now+1; omega,Int.le_refl _,hx _⟩
 · exact ⟨(a4c h.d s.now).mono ow,by show 0<=s.now+1; omega,by show s.now+1<=b+1; omega,Nat.le_trans (uR _) h.hqa,Nat.le_trans (uR _) h.hqb,h.hs0,by show s.swept<=s.now+1; omega,hx _⟩
theorem zC (nd p1 p2:Int) (s:S2):(cB nd p1 p2 s).length<=3:=by
 have hp:∀ a b,(zO p1 p2 a b).length<=2:=fun a b=>by
  have h1:=Z4 p1 (E8 a)
  have h2:=Z4 p2 (E8 b)
  unfold zO; rw [List.length_append]; omega
 unfold cB
 rw [List.length_append]
 have h1:=hp (sqA nd s).1 (sqA nd s).2.2.1
 have h2:=hp s.a s.b
 have h3:(if (Int.tmod (s.now+1) 20 == 0)=true then zO p1 p2 (sqA nd s).1 (sqA nd s).2.2.1 else zO p1 p2 s.a s.b).length<=2:=by split <;> assumption
 have h4:(if (Int.tmod (s.now+1) 15 == 0)=true then [u7.mk (if s.nx=0 then p1 else p2) (xJ (P8 (List.map Entry.card (st2 nd s).d.l)))] else []).length<=1:=by split <;> simp
 omega
attribute [local irreducible] st2 cB
def j6 (nd p1 p2:Int):Nat->S2->S2 × List u7
 | 0,s=>(s,[])
 | k+1,s=>(st2 nd (j6 nd p1 p2 k s).1,(j6 nd p1 p2 k s).2++cB nd p1 p2 (j6 nd p1 p2 k s).1)
theorem gL {n:Nat} {b:Int} {s:S2} (h:S2I n b s) (nd p1 p2:Int):∀ (k:Nat),S2I (n+32 * k) (b+(k:Int)) (j6 nd p1 p2 k s).1/\(j6 nd p1 p2 k s).2.length<=3 * k
 | 0=>⟨by simpa [j6] using h,by simp [j6]⟩
 | k+1=>by
  obtain ⟨h1,h2⟩:=gL h nd p1 p2 k
  have h3:=zC nd p1 p2 (j6 nd p1 p2 k s).1
  refine ⟨(h1.step nd).mono ow ow,?_⟩
  show ((j6 nd p1 p2 k s).2++cB nd p1 p2 (j6 nd p1 p2 k s).1).length<=3 * (k+1)
  rw [List.length_append]; omega
def a2d:Ann:={ own:=[14],gh:=[(6,.frz 5)],gha:=[(1,.vir 5 14)],base:=13,fin:=some 13,live:=[(3,[0,5,8,9])],out:=[(3,[5])] }
@[simp] abbrev d4L (a:Int) (b:Int) (c:Int) (e:Nat) (f:S2):Ob:=(o_ 0 2 [[(iI (r9 32)),(d9 1 (st2 a (j6 a b c e f).1).d.g 10 (List.length (st2 a (j6 a b c e f).1).d.l))]])
@[simp] abbrev d4K (a:Int) (b:Int) (c:Int) (e:Nat) (f:S2):Ob:=(o_ ((st2 a (j6 a b c e f).1).d.g) 10 (mE (st2 a (j6 a b c e f).1).d.l))
@[simp] abbrev d4J (a:Int) (b:Int) (c:Int) (e:Nat) (f:S2):Ob:=(o_ 0 3 [[(iI (st2 a (j6 a b c e f).1).d.gf),(iI (st2 a (j6 a b c e f).1).d.gl),(iI (st2 a (j6 a b c e f).1).d.gt)]])
@[simp] abbrev d4I (a:Int) (b:Int) (c:Int) (e:Nat) (f:S2):Ob:=(o_ 0 2 [[(iN ((List.length (st2 a (j6 a b c e f).1).d.al))),(d9 4 (st2 a (j6 a b c e f).1).d.ga 2 (l7 (st2 a (j6 a b c e f).1).d.al).length)]])
@[simp] abbrev d4H (a:Int) (b:Int) (c:Int) (e:Nat) (f:S2):Ob:=(o_ ((st2 a (j6 a b c e f).1).d.ga) 2 (mK (l7 (st2 a (j6 a b c e f).1).d.al)))
@[simp] abbrev d4G (a:Int) (b:Int) (c:Int) (e:Nat) (f:S2):Ob:=(o_ 0 7 [[(iI a),(iI (st2 a (j6 a b c e f).1).d.st.t),(iI (st2 a (j6 a b c e f).1).d.st.node),(iI (st2 a (j6 a b c e f).1).d.st.n),(j3 0),(j3 2),(j3 3)]])
@[simp] abbrev d4F (a:Int) (b:Int) (c:Int) (d:Nat) (e:S2):Ob:=(o_ 0 3 [[(d9 7 1 1 2),(d9 8 0 1 2),(iI (st2 a (j6 a b c d e).1).lost)]])
@[simp] abbrev d4E (c:Int) (d:Int) (e:Int) (f:Nat) (g:S2):Ob:=(o_ 0 1 [[(d9 9 (st2 c (j6 c d e f g).1).ga 9 (List.length (st2 c (j6 c d e f g).1).a))],[(d9 10 (st2 c (j6 c d e f g).1).gb 9 (List.length (st2 c (j6 c d e f g).1).b))]])
@[simp] abbrev d4D (b:Int) (c:Int) (d:Int) (e:Nat) (f:S2):Ob:=(o_ ((st2 b (j6 b c d e f).1).ga) 9 (mC (st2 b (j6 b c d e f).1).a))
@[simp] abbrev c7v (a:Int) (c:Int) (d:Int) (e:Nat) (f:S2):Ob:=(o_ ((st2 a (j6 a c d e f).1).gb) 9 (mC (st2 a (j6 a c d e f).1).b))
@[simp] abbrev c7u (a:Int) (b:Int) (c:Int) (d:Nat) (e:S2):Ob:=(o_ 0 6 [[(iI (st2 a (j6 a b c d e).1).now),(iI (st2 a (j6 a b c d e).1).swept),(dH b c),(iN ((st2 a (j6 a b c d e).1).nx)),(j3 5),(j3 6)]])
@[simp] abbrev d8Y (a:Int) (b:Int) (c:Int) (d:Nat) (e:S2):Heap:=[d4L a b c d e,d4K a b c d e,d4J a b c d e,d4I a b c d e,d4H a b c d e,d4G a b c d e,d4F a b c d e,(o_ 1 1 (List.map y5 [b,c])),d4E a b c d e,d4D a b c d e,c7v a b c d e,(o_ 1 1 []),c7u a b c d e,(o_ (d+1) 14 (((j6 a b c d e).2++(cB a b c (j6 a b c d e).1)).map u7.row))]
@[simp] abbrev c7t (a:Nat) (b:Int) (c:Int) (d:Int) (e:S2):Ob:=(o_ a 14 (List.map u7.row (j6 b c d a e).2))
@[simp] abbrev d2h (c:Int) (e:Int) (f:Int) (h:Nat) (i:S2):Heap:=[(o_ 0 2 [[(iI (r9 32)),(d9 1 (j6 c e f h i).1.d.g 10 (List.length (j6 c e f h i).1.d.l))]]),(o_ ((j6 c e f h i).1.d.g) 10 (mE (j6 c e f h i).1.d.l)),(o_ 0 3 [[(iI (j6 c e f h i).1.d.gf),(iI (j6 c e f h i).1.d.gl),(iI (j6 c e f h i).1.d.gt)]]),(o_ 0 2 [[(iN ((List.length (j6 c e f h i).1.d.al))),(d9 4 (j6 c e f h i).1.d.ga 2 (l7 (j6 c e f h i).1.d.al).length)]]),(o_ ((j6 c e f h i).1.d.ga) 2 (mK (l7 (j6 c e f h i).1.d.al))),(o_ 0 7 [[(iI c),(iI (j6 c e f h i).1.d.st.t),(iI (j6 c e f h i).1.d.st.node),(iI (j6 c e f h i).1.d.st.n),(j3 0),(j3 2),(j3 3)]]),(o_ 0 3 [[(d9 7 1 1 2),(d9 8 0 1 2),(iI (j6 c e f h i).1.lost)]]),(o_ 1 1 (List.map y5 [e,f])),(o_ 0 1 [[(d9 9 (j6 c e f h i).1.ga 9 (List.length (j6 c e f h i).1.a))],[(d9 10 (j6 c e f h i).1.gb 9 (List.length (j6 c e f h i).1.b))]]),(o_ ((j6 c e f h i).1.ga) 9 (mC (j6 c e f h i).1.a)),(o_ ((j6 c e f h i).1.gb) 9 (mC (j6 c e f h i).1.b)),(o_ 1 1 []),(o_ 0 6 [[(iI (j6 c e f h i).1.now),(iI (j6 c e f h i).1.swept),(dH e f),(iN ((j6 c e f h i).1.nx)),(j3 5),(j3 6)]]),c7t h c e f i]
@[simp] abbrev d8X (a:Int) (b:Int) (c:Int) (d:Nat) (e:S2):Heap:=[d4L a b c d e,d4K a b c d e,d4J a b c d e,d4I a b c d e,d4H a b c d e,d4G a b c d e,d4F a b c d e,(o_ 1 1 (List.map y5 [b,c])),d4E a b c d e,d4D a b c d e,c7v a b c d e,(o_ 1 1 []),c7u a b c d e,c7t d a b c e]
theorem a9q (nd p1 p2:Int) (m n:Nat) (b:Int) (s:S2) (i:Nat) (hp:¬ p1=p2) (hm:m<=1024) (hmx:(max 0 (min m 1024))=m) (hI:S2I n b s) (hn:n+32 * m < 60000) (hb:b+(m:Int) < 1099511627776) (hi:i<=m) {eX:Ex} {FX:Fr} {HX:Heap} (k1:(l9 i (max 0 (min m 1024)))=true->l6 (C8 a2d Tryz.f11 0) (some [0,5,8,9]) (some [5]) (mkF 17 [(0,(j3 12)),(5,(d9 13 (i+1) 14 ((List.length (j6 nd p1 p2 i s).2)+(cB nd p1 p2 (j6 nd p1 p2 i s).1).length))),(8,(iN ((max 0 (min m 1024))))),(9,(iN (i+1)))]) (d8Y nd p1 p2 i s) eX FX HX) (k2:(l9 i (max 0 (min m 1024)))=false->((.exit 0:Ex),(mkF 17 [(5,(d9 13 i 14 (List.length (j6 nd p1 p2 i s).2)))]),(d2h nd p1 p2 i s))=(eX,FX,HX)):l6 (C8 a2d Tryz.f11 0) (some [0,5,8,9]) (some [5]) (mkF 17 [(0,(j3 12)),(5,(d9 13 i 14 (List.length (j6 nd p1 p2 i s).2))),(8,(iN ((max 0 (min m 1024))))),(9,(iN i))]) (d2h nd p1 p2 i s) eX FX HX:=by
 have hl:=(gL hI nd p1 p2 i).2
 have hl2:=zC nd p1 p2 (j6 nd p1 p2 i s).1
 exact J7 (.r (.g (.two (l9 i (max 0 (min m 1024))) (fun h1 h1'=>(.r (.ch 2 (d8X nd p1 p2 i s) (j5.put2 [0,1,2,3,4,5,6,7,8,9,10,11,12] (d2h nd p1 p2 i s) (sA 14 ((cB nd p1 p2 (j6 nd p1 p2 i s).1).map u7.row)) (d8X nd p1 p2 i s) (b2O nd p1 p2 (j6 nd p1 p2 i s).1 hp ((gL hI nd p1 p2 i).1.ok (by simp at h1; omega) (by simp at h1; omega) nd)) rlH rlH) (.ao 3 36 (d9 13 i 14 (List.length (j6 nd p1 p2 i s).2)) (sA 14 ((cB nd p1 p2 (j6 nd p1 p2 i s).1).map u7.row)) (d9 13 (i+1) 14 ((List.length (j6 nd p1 p2 i s).2)+(cB nd p1 p2 (j6 nd p1 p2 i s).1).length)) (d8Y nd p1 p2 i s) (I8 (T:=tt) (e:=56) (te:=iQ) (z:=1) (b:=24) (y:=[.sl .nil 0 []]) (row:=u7.row) (l:=(j6 nd p1 p2 i s).2) kr kr rfl D8 D8 kr Y3 om rfl rfl iP) (.s (.y 0 (.int .i64 (cb_ i)) (iN (i+1)) Yes.o (.g (.l (k1 h1))))))))) (fun h1 h1'=>(.l (k2 h1))))))
theorem c7U (nd p1 p2:Int) (m n:Nat) (b:Int) (s:S2) (hp:¬ p1=p2) (hm:m<=1024) (hmx:(max 0 (min m 1024))=m) (hI:S2I n b s) (hn:n+32 * m < 60000) (hb:b+(m:Int) < 1099511627776) (r:Nat):∀ i,i+r=m ->
 l6 (C8 a2d Tryz.f11 0) (some [0,5,8,9]) (some [5]) (mkF 17 [(0,(j3 12)),(5,(d9 13 i 14 (List.length (j6 nd p1 p2 i s).2))),(8,(iN ((max 0 (min m 1024))))),(9,(iN i))]) [(o_ 0 2 [[(iI (r9 32)),(d9 1 (j6 nd p1 p2 i s).1.d.g 10 (List.length (j6 nd p1 p2 i s).1.d.l))]]),(o_ ((j6 nd p1 p2 i s).1.d.g) 10 (mE (j6 nd p1 p2 i s).1.d.l)),(o_ 0 3 [[(iI (j6 nd p1 p2 i s).1.d.gf),(iI (j6 nd p1 p2 i s).1.d.gl),(iI (j6 nd p1 p2 i s).1.d.gt)]]),(o_ 0 2 [[(iN ((List.length (j6 nd p1 p2 i s).1.d.al))),(d9 4 (j6 nd p1 p2 i s).1.d.ga 2 (l7 (j6 nd p1 p2 i s).1.d.al).length)]]),(o_ ((j6 nd p1 p2 i s).1.d.ga) 2 (mK (l7 (j6 nd p1 p2 i s).1.d.al))),(o_ 0 7 [[(iI nd),(iI (j6 nd p1 p2 i s).1.d.st.t),(iI (j6 nd p1 p2 i s).1.d.st.node),(iI (j6 nd p1 p2 i s).1.d.st.n),(j3 0),(j3 2),(j3 3)]]),(o_ 0 3 [[(d9 7 1 1 2),(d9 8 0 1 2),(iI (j6 nd p1 p2 i s).1.lost)]]),(o_ 1 1 (List.map y5 [p1,p2])),(o_ 0 1 [[(d9 9 (j6 nd p1 p2 i s).1.ga 9 (List.length (j6 nd p1 p2 i s).1.a))],[(d9 10 (j6 nd p1 p2 i s).1.gb 9 (List.length (j6 nd p1 p2 i s).1.b))]]),(o_ ((j6 nd p1 p2 i s).1.ga) 9 (mC (j6 nd p1 p2 i s).1.a)),(o_ ((j6 nd p1 p2 i s).1.gb) 9 (mC (j6 nd p1 p2 i s).1.b)),(o_ 1 1 []),(o_ 0 6 [[(iI (j6 nd p1 p2 i s).1.now),(iI (j6 nd p1 p2 i s).1.swept),(sA 1 [[(iI p1)],[(iI p2)]]),(iN ((j6 nd p1 p2 i s).1.nx)),(j3 5),(j3 6)]]),(o_ i 14 (List.map u7.row (j6 nd p1 p2 i s).2))] (.exit 0) (mkF 17 [(5,(d9 13 m 14 (List.length (j6 nd p1 p2 m s).2)))]) [(o_ 0 2 [[(iI (r9 32)),(d9 1 (j6 nd p1 p2 m s).1.d.g 10 (List.length (j6 nd p1 p2 m s).1.d.l))]]),(o_ ((j6 nd p1 p2 m s).1.d.g) 10 (mE (j6 nd p1 p2 m s).1.d.l)),(o_ 0 3 [[(iI (j6 nd p1 p2 m s).1.d.gf),(iI (j6 nd p1 p2 m s).1.d.gl),(iI (j6 nd p1 p2 m s).1.d.gt)]]),(o_ 0 2 [[(iN ((List.length (j6 nd p1 p2 m s).1.d.al))),(d9 4 (j6 nd p1 p2 m s).1.d.ga 2 (l7 (j6 nd p1 p2 m s).1.d.al).length)]]),(o_ ((j6 nd p1 p2 m s).1.d.ga) 2 (mK (l7 (j6 nd p1 p2 m s).1.d.al))),(o_ 0 7 [[(iI nd),(iI (j6 nd p1 p2 m s).1.d.st.t),(iI (j6 nd p1 p2 m s).1.d.st.node),(iI (j6 nd p1 p2 m s).1.d.st.n),(j3 0),(j3 2),(j3 3)]]),(o_ 0 3 [[(d9 7 1 1 2),(d9 8 0 1 2),(iI (j6 nd p1 p2 m s).1.lost)]]),(o_ 1 1 (List.map y5 [p1,p2])),(o_ 0 1 [[(d9 9 (j6 nd p1 p2 m s).1.ga 9 (List.length (j6 nd p1 p2 m s).1.a))],[(d9 10 (j6 nd p1 p2 m s).1.gb 9 (List.length (j6 nd p1 p2 m s).1.b))]]),(o_ ((j6 nd p1 p2 m s).1.ga) 9 (mC (j6 nd p1 p2 m s).1.a)),(o_ ((j6 nd p1 p2 m s).1.gb) 9 (mC (j6 nd p1 p2 m s).1.b)),(o_ 1 1 []),(o_ 0 6 [[(iI (j6 nd p1 p2 m s).1.now),(iI (j6 nd p1 p2 m s).1.swept),(sA 1 [[(iI p1)],[(iI p2)]]),(iN ((j6 nd p1 p2 m s).1.nx)),(j3 5),(j3 6)]]),(o_ m 14 (List.map u7.row (j6 nd p1 p2 m s).2))]:=by
 induction r with
 | zero =>
  intro i hi
  obtain rfl:i=m:=by omega
  refine a9q nd p1 p2 i n b s i hp hm hmx hI hn hb J8 (fun h=>absurd (of_decide_eq_true h) ow) fun _=>rfl
 | succ r ih =>
  intro i hi
  refine a9q nd p1 p2 m n b s i hp hm hmx hI hn hb ow (fun _=>?_) (fun h=>absurd (of_decide_eq_false h) ow)
  have q:=ih (i+1) ow
  have e:(j6 nd p1 p2 (i+1) s).2.length=(j6 nd p1 p2 i s).2.length+(cB nd p1 p2 (j6 nd p1 p2 i s).1).length:=List.length_append
  rw [e] at q
  exact q
@[simp] abbrev qX (a:S2) (b:Int) (c:Int):Ob:=(o_ 0 6 (b8R a b c))
@[simp] abbrev P9 (c:S2) (e:Int) (f:Int) (h:Int):Heap:=[aO c,(o_ c.d.g 10 (mE c.d.l)),eG c,aN c,X5 c,dJ e c,X4 c,(o_ 1 1 (List.map y5 [f,h])),cZ c,(o_ c.ga 9 (mC c.a)),(o_ c.gb 9 (mC c.b)),(o_ 1 1 []),qX c f h]
abbrev d2g (c:S2) (e:Int) (f:Int) (h:Int):Heap:=[aO c,(o_ c.d.g 10 (mE c.d.l)),eG c,aN c,X5 c,dJ e c,X4 c,(o_ 1 1 (List.map y5 [f,h])),cZ c,(o_ c.ga 9 (mC c.a)),(o_ c.gb 9 (mC c.b)),(o_ 1 1 []),qX c f h,(o_ 0 14 (List.map u7.row []))]
theorem wU (nd p1 p2:Int) (m n:Nat) (b:Int) (s:S2) (hp:¬ p1=p2) (hm:m<=1024) (hmx:(max 0 (min m 1024))=m) (hI:S2I n b s) (hn:n+32 * m < 60000) (hb:b+(m:Int) < 1099511627776):AC 11 [(j3 12),(iN m)] (P9 s nd p1 p2) ((sA 14 (List.map u7.row (j6 nd p1 p2 m s).2)),[(o_ 0 2 [[(iI (r9 32)),(d9 1 (j6 nd p1 p2 m s).1.d.g 10 (List.length (j6 nd p1 p2 m s).1.d.l))]]),(o_ ((j6 nd p1 p2 m s).1.d.g) 10 (mE (j6 nd p1 p2 m s).1.d.l)),(o_ 0 3 [[(iI (j6 nd p1 p2 m s).1.d.gf),(iI (j6 nd p1 p2 m s).1.d.gl),(iI (j6 nd p1 p2 m s).1.d.gt)]]),(o_ 0 2 [[(iN ((List.length (j6 nd p1 p2 m s).1.d.al))),(d9 4 (j6 nd p1 p2 m s).1.d.ga 2 (l7 (j6 nd p1 p2 m s).1.d.al).length)]]),(o_ ((j6 nd p1 p2 m s).1.d.ga) 2 (mK (l7 (j6 nd p1 p2 m s).1.d.al))),(o_ 0 7 [[(iI nd),(iI (j6 nd p1 p2 m s).1.d.st.t),(iI (j6 nd p1 p2 m s).1.d.st.node),(iI (j6 nd p1 p2 m s).1.d.st.n),(j3 0),(j3 2),(j3 3)]]),(o_ 0 3 [[(d9 7 1 1 2),(d9 8 0 1 2),(iI (j6 nd p1 p2 m s).1.lost)]]),(o_ 1 1 (List.map y5 [p1,p2])),(o_ 0 1 [[(d9 9 (j6 nd p1 p2 m s).1.ga 9 (List.length (j6 nd p1 p2 m s).1.a))],[(d9 10 (j6 nd p1 p2 m s).1.gb 9 (List.length (j6 nd p1 p2 m s).1.b))]]),(o_ ((j6 nd p1 p2 m s).1.ga) 9 (mC (j6 nd p1 p2 m s).1.a)),(o_ ((j6 nd p1 p2 m s).1.gb) 9 (mC (j6 nd p1 p2 m s).1.b)),(o_ 1 1 []),(o_ 0 6 [[(iI (j6 nd p1 p2 m s).1.now),(iI (j6 nd p1 p2 m s).1.swept),(dH p1 p2),(iN ((j6 nd p1 p2 m s).1.nx)),(j3 5),(j3 6)]])]):=by
 have hl:=(gL hI nd p1 p2 m).2
 exact x9 (fn:=Tryz.f11) (ann:=a2d) (Has.o Tryz.func11) (.r (.s (.s (.h' (d2g s nd p1 p2) (.y 1 (.int .i64 (if 1024 < (m:Int) then 1024 else (m:Int))) (iN (min m 1024)) (Yes.int yv_) (.y 2 (.int .i64 (if ((min m 1024:Nat):Int) > 0 then ((min m 1024:Nat):Int) else 0)) (iN (max 0 (min m 1024))) (Yes.int yv_) (.g (.loop (mkF 17 [(5,(d9 13 m 14 (List.length (j6 nd p1 p2 m s).2)))]) (c7U nd p1 p2 m n b s hp hm hmx hI hn hb m 0 ow) (.r (.w 5 (List.map u7.row (j6 nd p1 p2 m s).2) (And.intro (G5 (room:=none) kr om) (u7.z8 _ _):I5 [(o_ 0 2 [[(iI (r9 32)),(d9 1 (j6 nd p1 p2 m s).1.d.g 10 (List.length (j6 nd p1 p2 m s).1.d.l))]]),(o_ ((j6 nd p1 p2 m s).1.d.g) 10 (mE (j6 nd p1 p2 m s).1.d.l)),(o_ 0 3 [[(iI (j6 nd p1 p2 m s).1.d.gf),(iI (j6 nd p1 p2 m s).1.d.gl),(iI (j6 nd p1 p2 m s).1.d.gt)]]),(o_ 0 2 [[(iN ((List.length (j6 nd p1 p2 m s).1.d.al))),(d9 4 (j6 nd p1 p2 m s).1.d.ga 2 (l7 (j6 nd p1 p2 m s).1.d.al).length)]]),(o_ ((j6 nd p1 p2 m s).1.d.ga) 2 (mK (l7 (j6 nd p1 p2 m s).1.d.al))),(o_ 0 7 [[(iI nd),(iI (j6 nd p1 p2 m s).1.d.st.t),(iI (j6 nd p1 p2 m s).1.d.st.node),(iI (j6 nd p1 p2 m s).1.d.st.n),(j3 0),(j3 2),(j3 3)]]),(o_ 0 3 [[(d9 7 1 1 2),(d9 8 0 1 2),(iI (j6 nd p1 p2 m s).1.lost)]]),(o_ 1 1 (List.map y5 [p1,p2])),(o_ 0 1 [[(d9 9 (j6 nd p1 p2 m s).1.ga 9 (List.length (j6 nd p1 p2 m s).1.a))],[(d9 10 (j6 nd p1 p2 m s).1.gb 9 (List.length (j6 nd p1 p2 m s).1.b))]]),(o_ ((j6 nd p1 p2 m s).1.ga) 9 (mC (j6 nd p1 p2 m s).1.a)),(o_ ((j6 nd p1 p2 m s).1.gb) 9 (mC (j6 nd p1 p2 m s).1.b)),(o_ 1 1 []),(o_ 0 6 [[(iI (j6 nd p1 p2 m s).1.now),(iI (j6 nd p1 p2 m s).1.swept),(dH p1 p2),(iN ((j6 nd p1 p2 m s).1.nx)),(j3 5),(j3 6)]]),(o_ m 14 (List.map u7.row (j6 nd p1 p2 m s).2))] 14 (d9 13 m 14 (List.length (j6 nd p1 p2 m s).2))=some (List.map u7.row (j6 nd p1 p2 m s).2)/\AV.F3 0 (List.map u7.row (j6 nd p1 p2 m s).2)=true) (.g (.h' [(o_ 0 2 [[(iI (r9 32)),(d9 1 (j6 nd p1 p2 m s).1.d.g 10 (List.length (j6 nd p1 p2 m s).1.d.l))]]),(o_ ((j6 nd p1 p2 m s).1.d.g) 10 (mE (j6 nd p1 p2 m s).1.d.l)),(o_ 0 3 [[(iI (j6 nd p1 p2 m s).1.d.gf),(iI (j6 nd p1 p2 m s).1.d.gl),(iI (j6 nd p1 p2 m s).1.d.gt)]]),(o_ 0 2 [[(iN ((List.length (j6 nd p1 p2 m s).1.d.al))),(d9 4 (j6 nd p1 p2 m s).1.d.ga 2 (l7 (j6 nd p1 p2 m s).1.d.al).length)]]),(o_ ((j6 nd p1 p2 m s).1.d.ga) 2 (mK (l7 (j6 nd p1 p2 m s).1.d.al))),(o_ 0 7 [[(iI nd),(iI (j6 nd p1 p2 m s).1.d.st.t),(iI (j6 nd p1 p2 m s).1.d.st.node),(iI (j6 nd p1 p2 m s).1.d.st.n),(j3 0),(j3 2),(j3 3)]]),(o_ 0 3 [[(d9 7 1 1 2),(d9 8 0 1 2),(iI (j6 nd p1 p2 m s).1.lost)]]),(o_ 1 1 (List.map y5 [p1,p2])),(o_ 0 1 [[(d9 9 (j6 nd p1 p2 m s).1.ga 9 (List.length (j6 nd p1 p2 m s).1.a))],[(d9 10 (j6 nd p1 p2 m s).1.gb 9 (List.length (j6 nd p1 p2 m s).1.b))]]),(o_ ((j6 nd p1 p2 m s).1.ga) 9 (mC (j6 nd p1 p2 m s).1.a)),(o_ ((j6 nd p1 p2 m s).1.gb) 9 (mC (j6 nd p1 p2 m s).1.b)),(o_ 1 1 []),(o_ 0 6 [[(iI (j6 nd p1 p2 m s).1.now),(iI (j6 nd p1 p2 m s).1.swept),(dH p1 p2),(iN ((j6 nd p1 p2 m s).1.nx)),(j3 5),(j3 6)]])] (.q 13 (sA 14 (List.map u7.row (j6 nd p1 p2 m s).2)))))))))))))))
@[simp] abbrev e1k (c:Int) (e:S2) (f:Int) (h:Int):Heap:=[(o_ 0 2 [[(iI (r9 32)),(d9 1 (st2 c e).d.g 10 (List.length (st2 c e).d.l))]]),(o_ ((st2 c e).d.g) 10 (mE (st2 c e).d.l)),(o_ 0 3 [[(iI (st2 c e).d.gf),(iI (st2 c e).d.gl),(iI (st2 c e).d.gt)]]),(o_ 0 2 [[(iN ((List.length (st2 c e).d.al))),(d9 4 (st2 c e).d.ga 2 (l7 (st2 c e).d.al).length)]]),(o_ ((st2 c e).d.ga) 2 (mK (l7 (st2 c e).d.al))),(o_ 0 7 [[(iI c),(iI (st2 c e).d.st.t),(iI (st2 c e).d.st.node),(iI (st2 c e).d.st.n),(j3 0),(j3 2),(j3 3)]]),(o_ 0 3 [[(d9 7 1 1 2),(d9 8 0 1 2),(iI (st2 c e).lost)]]),(o_ 1 1 (List.map y5 [f,h])),(o_ 0 1 [[(d9 9 (st2 c e).ga 9 (List.length (st2 c e).a))],[(d9 10 (st2 c e).gb 9 (List.length (st2 c e).b))]]),(o_ ((st2 c e).ga) 9 (mC (st2 c e).a)),(o_ ((st2 c e).gb) 9 (mC (st2 c e).b)),(o_ 1 1 []),(o_ 0 6 [[(iI (st2 c e).now),(iI (st2 c e).swept),(dH f h),(iN ((st2 c e).nx)),(j3 5),(j3 6)]])]
theorem a0L (nd p1 p2:Int) (n:Nat) (b:Int) (s:S2) (hp:¬ p1=p2) (hI:S2I n b s) (hn:n < 59000) (hb:b < 1099511627775):AC 11 [(j3 12),(iI 1)] (P9 s nd p1 p2) ((sA 14 (List.map u7.row (cB nd p1 p2 s))),(e1k nd s p1 p2)):=by
 have q:=wU nd p1 p2 1 n b s hp ow D8 hI ow ow
 simp only [j6,List.nil_append] at q
 exact q
end Go.Proofs.YtmghjcbabebanaaGreat.AM
