/-
  Texts of this claim, part 4 of 7: an abstract machine over the model; what functions come to; plain laws.
-/
import Derived.Test.YtmghjcbabebanaaGreatMServerPairs3
set_option maxRecDepth 100000
set_option linter.unusedVariables false
set_option linter.unusedSimpArgs false
set_option linter.unusedSectionVars false
namespace Go.Proofs.YtmghjcbabebanaaGreat.AM
open Go Go.Proofs.YtmghjcbabebanaaGreat
attribute [local irreducible] A8 C9 D7 F3 F7 G7 M0 M5 M8 N8 O6 O7 P9 Q6 Q7 Tp.F9 Tp.G8 Tp.card Tp.cards Tp.key Tp.keyT Tp.next Tp.step cmpL j6 l7 l9 sink z8
def a8O:Ann:={ gha:=[(2,.vir 2 1)],fin:=some 1 }
theorem a6C  :AC 230 [(AV.sl .nil 0 [])] [] ((AV.osl 0 0 1 0 0),[(o_ 0 1 (List.map rU8 []))]) :=
 q9 (fn:=Tryz.f230) (ann:=a8O) (Has.o Tryz.func230) (.r (.s (.ru (.g (.h' [(o_ 0 1 (List.map rU8 []))] (.q 1 (AV.osl 0 0 1 0 0)))))))
def a8N:Ann:={ own:=[7],fin:=some 1 }
@[simp] abbrev a6R (a:List Int):=(AV.osl 0 0 1 0 a.length)
@[reducible] def nZ:TI:={ d:=.int .u8,size:=1,bytes:=1,zero:=[.int .u8 0] }
theorem a6B (l:List Int) (hl:l.length < 1099511627776):AC 230 [(AV.sl .op 1 (List.map rU8 l))] [] ((a6R l),[(o_ 0 1 (List.map rU8 l))]) :=
 q9 (fn:=Tryz.f230) (ann:=a8N) (Has.o Tryz.func230) (.r (.s (.rn (.ao 2 238 (AV.sl .clip 1 []) (AV.sl .op 1 (List.map rU8 l)) (a6R l) [(o_ 0 1 (List.map rU8 l))] (bM (T:=tt) (e:=5) (te:=nZ) (z:=1) (b:=24) (y:=[.sl .nil 0 []]) (row:=rU8) kr kr rfl E9 E9 yf_ aR rfl rfl rfl om) (.q 1 (a6R l))))))
theorem a8M (l:List Int) (hl:l.length < 1099511627776):AC 230 [(sA 1 (List.map rU8 l))] [] ((AV.osl 0 0 1 0 l.length),[(o_ 0 1 (List.map rU8 l))]):=j6.a4A (fun h=>by
 have h2:l=[]:=by simpa using h
 subst h2; exact a6C) (a6B l hl)
theorem a4f (l:List Int) (hl:l.length < 1099511627776) (H:Heap):AC 230 [(sA 1 (List.map rU8 l))] H (.osl H.length 0 1 0 l.length,H++([(o_ 0 1 (List.map rU8 l))]:Heap)):=(a8M l hl).a0z kr (by simp [AV.D5,rP]) H
def V5 (b:List Int) (n:Int):List Int:=b++[IntKind.u8.wrap n]
theorem lZ (b:List Int) (n:Int):(V5 b n).length=b.length+1:=by simp [V5]
def b6u:Ann:={ own:=[10],fin:=some 1 }
theorem qF {p:Prop} (h:p:=by first | omega | (show _ * 1<=_; omega) | (simp; done) | (simp; omega)):p:=h
@[simp] abbrev b2y (a:List Int):=(AV.osl 0 1 1 0 (a.length+1))
theorem a1S (b:List Int) (n:Int) (hb:b.length < 1048576):AC 224 [(sA 1 (List.map rU8 b)),(iI n)] [] ((AV.osl 0 1 1 0 (V5 b n).length),[(o_ 1 1 (List.map rU8 (V5 b n)))]):=by
 have hB:=lZ b n
 exact q9 (fn:=Tryz.f224) (ann:=b6u) (Has.o Tryz.func224) (.r (.s (.ch 1 [(o_ 0 1 (List.map rU8 b))] (a4f b oa []) (.ao 5 238 (a6R b) (AV.sl .clip 1 [[(AV.int .u8 (IntKind.u8.wrap n))]]) (b2y b) [(o_ 1 1 (List.map rU8 (b++[(IntKind.u8.wrap n)])))] (J2 (T:=tt) (e:=5) (te:=nZ) (z:=1) (b:=24) (y:=[.sl .nil 0 []]) (row:=rU8) (l:=b) kr kr rfl E9 E9 kr aR om rfl rfl qF) (.q 1 (b2y b) (by simp [V5]))))))
theorem c1m (b:List Int) (n:Int) (hb:b.length < 1048576) (H:Heap):AC 224 [(sA 1 (List.map rU8 b)),(iI n)] H (.osl H.length 1 1 0 (V5 b n).length,H++([(o_ 1 1 (List.map rU8 (V5 b n)))]:Heap)):=(a1S b n hb).a0z kr (by simp [AV.D5,rP]) H
theorem b2z (b:List Int) (n:Int) (hb:b.length < 1048576):AC 224 [(sA 1 (List.map rU8 b)),(iI n)] [] ((sA 1 (List.map rU8 (V5 b n))),[]):=by
 have h1:=(a1S b n hb).a2K (xs:=(V5 b n).map rU8) (G9 (room:=none) kr (by first | omega | simp)) (rP _ _)
 exact j6.forget (H2:=[]) (X:=[(o_ 2 1 [])]) h1 rfl kr (fun id o ho=>by simp at ho)
def wU (s:ByteArray):ByteArray:=ByteArray.extract s 0 (min s.size 255)
theorem a4c (s:ByteArray):(wU s).size=min s.size 255:=by simp [wU]
def R3 (b:List Int) (s:ByteArray):List Int:=V5 b (wU s).size++J8 (wU s)
theorem lV (b:List Int) (s:ByteArray):(R3 b s).length<=b.length+256:=by
 have:=a4c s
 simp only [R3,List.length_append,lZ,oC]; omega
def b3O:Ann:={ own:=[15],fin:=some 1 }
@[simp] abbrev c5N (a:List Int) (b:ByteArray):=(AV.osl 0 2 1 0 ((V5 a (((ByteArray.extract b 0 (min b.size 255)).size:Nat):Int)).length+(J8 (ByteArray.extract b 0 (min b.size 255))).length))
theorem a9J (b:List Int) (s:ByteArray) (hb:b.length < 1048576):AC 225 [(sA 1 (List.map rU8 b)),(AV.str s)] [] ((AV.osl 0 2 1 0 (R3 b s).length),[(o_ 2 1 (List.map rU8 (R3 b s)))]):=by
 have hT:=lV b s
 have h7:(ByteArray.extract s 0 (min s.size 255)).size=min s.size 255:=a4c s
 have h5:=lZ b ((min s.size 255:Nat):Int)
 have h6:=oC (ByteArray.extract s 0 (min s.size 255))
 exact q9 (fn:=Tryz.f225) (ann:=b3O) (Has.o Tryz.func225) (.r (.s (.y 3 (.int .i64 (if 255 < (s.size:Int) then 255 else (s.size:Int))) (iN (min s.size 255)) (Yes.int eD) (.t 4 (AV.str (ByteArray.extract s 0 (min s.size 255))) [] (b4e om om om om:Option.map (fun a=>(a,([]:Heap))) ((bounds 0 ((min s.size 255:Nat):Int) (ByteArray.size s)).map fun p=>AV.str (ByteArray.extract s p.1 p.2))=some ((AV.str (ByteArray.extract s 0 (min s.size 255))),([]:Heap))) (.s (.ch 3 [(o_ 1 1 (List.map rU8 (V5 b (((ByteArray.extract s 0 (min s.size 255)).size:Nat):Int))))] (c1m b (((ByteArray.extract s 0 (min s.size 255)).size:Nat):Int) oa []) (.ao 5 238 (AV.osl 0 1 1 0 (V5 b (((ByteArray.extract s 0 (min s.size 255)).size:Nat):Int)).length) (AV.str (ByteArray.extract s 0 (min s.size 255))) (c5N b s) [(o_ 2 1 (List.map rU8 ((V5 b (((ByteArray.extract s 0 (min s.size 255)).size:Nat):Int))++(J8 (ByteArray.extract s 0 (min s.size 255))))))] (J2 (T:=tt) (e:=5) (te:=nZ) (z:=1) (b:=24) (y:=[.sl .nil 0 []]) (row:=rU8) (l:=(V5 b (((ByteArray.extract s 0 (min s.size 255)).size:Nat):Int))) kr kr rfl E9 E9 kr (b8Y _ _) om rfl rfl qF) (.q 1 (c5N b s) (by simp [R3,wU,V5,oC] <;> omega)))))))))
theorem a0X (b:List Int) (s:ByteArray) (hb:b.length < 1048576):AC 225 [(sA 1 (List.map rU8 b)),(AV.str s)] [] ((sA 1 (List.map rU8 (R3 b s))),[]):=by
 have h1:=(a9J b s hb).a2K (xs:=(R3 b s).map rU8) (G9 (room:=none) kr (by first | omega | simp)) (rP _ _)
 exact j6.forget (H2:=[]) (X:=[(o_ 3 1 [])]) h1 rfl kr (fun id o ho=>by simp at ho)
def b6o:Ann:={ fin:=some 0 }
@[simp] abbrev b2x (a:List Int):=(AV.sl .cn 1 (List.map rU8 a))
theorem b1V (l:List Int) (hl:l.length < 1099511627776):AC 231 [(sA 1 (List.map rU8 l))] [] ((b2x l),[]) :=
 q9 (fn:=Tryz.f231) (ann:=b6o) (Has.o Tryz.func231) (.r (.s (.y 2 (.int .i64 ((List.length (List.map rU8 l):Nat):Int)) (iN l.length) (Yes.len _ _ _) (.y 4 (.int .i64 ((List.length (List.map rU8 l):Nat):Int)) (iN l.length) (Yes.len _ _ _) (.t 5 (b2x l) [] (a3p (l:=0) (h:=l.length) om om om om a9D (by first | rfl | omega | (simp; done) | (simp; omega)):Option.map (fun a=>(a,([]:Heap))) (if 1=1\/((List.map rU8 l)).isEmpty=true then (if ((l.length:Int):Int)=(l.length:Int) then (bounds 0 (l.length:Int) (List.length (List.map rU8 l))).map fun p=>AV.sl .cn 1 ((List.take p.2 (List.map rU8 l)).drop p.1) else none) else none)=some ((b2x l),([]:Heap))) (.q 0 (b2x l)))))))
def dV (n:Int) (k:Nat):Int:=IntKind.u8.wrap (Int.fdiv n (2 ^ (min (Int.toNat (8 * k:Nat)) 64)))
def kS (b:List Int) (n:Int):List Int:=b++[dV n 7,dV n 6,dV n 5,dV n 4,dV n 3,dV n 2,dV n 1,dV n 0]
theorem b9W (b:List Int) (n:Int):(kS b n).length=b.length+8:=by simp [kS]
def b9X:Ann:={ own:=[20],gh:=[(6,.frz 5)],fin:=some 0 }
@[simp] abbrev dA (a:Int):=(IntKind.u8.wrap (Int.fdiv a (2 ^ (min (Int.toNat 56) 64))))
@[simp] abbrev eH (a:Int):=(IntKind.u8.wrap (Int.fdiv a (2 ^ (min (Int.toNat 48) 64))))
@[simp] abbrev gQ (a:Int):=(IntKind.u8.wrap (Int.fdiv a (2 ^ (min (Int.toNat 40) 64))))
@[simp] abbrev jG (a:Int):=(IntKind.u8.wrap (Int.fdiv a (2 ^ (min (Int.toNat 32) 64))))
@[simp] abbrev mV (a:Int):=(IntKind.u8.wrap (Int.fdiv a (2 ^ (min (Int.toNat 24) 64))))
@[simp] abbrev rA (a:Int):=(IntKind.u8.wrap (Int.fdiv a (2 ^ (min (Int.toNat 16) 64))))
@[simp] abbrev xC (a:Int):=(IntKind.u8.wrap (Int.fdiv a (2 ^ (min (Int.toNat 8) 64))))
@[simp] abbrev a3d (a:Int):=(IntKind.u8.wrap (Int.fdiv a (2 ^ (min (Int.toNat 0) 64))))
@[simp] abbrev c2e (a:List Int) (b:Int):Heap:=[(o_ 8 1 (List.map rU8 ((((((((a++[(dA b)])++[(eH b)])++[(gQ b)])++[(jG b)])++[(mV b)])++[(rA b)])++[(xC b)])++[(a3d b)])))]
@[simp] abbrev c7Y (a:List Int) (b:Int):=(AV.sl .cn 1 (List.map rU8 ((((((((a++[(IntKind.u8.wrap (Int.fdiv b (2 ^ (min (Int.toNat 56) 64))))])++[(IntKind.u8.wrap (Int.fdiv b (2 ^ (min (Int.toNat 48) 64))))])++[(IntKind.u8.wrap (Int.fdiv b (2 ^ (min (Int.toNat 40) 64))))])++[(IntKind.u8.wrap (Int.fdiv b (2 ^ (min (Int.toNat 32) 64))))])++[(IntKind.u8.wrap (Int.fdiv b (2 ^ (min (Int.toNat 24) 64))))])++[(IntKind.u8.wrap (Int.fdiv b (2 ^ (min (Int.toNat 16) 64))))])++[(IntKind.u8.wrap (Int.fdiv b (2 ^ (min (Int.toNat 8) 64))))])++[(IntKind.u8.wrap (Int.fdiv b (2 ^ (min (Int.toNat 0) 64))))])))
theorem b5C (b:List Int) (n:Int) (hb:b.length < 1048576):AC 227 [(sA 1 (List.map rU8 b)),(iI n)] [] ((AV.sl .cn 1 (List.map rU8 (kS b n))),[]) :=
 q9 (fn:=Tryz.f227) (ann:=b9X) (Has.o Tryz.func227) (.r (.s (.ch 1 [(o_ 0 1 (List.map rU8 b))] (a4f b oa []) (.s (.g (.roll 9 (.r (.ru (.ao 7 238 (a6R b) (AV.sl .clip 1 [[(AV.int .u8 (dA n))]]) (b2y b) [(o_ 1 1 (List.map rU8 (b++[(dA n)])))] (J2 (T:=tt) (e:=5) (te:=nZ) (z:=1) (b:=24) (y:=[.sl .nil 0 []]) (row:=rU8) (l:=b) kr kr rfl E9 E9 kr aR om rfl rfl qF) (.s (.s (.ru (.ao 7 238 (b2y b) (AV.sl .clip 1 [[(AV.int .u8 (eH n))]]) (AV.osl 0 2 1 0 ((b.length+1)+1)) [(o_ 2 1 (List.map rU8 ((b++[(dA n)])++[(eH n)])))] (J2 (T:=tt) (e:=5) (te:=nZ) (z:=1) (b:=24) (y:=[.sl .nil 0 []]) (row:=rU8) (l:=b++[(dA n)]) kr kr rfl E9 E9 kr aR om rfl rfl qF) (.s (.s (.ru (.ao 7 238 (AV.osl 0 2 1 0 ((b.length+1)+1)) (AV.sl .clip 1 [[(AV.int .u8 (gQ n))]]) (AV.osl 0 3 1 0 (((b.length+1)+1)+1)) [(o_ 3 1 (List.map rU8 (((b++[(dA n)])++[(eH n)])++[(gQ n)])))] (J2 (T:=tt) (e:=5) (te:=nZ) (z:=1) (b:=24) (y:=[.sl .nil 0 []]) (row:=rU8) (l:=(b++[(dA n)])++[(eH n)]) kr kr rfl E9 E9 kr aR om rfl rfl qF) (.s (.s (.ru (.ao 7 238 (AV.osl 0 3 1 0 (((b.length+1)+1)+1)) (AV.sl .clip 1 [[(AV.int .u8 (jG n))]]) (AV.osl 0 4 1 0 ((((b.length+1)+1)+1)+1)) [(o_ 4 1 (List.map rU8 ((((b++[(dA n)])++[(eH n)])++[(gQ n)])++[(jG n)])))] (J2 (T:=tt) (e:=5) (te:=nZ) (z:=1) (b:=24) (y:=[.sl .nil 0 []]) (row:=rU8) (l:=((b++[(dA n)])++[(eH n)])++[(gQ n)]) kr kr rfl E9 E9 kr aR om rfl rfl qF) (.s (.s (.ru (.ao 7 238 (AV.osl 0 4 1 0 ((((b.length+1)+1)+1)+1)) (AV.sl .clip 1 [[(AV.int .u8 (mV n))]]) (AV.osl 0 5 1 0 (((((b.length+1)+1)+1)+1)+1)) [(o_ 5 1 (List.map rU8 (((((b++[(dA n)])++[(eH n)])++[(gQ n)])++[(jG n)])++[(mV n)])))] (J2 (T:=tt) (e:=5) (te:=nZ) (z:=1) (b:=24) (y:=[.sl .nil 0 []]) (row:=rU8) (l:=(((b++[(dA n)])++[(eH n)])++[(gQ n)])++[(jG n)]) kr kr rfl E9 E9 kr aR om rfl rfl qF) (.s (.s (.ru (.ao 7 238 (AV.osl 0 5 1 0 (((((b.length+1)+1)+1)+1)+1)) (AV.sl .clip 1 [[(AV.int .u8 (rA n))]]) (AV.osl 0 6 1 0 ((((((b.length+1)+1)+1)+1)+1)+1)) [(o_ 6 1 (List.map rU8 ((((((b++[(dA n)])++[(eH n)])++[(gQ n)])++[(jG n)])++[(mV n)])++[(rA n)])))] (J2 (T:=tt) (e:=5) (te:=nZ) (z:=1) (b:=24) (y:=[.sl .nil 0 []]) (row:=rU8) (l:=((((b++[(dA n)])++[(eH n)])++[(gQ n)])++[(jG n)])++[(mV n)]) kr kr rfl E9 E9 kr aR om rfl rfl qF) (.s (.s (.ru (.ao 7 238 (AV.osl 0 6 1 0 ((((((b.length+1)+1)+1)+1)+1)+1)) (AV.sl .clip 1 [[(AV.int .u8 (xC n))]]) (AV.osl 0 7 1 0 (((((((b.length+1)+1)+1)+1)+1)+1)+1)) [(o_ 7 1 (List.map rU8 (((((((b++[(dA n)])++[(eH n)])++[(gQ n)])++[(jG n)])++[(mV n)])++[(rA n)])++[(xC n)])))] (J2 (T:=tt) (e:=5) (te:=nZ) (z:=1) (b:=24) (y:=[.sl .nil 0 []]) (row:=rU8) (l:=(((((b++[(dA n)])++[(eH n)])++[(gQ n)])++[(jG n)])++[(mV n)])++[(rA n)]) kr kr rfl E9 E9 kr aR om rfl rfl qF) (.s (.s (.ru (.ao 7 238 (AV.osl 0 7 1 0 (((((((b.length+1)+1)+1)+1)+1)+1)+1)) (AV.sl .clip 1 [[(AV.int .u8 (a3d n))]]) (AV.osl 0 8 1 0 ((((((((b.length+1)+1)+1)+1)+1)+1)+1)+1)) (c2e b n) (J2 (T:=tt) (e:=5) (te:=nZ) (z:=1) (b:=24) (y:=[.sl .nil 0 []]) (row:=rU8) (l:=((((((b++[(dA n)])++[(eH n)])++[(gQ n)])++[(jG n)])++[(mV n)])++[(rA n)])++[(xC n)]) kr kr rfl E9 E9 kr aR om rfl rfl qF) (.s (.s (.rn (.w 5 (List.map rU8 ((((((((b++[(dA n)])++[(eH n)])++[(gQ n)])++[(jG n)])++[(mV n)])++[(rA n)])++[(xC n)])++[(a3d n)])) (And.intro (G9 (room:=none) kr om) (rP _ _):F5 (c2e b n) 1 (AV.osl 0 8 1 0 ((((((((b.length+1)+1)+1)+1)+1)+1)+1)+1))=some (List.map rU8 ((((((((b++[(dA n)])++[(eH n)])++[(gQ n)])++[(jG n)])++[(mV n)])++[(rA n)])++[(xC n)])++[(a3d n)]))/\AV.D5 0 (List.map rU8 ((((((((b++[(dA n)])++[(eH n)])++[(gQ n)])++[(jG n)])++[(mV n)])++[(rA n)])++[(xC n)])++[(a3d n)]))=true) (.c 1 ((b1V ((((((((b++[(dA n)])++[(eH n)])++[(gQ n)])++[(jG n)])++[(mV n)])++[(rA n)])++[(xC n)])++[(a3d n)]) oa).lift kr kr [(o_ 9 1 [])]) (.g (.h' [] (.q 0 (c7Y b n) (by (try delta c2e); simp [kS,dV]))))))))))))))))))))))))))))))))))))))))))))))
theorem b5B (b:List Int) (n:Int) (hb:b.length < 1048576):AC 227 [(sA 1 (List.map rU8 b)),(iI n)] [] ((sA 1 (List.map rU8 (kS b n))),[]):=(b5C b n hb).post ⟨rfl,rfl,.inl rfl⟩
def aS (c:j5):Int:=if c.gone=true then 0 else if (c.over != 0)=true then c.over else c.status
def b4f:Ann:={ refs:=[1],fin:=some 0 }
theorem b0f (c:j5) :AC 226 [(AV.agg (j5.row c))] [] ((iI (aS c)),[]) :=
 q9 (fn:=Tryz.f226) (ann:=b4f) (Has.o Tryz.func226) (.r (.s (.g (.two c.gone (fun h1 h1'=>(.qr 0 z_ (by simp_all [aS]))) (fun h1 h1'=>(.r (.g (.two (c.over != 0) (fun h2 h2'=>(.qr 0 (iI c.over) (by simp_all [aS]))) (fun h2 h2'=>(.qr 0 (iI c.status) (by simp_all [aS])))))))))))
def Q0 (l:List j5):List j5:=l.filter fun c=>!c.gone
def T9 (l:List j5):List j5:=F3 (Q0 l)
theorem a3R (l:l9C):(Q0 l).length<=l.length:=List.length_filter_le _ _
theorem a3r (l:l9C):(T9 l).length<=l.length:=by unfold T9; rw [lW]; exact a3R l
def a0l:Ann:={ gh:=[(8,.frz 3)],gha:=[(1,.vir 3 9),(7,.cut 1)],fin:=some 0,live:=[(3,[3,6,7,8])],out:=[(3,[3,6,7,8])] }
@[simp] abbrev c6L (a:Nat) (b:l9C) (c:l9C) (d:Nat):Heap:=[(o_ (a+1) 9 (mC (b++[(nth c d)])))]
@[simp] abbrev c2d (a:Nat) (b:Nat) (c:l9C) (d:Nat):Fr:=(mkF 22 [(3,(AV.osl 0 a 9 0 b)),(6,(sA 9 (mC c))),(7,(iN c.length)),(8,(iN d))])
@[simp] abbrev cap_ :=(l9 Tryz.prog (X a0l) (y7 Tryz.f161 0))
theorem a3q (l:l9C) (out:l9C) (k:Nat) (g:Nat) (i:Nat) (hl:l.length < 1048576) (hk:k=out.length) (hki:k<=i) (hle_:i<=l.length) {eX:Ex} {FX:Fr} {HX:Heap} (k1:(decide ((i:Int) < (l.length:Int)))=true->(!(nth l i).gone)=true->l7 cap_ (some [3,6,7,8]) (some [3,6,7,8]) (mkF 22 [(3,(cm_ g k)),(6,(sA 9 (mC l))),(7,(iN l.length)),(8,(iN (i+1)))]) (c6L g out l i) eX FX HX) (k2:(decide ((i:Int) < (l.length:Int)))=true->(!(nth l i).gone)=false->l7 cap_ (some [3,6,7,8]) (some [3,6,7,8]) (mkF 22 [(3,(AV.osl 0 g 9 0 k)),(6,(sA 9 (mC l))),(7,(iN l.length)),(8,(iN (i+1)))]) [(o_ g 9 (mC out))] eX FX HX) (k3:(decide ((i:Int) < (l.length:Int)))=false->((.exit 0:Ex),(c2d g k l i),[(o_ g 9 (mC out))])=(eX,FX,HX)):l7 cap_ (some [3,6,7,8]) (some [3,6,7,8]) (c2d g k l i) [(o_ g 9 (mC out))] eX FX HX :=
 K7 (.r (.g (.two (decide ((i:Int) < (l.length:Int))) (fun h1 h1'=>(.r (.h' [(o_ g 9 (mC out)),(o_ 0 9 [[e_,e_,z_,z_,z_,z_,z_,z_,bF]])] (.is 0 9 9 (mC l) (i:Int) (j5.row (nth l i)) (O9.mk _ ow ow) (.s (.g (.two (!(nth l i).gone) (fun h2 h2'=>(.r (.h' (xU g out l i) (.ap 3 30 (AV.osl 0 g 9 0 k) (co_ l i) (cm_ g k) [(o_ (g+1) 9 (mC (out++[(nth l i)]))),(o_ 0 9 [(j5.row (nth l i))])] (K3 (row:=j5.row) (l:=out) (x:=(nth l i)) (T:=tt) (e:=50) (te:=bP) (z:=1) (b:=24) (y:=[.sl .nil 0 []]) kr kr rfl E9 E9 kr fB rfl rfl iV) (.s (.y 0 (.int .i64 (ca_ i)) (iN (i+1)) Yes.o (.h' (c6L g out l i) (.b 1 (.g (.l (k1 h1 h2))))))))))) (fun h2 h2'=>(.r (.h' (xU g out l i) (.y 0 (.int .i64 (ca_ i)) (iN (i+1)) Yes.o (.h' [(o_ g 9 (mC out))] (.b 1 (.g (.l (k2 h1 h2)))))))))))))))) (fun h1 h1'=>(.l (k3 h1))))))
def rM (l:List j5) (i:Nat) (s:(List j5) × Nat × Nat):(List j5) × Nat × Nat:=(if (!(nth l i).gone)=true then (s.1++[(nth l i)],(s.2.1+1),(s.2.2+1)) else (s.1,s.2.1,s.2.2))
theorem b4i (l:l9C) (hl:l.length < 1048576)  (r_:Nat):∀ (out:l9C) (k:Nat) (g:Nat) (i:Nat) (sF:(l9C) × Nat × Nat),i+r_=l.length->k=out.length->k<=i->sF=iter (rM l) r_ i (out,k,g) ->
 l7 (l9 Tryz.prog (X a0l) (y7 Tryz.f161 0)) (some [3,6,7,8]) (some [3,6,7,8]) (c2d g k l i) [(o_ g 9 (mC out))] (.exit 0) (mkF 22 [(3,(AV.osl 0 sF.2.2 9 0 sF.2.1)),(6,(sA 9 (mC l))),(7,(iN l.length)),(8,(iN l.length))]) [(o_ sF.2.2 9 (mC sF.1))]:=by
 induction r_ with
 | zero =>
  intro out k g i sF hi_ hk hki  hF
  obtain rfl:l.length=i:=by omega
  have e_:sF=(out,k,g):=hF
  refine a3q l out k g l.length hl hk hki (Nat.le_refl _) (fun h _=>by simp at h <;> omega) (fun h _=>by simp at h <;> omega) (fun _=>?_)
  first | done | rfl | (rw [e_]; done) | (rw [e_]; rfl)
 | succ r_ ih =>
  intro out k g i sF hi_ hk hki  hF
  refine a3q l out k g i hl hk hki ow (fun h1 h2=>?_) (fun h1 h2=>?_) (fun h=>by simp at h <;> omega)
  · exact ih (out++[(nth l i)]) (k+1) (g+1) (i+1) sF ow R6 R6  (by rw [hF] <;> simp only [iter,rM,h2,if_true,Bool.false_eq_true,if_false])
  · exact ih out k g (i+1) sF ow R6 R6  (by rw [hF] <;> simp only [iter,rM,h2,if_true,Bool.false_eq_true,if_false])
theorem b4j (l:l9C):(Q0 l,(Q0 l).length,(Q0 l).length)=iter (rM l) l.length 0 ([],0,0):=by
 rw [fI (rM l) (fun s c=>if (fun c:j5=>!c.gone) c=true then (s.1++[c],s.2.1+1,s.2.2+1) else s) l (fun i s hi=>by simp [rM])]
 rw [b1z (fun c:j5=>!c.gone) (fun c=>c) l]; simp [Q0]
def gZ (b:List Int) (c:j5):List Int:=kS (V5 (R3 (R3 b c.key.app) c.key.id) (aS c)) c.lease
theorem a4h (b:List Int) (c:j5):(gZ b c).length<=b.length+521:=by
 have h1:=lV b c.key.app
 have h2:=lV (R3 b c.key.app) c.key.id
 unfold gZ; rw [b9W,lZ]; omega
def eT (l:List j5):List Int:=(T9 l).foldl gZ []
theorem b2v (l:l9C):∀ (b:List Int),(l.foldl gZ b).length<=b.length+l.length * 521:=by
 induction l with
 | nil=>intro b; simp
 | cons c l ih=>intro b; have h1:=ih (gZ b c); have h2:=a4h b c; simp only [List.foldl_cons,List.length_cons]; omega
theorem b4k (l:l9C):(eT l).length<=l.length * 521:=by
 have h1:=b2v (T9 l) []
 have h2:=a3r l
 unfold eT; simp only [List.length_nil] at h1; omega
def vU:Ann:={ gha:=[(1,.any 3 1),(7,.cut 0)],fin:=some 0,live:=[(3,[3,7,8,9])],out:=[(3,[3,7,8,9])] }
@[simp] abbrev c2c (a:List Int) (b:l9C) (c:Nat):Fr:=(mkF 31 [(3,(sA 1 (List.map rU8 a))),(7,(sA 9 (mC b))),(8,(iN b.length)),(9,(iN c))])
@[simp] abbrev c1k :=(l9 Tryz.prog (X vU) (y7 Tryz.f213 0))
theorem a1l (l:l9C) (b:List Int) (i:Nat) (hl:l.length < 1000) (hb:b.length<=i * 521) (hle_:i<=l.length) {eX:Ex} {FX:Fr} {HX:Heap} (k1:(decide ((i:Int) < (l.length:Int)))=true->l7 c1k (some [3,7,8,9]) (some [3,7,8,9]) (mkF 31 [(3,(sA 1 (List.map rU8 (kS (V5 (R3 (R3 b (nth l i).key.app) (nth l i).key.id) (aS (nth l i))) (nth l i).lease)))),(7,(sA 9 (mC l))),(8,(iN l.length)),(9,(iN (i+1)))]) [] eX FX HX) (k2:(decide ((i:Int) < (l.length:Int)))=false->((.exit 0:Ex),(c2c b l i),[])=(eX,FX,HX)):l7 c1k (some [3,7,8,9]) (some [3,7,8,9]) (c2c b l i) [] eX FX HX:=by
 have h1:=lV b (nth l i).key.app
 have h2:=lV (R3 b (nth l i).key.app) (nth l i).key.id
 have h3:=lZ (R3 (R3 b (nth l i).key.app) (nth l i).key.id) (aS (nth l i))
 exact K7 (.r (.g (.two (decide ((i:Int) < (l.length:Int))) (fun h1 h1'=>(.r (.h' [(o_ 0 9 [[e_,e_,z_,z_,z_,z_,z_,z_,bF]])] (.is 0 9 9 (mC l) (i:Int) (j5.row (nth l i)) (O9.mk _ ow ow) (.s (.c 4 ((a0X b (nth l i).key.app oa).lift kr kr [(o_ 0 9 [(j5.row (nth l i))])]) (.c 8 ((a0X (R3 b (nth l i).key.app) (nth l i).key.id oa).lift kr kr [(o_ 0 9 [(j5.row (nth l i))])]) (.c 10 ((b0f (nth l i)).lift kr kr [(o_ 0 9 [(j5.row (nth l i))])]) (.c 11 ((b2z (R3 (R3 b (nth l i).key.app) (nth l i).key.id) (aS (nth l i)) oa).lift kr kr [(o_ 0 9 [(j5.row (nth l i))])]) (.rd (ci_ l i) [(o_ 0 9 [(j5.row (nth l i))])] (.rd (ci_ l i) [(o_ 0 9 [(j5.row (nth l i))])] (.rd (AV.str (nth l i).key.id) [(o_ 0 9 [(j5.row (nth l i))])] (.s (.c 3 ((b5B (V5 (R3 (R3 b (nth l i).key.app) (nth l i).key.id) (aS (nth l i))) (nth l i).lease oa).lift kr kr [(o_ 0 9 [(j5.row (nth l i))])]) (.s (.h' [(o_ 0 9 [(j5.row (nth l i))])] (.y 0 (.int .i64 (ca_ i)) (iN (i+1)) Yes.o (.h' [] (.b 0 (.g (.l (k1 h1)))))))))))))))))))))) (fun h1 h1'=>(.l (k2 h1))))))
def yB (l:List j5) (i:Nat) (s:(List Int)):(List Int):=(kS (V5 (R3 (R3 s (nth l i).key.app) (nth l i).key.id) (aS (nth l i))) (nth l i).lease)
theorem b0g (l:l9C) (hl:l.length < 1000)  (r_:Nat):∀ (b:List Int) (i:Nat) (sF:(List Int)),i+r_=l.length->b.length<=i * 521->sF=iter (yB l) r_ i (b) ->
 l7 (l9 Tryz.prog (X vU) (y7 Tryz.f213 0)) (some [3,7,8,9]) (some [3,7,8,9]) (c2c b l i) [] (.exit 0) (mkF 31 [(3,(sA 1 (List.map rU8 sF))),(7,(sA 9 (mC l))),(8,(iN l.length)),(9,(iN l.length))]) []:=by
 induction r_ with
 | zero =>
  intro b i sF hi_ hb  hF
  obtain rfl:l.length=i:=by omega
  have e_:sF=(b):=hF
  refine a1l l b l.length hl hb (Nat.le_refl _) (fun h=>by simp at h <;> omega) (fun _=>?_)
  first | done | rfl | (rw [e_]; done) | (rw [e_]; rfl)
 | succ r_ ih =>
  intro b i sF hi_ hb  hF
  refine a1l l b i hl hb ow (fun h1=>?_) (fun h=>by simp at h <;> omega)
  · exact ih (kS (V5 (R3 (R3 b (nth l i).key.app) (nth l i).key.id) (aS (nth l i))) (nth l i).lease) (i+1) sF ow (by have h9:(kS (V5 (R3 (R3 b (nth l i).key.app) (nth l i).key.id) (aS (nth l i))) (nth l i).lease).length<=b.length+521:=a4h b (nth l i); first | omega | assumption | (simp; done) | (simp; omega) | (simp [*]; done) | (simp [*]; omega))  (by rw [hF] <;> simp only [iter,yB,if_true,Bool.false_eq_true,if_false])
theorem b0h (l:l9C):l.foldl gZ []=iter (yB l) l.length 0 []:=(fI (yB l) gZ l (fun i s hi=>rfl) []).symm
def rG (h x:Int):Int:=IntKind.u32.wrap (IntKind.u32.wrap (IntKind.u32.wrap (h * 31)+IntKind.u32.wrap x)+7)
def qH (l:List Int):Int:=l.foldl rG 17
def a2y:Ann:={ fin:=some 0,live:=[(3,[3,6,7,8])],out:=[(3,[3,6,7,8])] }
@[simp] abbrev c2b (a:Int) (b:List Int) (c:Nat):Fr:=(mkF 20 [(3,(AV.int .u32 a)),(6,(sA 1 (List.map rU8 b))),(7,(iN b.length)),(8,(iN c))])
@[simp] abbrev c1j :=(l9 Tryz.prog (X a2y) (y7 Tryz.f212 0))
theorem a5e (l:List Int) (h:Int) (i:Nat) (hl:l.length < 1048576) (hle_:i<=l.length) {eX:Ex} {FX:Fr} {HX:Heap} (k1:(decide ((i:Int) < (l.length:Int)))=true->l7 c1j (some [3,6,7,8]) (some [3,6,7,8]) (mkF 20 [(3,(AV.int .u32 (IntKind.u32.wrap ((IntKind.u32.wrap ((IntKind.u32.wrap (h * 31))+(IntKind.u32.wrap (nth l i))))+7)))),(6,(sA 1 (List.map rU8 l))),(7,(iN l.length)),(8,(iN (i+1)))]) [] eX FX HX) (k2:(decide ((i:Int) < (l.length:Int)))=false->((.exit 0:Ex),(c2b h l i),[])=(eX,FX,HX)):l7 c1j (some [3,6,7,8]) (some [3,6,7,8]) (c2b h l i) [] eX FX HX :=
 K7 (.r (.g (.two (decide ((i:Int) < (l.length:Int))) (fun h1 h1'=>(.r (.is 0 1 1 (List.map rU8 l) (i:Int) (rU8 (nth l i)) (O9.mk _ ow ow) (.s (.s (.y 0 (.int .i64 (ca_ i)) (iN (i+1)) Yes.o (.g (.l (k1 h1))))))))) (fun h1 h1'=>(.l (k2 h1))))))
def a4z (l:List Int) (i:Nat) (s:Int):Int:=((IntKind.u32.wrap ((IntKind.u32.wrap ((IntKind.u32.wrap (s * 31))+(IntKind.u32.wrap (nth l i))))+7)))
theorem b8C (l:List Int) (hl:l.length < 1048576)  (r_:Nat):∀ (h:Int) (i:Nat) (sF:Int),i+r_=l.length->sF=iter (a4z l) r_ i (h) ->
 l7 (l9 Tryz.prog (X a2y) (y7 Tryz.f212 0)) (some [3,6,7,8]) (some [3,6,7,8]) (c2b h l i) [] (.exit 0) (mkF 20 [(3,(AV.int .u32 sF)),(6,(sA 1 (List.map rU8 l))),(7,(iN l.length)),(8,(iN l.length))]) []:=by
 induction r_ with
 | zero =>
  intro h i sF hi_   hF
  obtain rfl:l.length=i:=by omega
  have e_:sF=(h):=hF
  refine a5e l h l.length hl (Nat.le_refl _) (fun h=>by simp at h <;> omega) (fun _=>?_)
  first | done | rfl | (rw [e_]; done) | (rw [e_]; rfl)
 | succ r_ ih =>
  intro h i sF hi_   hF
  refine a5e l h i hl ow (fun h1=>?_) (fun h=>by simp at h <;> omega)
  · exact ih (IntKind.u32.wrap ((IntKind.u32.wrap ((IntKind.u32.wrap (h * 31))+(IntKind.u32.wrap (nth l i))))+7)) (i+1) sF ow   (by rw [hF] <;> simp only [iter,a4z,if_true,Bool.false_eq_true,if_false])
theorem b8D (l:List Int):qH l=iter (a4z l) l.length 0 17:=(fI (a4z l) rG l (fun i s hi=>rfl) 17).symm
@[simp] abbrev c6K (a:List Int):Fr:=(mkF 20 [(3,(AV.int .u32 (qH a))),(6,(sA 1 (List.map rU8 a))),(7,(iN a.length)),(8,(iN a.length))])
theorem b8B (l:List Int) (hl:l.length < 1048576):AC 212 [(sA 1 (List.map rU8 l))] [] ((AV.int .u32 (qH l)),[]) :=
 q9 (fn:=Tryz.f212) (ann:=a2y) (Has.o Tryz.func212) (.r (.s (.s (.y 1 (.int .i64 ((List.length (List.map rU8 l):Nat):Int)) (iN l.length) (Yes.len _ _ _) (.g (.loop (c6K l) (show l7 c1j (some [3,6,7,8]) (some [3,6,7,8]) (mkF 20 [(3,(AV.int .u32 17)),(6,(sA 1 (List.map rU8 l))),(7,(iN l.length)),(8,z_)]) [] (.exit 0) (c6K l) [] from (b8C l hl (List.length l) 17 0 (qH l) ow (b8D _))) (.qr 0 (AV.int .u32 (qH l)))))))))
def ofB (l:List j5):Int:=qH (eT l)
end Go.Proofs.YtmghjcbabebanaaGreat.AM
namespace Go.Proofs.YtmghjcbabebanaaGreat.AM
open Go
section
variable {α:Type} [Inhabited α]
def Z0 (lt:α->α->Bool) (x:α) (out:List α):Nat->Nat
 | 0=>0
 | k+1=>if lt x (nth out k)=true then Z0 lt x out k else k+1
def Y3 (lt:α->α->Bool) (out:List α) (x:α):List α:=(out.take (Z0 lt x out out.length)++[x])++out.drop (Z0 lt x out out.length)
theorem yG (lt:α->α->Bool) (x:α) (out:List α) (k:Nat):Z0 lt x out k<=k:=by
 induction k with
 | zero=>simp only [Z0]; omega
 | succ k ih=>simp only [Z0]; split <;> omega
theorem b0L (lt:α->α->Bool) (x:α) {out out':List α} (k:Nat) (h:∀ i,i < k->nth out i=nth out' i):Z0 lt x out k=Z0 lt x out' k:=by
 induction k with
 | zero=>rfl
 | succ k ih=>simp only [Z0]; rw [h k ya_,ih fun i hi=>h i ya_]
theorem wC (lt:α->α->Bool) (x:α) (out:List α) (k:Nat):(∀ i,Z0 lt x out k<=i->i < k->lt x (nth out i)=true)/\(0 < Z0 lt x out k->lt x (nth out (Z0 lt x out k - 1))=false):=by
 induction k with
 | zero=>simp only [Z0]; exact ⟨fun i h1 h2=>by omega,fun h=>by omega⟩
 | succ k ih =>
  simp only [Z0]
  split
  · rename_i h
    refine ⟨fun i h1 h2=>?_,ih.2⟩
    rcases Nat.lt_or_ge i k with h3 | h3
    · exact ih.1 i h1 h3
    · rw [show i=k by omega]; exact h
  · rename_i h
    exact ⟨fun i h1 h2=>by omega,fun _=>by simpa using h⟩
theorem a3O (lt:α->α->Bool) (out:List α) (x:α):List.Perm (Y3 lt out x) (x :: out):=by
 unfold Y3
 rw [List.append_assoc,List.singleton_append]
 refine List.perm_middle.trans ?_
 rw [List.take_append_drop]
theorem a6c (lt:α->α->Bool) (out:List α) (x:α):(Y3 lt out x).length=out.length+1:=by
 rw [(a3O lt out x).length_eq]; rfl
structure Y1 (lt:α->α->Bool):Prop where
 asymm:∀ a b,lt a b=true->lt b a=false
 trans:∀ a b c,lt b a=false->lt c b=false->lt c a=false
abbrev Srt (lt:α->α->Bool) (l:List α):Prop:=List.Pairwise (fun a b=>lt b a=false) l
theorem zP {lt:α->α->Bool} (W:Y1 lt) {out:List α} (h:Srt lt out) (x:α):Srt lt (Y3 lt out x):=by
 obtain ⟨h1,h2⟩:=wC lt x out out.length
 have hp:=yG lt x out out.length
 generalize hpe:Z0 lt x out out.length=p at *
 have hs:=wB.1 h
 unfold Y3
 rw [hpe,List.append_assoc,List.singleton_append]
 refine List.pairwise_append.2 ⟨h.sublist (List.take_sublist _ _),List.pairwise_cons.2 ⟨fun y hy=>?_,h.sublist (List.drop_sublist _ _)⟩,fun a ha y hy=>?_⟩
 · obtain ⟨i,hi,rfl⟩:=U6 hy
   simp only [List.length_drop] at hi
   rw [kN]
   exact W.asymm _ _ (h1 (p+i) ya_ ya_)
 · have hxp:lt x a=false:=by
    obtain ⟨i,hi,rfl⟩:=U6 ha
    simp only [List.length_take] at hi
    rw [bR ya_]
    have h3:=h2 ya_
    rcases Nat.lt_or_ge i (p - 1) with h4 | h4
    · exact W.trans _ _ _ (hs i (p - 1) h4 ya_) h3
    · rw [show i=p - 1 by omega]; exact h3
   rcases List.mem_cons.1 hy with rfl | hy
   · exact hxp
   · obtain ⟨i,hi,rfl⟩:=U6 ha
     obtain ⟨j,hj,rfl⟩:=U6 hy
     simp only [List.length_take] at hi
     simp only [List.length_drop] at hj
     rw [bR ya_,kN]
     exact hs i (p+j) ya_ ya_
def K5 (lt:α->α->Bool) (l:List α):List α:=l.foldl (Y3 lt) []
theorem c7c (lt:α->α->Bool) (l:List α):∀ (out:List α),List.Perm (l.foldl (Y3 lt) out) (out++l):=by
 induction l with
 | nil=>intro out; simp
 | cons x l ih =>
  intro out
  exact (ih (Y3 lt out x)).trans (((a3O lt out x).append_right l).trans (by simpa using List.perm_middle.symm))
theorem a6g {lt:α->α->Bool} (W:Y1 lt) (l:List α):∀ (out:List α),Srt lt out->Srt lt (l.foldl (Y3 lt) out):=by
 induction l with
 | nil=>intro out h; exact h
 | cons x l ih=>intro out h; exact ih _ (zP W h x)
theorem mY (lt:α->α->Bool) (l:List α):List.Perm (K5 lt l) l:=c7c lt l []
theorem cB {lt:α->α->Bool} (W:Y1 lt) (l:List α):Srt lt (K5 lt l):=a6g W l [] List.Pairwise.nil
theorem a5k (cmp:α->α->Int) (j:Nat):∀ (l:List α),j < l.length->sink cmp 0 j l=Y3 (fun a b=>decide (cmp a b < 0)) (l.take j) (nth l j)++l.drop (j+1):=by
 induction j with
 | zero =>
  intro l h
  simp only [sink]
  have hd:l=nth l 0 :: l.drop 1:=by
   have:=aY (l:=l) (i:=0) h
   simpa using this
  conv=>lhs; rw [hd]
  simp [Y3,Z0]
 | succ j ih =>
  intro l h
  simp only [sink]
  have h0:decide (((j+1:Nat):Int) > ((0:Nat):Int))=true:=decide_eq_true ya_
  rw [if_pos h0]
  have htk:l.take (j+1)=l.take j++[nth l j]:=by
   rw [List.take_add_one]
   congr 1
   rw [rR ya_]
   rfl
  have hdj:l.drop (j+1)=nth l (j+1) :: l.drop (j+2):=aY h
  have hlen:(l.take j).length=j:=by simp; omega
  by_cases hc:decide (cmp (nth l (j+1)) (nth l j) < 0)=true
  · rw [if_pos hc]
    rw [ih _ yh_]
    have e1:((l.set (j+1) (nth l j)).set j (nth l (j+1))).take j=l.take j:=by
     rw [List.take_set_of_le ya_,List.take_set_of_le ya_]
    have e2:nth ((l.set (j+1) (nth l j)).set j (nth l (j+1))) j=nth l (j+1):=by
     unfold nth
     rw [List.getD_eq_getElem?_getD,List.getElem?_set_self yh_]; rfl
    have e3:((l.set (j+1) (nth l j)).set j (nth l (j+1))).drop (j+1)=nth l j :: l.drop (j+2):=by
     rw [List.drop_set_of_lt ya_,aY yh_]
     congr 1
     · unfold nth
       rw [List.getD_eq_getElem?_getD,List.getElem?_set_self ya_]; rfl
     · rw [List.drop_set_of_lt ya_]
    rw [e1,e2,e3]
    have hpos:Z0 (fun a b=>decide (cmp a b < 0)) (nth l (j+1)) (l.take (j+1)) (l.take (j+1)).length=Z0 (fun a b=>decide (cmp a b < 0)) (nth l (j+1)) (l.take j) j:=by
     rw [show (l.take (j+1)).length=j+1 by rw [List.length_take]; omega]
     simp only [Z0]
     rw [bR ya_,if_pos hc]
     exact b0L _ _ _ fun i hi=>by rw [bR ya_,bR hi]
    have hle:=yG (fun a b=>decide (cmp a b < 0)) (nth l (j+1)) (l.take j) j
    unfold Y3
    rw [hpos,hlen]
    generalize Z0 (fun a b=>decide (cmp a b < 0)) (nth l (j+1)) (l.take j) j=p at *
    rw [htk,List.take_append_of_le_length ya_,List.drop_append_of_le_length ya_]
    simp
  · rw [if_neg hc]
    have hpos:Z0 (fun a b=>decide (cmp a b < 0)) (nth l (j+1)) (l.take (j+1)) (l.take (j+1)).length=j+1:=by
     rw [show (l.take (j+1)).length=j+1 by rw [List.length_take]; omega]
     simp only [Z0]
     rw [bR ya_,if_neg hc]
    unfold Y3
    rw [hpos]
    rw [List.take_of_length_le (l:=l.take (j+1)) yh_,List.drop_of_length_le (l:=l.take (j+1)) yh_,List.append_nil,List.append_assoc,List.singleton_append,<- hdj,List.take_append_drop]
theorem a6b (cmp:α->α->Int) (rest:List α):∀ (S:List α),z8 cmp 0 rest.length S.length (S++rest)=rest.foldl (Y3 fun a b=>decide (cmp a b < 0)) S:=by
 induction rest with
 | nil=>intro S; simp [z8]
 | cons x rest ih =>
  intro S
  simp only [List.length_cons,z8,List.foldl_cons]
  rw [a5k cmp S.length _ yf_]
  have e1:(S++x :: rest).take S.length=S:=by simp
  have e3:(S++x :: rest).drop (S.length+1)=rest:=by
   rw [List.drop_append]
   simp
  rw [e1,rT,e3]
  have:=ih (Y3 (fun a b=>decide (cmp a b < 0)) S x)
  rwa [a6c] at this
theorem vJ (cmp:α->α->Int) (l:List α):z8 cmp 0 (l.length - 1) 1 l=K5 (fun a b=>decide (cmp a b < 0)) l:=by
 cases l with
 | nil=>rfl
 | cons x l =>
  have:=a6b cmp l [x]
  simpa [K5,Y3,Z0] using this
theorem vI {lt:α->α->Bool}:∀ (l m:List α),Srt lt l->Srt lt m->List.Perm l m->(∀ a∈l,∀ b∈l,lt a b=false->lt b a=false->a=b)->l=m
 | [],m,_,_,h,_=>by simpa using h.symm
 | a :: l,[],_,_,h,_=>by simp at h
 | a :: l,b :: m,hl,hm,h,ht=>by
  have hl':=List.pairwise_cons.1 hl
  have hm':=List.pairwise_cons.1 hm
  have e:a=b:=by
   have hb:b∈a :: l:=h.mem_iff.2 yf_
   have ha:a∈b :: m:=h.mem_iff.1 yf_
   rcases List.mem_cons.1 hb with h1 | h1
   · exact h1.symm
   · rcases List.mem_cons.1 ha with h2 | h2
     · exact h2
     · exact ht a yf_ b (by simp [h1]) (hm'.1 a h2) (hl'.1 b h1)
  subst e
  rw [vI l m hl'.2 hm'.2 ((List.perm_cons a).1 h) fun x hx y hy=>ht x (by simp [hx]) y (by simp [hy])]
end
section
variable {α:Type} [Inhabited α]
theorem b1o {lt:α->α->Bool} (W:Y1 lt) {out:List α} (h:Srt lt out) (x:α):Y3 lt out x=out.filter (fun y=>!lt x y)++x :: out.filter (fun y=>lt x y):=by
 obtain ⟨h1,h2⟩:=wC lt x out out.length
 have hp:=yG lt x out out.length
 generalize hpe:Z0 lt x out out.length=p at *
 have hs:=wB.1 h
 have hA:∀ y∈out.take p,lt x y=false:=by
  intro y hy
  obtain ⟨i,hi,rfl⟩:=U6 hy
  simp only [List.length_take] at hi
  have hi':i < p:=by omega
  rw [bR hi']
  have h3:=h2 ya_
  rcases Nat.lt_or_ge i (p - 1) with h4 | h4
  · exact W.trans _ _ _ (hs i (p - 1) h4 ya_) (by simpa using h3)
  · rw [show i=p - 1 by omega]; simpa using h3
 have hB:∀ y∈out.drop p,lt x y=true:=by
  intro y hy
  obtain ⟨i,hi,rfl⟩:=U6 hy
  simp only [List.length_drop] at hi
  rw [kN]
  exact h1 (p+i) ya_ ya_
 have e1:out.filter (fun y=>!lt x y)=out.take p:=by
  conv=>lhs; rw [<- List.take_append_drop p out]
  rw [List.filter_append,List.filter_eq_self.2 (fun y hy=>by simp [hA y hy]),List.filter_eq_nil_iff.2 (fun y hy=>by simp [hB y hy]),List.append_nil]
 have e2:out.filter (fun y=>lt x y)=out.drop p:=by
  conv=>lhs; rw [<- List.take_append_drop p out]
  rw [List.filter_append,List.filter_eq_nil_iff.2 (fun y hy=>by simp [hA y hy]),List.filter_eq_self.2 (fun y hy=>by simp [hB y hy]),List.nil_append]
 unfold Y3
 rw [hpe,e1,e2]; simp
end
attribute [local irreducible] Tp.F9 Tp.G8 Tp.card Tp.cards Tp.key Tp.keyT Tp.next Tp.step
abbrev ltE (a b:j5):Bool:=decide (N8 a.key b.key < 0)
theorem a1E:(fun a b:j5=>C9 a.key b.key)=ltE:=by funext a b; exact (lM a.key b.key).symm
theorem c6X:Y1 ltE:=⟨fun a b h=>by rw [<- a1E] at h ⊢; exact uV h,fun a b c h k=>by rw [<- a1E] at h k ⊢; exact zW h k⟩
open Go.Proofs.YtmghjcbabebanaaGreat
attribute [local irreducible] A8 C9 D7 F3 F7 G7 J8 M0 M5 M8 N8 O6 O7 P9 Q0 Q6 Q7 R3 T9 V5 aS cmpL dV eT gZ j6 kS l7 l9 ofB qH rG sink wU z8
end Go.Proofs.YtmghjcbabebanaaGreat.AM
namespace Go.Proofs.YtmghjcbabebanaaGreat.AM
open Go Go.Proofs.YtmghjcbabebanaaGreat
attribute [local irreducible] D7 G7 j6 l7 l9
abbrev c7z:List AV:=[z_,z_,z_,z_,z_,z_,z_,e_,e_,bF,(AV.int .u32 0),(AV.sl .nil 0 []),(AV.sl .nil 0 [])]
abbrev c7B (x b u c:AV):List AV:=[(iI 2),(iI 5),z_,z_,z_,z_,x,e_,e_,b,u,c,(AV.sl .nil 0 [])]
@[simp] theorem c7v (n:Nat):AV.bdds n c7z=true:=by simp [AV.bdds,AV.bdd]
@[simp] theorem c7y (n:Nat) (x b u c:AV):AV.bdds n (c7B x b u c)=(AV.bdd n x&&(AV.bdd n b&&(AV.bdd n u&&AV.bdd n c))):=by simp [AV.bdds,AV.bdd]
attribute [local irreducible] aW J6 l5 okS H9 D9 y9 F6 H7 I5 r9 lK p9 T9 eT ofB F3 Q0
def c2u (k:Key):j5:=⟨k,2,0,1,⟨0,0,0⟩,true⟩
def atC (l:List Entry) (k:Key):j5:=if y9 l k=true then (r9 l k).card else c2u k
theorem b5M {α β:Type} (f:α->β) (l:List α):∀ (out:List β) (k g:Nat),l.foldl (fun (s:List β × Nat × Nat) c=>(s.1++[f c],s.2.1+1,s.2.2+1)) (out,k,g)=(out++l.map f,k+l.length,g+l.length):=by
 induction l with
 | nil=>intro out k g; simp
 | cons c l ih=>intro out k g; rw [List.foldl_cons,ih]; simp; omega
def jF (l:List Entry) (al:List Key) (since:Int):List j5:=if okS al since=true then (H9 al since).map (atC l) else T9 (List.map Entry.card l)
end Go.Proofs.YtmghjcbabebanaaGreat.AM
namespace Go.Proofs.YtmghjcbabebanaaGreat.AM
open Go Go.Proofs.YtmghjcbabebanaaGreat
attribute [local irreducible] D7 D9 F3 F6 G7 H7 H9 I5 J6 Q0 T9 Tp.G8 Tp.card Tp.next Tp.step aW eT j6 jF l7 l9 lK ofB okS p9 r9 y9
def a7X:Ann:={ fin:=some 1 }
theorem a5y  :AC 49 [] [] ((oO 0 0 0 0),[(o_ 0 2 [[z_,(AV.sl .nil 0 [])]])]) :=
 q9 (fn:=Tryz.f49) (ann:=a7X) (Has.o Tryz.func49) (.r (.s (.g (.h' [(o_ 0 2 [[z_,(AV.sl .nil 0 [])]])] (.q 1 (oO 0 0 0 0))))))
theorem a7W  :AC 49 [] [] ((oO 0 0 0 0),[(o_ 0 2 [[(iN ((List.length ([]:l9K)))),(AV.osl 1 0 2 0 (List.length (l5 ([]:l9K))))]]),(o_ 0 2 (mK (l5 ([]:l9K))))]):=(a5y).a5a
attribute [local irreducible] l5
def w9 (n:Int):Int:=max 0 (min n 1099511627776)
def b6g:Ann:={ fin:=some 0 }
@[simp] abbrev b2u (a:Int):=(iI (max 0 (min a 1099511627776)))
theorem jE (now:Int) :AC 46 [(iI now)] [] ((iI (w9 now)),[]) :=
 q9 (fn:=Tryz.f46) (ann:=b6g) (Has.o Tryz.func46) (.r (.s (.y 1 (.int .i64 (if 1099511627776 < now then 1099511627776 else now)) (iI (min now 1099511627776)) (Yes.int eD) (.y 2 (.int .i64 (if (min now 1099511627776) > 0 then (min now 1099511627776) else 0)) (b2u now) (Yes.int eD) (.q 0 (b2u now) (by simp [w9,Int.max_comm,Int.min_comm]))))))
def c0e:Ann:={ fin:=some 1 }
@[simp] abbrev b3m (a:Int):Ob:=(o_ 0 3 [[(iI a),z_,z_]])
@[simp] abbrev c6D (a:Int):Heap:=[b3m a]
theorem b5H (now:Int) :AC 48 [(iI now)] [] ((oO 0 0 0 0),(c6D now)) :=
 q9 (fn:=Tryz.f48) (ann:=c0e) (Has.o Tryz.func48) (.r (.s (.g (.h' (c6D now) (.q 1 (oO 0 0 0 0))))))
def b1J:Ann:={ base:=6,fin:=some 6 }
@[simp] abbrev I9 (a:Int) (b:Int) (c:Int):Ob:=(o_ 0 3 [[(iI a),(iI b),(iI c)]])
@[simp] abbrev a3b (a:l9K) (b:Nat):=[[(iN ((List.length a))),(AV.osl 4 b 2 0 (List.length (l5 a)))]]
@[simp] abbrev M9 (a:l9K) (b:Nat):Ob:=(o_ 0 2 (a3b a b))
@[simp] abbrev c1g (a b c d:Int):=[[(iI a),(iI b),(iI c),(iI d),(oO 0 0 0 0),(oO 2 0 0 0),(oO 3 0 0 0)]]
@[simp] abbrev bX (a:Int) (b:Int) (c:Int) (d:Int):Ob:=(o_ 0 7 (c1g a b c d))
@[simp] abbrev a0O (a:Nat) (b:l9E):=[[(iI (p9 32)),(AV.osl 1 a 10 0 (List.length b))]]
@[simp] abbrev a0V (a:Nat) (b:l9E) (c:Int) (d:Int) (e:Int) (f:l9K) (g:Nat) (h:Int) (i:Int) (j:Int) (k:Int):Heap:=[(o_ 0 2 (a0O a b)),(o_ a 10 (mE b)),I9 c d e,M9 f g,(o_ g 2 (mK (l5 f))),bX h i j k]
theorem V4 (l:l9E) (g:Nat) (al:l9K) (ga:Nat) (gf gl gt nd s1 s2 s3:Int) :AC 17 [(oO 5 0 0 0)] (a0V g l gf gl gt al ga nd s1 s2 s3) ((oO 0 0 0 0),(a0V g l gf gl gt al ga nd s1 s2 s3)) :=
 q9 (fn:=Tryz.f17) (ann:=b1J) (Has.o Tryz.func17) (.r (.g (.qr 6 (oO 0 0 0 0))))
def c0n:Ann:={ fin:=some 6 }
@[simp] abbrev b3l :Ob:=(o_ 0 2 [[(iI (p9 32)),(AV.osl 1 0 10 0 0)]])
@[simp] abbrev c1U :Heap:=[b3l,(o_ 0 10 (mE []))]
@[simp] abbrev c1T (a:Int):Heap:=[b3l,(o_ 0 10 (mE [])),b3m a]
@[simp] abbrev c6C (a:Int):Heap:=[b3l,(o_ 0 10 (mE [])),b3m a,(o_ 0 2 [[(iN ((List.length ([]:l9K)))),(AV.osl 4 0 2 0 (List.length (l5 ([]:l9K))))]]),(o_ 0 2 (mK (l5 ([]:l9K))))]
@[simp] abbrev a3a (a:Int):=[[(iI a),z_,(iI a),z_,(oO 0 0 0 0),(oO 2 0 0 0),(oO 3 0 0 0)]]
theorem a4a (nd now:Int) (h1:0<=nd) (h2:nd < 6) (h3:w9 now=now):AC 24 [(iI nd),(iI now)] [] ((oO 5 0 0 0),[(o_ 0 2 [[(iI (p9 32)),(AV.osl 1 0 10 0 (List.length ([]:l9E)))]]),(o_ 0 10 (mE ([]:l9E))),(o_ 0 3 [[(iI now),z_,z_]]),(o_ 0 2 [[(iN ((List.length ([]:l9K)))),(AV.osl 4 0 2 0 (List.length (l5 ([]:l9K))))]]),(o_ 0 2 (mK (l5 ([]:l9K)))),(o_ 0 7 (a3a nd))]) :=
 q9 (fn:=Tryz.f24) (ann:=c0n) (Has.o Tryz.func24) (.r (.s (.y 1 (bB (decide (nd < 0))) bF (Yes.b yh_) (.n2 (.y 4 (bB (decide (nd >= 6))) bF (Yes.b yh_) (.n3 (.c 9 ((jE now).lift kr kr []) (.n (.y 10 (bB (now != (w9 now))) bF (Yes.b (by rw [h3]; simp)) (.rn (.ch 3 c1U (j6.put2 [] [] (oO 0 0 0 0) c1U (b3Z 32 ) (trivial) (rlF)) (.ch 5 (c1T now) (j6.put2 [] c1U (oO 2 0 0 0) (c1T now) (b5H now ) (trivial) (⟨rfl,trivial⟩)) (.ch 6 (c6C now) (j6.put2 [] (c1T now) (oO 3 0 0 0) (c6C now) (a7W  ) (trivial) (rlD)) (.g (.h' [(o_ 0 2 [[(iI (p9 32)),(AV.osl 1 0 10 0 0)]]),(o_ 0 10 (mE [])),(o_ 0 3 [[(iI now),z_,z_]]),(o_ 0 2 [[(iN ((List.length ([]:l9K)))),(AV.osl 4 0 2 0 (List.length (l5 ([]:l9K))))]]),(o_ 0 2 (mK (l5 ([]:l9K)))),(o_ 0 7 (a3a nd))] (.q 6 (oO 5 0 0 0)))))))))))))))))
def b6a:Ann:={ refs:=[3],base:=6,fin:=some 6 }
@[simp] abbrev a4T (a:l9E) (b:Entry) (c:Nat):Ob:=(o_ 0 2 [[(iI (p9 32)),(AV.osl 1 (I5 (p9 32) a b c) 10 0 (List.length (F6 (p9 32) a b)))]])
@[simp] abbrev a4S (a:l9E) (b:Entry) (c:Nat):Ob:=(o_ (I5 (p9 32) a b c) 10 (mE (F6 (p9 32) a b)))
@[simp] abbrev c1S (a:l9E) (b:Entry) (c:Nat) (d:Int) (e:Int) (f:Int) (g:l9K) (h:Nat) (i:Int) (j:Int) (k:Int) (l:Int):Heap:=[a4T a b c,a4S a b c,I9 d e f,(o_ 0 2 [[(iN ((List.length (g++[b.card.key])))),(AV.osl 4 (h+1+1) 2 0 (List.length (l5 (g++[b.card.key]))))]]),(o_ (h+1+1) 2 (mK (l5 (g++[b.card.key])))),bX i j k l]
@[simp] abbrev a3h (a:l9E) (b:Entry) (c:Nat) (d:Int) (e:Int) (f:Int) (g:l9K) (h:Nat) (i:Int) (j:Int) (k:Int) (l:Int):Heap:=[a4T a b c,a4S a b c,I9 d e f,M9 g h,(o_ h 2 (mK (l5 g))),bX i j k l]
@[simp] abbrev xA (a:l9E) (b:Entry):=(iI (H7 (p9 32) a b))
theorem b1K (l:l9E) (g:Nat) (al:l9K) (ga:Nat) (gf gl gt nd s1 s2 s3:Int) (x:Entry) (hl:l.length < 1000) (ha:al.length < 100000) (h:((H7 (p9 32) l x) == 0)=true):AC 68 [(oO 5 0 0 0),(AV.agg (Entry.row x))] (a0V g l gf gl gt al ga nd s1 s2 s3) ((xA l x),(c1S l x g gf gl gt al ga nd s1 s2 s3)):=by
 have p1:=fE (p9 32) l x
 exact q9 (fn:=Tryz.f68) (ann:=b6a) (Has.o Tryz.func68) (.r (.s (.ch 5 (a3h l x g gf gl gt al ga nd s1 s2 s3) (j6.put2 [0,1] (a0V g l gf gl gt al ga nd s1 s2 s3) (xA l x) (a3h l x g gf gl gt al ga nd s1 s2 s3) (uD (p9 32) l x g (List.length l) oa oa) (rlF) (rlF)) (.s (.y 1 (bB ((H7 (p9 32) l x) == 0)) bT (Yes.b (h)) (.ru (.ch 7 (c1S l x g gf gl gt al ga nd s1 s2 s3) (j6.put2 [3,4] (a3h l x g gf gl gt al ga nd s1 s2 s3) (iN ((al++[x.card.key]).length)) (c1S l x g gf gl gt al ga nd s1 s2 s3) (b4z al x.card.key ga oa) (rlD) (rlD)) (.g (.qr 6 (xA l x))))))))))
def b6b:Ann:={ refs:=[3],base:=6,fin:=some 6 }
theorem b1L (l:l9E) (g:Nat) (al:l9K) (ga:Nat) (gf gl gt nd s1 s2 s3:Int) (x:Entry) (hl:l.length < 1000) (ha:al.length < 100000) (h:((H7 (p9 32) l x) == 0)=false):AC 68 [(oO 5 0 0 0),(AV.agg (Entry.row x))] (a0V g l gf gl gt al ga nd s1 s2 s3) ((xA l x),(a3h l x g gf gl gt al ga nd s1 s2 s3)):=by
 have p1:=fE (p9 32) l x
 exact q9 (fn:=Tryz.f68) (ann:=b6b) (Has.o Tryz.func68) (.r (.s (.ch 5 (a3h l x g gf gl gt al ga nd s1 s2 s3) (j6.put2 [0,1] (a0V g l gf gl gt al ga nd s1 s2 s3) (xA l x) (a3h l x g gf gl gt al ga nd s1 s2 s3) (uD (p9 32) l x g (List.length l) oa oa) (rlF) (rlF)) (.s (.y 1 (bB ((H7 (p9 32) l x) == 0)) bF (Yes.b (h)) (.g (.n (.qr 6 (xA l x)))))))))
def J5 (l:List Entry) (x:Entry) (al:List Key):List Key:=if (H7 (p9 32) l x == 0)=true then al++[x.card.key] else al
def P7 (l:List Entry) (x:Entry) (ga:Nat):Nat:=if (H7 (p9 32) l x == 0)=true then ga+1+1 else ga
theorem wS (l:l9E) (g:Nat) (al:l9K) (ga:Nat) (gf gl gt nd s1 s2 s3:Int) (x:Entry) (hl:l.length < 1000) (ha:al.length < 100000):AC 68 [(oO 5 0 0 0),(AV.agg (Entry.row x))] [(o_ 0 2 [[(iI (p9 32)),(AV.osl 1 g 10 0 (List.length l))]]),(o_ g 10 (mE l)),(o_ 0 3 [[(iI gf),(iI gl),(iI gt)]]),(o_ 0 2 [[(iN ((List.length al))),(AV.osl 4 ga 2 0 (List.length (l5 al)))]]),(o_ ga 2 (mK (l5 al))),(o_ 0 7 [[(iI nd),(iI s1),(iI s2),(iI s3),(oO 0 0 0 0),(oO 2 0 0 0),(oO 3 0 0 0)]])] ((iI (H7 (p9 32) l x)),[(o_ 0 2 [[(iI (p9 32)),(AV.osl 1 (I5 (p9 32) l x g) 10 0 (List.length (F6 (p9 32) l x)))]]),(o_ (I5 (p9 32) l x g) 10 (mE (F6 (p9 32) l x))),(o_ 0 3 [[(iI gf),(iI gl),(iI gt)]]),(o_ 0 2 [[(iN ((List.length (J5 l x al)))),(AV.osl 4 (P7 l x ga) 2 0 (List.length (l5 (J5 l x al))))]]),(o_ (P7 l x ga) 2 (mK (l5 (J5 l x al)))),(o_ 0 7 [[(iI nd),(iI s1),(iI s2),(iI s3),(oO 0 0 0 0),(oO 2 0 0 0),(oO 3 0 0 0)]])]):=by
 cases h:(H7 (p9 32) l x == 0) with
 | true=>unfold J5 P7; rw [if_pos h,if_pos h]; exact b1K l g al ga gf gl gt nd s1 s2 s3 x hl ha h
 | false=>unfold J5 P7; rw [if_neg (by rw [h]; simp),if_neg (by rw [h]; simp)]; exact b1L l g al ga gf gl gt nd s1 s2 s3 x hl ha h
theorem a9k (l:l9E) (g:Nat) (al:l9K) (ga:Nat) (gf gl gt nd s1 s2 s3:Int) (x:Entry) (hl:l.length < 1000) (ha:al.length < 100000) (H:Heap):AC 68 [(oO 5 0 0 0),(AV.agg (Entry.row x))] ((a0V g l gf gl gt al ga nd s1 s2 s3)++H) ((iI (H7 (p9 32) l x)),([(o_ 0 2 [[(iI (p9 32)),(AV.osl 1 (I5 (p9 32) l x g) 10 0 (List.length (F6 (p9 32) l x)))]]),(o_ (I5 (p9 32) l x g) 10 (mE (F6 (p9 32) l x))),(o_ 0 3 [[(iI gf),(iI gl),(iI gt)]]),(o_ 0 2 [[(iN ((List.length (J5 l x al)))),(AV.osl 4 (P7 l x ga) 2 0 (List.length (l5 (J5 l x al))))]]),(o_ (P7 l x ga) 2 (mK (l5 (J5 l x al)))),(o_ 0 7 [[(iI nd),(iI s1),(iI s2),(iI s3),(oO 0 0 0 0),(oO 2 0 0 0),(oO 3 0 0 0)]])]:Heap)++H):=(wS l g al ga gf gl gt nd s1 s2 s3 x hl ha).ext kr kr ob ob kr H
attribute [local irreducible] C9 F7 M0 M5 O6 O7 P9 Q6 Q7 Tp.F9 Tp.cards Tp.key Tp.keyT cmpL sink z8
def b1m:Ann:={ fin:=some 0 }
theorem zN (n:Int) :AC 168 [(iI n)] [] (bF,[]) :=
 q9 (fn:=Tryz.f168) (ann:=b1m) (Has.o Tryz.func168) (.r (.g (.qr 0 (bB (n != n)) yf_)))
def a6s:Ann:={ fin:=some 0 }
theorem b8m {p:Prop} (h:p:=by simp_all [Z6] <;> omega):p:=h
theorem a4y (a b:Int) :AC 124 [(iI a),(iI b)] [] ((iI (Z6 a b)),[]) :=
 q9 (fn:=Tryz.f124) (ann:=a6s) (Has.o Tryz.func124) (.r (.s (.c 1 ((zN a).lift kr kr []) (.s (.c 1 ((zN b).lift kr kr []) (.s (.rn (.rn (.g (.two (decide (a < b)) (fun h1 h1'=>(.qr 0 (iI (-1)) b8m)) (fun h1 h1'=>(.r (.g (.two (decide (a > b)) (fun h2 h2'=>(.qr 0 (iI 1) b8m)) (fun h2 h2'=>(.qr 0 z_ b8m))))))))))))))))
def c4q:Ann:={ fin:=some 0 }
theorem b9h (x y z:Int) :AC 122 [(sA 1 [[(iI x)],[(iI y)],[(iI z)]])] [] ((iI (if x=0 then if y=0 then z else y else x)),[]) :=
 q9 (fn:=Tryz.f122) (ann:=c4q) (Has.o Tryz.func122) (.r (.s (.s (.g (.roll 4 (.r (.ru (.s (.g (.two (x != 0) (fun h1 h1'=>(.qr 0 (iI x) (by simp_all))) (fun h1 h1'=>(.r (.s (.ru (.s (.g (.two (y != 0) (fun h2 h2'=>(.qr 0 (iI y) (by simp_all))) (fun h2 h2'=>(.r (.s (.ru (.s (.g (.two (z != 0) (fun h3 h3'=>(.qr 0 (iI z) (by simp_all))) (fun h3 h3'=>(.r (.s (.g (.n (.qr 0 z_ (by simp_all)))))))))))))))))))))))))))))))
def I7 (a b:l8):Int:=if Z6 a.t b.t=0 then if Z6 a.n b.n=0 then Z6 a.node b.node else Z6 a.n b.n else Z6 a.t b.t
def a9Q:Ann:={ refs:=[2,3],fin:=some 0 }
theorem qJ (a b:l8) :AC 67 [(AV.agg (l8.row a)),(AV.agg (l8.row b))] [] ((bB (decide (I7 a b < 0))),[]) :=
 q9 (fn:=Tryz.f67) (ann:=a9Q) (Has.o Tryz.func67) (.r (.s (.c 4 ((vL a.t b.t).lift kr kr []) (.c 9 ((vL a.n b.n).lift kr kr []) (.c 14 ((a4y a.node b.node).lift kr kr []) (.c 16 (j6.pre (args:=[(sA 1 [[(iI (Z6 a.t b.t))],[(iI (Z6 a.n b.n))],[(iI (Z6 a.node b.node))]])]) (args':=[(AV.sl .clip 1 [[(iI (Z6 a.t b.t))],[(iI (Z6 a.n b.n))],[(iI (Z6 a.node b.node))]])]) ((b9h (Z6 a.t b.t) (Z6 a.n b.n) (Z6 a.node b.node)).lift kr kr []) ⟨⟨rfl,rfl,.inl rfl⟩,trivial⟩) (.q 0 (bB (decide ((if (Z6 a.t b.t)=0 then if (Z6 a.n b.n)=0 then (Z6 a.node b.node) else (Z6 a.n b.n) else (Z6 a.t b.t)) < 0))))))))))
def ixX (o:Oper):Operand:=match o.op with
 | .index _ x _=>x
 | _=>.tmp 0
def ixN (o:Oper):Operand:=match o.op with
 | .index _ _ i=>i
 | _=>.tmp 0
theorem c4g {s:ByteArray} {i:Nat} (h:i < s.size):∃ b:UInt8,s[i]?=some b/\nth (J8 s) i=(b.toNat:Int):=by
 refine ⟨s[i],by simp [h],?_⟩
 have h2:i < s.data.toList.length:=by simpa using h
 unfold J8 nth
 rw [List.getD_eq_getElem?_getD,List.getElem?_map,List.getElem?_eq_getElem h2]
 rfl
theorem b4n {P:Program} {X:Env} {F:Fr} {H:Heap} {ar:Nat} {o:Oper} (hT:TOk P X.T) {xt:TypeId} {ts:TI} {s:ByteArray} {i:Int} {n:Nat} (hop:o.op=.index xt (ixX o) (ixN o)) (hsem:aH X o=true) (hs:X.T xt=some ts) (hsd:ts.d=.string)
 (hx:opv F (ixX o)=some (.str s)) (hi:opv F (ixN o)=some (.int .i64 i)) (hn:i=(n:Int)) (hlt:n < s.size):Sat P X F H ar o (.int .u8 (nth (J8 s) n)) H:=by
 refine Sat.sem hsem ?_
 obtain ⟨dst,op,type,pos,after,guard⟩:=o
 simp only at hop
 generalize ixX _=x at hop hx
 generalize ixN _=y at hop hi
 subst hop hn
 intro G w C f hf hH
 have hv:=hf x yp_ _ hx
 have hv2:=hf y yp_ _ hi
 generalize hu:f x=u at hv
 generalize hu2:f y=u2 at hv2
 cases hv
 cases hv2
 have h2:P.underlying xt=some .string:=by
  have:=(hT _ _ hs).und
  rw [hsd] at this
  exact this
 obtain ⟨b,hb,hnb⟩:=c4g hlt
 have hr:(Instr.index xt (f x) (f y)).run P w=.ok (.int .u8 b.toNat) w:=by
  rw [hu,hu2]
  simp [Instr.index,asIntOf,run_underlying h2,hb]
 rw [hnb]
 exact ⟨_,w,by simp [execOp,hr],G,C,Ev.refl ..,hH,.int ..,Pd.refl⟩
def stR (s:l8):Bool:=decide (0<=s.t)&&(decide (0<=s.n)&&(decide (0<=s.node)&&decide (s.node < 6)))
def a7I:Ann:={ refs:=[1],fin:=some 0 }
theorem a9C {p:Prop} (h:p:=by simp only [stR]; simp_all <;> omega):p:=h
theorem vS (s:l8) :AC 107 [(AV.agg (l8.row s))] [] ((bB (stR s)),[]) :=
 q9 (fn:=Tryz.f107) (ann:=a7I) (Has.o Tryz.func107) (.r (.s (.two (decide (s.t >= 0)) (fun h1 h1'=>(.u2 (.two (decide (s.n >= 0)) (fun h2 h2'=>(.u2 (.two (decide (s.node >= 0)) (fun h3 h3'=>(.u2 (.q 0 (bB (decide (s.node < 6))) a9C))) (fun h3 h3'=>(.n2 (.q 0 bF a9C)))))) (fun h2 h2'=>(.n5 (.q 0 bF a9C)))))) (fun h1 h1'=>(.n6 (.n2 (.q 0 bF a9C)))))))
def X9 (c:Int):Bool:=(decide (97<=c)&&decide (c<=122)) || (decide (48<=c)&&decide (c<=57))
def aG (tx:ByteArray):Bool:=decide (0 < tx.size)&&(decide (tx.size<=16)&&(J8 tx).all X9)
theorem c4Q {l:List Int} {f:Int->Bool} (h:l.all f=true) {j:Nat} (hj:j < l.length):f (nth l j)=true:=by
 rw [List.all_eq_true] at h
 have:=rR hj
 exact h _ (List.mem_of_getElem? this)
theorem c5P {l:List Int} {f:Int->Bool} (h:l.all f=false):∃ j,j < l.length/\f (nth l j)=false:=by
 rw [List.all_eq_false] at h
 obtain ⟨x,hx,h2⟩:=h
 obtain ⟨j,hj,e⟩:=List.getElem_of_mem hx
 exact ⟨j,hj,by rw [c5a (by rw [List.getElem?_eq_getElem hj,e]) ]; simpa using h2⟩
def rU:Ann:={ big:=[20],fin:=some 0,live:=[(4,[0,2,13,14,15])],out:=[(4,[0,2])] }
@[simp] abbrev c1R (a:ByteArray) (b:Nat):Fr:=(mkF 36 [(0,(AV.str a)),(2,bF),(13,(AV.str a)),(14,(iN a.size)),(15,(iN (b+1)))])
@[simp] abbrev wZ (a:ByteArray):=(mkF 36 [(0,(AV.str a)),(2,bF)])
@[simp] abbrev a6Q :=(l9 Tryz.prog (X rU) (y7 Tryz.f106 0))
theorem a2D (tx:ByteArray) (i:Nat) (hs:tx.size < 100) (hi:i<=tx.size) {eX:Ex} {FX:Fr} {HX:Heap} (k1:(decide ((i:Int) < (tx.size:Int)))=true->(decide ((nth (J8 tx) i) < 97))=true->(decide ((nth (J8 tx) i) < 48))=true->((.ret:Ex),(wZ tx),[])=(eX,FX,HX)) (k2:(decide ((i:Int) < (tx.size:Int)))=true->(decide ((nth (J8 tx) i) < 97))=true->(decide ((nth (J8 tx) i) < 48))=false->(decide ((nth (J8 tx) i) > 57))=true->((.ret:Ex),(wZ tx),[])=(eX,FX,HX)) (k3:(decide ((i:Int) < (tx.size:Int)))=true->(decide ((nth (J8 tx) i) < 97))=true->(decide ((nth (J8 tx) i) < 48))=false->(decide ((nth (J8 tx) i) > 57))=false->l7 a6Q (some [0,2,13,14,15]) (some [0,2]) (c1R tx i) [] eX FX HX) (k4:(decide ((i:Int) < (tx.size:Int)))=true->(decide ((nth (J8 tx) i) < 97))=false->(decide ((nth (J8 tx) i) > 122))=true->(decide ((nth (J8 tx) i) < 48))=true->((.ret:Ex),(wZ tx),[])=(eX,FX,HX)) (k5:(decide ((i:Int) < (tx.size:Int)))=true->(decide ((nth (J8 tx) i) < 97))=false->(decide ((nth (J8 tx) i) > 122))=true->(decide ((nth (J8 tx) i) < 48))=false->(decide ((nth (J8 tx) i) > 57))=true->((.ret:Ex),(wZ tx),[])=(eX,FX,HX)) (k6:(decide ((i:Int) < (tx.size:Int)))=true->(decide ((nth (J8 tx) i) < 97))=false->(decide ((nth (J8 tx) i) > 122))=true->(decide ((nth (J8 tx) i) < 48))=false->(decide ((nth (J8 tx) i) > 57))=false->l7 a6Q (some [0,2,13,14,15]) (some [0,2]) (c1R tx i) [] eX FX HX) (k7:(decide ((i:Int) < (tx.size:Int)))=true->(decide ((nth (J8 tx) i) < 97))=false->(decide ((nth (J8 tx) i) > 122))=false->l7 a6Q (some [0,2,13,14,15]) (some [0,2]) (c1R tx i) [] eX FX HX) (k8:(decide ((i:Int) < (tx.size:Int)))=false->((.exit 0:Ex),(wZ tx),[])=(eX,FX,HX)):l7 a6Q (some [0,2,13,14,15]) (some [0,2]) (mkF 36 [(0,(AV.str tx)),(2,bF),(13,(AV.str tx)),(14,(iN tx.size)),(15,(iN i))]) [] eX FX HX :=
 K7 (.r (.g (.two (decide ((i:Int) < (tx.size:Int))) (fun h1 h1'=>(.r (.s (.t 2 (AV.int .u8 (nth (J8 tx) i)) [] (b4n (xt:=9) (ts:={ d:=.string,size:=1,bytes:=16,zero:=[.str ⟨#[]⟩] }) (i:=(i:Int)) (n:=i) dF kr kr kr rfl kr kr ow ow:Sat Tryz.prog (X rU) (mkF 36 [(0,(AV.str tx)),(2,bF),(3,(iN i)),(13,(AV.str tx)),(14,(iN tx.size)),(15,(iN i)),(16,(bB (decide ((i:Int) < (tx.size:Int))))),(17,(iN i)),(18,(AV.str tx)),(19,(iN i))]) [] 0 (X6 Tryz.f106 6 2) (AV.int .u8 (nth (J8 tx) i)) []) (.s (.two (decide ((nth (J8 tx) i) < 97)) (fun h2 h2'=>(.u4 (.two (decide ((nth (J8 tx) i) < 48)) (fun h3 h3'=>(.u2 (.ru (.g (.l (k1 h1 h2 h3)))))) (fun h3 h3'=>(.n (.u (.g (.two (decide ((nth (J8 tx) i) > 57)) (fun h4 h4'=>(.r (.g (.l (k2 h1 h2 h3 h4))))) (fun h4 h4'=>(.r (.y 0 (.int .i64 (ca_ i)) (iN (i+1)) Yes.o (.g (.l (k3 h1 h2 h3 h4)))))))))))))) (fun h2 h2'=>(.n (.two (decide ((nth (J8 tx) i) > 122)) (fun h3 h3'=>(.u2 (.two (decide ((nth (J8 tx) i) < 48)) (fun h4 h4'=>(.u2 (.ru (.g (.l (k4 h1 h2 h3 h4)))))) (fun h4 h4'=>(.n (.u (.g (.two (decide ((nth (J8 tx) i) > 57)) (fun h5 h5'=>(.r (.g (.l (k5 h1 h2 h3 h4 h5))))) (fun h5 h5'=>(.r (.y 0 (.int .i64 (ca_ i)) (iN (i+1)) Yes.o (.g (.l (k6 h1 h2 h3 h4 h5)))))))))))))) (fun h3 h3'=>(.n3 (.rn (.y 0 (.int .i64 (ca_ i)) (iN (i+1)) Yes.o (.g (.l (k7 h1 h2 h3)))))))))))))))) (fun h1 h1'=>(.l (k8 h1))))))
theorem c4u (tx:ByteArray) (hs:tx.size < 100) (r:Nat):∀ (i:Nat),i+r=tx.size->(∀ j,i<=j->j < tx.size->X9 (nth (J8 tx) j)=true) ->
 l7 (l9 Tryz.prog (X rU) (y7 Tryz.f106 0)) (some [0,2,13,14,15]) (some [0,2]) (mkF 36 [(0,(AV.str tx)),(2,bF),(13,(AV.str tx)),(14,(iN tx.size)),(15,(iN i))]) [] (.exit 0) (mkF 36 [(0,(AV.str tx)),(2,bF)]) []:=by
 induction r with
 | zero =>
  intro i hi hall
  refine a2D tx i hs ow (fun h1 h2 h3=>absurd h1 yh_) (fun h1 h2 h3 h4=>absurd h1 yh_) (fun h1 h2 h3 h4=>absurd h1 yh_) (fun h1 h2 h3 h4=>absurd h1 yh_) (fun h1 h2 h3 h4 h5=>absurd h1 yh_) (fun h1 h2 h3 h4 h5=>absurd h1 yh_) (fun h1 h2 h3=>absurd h1 yh_) (fun h1=>rfl)
 | succ r ih =>
  intro i hi hall
  refine a2D tx i hs ow (fun h1 h2 h3=>absurd (hall i (Nat.le_refl _) ow) (by rw [(show X9 (nth (J8 tx) i)=false by simp only [decide_eq_true_eq,decide_eq_false_iff_not] at h1 h2 h3; simp [X9]; omega)]; simp)) (fun h1 h2 h3 h4=>absurd (hall i (Nat.le_refl _) ow) (by rw [(show X9 (nth (J8 tx) i)=false by simp only [decide_eq_true_eq,decide_eq_false_iff_not] at h1 h2 h3 h4; simp [X9]; omega)]; simp)) (fun h1 h2 h3 h4=>ih (i+1) ow (fun j hj hj2=>hall j ow hj2)) (fun h1 h2 h3 h4=>absurd (hall i (Nat.le_refl _) ow) (by rw [(show X9 (nth (J8 tx) i)=false by simp only [decide_eq_true_eq,decide_eq_false_iff_not] at h1 h2 h3 h4; simp [X9]; omega)]; simp)) (fun h1 h2 h3 h4 h5=>absurd (hall i (Nat.le_refl _) ow) (by rw [(show X9 (nth (J8 tx) i)=false by simp only [decide_eq_true_eq,decide_eq_false_iff_not] at h1 h2 h3 h4 h5; simp [X9]; omega)]; simp)) (fun h1 h2 h3 h4 h5=>ih (i+1) ow (fun j hj hj2=>hall j ow hj2)) (fun h1 h2 h3=>ih (i+1) ow (fun j hj hj2=>hall j ow hj2)) (fun h1=>absurd h1 yh_)
theorem c5b (tx:ByteArray) (hs:tx.size < 100) (r:Nat):∀ (i:Nat),i+r=tx.size->(∃ j,i<=j/\j < tx.size/\X9 (nth (J8 tx) j)=false) ->
 l7 (l9 Tryz.prog (X rU) (y7 Tryz.f106 0)) (some [0,2,13,14,15]) (some [0,2]) (mkF 36 [(0,(AV.str tx)),(2,(bB false)),(13,(AV.str tx)),(14,(iN tx.size)),(15,(iN i))]) [] (.ret) (mkF 36 [(0,(AV.str tx)),(2,(bB false))]) []:=by
 induction r with
 | zero =>
  intro i hi hex
  obtain ⟨j,hj1,hj2,_⟩:=hex
  omega
 | succ r ih =>
  intro i hi hex
  refine a2D tx i hs ow (fun h1 h2 h3=>rfl) (fun h1 h2 h3 h4=>rfl) (fun h1 h2 h3 h4=>(by (obtain ⟨j,hj1,hj2,hj3⟩:=hex); (have hne:j≠i:=fun e=>by rw [e,(show X9 (nth (J8 tx) i)=true by simp only [decide_eq_true_eq,decide_eq_false_iff_not] at h1 h2 h3 h4; simp [X9]; omega)] at hj3; simp at hj3); exact ih (i+1) ow ⟨j,by omega,hj2,hj3⟩)) (fun h1 h2 h3 h4=>rfl) (fun h1 h2 h3 h4 h5=>rfl) (fun h1 h2 h3 h4 h5=>(by (obtain ⟨j,hj1,hj2,hj3⟩:=hex); (have hne:j≠i:=fun e=>by rw [e,(show X9 (nth (J8 tx) i)=true by simp only [decide_eq_true_eq,decide_eq_false_iff_not] at h1 h2 h3 h4 h5; simp [X9]; omega)] at hj3; simp at hj3); exact ih (i+1) ow ⟨j,by omega,hj2,hj3⟩)) (fun h1 h2 h3=>(by (obtain ⟨j,hj1,hj2,hj3⟩:=hex); (have hne:j≠i:=fun e=>by rw [e,(show X9 (nth (J8 tx) i)=true by simp only [decide_eq_true_eq,decide_eq_false_iff_not] at h1 h2 h3; simp [X9]; omega)] at hj3; simp at hj3); exact ih (i+1) ow ⟨j,by omega,hj2,hj3⟩)) (fun h1=>absurd h1 yh_)
@[simp] abbrev c8b (a:ByteArray):Fr:=(mkF 36 [(0,(AV.str a)),(2,bF),(13,(AV.str a)),(14,(iN a.size)),(15,z_)])
theorem b0P (tx:ByteArray) (hb:aG tx=true):AC 106 [(AV.str tx)] [] (bT,[]):=by
 have hB:=hb
 simp only [aG,Bool.and_eq_true,decide_eq_true_eq] at hB
 obtain ⟨q1,q2,q3⟩:=hB
 have hs:tx.size < 100:=by omega
 exact q9 (fn:=Tryz.f106) (ann:=rU) (Has.o Tryz.func106) (.r (.s (.y 2 (bB ((tx.size:Int) == 0)) bF (Yes.b (beq_eq_false_iff_ne.2 ow)) (.n3 (.y 6 (bB (decide ((tx.size:Int) > 16))) bF (Yes.b yh_) (.rn (.g (.loop (wZ tx) (c4u tx hs tx.size 0 ow (fun j hj hj2=>c4Q q3 (by rw [oC]; exact hj2))) (.qr 0 bT)))))))))
theorem b0Q (tx : ByteArray) (hb : aG tx = false) : AC 106 [(AV.str tx)] [] (bF, []) :=
  q9 (fn := Tryz.f106) (ann := rU) (Has.o Tryz.func106) (.r (.s (.two ((tx.size : Int) == 0) (fun h1 h1' => (.u2 (.g (.u (.qr 0 bF))))) (fun h1 h1' => (.n2 (.g (.two (decide ((tx.size : Int) > 16)) (fun h2 h2' => (.qr 0 bF)) (fun h2 h2' => (.r (.g (.loop (wZ tx) (show l7 a6Q (some [0, 2, 13, 14, 15]) (some [0, 2]) (c8b tx) [] (.ret) (wZ tx) [] from (c5b tx (by have q := h1'; have q2 := h2'; omega) tx.size 0 ow (by
        have q := h1'; have q2 := h2'
        have h3 : (J8 tx).all X9 = false := by
          cases h4 : (J8 tx).all X9 with
          | false => rfl
          | true =>
            have h5 : aG tx = true := by simp only [aG, Bool.and_eq_true, decide_eq_true_eq]; exact ⟨by omega, by omega, h4⟩
            rw [h5] at hb; simp at hb
        obtain ⟨j, hj, hj2⟩ := c5P h3
        exact ⟨j, Nat.zero_le _, by rw [oC] at hj; exact hj, hj2⟩))) (.q 0 bF))))))))))))
theorem pO (tx:ByteArray) :AC 106 [(AV.str tx)] [] ((bB (aG tx)),[]):=by
 cases hb:aG tx with
 | true=>exact b0P tx hb
 | false=>exact b0Q tx hb
def F8 (c:j5):Bool:=aG c.key.app&&(aG c.key.id&&((decide (c.status=1) || decide (c.status=2))&&((decide (0<=c.over)&&decide (c.over<=3))&&((decide (1<=c.lease)&&decide (c.lease<=1048576))&&stR c.stamp))))
attribute [local irreducible] aG stR
def b1S:Ann:={ refs:=[1],fin:=some 0 }
theorem kD {p:Prop} (h:p:=by simp only [F8]; simp_all <;> omega):p:=h
theorem zT (c:j5) :AC 59 [(AV.agg (j5.row c))] [] ((bB (F8 c)),[]) :=
 q9 (fn:=Tryz.f59) (ann:=b1S) (Has.o Tryz.func59) (.r (.s (.c 3 ((pO c.key.app).lift kr kr []) (.two (!(aG c.key.app)) (fun h1 h1'=>(.u4 (.g (.u (.qr 0 bF kD))))) (fun h1 h1'=>(.n3 (.c 9 ((pO c.key.id).lift kr kr []) (.n (.g (.two (!(aG c.key.id)) (fun h2 h2'=>(.qr 0 bF kD)) (fun h2 h2'=>(.r (.two (c.status != 1) (fun h3 h3'=>(.u2 (.g (.two (c.status != 2) (fun h4 h4'=>(.qr 0 bF kD)) (fun h4 h4'=>(.r (.two (decide (c.over < 0)) (fun h5 h5'=>(.u2 (.g (.u (.qr 0 bF kD))))) (fun h5 h5'=>(.n2 (.g (.two (decide (c.over > 3)) (fun h6 h6'=>(.qr 0 bF kD)) (fun h6 h6'=>(.r (.two (decide (c.lease >= 1)) (fun h7 h7'=>(.u2 (.two (decide (c.lease<=1048576)) (fun h8 h8'=>(.u2 (.c 11 ((vS c.stamp).lift kr kr []) (.q 0 (bB (stR c.stamp)) kD)))) (fun h8 h8'=>(.n2 (.q 0 bF kD)))))) (fun h7 h7'=>(.n5 (.q 0 bF kD))))))))))))))))) (fun h3 h3'=>(.n2 (.rn (.two (decide (c.over < 0)) (fun h4 h4'=>(.u2 (.g (.u (.qr 0 bF kD))))) (fun h4 h4'=>(.n2 (.g (.two (decide (c.over > 3)) (fun h5 h5'=>(.qr 0 bF kD)) (fun h5 h5'=>(.r (.two (decide (c.lease >= 1)) (fun h6 h6'=>(.u2 (.two (decide (c.lease<=1048576)) (fun h7 h7'=>(.u2 (.c 11 ((vS c.stamp).lift kr kr []) (.q 0 (bB (stR c.stamp)) kD)))) (fun h7 h7'=>(.n2 (.q 0 bF kD)))))) (fun h6 h6'=>(.n5 (.q 0 bF kD)))))))))))))))))))))))))))
attribute [local irreducible] F8 I7
theorem tH (l:l9E) (x:Entry) (al:l9K):(J5 l x al).length<=al.length+1:=by
 unfold J5; split
 · simp
 · omega
attribute [local irreducible] J5 P7
def a0E:Ann:={ gh:=[(18,.frz 8)],gha:=[(4,.vir 8 9),(17,.cut 7)],base:=6,fin:=some 6,live:=[(7,[0,2,8,9,19,20,21])],out:=[(7,[0,2,8,9,19,20,21])] }
@[simp] abbrev b3j (a:Int) (b:Nat) (c:Nat) (d:Nat) (e:l9C) (f:Nat):Fr:=(mkF 82 [(0,(oO 5 0 0 0)),(2,(iI (w9 a))),(8,(AV.osl 6 b 9 0 c)),(9,(iN d)),(19,(sA 9 (mC e))),(20,(iN e.length)),(21,(iN (f+1)))])
@[simp] abbrev R4 (a:Nat) (b:l9E):Ob:=(o_ 0 2 (a0O a b))
@[simp] abbrev vC (a:Nat) (b:l9E) (c:Int) (d:Int) (e:Int) (f:l9K) (g:Nat) (h:Int) (i:Int) (j:Int) (k:Int) (l:Nat) (m:l9C):Heap:=[R4 a b,(o_ a 10 (mE b)),I9 c d e,M9 f g,(o_ g 2 (mK (l5 f))),bX h i j k,(o_ l 9 (mC m))]
@[simp] abbrev c6B (a:Int) (b:Nat) (c:Nat) (d:Nat) (e:l9C) (f:Nat):Fr:=(mkF 82 [(0,(oO 5 0 0 0)),(2,(iI (w9 a))),(8,(AV.osl 6 b 9 0 c)),(9,(iN (d+1))),(19,(sA 9 (mC e))),(20,(iN e.length)),(21,(iN (f+1)))])
@[simp] abbrev a4P (a:l9E) (b:l9C) (c:Nat) (d:Int) (e:Nat):Ob:=(o_ 0 2 [[(iI (p9 32)),(AV.osl 1 (I5 (p9 32) a (Entry.mk (nth b c) (w9 d)) e) 10 0 (List.length (F6 (p9 32) a (Entry.mk (nth b c) (w9 d)))))]])
@[simp] abbrev a2g (a:l9E) (b:l9C) (c:Nat) (d:Int) (e:Nat):Ob:=(o_ (I5 (p9 32) a (Entry.mk (nth b c) (w9 d)) e) 10 (mE (F6 (p9 32) a (Entry.mk (nth b c) (w9 d)))))
@[simp] abbrev a2f (a:l9E) (b:l9C) (c:Nat) (d:Int) (e:l9K) (f:Nat):Ob:=(o_ 0 2 [[(iN ((List.length (J5 a (Entry.mk (nth b c) (w9 d)) e)))),(AV.osl 4 (P7 a (Entry.mk (nth b c) (w9 d)) f) 2 0 (List.length (l5 (J5 a (Entry.mk (nth b c) (w9 d)) e))))]])
@[simp] abbrev a2e (a:l9E) (b:l9C) (c:Nat) (d:Int) (e:Nat) (f:l9K):Ob:=(o_ (P7 a (Entry.mk (nth b c) (w9 d)) e) 2 (mK (l5 (J5 a (Entry.mk (nth b c) (w9 d)) f))))
@[simp] abbrev b3i (a:l9E) (b:l9C) (c:Nat) (d:Int) (e:Nat) (f:Int) (g:Int) (h:Int) (i:l9K) (j:Nat) (k:Int) (l:Int) (m:Int) (n:Int) (o:Nat) (p:l9C):Heap:=[a4P a b c d e,a2g a b c d e,I9 f g h,a2f a b c d i j,a2e a b c d j i,bX k l m n,(o_ o 9 (mC p))]
@[simp] abbrev wY (a b:Nat):=(AV.osl 6 (a+1) 9 0 (b+1))
@[simp] abbrev c6A (a:Int) (b:Nat) (c:Nat) (d:Nat) (e:l9C) (f:Nat):Fr:=(mkF 82 [(0,(oO 5 0 0 0)),(2,(iI (w9 a))),(8,(wY b c)),(9,(iN d)),(19,(sA 9 (mC e))),(20,(iN e.length)),(21,(iN (f+1)))])
@[simp] abbrev a4R (a:l9E) (b:l9C) (c:Nat) (d:Int) (e:Nat) (f:Int) (g:Int) (h:Int) (i:l9K) (j:Nat) (k:Int) (l:Int) (m:Int) (n:Int) (o:Nat) (p:l9C):Heap:=[a4P a b c d e,a2g a b c d e,I9 f g h,a2f a b c d i j,a2e a b c d j i,bX k l m n,a2k o p b c]
@[simp] abbrev b8e (a:l9E) (b:l9C) (c:Nat) (d:Int) (e:Nat):Ob:=(o_ 0 2 [[(iI (p9 32)),(AV.osl 1 (I5 (p9 32) a (Entry.mk (r9 a (nth b c).key).card (w9 d)) e) 10 0 (List.length (F6 (p9 32) a (Entry.mk (r9 a (nth b c).key).card (w9 d)))))]])
@[simp] abbrev b8d (a:l9E) (b:l9C) (c:Nat) (d:Int) (e:Nat):Ob:=(o_ (I5 (p9 32) a (Entry.mk (r9 a (nth b c).key).card (w9 d)) e) 10 (mE (F6 (p9 32) a (Entry.mk (r9 a (nth b c).key).card (w9 d)))))
@[simp] abbrev c3E (a:l9E) (b:l9C) (c:Nat) (d:Int) (e:Nat) (f:Int) (g:Int) (h:Int) (i:l9K) (j:Nat) (k:Int) (l:Int) (m:Int) (n:Int) (o:Nat) (p:l9C):Heap:=[b8e a b c d e,b8d a b c d e,I9 f g h,M9 i j,(o_ j 2 (mK (l5 i))),bX k l m n,(o_ o 9 (mC p))]
@[simp] abbrev b3k (a:Int) (b:Nat) (c:Nat) (d:Nat) (e:l9C) (f:Nat):Fr:=(mkF 82 [(0,(oO 5 0 0 0)),(2,(iI (w9 a))),(8,(AV.osl 6 b 9 0 c)),(9,(iN d)),(19,(sA 9 (mC e))),(20,(iN e.length)),(21,(iN f))])
@[simp] abbrev c3D (a:Nat) (b:l9E) (c:Int) (d:Int) (e:Int) (f:l9K) (g:Nat) (h:Int) (i:Int) (j:Int) (k:Int) (l:Nat) (m:l9C) (n:l9C) (o:Nat):Heap:=[R4 a b,(o_ a 10 (mE b)),I9 c d e,M9 f g,(o_ g 2 (mK (l5 f))),bX h i j k,(o_ l 9 (mC m)),(o_ 0 9 [(j5.row (nth n o))])]
@[simp] abbrev a2h (a:Nat) (b:l9E) (c:Int) (d:Int) (e:Int) (f:l9K) (g:Nat) (h:Int) (i:Int) (j:Int) (k:Int) (l:Nat) (m:l9C) (n:l9C) (o:Nat):Heap:=[R4 a b,(o_ a 10 (mE b)),I9 c d e,M9 f g,(o_ g 2 (mK (l5 f))),bX h i j k,(o_ l 9 (mC m)),(o_ 0 9 [(j5.row (nth n o))]),a2i]
@[simp] abbrev a2d (a:l9E) (b:l9C) (c:Nat):Ob:=(o_ 0 10 [(Entry.row (r9 a (nth b c).key))])
@[simp] abbrev a4Q (a:l9E) (b:l9C) (c:Nat) (d:Int) (e:Nat) (f:Int) (g:Int) (h:Int) (i:l9K) (j:Nat) (k:Int) (l:Int) (m:Int) (n:Int) (o:Nat) (p:l9C):Heap:=[a4P a b c d e,a2g a b c d e,I9 f g h,a2f a b c d i j,a2e a b c d j i,bX k l m n,(o_ o 9 (mC p)),(o_ 0 9 [(j5.row (nth b c))]),a2d a b c]
@[simp] abbrev nQ (a:Nat) (b:l9E) (c:Int) (d:Int) (e:Int) (f:l9K) (g:Nat) (h:Int) (i:Int) (j:Int) (k:Int) (l:Nat) (m:l9C) (n:l9C) (o:Nat):Heap:=[R4 a b,(o_ a 10 (mE b)),I9 c d e,M9 f g,(o_ g 2 (mK (l5 f))),bX h i j k,(o_ l 9 (mC m)),(o_ 0 9 [(j5.row (nth n o))]),a2d b n o]
@[simp] abbrev c3C (a:l9E) (b:l9C) (c:Nat) (d:Int) (e:Nat) (f:Int) (g:Int) (h:Int) (i:l9K) (j:Nat) (k:Int) (l:Int) (m:Int) (n:Int) (o:Nat) (p:l9C):Heap:=[a4P a b c d e,a2g a b c d e,I9 f g h,a2f a b c d i j,a2e a b c d j i,bX k l m n,a2k o p b c,(o_ 0 9 [(j5.row (nth b c))]),a2d a b c]
@[simp] abbrev c3B (a:l9E) (b:l9C) (c:Nat) (d:Int) (e:Nat) (f:Int) (g:Int) (h:Int) (i:l9K) (j:Nat) (k:Int) (l:Int) (m:Int) (n:Int) (o:Nat) (p:l9C):Heap:=[b8e a b c d e,b8d a b c d e,I9 f g h,M9 i j,(o_ j 2 (mK (l5 i))),bX k l m n,(o_ o 9 (mC p)),(o_ 0 9 [(j5.row (nth b c))]),a2d a b c]
@[simp] abbrev qZ :=(l9 Tryz.prog (X a0E) (y7 Tryz.f33 0))
theorem a3M (q:Nat) (qa:Nat) (cs:l9C) (now:Int) (gf:Int) (gl:Int) (gt:Int) (nd:Int) (s1:Int) (s2:Int) (s3:Int) (l:l9E) (g:Nat) (al:l9K) (ga:Nat) (out:l9C) (k:Nat) (h:Nat) (rf:Nat) (i:Nat) (hq:q+cs.length < 1000) (hqa:qa+cs.length < 100000) (hk:k=out.length) (hkl:k<=i) (hrf:rf<=i) (hl:l.length<=q+i) (ha:al.length<=qa+i) (hle_:i<=cs.length) {eX:Ex} {FX:Fr} {HX:Heap} (k1:(decide ((i:Int) < (cs.length:Int)))=true->(!(F8 (nth cs i)))=true->l7 qZ (some [0,2,8,9,19,20,21]) (some [0,2,8,9,19,20,21]) (b3j now h k rf cs i) (vC g l gf gl gt al ga nd s1 s2 s3 h out) eX FX HX) (k2:(decide ((i:Int) < (cs.length:Int)))=true->(!(F8 (nth cs i)))=false->(!(y9 l (nth cs i).key))=true->((H7 (p9 32) l (Entry.mk (nth cs i) (w9 now))) != 0)=true->l7 qZ (some [0,2,8,9,19,20,21]) (some [0,2,8,9,19,20,21]) (c6B now h k rf cs i) (b3i l cs i now g gf gl gt al ga nd s1 s2 s3 h out) eX FX HX) (k3:(decide ((i:Int) < (cs.length:Int)))=true->(!(F8 (nth cs i)))=false->(!(y9 l (nth cs i).key))=true->((H7 (p9 32) l (Entry.mk (nth cs i) (w9 now))) != 0)=false->l7 qZ (some [0,2,8,9,19,20,21]) (some [0,2,8,9,19,20,21]) (c6A now h k rf cs i) (a4R l cs i now g gf gl gt al ga nd s1 s2 s3 h out) eX FX HX) (k4:(decide ((i:Int) < (cs.length:Int)))=true->(!(F8 (nth cs i)))=false->(!(y9 l (nth cs i).key))=false->(decide (I7 (r9 l (nth cs i).key).card.stamp (nth cs i).stamp < 0))=true->((H7 (p9 32) l (Entry.mk (nth cs i) (w9 now))) != 0)=true->l7 qZ (some [0,2,8,9,19,20,21]) (some [0,2,8,9,19,20,21]) (c6B now h k rf cs i) (b3i l cs i now g gf gl gt al ga nd s1 s2 s3 h out) eX FX HX) (k5:(decide ((i:Int) < (cs.length:Int)))=true->(!(F8 (nth cs i)))=false->(!(y9 l (nth cs i).key))=false->(decide (I7 (r9 l (nth cs i).key).card.stamp (nth cs i).stamp < 0))=true->((H7 (p9 32) l (Entry.mk (nth cs i) (w9 now))) != 0)=false->l7 qZ (some [0,2,8,9,19,20,21]) (some [0,2,8,9,19,20,21]) (c6A now h k rf cs i) (a4R l cs i now g gf gl gt al ga nd s1 s2 s3 h out) eX FX HX) (k6:(decide ((i:Int) < (cs.length:Int)))=true->(!(F8 (nth cs i)))=false->(!(y9 l (nth cs i).key))=false->(decide (I7 (r9 l (nth cs i).key).card.stamp (nth cs i).stamp < 0))=false->(l8.eqb (r9 l (nth cs i).key).card.stamp (nth cs i).stamp)=true->(!(r9 l (nth cs i).key).card.gone)=true->l7 qZ (some [0,2,8,9,19,20,21]) (some [0,2,8,9,19,20,21]) (b3j now h k rf cs i) (c3E l cs i now g gf gl gt al ga nd s1 s2 s3 h out) eX FX HX) (k7:(decide ((i:Int) < (cs.length:Int)))=true->(!(F8 (nth cs i)))=false->(!(y9 l (nth cs i).key))=false->(decide (I7 (r9 l (nth cs i).key).card.stamp (nth cs i).stamp < 0))=false->(l8.eqb (r9 l (nth cs i).key).card.stamp (nth cs i).stamp)=true->(!(r9 l (nth cs i).key).card.gone)=false->l7 qZ (some [0,2,8,9,19,20,21]) (some [0,2,8,9,19,20,21]) (b3j now h k rf cs i) (vC g l gf gl gt al ga nd s1 s2 s3 h out) eX FX HX) (k8:(decide ((i:Int) < (cs.length:Int)))=true->(!(F8 (nth cs i)))=false->(!(y9 l (nth cs i).key))=false->(decide (I7 (r9 l (nth cs i).key).card.stamp (nth cs i).stamp < 0))=false->(l8.eqb (r9 l (nth cs i).key).card.stamp (nth cs i).stamp)=false->l7 qZ (some [0,2,8,9,19,20,21]) (some [0,2,8,9,19,20,21]) (b3j now h k rf cs i) (vC g l gf gl gt al ga nd s1 s2 s3 h out) eX FX HX) (k9:(decide ((i:Int) < (cs.length:Int)))=false->((.exit 0:Ex),(b3k now h k rf cs i),(vC g l gf gl gt al ga nd s1 s2 s3 h out))=(eX,FX,HX)):l7 qZ (some [0,2,8,9,19,20,21]) (some [0,2,8,9,19,20,21]) (b3k now h k rf cs i) (vC g l gf gl gt al ga nd s1 s2 s3 h out) eX FX HX:=by
 have p1:=fE (p9 32) l ⟨nth cs i,w9 now⟩
 have p2:=tH l ⟨nth cs i,w9 now⟩ al
 have p3:=fE (p9 32) l ⟨(r9 l (nth cs i).key).card,w9 now⟩
 exact K7 (.r (.g (.two (decide ((i:Int) < (cs.length:Int))) (fun h1 h1'=>(.r (.h' [(o_ 0 2 (a0O g l)),(o_ g 10 (mE l)),(o_ 0 3 [[(iI gf),(iI gl),(iI gt)]]),(o_ 0 2 (a3b al ga)),(o_ ga 2 (mK (l5 al))),(o_ 0 7 (c1g nd s1 s2 s3)),(o_ h 9 (mC out)),(o_ 0 9 [[e_,e_,z_,z_,z_,z_,z_,z_,bF]])] (.is 0 9 9 (mC cs) (i:Int) (j5.row (nth cs i)) (O9.mk _ ow ow) (.s (.c 1 ((zT (nth cs i)).lift kr kr (c3D g l gf gl gt al ga nd s1 s2 s3 h out cs i)) (.g (.two (!(F8 (nth cs i))) (fun h2 h2'=>(.r (.h' (c3D g l gf gl gt al ga nd s1 s2 s3 h out cs i) (.y 0 (.int .i64 (ca_ i)) (iN (i+1)) Yes.o (.h' (vC g l gf gl gt al ga nd s1 s2 s3 h out) (.b 7 (.g (.l (k1 h1 h2))))))))) (fun h2 h2'=>(.r (.c 1 (j6.put2 [0,1,2,3,4,5] (a2h g l gf gl gt al ga nd s1 s2 s3 h out cs i) (oO 0 0 0 0) (a2h g l gf gl gt al ga nd s1 s2 s3 h out cs i) (V4 l g al ga gf gl gt nd s1 s2 s3 ) (rlA) (rlA)) (.c 4 (j6.put2 [0,1] (a2h g l gf gl gt al ga nd s1 s2 s3 h out cs i) (AV.tup [(AV.agg (Entry.row (r9 l (nth cs i).key))),(bB (y9 l (nth cs i).key))]) (a2h g l gf gl gt al ga nd s1 s2 s3 h out cs i) (dL (p9 32) l (nth cs i).key g (List.length l) oa oa) (rlF) (rlF)) (.rd (AV.agg (Key.row (nth cs i).key)) (a2h g l gf gl gt al ga nd s1 s2 s3 h out cs i) (.s (.two (!(y9 l (nth cs i).key)) (fun h3 h3'=>(.u5 (.ru (.ch 4 (a4Q l cs i now g gf gl gt al ga nd s1 s2 s3 h out) (j6.put2 [0,1,2,3,4,5] (nQ g l gf gl gt al ga nd s1 s2 s3 h out cs i) (iI (H7 (p9 32) l (Entry.mk (nth cs i) (w9 now)))) (a4Q l cs i now g gf gl gt al ga nd s1 s2 s3 h out) (wS l g al ga gf gl gt nd s1 s2 s3 (Entry.mk (nth cs i) (w9 now)) oa oa) (rlA) (rlA)) (.g (.two ((H7 (p9 32) l (Entry.mk (nth cs i) (w9 now))) != 0) (fun h4 h4'=>(.r (.y 1 (.int .i64 (ca_ rf)) (iN (rf+1)) Yes.o (.s (.y 0 (.int .i64 (ca_ i)) (iN (i+1)) Yes.o (.h' (b3i l cs i now g gf gl gt al ga nd s1 s2 s3 h out) (.b 7 (.g (.l (k2 h1 h2 h3 h4)))))))))) (fun h4 h4'=>(.r (.ap 3 30 (AV.osl 6 h 9 0 k) (co_ cs i) (wY h k) (c3C l cs i now g gf gl gt al ga nd s1 s2 s3 h out) (K3 (row:=j5.row) (l:=out) (x:=(nth cs i)) (T:=tt) (e:=50) (te:=bP) (z:=1) (b:=24) (y:=[.sl .nil 0 []]) kr kr rfl E9 E9 kr fB rfl rfl iV) (.s (.y 0 (.int .i64 (ca_ i)) (iN (i+1)) Yes.o (.h' (a4R l cs i now g gf gl gt al ga nd s1 s2 s3 h out) (.b 7 (.g (.l (k3 h1 h2 h3 h4)))))))))))))))) (fun h3 h3'=>(.n5 (.c 8 ((qJ (r9 l (nth cs i).key).card.stamp (nth cs i).stamp).lift kr kr (nQ g l gf gl gt al ga nd s1 s2 s3 h out cs i)) (.g (.two (decide (I7 (r9 l (nth cs i).key).card.stamp (nth cs i).stamp < 0)) (fun h4 h4'=>(.r (.ch 4 (a4Q l cs i now g gf gl gt al ga nd s1 s2 s3 h out) (j6.put2 [0,1,2,3,4,5] (nQ g l gf gl gt al ga nd s1 s2 s3 h out cs i) (iI (H7 (p9 32) l (Entry.mk (nth cs i) (w9 now)))) (a4Q l cs i now g gf gl gt al ga nd s1 s2 s3 h out) (wS l g al ga gf gl gt nd s1 s2 s3 (Entry.mk (nth cs i) (w9 now)) oa oa) (rlA) (rlA)) (.g (.two ((H7 (p9 32) l (Entry.mk (nth cs i) (w9 now))) != 0) (fun h5 h5'=>(.r (.y 1 (.int .i64 (ca_ rf)) (iN (rf+1)) Yes.o (.s (.y 0 (.int .i64 (ca_ i)) (iN (i+1)) Yes.o (.h' (b3i l cs i now g gf gl gt al ga nd s1 s2 s3 h out) (.b 7 (.g (.l (k4 h1 h2 h3 h4 h5)))))))))) (fun h5 h5'=>(.r (.ap 3 30 (AV.osl 6 h 9 0 k) (co_ cs i) (wY h k) (c3C l cs i now g gf gl gt al ga nd s1 s2 s3 h out) (K3 (row:=j5.row) (l:=out) (x:=(nth cs i)) (T:=tt) (e:=50) (te:=bP) (z:=1) (b:=24) (y:=[.sl .nil 0 []]) kr kr rfl E9 E9 kr fB rfl rfl iV) (.s (.y 0 (.int .i64 (ca_ i)) (iN (i+1)) Yes.o (.h' (a4R l cs i now g gf gl gt al ga nd s1 s2 s3 h out) (.b 7 (.g (.l (k5 h1 h2 h3 h4 h5))))))))))))))) (fun h4 h4'=>(.r (.two (l8.eqb (r9 l (nth cs i).key).card.stamp (nth cs i).stamp) (fun h5 h5'=>(.u3 (.g (.two (!(r9 l (nth cs i).key).card.gone) (fun h6 h6'=>(.r (.c 1 (j6.put2 [0,1,2,3,4,5] (nQ g l gf gl gt al ga nd s1 s2 s3 h out cs i) (oO 0 0 0 0) (nQ g l gf gl gt al ga nd s1 s2 s3 h out cs i) (V4 l g al ga gf gl gt nd s1 s2 s3 ) (rlA) (rlA)) (.ch 6 (c3B l cs i now g gf gl gt al ga nd s1 s2 s3 h out) (j6.put2 [0,1] (nQ g l gf gl gt al ga nd s1 s2 s3 h out cs i) (iI (H7 (p9 32) l (Entry.mk (r9 l (nth cs i).key).card (w9 now)))) (c3B l cs i now g gf gl gt al ga nd s1 s2 s3 h out) (uD (p9 32) l (Entry.mk (r9 l (nth cs i).key).card (w9 now)) g (List.length l) oa oa) (rlF) (rlF)) (.rd (AV.agg (j5.row (r9 l (nth cs i).key).card)) (nQ g l gf gl gt al ga nd s1 s2 s3 h out cs i) (.s (.y 0 (.int .i64 (ca_ i)) (iN (i+1)) Yes.o (.h' (c3E l cs i now g gf gl gt al ga nd s1 s2 s3 h out) (.b 7 (.g (.l (k6 h1 h2 h3 h4 h5 h6)))))))))))) (fun h6 h6'=>(.r (.h' (nQ g l gf gl gt al ga nd s1 s2 s3 h out cs i) (.y 0 (.int .i64 (ca_ i)) (iN (i+1)) Yes.o (.h' (vC g l gf gl gt al ga nd s1 s2 s3 h out) (.b 7 (.g (.l (k7 h1 h2 h3 h4 h5 h6))))))))))))) (fun h5 h5'=>(.n3 (.rn (.h' (nQ g l gf gl gt al ga nd s1 s2 s3 h out cs i) (.y 0 (.int .i64 (ca_ i)) (iN (i+1)) Yes.o (.h' (vC g l gf gl gt al ga nd s1 s2 s3 h out) (.b 7 (.g (.l (k8 h1 h2 h3 h4 h5))))))))))))))))))))))))))))))))) (fun h1 h1'=>(.l (k9 h1))))))
def Z4 (q:Nat) (qa:Nat) (cs:List j5) (now:Int) (gf:Int) (gl:Int) (gt:Int) (nd:Int) (s1:Int) (s2:Int) (s3:Int) (i:Nat) (s:(List Entry) × Nat × (List Key) × Nat × (List j5) × Nat × Nat × Nat):(List Entry) × Nat × (List Key) × Nat × (List j5) × Nat × Nat × Nat:=(if (!(F8 (nth cs i)))=true then (s.1,s.2.1,s.2.2.1,s.2.2.2.1,s.2.2.2.2.1,s.2.2.2.2.2.1,s.2.2.2.2.2.2.1,s.2.2.2.2.2.2.2) else (if (!(y9 s.1 (nth cs i).key))=true then (if ((H7 (p9 32) s.1 (Entry.mk (nth cs i) (w9 now))) != 0)=true then (F6 (p9 32) s.1 (Entry.mk (nth cs i) (w9 now)),(I5 (p9 32) s.1 (Entry.mk (nth cs i) (w9 now)) s.2.1),J5 s.1 (Entry.mk (nth cs i) (w9 now)) s.2.2.1,(P7 s.1 (Entry.mk (nth cs i) (w9 now)) s.2.2.2.1),s.2.2.2.2.1,s.2.2.2.2.2.1,s.2.2.2.2.2.2.1,s.2.2.2.2.2.2.2+1) else (F6 (p9 32) s.1 (Entry.mk (nth cs i) (w9 now)),(I5 (p9 32) s.1 (Entry.mk (nth cs i) (w9 now)) s.2.1),J5 s.1 (Entry.mk (nth cs i) (w9 now)) s.2.2.1,(P7 s.1 (Entry.mk (nth cs i) (w9 now)) s.2.2.2.1),s.2.2.2.2.1++[(nth cs i)],(s.2.2.2.2.2.1+1),(s.2.2.2.2.2.2.1+1),s.2.2.2.2.2.2.2)) else (if (decide (I7 (r9 s.1 (nth cs i).key).card.stamp (nth cs i).stamp < 0))=true then (if ((H7 (p9 32) s.1 (Entry.mk (nth cs i) (w9 now))) != 0)=true then (F6 (p9 32) s.1 (Entry.mk (nth cs i) (w9 now)),(I5 (p9 32) s.1 (Entry.mk (nth cs i) (w9 now)) s.2.1),J5 s.1 (Entry.mk (nth cs i) (w9 now)) s.2.2.1,(P7 s.1 (Entry.mk (nth cs i) (w9 now)) s.2.2.2.1),s.2.2.2.2.1,s.2.2.2.2.2.1,s.2.2.2.2.2.2.1,s.2.2.2.2.2.2.2+1) else (F6 (p9 32) s.1 (Entry.mk (nth cs i) (w9 now)),(I5 (p9 32) s.1 (Entry.mk (nth cs i) (w9 now)) s.2.1),J5 s.1 (Entry.mk (nth cs i) (w9 now)) s.2.2.1,(P7 s.1 (Entry.mk (nth cs i) (w9 now)) s.2.2.2.1),s.2.2.2.2.1++[(nth cs i)],(s.2.2.2.2.2.1+1),(s.2.2.2.2.2.2.1+1),s.2.2.2.2.2.2.2)) else (if (l8.eqb (r9 s.1 (nth cs i).key).card.stamp (nth cs i).stamp)=true then (if (!(r9 s.1 (nth cs i).key).card.gone)=true then (F6 (p9 32) s.1 (Entry.mk (r9 s.1 (nth cs i).key).card (w9 now)),(I5 (p9 32) s.1 (Entry.mk (r9 s.1 (nth cs i).key).card (w9 now)) s.2.1),s.2.2.1,s.2.2.2.1,s.2.2.2.2.1,s.2.2.2.2.2.1,s.2.2.2.2.2.2.1,s.2.2.2.2.2.2.2) else (s.1,s.2.1,s.2.2.1,s.2.2.2.1,s.2.2.2.2.1,s.2.2.2.2.2.1,s.2.2.2.2.2.2.1,s.2.2.2.2.2.2.2)) else (s.1,s.2.1,s.2.2.1,s.2.2.2.1,s.2.2.2.2.1,s.2.2.2.2.2.1,s.2.2.2.2.2.2.1,s.2.2.2.2.2.2.2)))))
theorem P6 {p:Prop} (h:p:=by have p1:=fE (p9 32) l ⟨nth cs i,w9 now⟩; have p2:=tH l ⟨nth cs i,w9 now⟩ al; have p3:=fE (p9 32) l ⟨(r9 l (nth cs i).key).card,w9 now⟩; first | omega | assumption | (simp; done) | (simp; omega) | (simp [*]; done) | (simp [*]; omega)):p:=h
theorem b8l {p:Prop} (h:p:=by rw [hF] <;> simp only [iter,Z4,h2,h3,h4,h5,if_true,Bool.false_eq_true,if_false]):p:=h
theorem b5x (q:Nat) (qa:Nat) (cs:l9C) (now:Int) (gf:Int) (gl:Int) (gt:Int) (nd:Int) (s1:Int) (s2:Int) (s3:Int) (hq:q+cs.length < 1000) (hqa:qa+cs.length < 100000)  (r_:Nat):∀ (l:l9E) (g:Nat) (al:l9K) (ga:Nat) (out:l9C) (k:Nat) (h:Nat) (rf:Nat) (i:Nat) (sF:(l9E) × Nat × (l9K) × Nat × (l9C) × Nat × Nat × Nat),i+r_=cs.length->k=out.length->k<=i->rf<=i->l.length<=q+i->al.length<=qa+i->sF=iter (Z4 q qa cs now gf gl gt nd s1 s2 s3) r_ i (l,g,al,ga,out,k,h,rf) ->
 l7 (l9 Tryz.prog (X a0E) (y7 Tryz.f33 0)) (some [0,2,8,9,19,20,21]) (some [0,2,8,9,19,20,21]) (b3k now h k rf cs i) (vC g l gf gl gt al ga nd s1 s2 s3 h out) (.exit 0) (mkF 82 [(0,(oO 5 0 0 0)),(2,(iI (w9 now))),(8,(AV.osl 6 sF.2.2.2.2.2.2.1 9 0 sF.2.2.2.2.2.1)),(9,(iN sF.2.2.2.2.2.2.2)),(19,(sA 9 (mC cs))),(20,(iN cs.length)),(21,(iN cs.length))]) [(o_ 0 2 [[(iI (p9 32)),(AV.osl 1 sF.2.1 10 0 (List.length sF.1))]]),(o_ sF.2.1 10 (mE sF.1)),(o_ 0 3 [[(iI gf),(iI gl),(iI gt)]]),(o_ 0 2 [[(iN ((List.length sF.2.2.1))),(AV.osl 4 sF.2.2.2.1 2 0 (List.length (l5 sF.2.2.1)))]]),(o_ sF.2.2.2.1 2 (mK (l5 sF.2.2.1))),(o_ 0 7 [[(iI nd),(iI s1),(iI s2),(iI s3),(oO 0 0 0 0),(oO 2 0 0 0),(oO 3 0 0 0)]]),(o_ sF.2.2.2.2.2.2.1 9 (mC sF.2.2.2.2.1))]:=by
 induction r_ with
 | zero =>
  intro l g al ga out k h rf i sF hi_ hk hkl hrf hl ha  hF
  obtain rfl:cs.length=i:=by omega
  have e_:sF=(l,g,al,ga,out,k,h,rf):=hF
  refine a3M q qa cs now gf gl gt nd s1 s2 s3 l g al ga out k h rf cs.length hq hqa hk hkl hrf hl ha (Nat.le_refl _) (fun h _=>by simp at h <;> omega) (fun h _ _ _=>by simp at h <;> omega) (fun h _ _ _=>by simp at h <;> omega) (fun h _ _ _ _=>by simp at h <;> omega) (fun h _ _ _ _=>by simp at h <;> omega) (fun h _ _ _ _ _=>by simp at h <;> omega) (fun h _ _ _ _ _=>by simp at h <;> omega) (fun h _ _ _ _=>by simp at h <;> omega) (fun _=>?_)
  first | done | rfl | (rw [e_]; done) | (rw [e_]; rfl)
 | succ r_ ih =>
  intro l g al ga out k h rf i sF hi_ hk hkl hrf hl ha  hF
  refine a3M q qa cs now gf gl gt nd s1 s2 s3 l g al ga out k h rf i hq hqa hk hkl hrf hl ha ow (fun h1 h2=>?_) (fun h1 h2 h3 h4=>?_) (fun h1 h2 h3 h4=>?_) (fun h1 h2 h3 h4 h5=>?_) (fun h1 h2 h3 h4 h5=>?_) (fun h1 h2 h3 h4 h5 h6=>?_) (fun h1 h2 h3 h4 h5 h6=>?_) (fun h1 h2 h3 h4 h5=>?_) (fun h=>by simp at h <;> omega)
  · exact ih l g al ga out k h rf (i+1) sF ow P6 P6 P6 P6 P6  (by rw [hF] <;> simp only [iter,Z4,h2,if_true,Bool.false_eq_true,if_false])
  · exact ih (F6 (p9 32) l (Entry.mk (nth cs i) (w9 now))) (I5 (p9 32) l (Entry.mk (nth cs i) (w9 now)) g) (J5 l (Entry.mk (nth cs i) (w9 now)) al) (P7 l (Entry.mk (nth cs i) (w9 now)) ga) out k h (rf+1) (i+1) sF ow P6 P6 P6 P6 P6  (by rw [hF] <;> simp only [iter,Z4,h2,h3,h4,if_true,Bool.false_eq_true,if_false])
  · exact ih (F6 (p9 32) l (Entry.mk (nth cs i) (w9 now))) (I5 (p9 32) l (Entry.mk (nth cs i) (w9 now)) g) (J5 l (Entry.mk (nth cs i) (w9 now)) al) (P7 l (Entry.mk (nth cs i) (w9 now)) ga) (out++[(nth cs i)]) (k+1) (h+1) rf (i+1) sF ow P6 P6 P6 P6 P6  (by rw [hF] <;> simp only [iter,Z4,h2,h3,h4,if_true,Bool.false_eq_true,if_false])
  · exact ih (F6 (p9 32) l (Entry.mk (nth cs i) (w9 now))) (I5 (p9 32) l (Entry.mk (nth cs i) (w9 now)) g) (J5 l (Entry.mk (nth cs i) (w9 now)) al) (P7 l (Entry.mk (nth cs i) (w9 now)) ga) out k h (rf+1) (i+1) sF ow P6 P6 P6 P6 P6  b8l
  · exact ih (F6 (p9 32) l (Entry.mk (nth cs i) (w9 now))) (I5 (p9 32) l (Entry.mk (nth cs i) (w9 now)) g) (J5 l (Entry.mk (nth cs i) (w9 now)) al) (P7 l (Entry.mk (nth cs i) (w9 now)) ga) (out++[(nth cs i)]) (k+1) (h+1) rf (i+1) sF ow P6 P6 P6 P6 P6  b8l
  · exact ih (F6 (p9 32) l (Entry.mk (r9 l (nth cs i).key).card (w9 now))) (I5 (p9 32) l (Entry.mk (r9 l (nth cs i).key).card (w9 now)) g) al ga out k h rf (i+1) sF ow P6 P6 P6 P6 P6  (by rw [hF] <;> simp only [iter,Z4,h2,h3,h4,h5,h6,if_true,Bool.false_eq_true,if_false])
  · exact ih l g al ga out k h rf (i+1) sF ow P6 P6 P6 P6 P6  (by rw [hF] <;> simp only [iter,Z4,h2,h3,h4,h5,h6,if_true,Bool.false_eq_true,if_false])
  · exact ih l g al ga out k h rf (i+1) sF ow P6 P6 P6 P6 P6  b8l
theorem kR {σ:Type} (f:Nat->σ->σ) (P:Nat->σ->Prop) (n:Nat) (h:∀ i s,i < n->P i s->P (i+1) (f i s)) (r:Nat):∀ (i:Nat) (s:σ),i+r<=n->P i s->P (i+r) (iter f r i s):=by
 induction r with
 | zero=>intro i s _ hp; exact hp
 | succ r ih =>
  intro i s hi hp
  have:=ih (i+1) (f i s) ow (h i s ow hp)
  rw [show i+(r+1)=i+1+r by omega]; exact this
theorem b5u {σ τ:Type} (f:Nat->σ->σ) (f':Nat->τ->τ) (p:σ->τ) (h:∀ i s,p (f i s)=f' i (p s)) (r:Nat):∀ (i:Nat) (s:σ),p (iter f r i s)=iter f' r i (p s):=by
 induction r with
 | zero=>intro i s; rfl
 | succ r ih=>intro i s; show p (iter f r (i+1) (f i s))=iter f' r (i+1) (f' i (p s)); rw [ih,h]
def O8 (now:Int) (s:List Entry × List Key × List j5 × Nat) (c:j5):List Entry × List Key × List j5 × Nat :=
 if F8 c=true then
  if y9 s.1 c.key=true/\decide (I7 (r9 s.1 c.key).card.stamp c.stamp < 0)=false then
   if l8.eqb (r9 s.1 c.key).card.stamp c.stamp=true/\(r9 s.1 c.key).card.gone=false then (F6 (p9 32) s.1 ⟨(r9 s.1 c.key).card,now⟩,s.2.1,s.2.2.1,s.2.2.2) else s
  else (F6 (p9 32) s.1 ⟨c,now⟩,J5 s.1 ⟨c,now⟩ s.2.1,if H7 (p9 32) s.1 ⟨c,now⟩=0 then s.2.2.1++[c] else s.2.2.1,if H7 (p9 32) s.1 ⟨c,now⟩=0 then s.2.2.2 else s.2.2.2+1)
 else s
def H6 (now:Int) (cs:List j5) (l:List Entry) (al:List Key):List Entry × List Key × List j5 × Nat:=cs.foldl (O8 (w9 now)) (l,al,[],0)
theorem a3N (now:Int) (s:l9E × l9K × l9C × Nat) (c:j5):(O8 now s c).1.length<=s.1.length+1/\(O8 now s c).2.1.length<=s.2.1.length+1/\(O8 now s c).2.2.1.length<=s.2.2.1.length+1/\(O8 now s c).2.2.2<=s.2.2.2+1:=by
 have p1:=fE (p9 32) s.1 ⟨c,now⟩
 have p2:=tH s.1 ⟨c,now⟩ s.2.1
 have p3:=fE (p9 32) s.1 ⟨(r9 s.1 c.key).card,now⟩
 unfold O8
 split
 · split
   · split
     · exact ⟨p3,Nat.le_succ _,Nat.le_succ _,Nat.le_succ _⟩
     · exact ⟨by omega,by omega,by omega,by omega⟩
   · refine ⟨p1,p2,?_,?_⟩ <;> simp only <;> split <;> simp <;> omega
 · exact ⟨by omega,by omega,by omega,by omega⟩
theorem b5A (now:Int) (cs:l9C):∀ (s:l9E × l9K × l9C × Nat),(cs.foldl (O8 now) s).1.length<=s.1.length+cs.length/\(cs.foldl (O8 now) s).2.1.length<=s.2.1.length+cs.length/\(cs.foldl (O8 now) s).2.2.1.length<=s.2.2.1.length+cs.length/\(cs.foldl (O8 now) s).2.2.2<=s.2.2.2+cs.length:=by
 induction cs with
 | nil=>intro s; simp
 | cons c cs ih =>
  intro s
  obtain ⟨h1,h2,h3,h4⟩:=ih (O8 now s c)
  obtain ⟨k1,k2,k3,k4⟩:=a3N now s c
  simp only [List.foldl_cons,List.length_cons]
  exact ⟨by omega,by omega,by omega,by omega⟩
theorem wL (now:Int) (cs:l9C) (l:l9E) (al:l9K):(H6 now cs l al).1.length<=l.length+cs.length/\(H6 now cs l al).2.1.length<=al.length+cs.length/\(H6 now cs l al).2.2.1.length<=cs.length/\(H6 now cs l al).2.2.2<=cs.length:=by
 have h:=b5A (w9 now) cs (l,al,[],0)
 simpa [H6] using h
def yI (t:List Entry × Nat × List Key × Nat × List j5 × Nat × Nat × Nat):List Entry × List Key × List j5 × Nat:=(t.1,t.2.2.1,t.2.2.2.2.1,t.2.2.2.2.2.2.2)
theorem c4F (q qa:Nat) (cs:l9C) (now gf gl gt nd s1 s2 s3:Int) (i:Nat) (s:l9E × Nat × l9K × Nat × l9C × Nat × Nat × Nat) :
 yI (Z4 q qa cs now gf gl gt nd s1 s2 s3 i s)=O8 (w9 now) (yI s) (nth cs i):=by
 unfold yI Z4 O8
 generalize F8 (nth cs i)=b1
 generalize y9 s.1 (nth cs i).key=b2
 generalize decide (I7 (r9 s.1 (nth cs i).key).card.stamp (nth cs i).stamp < 0)=b3
 generalize l8.eqb (r9 s.1 (nth cs i).key).card.stamp (nth cs i).stamp=b4
 generalize (r9 s.1 (nth cs i).key).card.gone=b5
 generalize H7 (p9 32) s.1 (Entry.mk (nth cs i) (w9 now))=z
 by_cases hz:z=0 <;> cases b1 <;> cases b2 <;> cases b3 <;> cases b4 <;> cases b5 <;> simp [hz]
theorem c4E (q qa:Nat) (cs:l9C) (now gf gl gt nd s1 s2 s3:Int) (i:Nat) (s:l9E × Nat × l9K × Nat × l9C × Nat × Nat × Nat) (h:s.2.2.2.2.2.1=s.2.2.2.2.1.length) :
 (Z4 q qa cs now gf gl gt nd s1 s2 s3 i s).2.2.2.2.2.1=(Z4 q qa cs now gf gl gt nd s1 s2 s3 i s).2.2.2.2.1.length:=by
 unfold Z4
 repeat' split
 all_goals simp [h]
def pR (now:Int) (cs:List j5) (l:List Entry) (g:Nat) (al:List Key) (ga:Nat):List Entry × Nat × List Key × Nat × List j5 × Nat × Nat × Nat:=iter (Z4 0 0 cs now 0 0 0 0 0 0 0) cs.length 0 (l,g,al,ga,[],0,0,0)
def dJ (now:Int) (cs:List j5) (l:List Entry) (g:Nat) (al:List Key) (ga:Nat):Nat:=(pR now cs l g al ga).2.1
def dK (now:Int) (cs:List j5) (l:List Entry) (g:Nat) (al:List Key) (ga:Nat):Nat:=(pR now cs l g al ga).2.2.2.1
def yJ (now:Int) (cs:List j5) (l:List Entry) (g:Nat) (al:List Key) (ga:Nat):Nat:=(pR now cs l g al ga).2.2.2.2.2.2.1
theorem b5y (q qa:Nat) (cs:l9C) (now gf gl gt nd s1 s2 s3:Int) (l:l9E) (g:Nat) (al:l9K) (ga:Nat) :
 ((H6 now cs l al).1,dJ now cs l g al ga,(H6 now cs l al).2.1,dK now cs l g al ga,(H6 now cs l al).2.2.1,(H6 now cs l al).2.2.1.length,yJ now cs l g al ga,(H6 now cs l al).2.2.2)=iter (Z4 q qa cs now gf gl gt nd s1 s2 s3) cs.length 0 (l,g,al,ga,[],0,0,0):=by
 have e:iter (Z4 q qa cs now gf gl gt nd s1 s2 s3) cs.length 0 (l,g,al,ga,[],0,0,0)=pR now cs l g al ga:=rfl
 have h1:yI (pR now cs l g al ga)=iter (fun i s=>O8 (w9 now) s (nth cs i)) cs.length 0 (l,al,[],0):=b5u (Z4 0 0 cs now 0 0 0 0 0 0 0) (fun i s=>O8 (w9 now) s (nth cs i)) yI (fun i s=>c4F 0 0 cs now 0 0 0 0 0 0 0 i s) cs.length 0 (l,g,al,ga,[],0,0,0)
 rw [fI (fun i s=>O8 (w9 now) s (nth cs i)) (O8 (w9 now)) cs (fun i s hi=>rfl)] at h1
 have h2:(pR now cs l g al ga).2.2.2.2.2.1=(pR now cs l g al ga).2.2.2.2.1.length:=kR (Z4 0 0 cs now 0 0 0 0 0 0 0) (fun _ s=>s.2.2.2.2.2.1=s.2.2.2.2.1.length) cs.length (fun i s _ hs=>c4E 0 0 cs now 0 0 0 0 0 0 0 i s hs) cs.length 0 (l,g,al,ga,[],0,0,0) ow rfl
 rw [e]
 unfold H6 dJ dK yJ
 unfold yI at h1
 generalize pR now cs l g al ga=x at h1 h2 ⊢
 obtain ⟨x1,x2,x3,x4,x5,x6,x7,x8⟩:=x
 simp only at h1 h2 ⊢
 rw [<- h1]
 simp only [h2]
attribute [local irreducible] H6 dJ dK yJ
@[simp] abbrev b8c (a:Int) (b:l9C) (c:l9E) (d:Nat) (e:l9K) (f:Nat):Ob:=(o_ 0 2 [[(iI (p9 32)),(AV.osl 1 (dJ a b c d e f) 10 0 (List.length (H6 a b c e).1))]])
@[simp] abbrev b8b (a:Int) (b:l9C) (c:l9E) (d:Nat) (e:l9K) (f:Nat):Ob:=(o_ (dJ a b c d e f) 10 (mE (H6 a b c e).1))
@[simp] abbrev b8a (a:Int) (b:l9C) (c:l9E) (d:l9K) (e:Nat) (f:Nat):Ob:=(o_ 0 2 [[(iN ((List.length (H6 a b c d).2.1))),(AV.osl 4 (dK a b c e d f) 2 0 (List.length (l5 (H6 a b c d).2.1)))]])
@[simp] abbrev b7Z (a:Int) (b:l9C) (c:l9E) (d:Nat) (e:l9K) (f:Nat):Ob:=(o_ (dK a b c d e f) 2 (mK (l5 (H6 a b c e).2.1)))
@[simp] abbrev c3A (a:Int) (b:l9C) (c:l9E) (d:Nat) (e:l9K) (f:Nat) (g:Int) (h:Int) (i:Int) (j:Int) (k:Int) (l:Int) (m:Int):Heap:=[b8c a b c d e f,b8b a b c d e f,I9 g h i,b8a a b c e d f,b7Z a b c d e f,bX j k l m]
@[simp] abbrev c3z (a:Nat) (b:l9E) (c:Int) (d:Int) (e:Int) (f:l9K) (g:Nat) (h:Int) (i:Int) (j:Int) (k:Int):Heap:=[R4 a b,(o_ a 10 (mE b)),I9 c d e,M9 f g,(o_ g 2 (mK (l5 f))),bX h i j k,(o_ 0 9 (mC []))]
@[simp] abbrev c3y (a:Int) (b:l9C) (c:l9E) (d:Nat) (e:l9K) (f:Nat):Fr:=(mkF 82 [(0,(oO 5 0 0 0)),(2,(iI (w9 a))),(8,(AV.osl 6 (yJ a b c d e f) 9 0 (List.length (H6 a b c e).2.2.1))),(9,(iN (((H6 a b c e).2.2.2)))),(19,(sA 9 (mC b))),(20,(iN b.length)),(21,(iN b.length))])
@[simp] abbrev c3x (a:Int) (b:l9C) (c:l9E) (d:Nat) (e:l9K) (f:Nat) (g:Int) (h:Int) (i:Int) (j:Int) (k:Int) (l:Int) (m:Int):Heap:=[b8c a b c d e f,b8b a b c d e f,I9 g h i,b8a a b c e d f,b7Z a b c d e f,bX j k l m,(o_ (yJ a b c d e f) 9 (mC (H6 a b c e).2.2.1))]
theorem b5w (cs:l9C) (now:Int) (l:l9E) (g:Nat) (al:l9K) (ga:Nat) (gf gl gt nd s1 s2 s3:Int) (hl:l.length+cs.length < 1000) (ha:al.length+cs.length < 100000):AC 33 [(oO 5 0 0 0),(sA 9 (mC cs)),(iI now)] [(o_ 0 2 (a0O g l)),(o_ g 10 (mE l)),(o_ 0 3 [[(iI gf),(iI gl),(iI gt)]]),(o_ 0 2 (a3b al ga)),(o_ ga 2 (mK (l5 al))),(o_ 0 7 (c1g nd s1 s2 s3))] ((AV.tup [(sA 9 (mC (H6 now cs l al).2.2.1)),(iN ((H6 now cs l al).2.2.2))]),(c3A now cs l g al ga gf gl gt nd s1 s2 s3)):=by
 have k1:=wL now cs l al
 exact q9 (fn:=Tryz.f33) (ann:=a0E) (Has.o Tryz.func33) (.r (.s (.rn (.y 1 (.int .i64 (if 1099511627776 < now then 1099511627776 else now)) (iI (min now 1099511627776)) (Yes.int eD) (.y 2 (.int .i64 (if (min now 1099511627776) > 0 then (min now 1099511627776) else 0)) (b2u now) (Yes.int eD) (.s (.s (.s (.h' (c3z g l gf gl gt al ga nd s1 s2 s3) (.y 1 (.int .i64 ((List.length (mC cs):Nat):Int)) (iN cs.length) (Yes.len _ _ _) (.g (.loop (c3y now cs l g al ga) (show l7 qZ (some [0,2,8,9,19,20,21]) (some [0,2,8,9,19,20,21]) (mkF 82 [(0,(oO 5 0 0 0)),(2,(b2u now)),(8,(AV.osl 6 0 9 0 0)),(9,z_),(19,(sA 9 (mC cs))),(20,(iN cs.length)),(21,z_)]) (c3z g l gf gl gt al ga nd s1 s2 s3) (.exit 0) (c3y now cs l g al ga) (c3x now cs l g al ga gf gl gt nd s1 s2 s3) from (b5x l.length al.length cs now gf gl gt nd s1 s2 s3 hl ha cs.length l g al ga [] 0 0 0 0 _ ow rfl ow ow ow ow (b5y _ _ cs now gf gl gt nd s1 s2 s3 l g al ga))) (.r (.w 8 (mC (H6 now cs l al).2.2.1) (And.intro (G9 (room:=none) kr om) (j5.y8 _ _):F5 (c3x now cs l g al ga gf gl gt nd s1 s2 s3) 9 (AV.osl 6 (yJ now cs l g al ga) 9 0 (List.length (H6 now cs l al).2.2.1))=some (mC (H6 now cs l al).2.2.1)/\AV.D5 0 (mC (H6 now cs l al).2.2.1)=true) (.g (.h' (c3A now cs l g al ga gf gl gt nd s1 s2 s3) (.q 6 (AV.tup [(sA 9 (mC (H6 now cs l al).2.2.1)),(iN (((H6 now cs l al).2.2.2)))]))))))))))))))))))
section
variable {P:Program} {X:Env} {F:Fr} {H H2:Heap} {ar:Nat} {o:Oper}
end
section
variable {α:Type} [Inhabited α]
theorem a9g (l:List α) (q:Nat):nth l q=l.getD q default:=rfl
theorem fG (l:List α) {i:Nat} (h:i < l.length) (x:α) (q:Nat):nth (l.set i x) q=if i=q then x else nth l q:=by
 simp only [a9g,List.getD_eq_getElem?_getD]
 by_cases e:i=q
 · subst e; rw [List.getElem?_set_self h,if_pos rfl]; rfl
 · rw [List.getElem?_set_ne e,if_neg e]
theorem kP (l m:List α) (q:Nat):nth (l++m) q=if q < l.length then nth l q else nth m (q - l.length):=by
 simp only [a9g,List.getD_eq_getElem?_getD]
 split
 · rename_i h; rw [List.getElem?_append_left h]
 · rename_i h; rw [List.getElem?_append_right ya_]
theorem c4M {l m:List α} (hl:l.length=m.length) (h:∀ q,q < l.length->nth l q=nth m q):l=m:=by
 apply List.ext_getElem hl
 intro q h1 h2
 have:=h q h1
 rwa [X3 h1,X3 h2] at this
def X0 (a b n:Nat) (l:List α):List α:=iter (fun i l=>(l.set (a+i) (nth l (b+i))).set (b+i) (nth l (a+i))) n 0 l
theorem a3n (a b n:Nat) (l:List α) (hab:a+n<=b) (hb:b+n<=l.length):∀ k,k<=n->(X0 a b k l).length=l.length/\∀ q,nth (X0 a b k l) q=if a<=q/\q < a+k then nth l (b+(q - a)) else if b<=q/\q < b+k then nth l (a+(q - b)) else nth l q:=by
 intro k
 induction k with
 | zero =>
  intro _
  refine ⟨rfl,fun q=>?_⟩
  rw [if_neg ya_,if_neg ya_]
  rfl
 | succ k ih =>
  intro hk
  obtain ⟨h1,h2⟩:=ih ya_
  have e:X0 a b (k+1) l=((X0 a b k l).set (a+k) (nth (X0 a b k l) (b+k))).set (b+k) (nth (X0 a b k l) (a+k)):=wJ _ _ _
  refine ⟨by rw [e]; simp [h1],fun q=>?_⟩
  rw [e,fG _ yh_,fG _ ya_,h2,h2,h2]
  by_cases c1:b+k=q
  · subst c1
    rw [if_pos rfl,if_neg ya_,if_neg ya_,if_neg ya_,if_pos ya_]
    congr 1; omega
  · rw [if_neg c1]
    by_cases c2:a+k=q
    · subst c2
      rw [if_pos rfl,if_neg ya_,if_neg ya_,if_pos ya_]
      congr 1; omega
    · rw [if_neg c2]
      have e1:(a<=q/\q < a+(k+1))↔(a<=q/\q < a+k):=by omega
      have e2:(b<=q/\q < b+(k+1))↔(b<=q/\q < b+k):=by omega
      simp only [e1,e2]
theorem a3m {a b n:Nat} {l:List α} (hab:a+n<=b) (hb:b+n<=l.length):(X0 a b n l).length=l.length:=(a3n a b n l hab hb n (Nat.le_refl _)).1
theorem lD (X U M V Y:List α) {a b n:Nat} (ha:a=X.length) (hU:U.length=n) (hV:V.length=n) (hb:b=X.length+n+M.length) :
 X0 a b n (X++(U++(M++(V++Y))))=X++(V++(M++(U++Y))):=by
 obtain ⟨h1,h2⟩:=a3n a b n (X++(U++(M++(V++Y)))) ya_ yh_ n (Nat.le_refl _)
 refine c4M (by rw [h1]; simp; omega) fun q hq=>?_
 rw [h2]
 simp only [kP,hU,hV]
 by_cases c1:q < X.length
 · rw [if_neg ya_,if_neg ya_,if_pos c1,if_pos c1]
 · rw [if_neg (c:=q < X.length) c1,if_neg (c:=q < X.length) c1]
   by_cases c2:q - X.length < n
   · rw [if_pos ya_,if_pos (c:=q - X.length < n) c2,if_neg ya_,if_neg ya_,if_neg ya_,if_pos ya_]
     congr 1; omega
   · rw [if_neg ya_,if_neg (c:=q - X.length < n) c2,if_neg (c:=q - X.length < n) c2]
     by_cases c3:q - X.length - n < M.length
     · rw [if_neg ya_,if_pos c3,if_pos c3]
     · rw [if_neg (c:=q - X.length - n < M.length) c3,if_neg (c:=q - X.length - n < M.length) c3]
       by_cases c4:q - X.length - n - M.length < n
       · rw [if_pos ya_,if_pos (c:=q - X.length - n - M.length < n) c4,if_neg ya_,if_pos ya_]
         congr 1; omega
       · rw [if_neg ya_,if_neg c4,if_neg c4]
def N7 (m:Nat):Nat->Nat->Nat->List α->List α × Nat
 | 0,i,_,l=>(l,i)
 | r+1,i,j,l=>if i=j then (l,i) else if j < i then N7 m r (i - j) j (X0 (m - i) m j l) else N7 m r i (j - i) (X0 (m - i) (m+j - i) i l)
def Y9 (a m b:Nat) (l:List α):List α:=X0 (m - (N7 m (m - a+(b - m)) (m - a) (b - m) l).2) m (N7 m (m - a+(b - m)) (m - a) (b - m) l).2 (N7 m (m - a+(b - m)) (m - a) (b - m) l).1
theorem a1r (m:Nat) (T:List α) (r:Nat):∀ (X U V Y:List α) (i j:Nat),i+j<=r+1->0 < i->0 < j->U.length=i->V.length=j->m=X.length+i->T=X++(V++(U++Y)) ->
 0 < (N7 m r i j (X++(U++(V++Y)))).2/\(N7 m r i j (X++(U++(V++Y)))).2<=i/\(N7 m r i j (X++(U++(V++Y)))).2<=j/\(N7 m r i j (X++(U++(V++Y)))).1.length=T.length/\X0 (m - (N7 m r i j (X++(U++(V++Y)))).2) m (N7 m r i j (X++(U++(V++Y)))).2 (N7 m r i j (X++(U++(V++Y)))).1=T:=by
 induction r with
 | zero=>intro X U V Y i j h1 h2 h3; omega
 | succ r ih =>
  intro X U V Y i j h1 h2 h3 hU hV hm hT
  simp only [N7]
  by_cases c1:i=j
  · rw [if_pos c1]
    refine ⟨h2,Nat.le_refl _,by simp only; omega,by rw [hT]; simp; omega,?_⟩
    subst c1
    have:=lD X U [] V Y (a:=m - i) (b:=m) (n:=i) ya_ hU hV yh_
    rw [hT]
    simpa using this
  · rw [if_neg c1]
    by_cases c2:j < i
    · rw [if_pos c2]
      have hP:(U.take j).length=j:=by simp; omega
      have hQ:(U.drop j).length=i - j:=by simp; omega
      have e:=lD X (U.take j) (U.drop j) V Y (a:=m - i) (b:=m) (n:=j) ya_ hP hV ya_
      rw [<- List.append_assoc (U.take j),List.take_append_drop] at e
      rw [e]
      have:=ih (X++V) (U.drop j) (U.take j) Y (i - j) j ya_ ya_ h3 hQ hP yh_ (by rw [hT,<- List.append_assoc (U.take j),List.take_append_drop]; simp)
      simp only [List.append_assoc] at this ⊢
      exact ⟨this.1,by omega,this.2.2.1,this.2.2.2⟩
    · rw [if_neg c2]
      have hP:(V.take (j - i)).length=j - i:=by simp; omega
      have hQ:(V.drop (j - i)).length=i:=by simp; omega
      have e:=lD X U (V.take (j - i)) (V.drop (j - i)) Y (a:=m - i) (b:=m+j - i) (n:=i) ya_ hU hQ ya_
      rw [<- List.append_assoc (V.take (j - i)) (V.drop (j - i)),List.take_append_drop] at e
      rw [e]
      have:=ih X (V.drop (j - i)) (V.take (j - i)) (U++Y) i (j - i) ya_ h2 ya_ hQ hP hm (by rw [hT,<- List.append_assoc (V.take (j - i)) (V.drop (j - i)),List.take_append_drop])
      exact ⟨this.1,this.2.1,by omega,this.2.2.2⟩
theorem b0o (X U V Y:List α) {a m b:Nat} (ha:a=X.length) (hm:m=X.length+U.length) (hb:b=X.length+U.length+V.length) (h1:0 < U.length) (h2:0 < V.length):Y9 a m b (X++(U++(V++Y)))=X++(V++(U++Y)):=by
 have e1:m - a=U.length:=by omega
 have e2:b - m=V.length:=by omega
 unfold Y9
 rw [e1,e2]
 exact (a1r m _ _ X U V Y U.length V.length ya_ h1 h2 rfl rfl hm rfl).2.2.2.2
def bsr (p:Nat->Bool):Nat->Nat->Nat->Nat
 | 0,lo,_=>lo
 | r+1,lo,hi=>if lo < hi then if p ((lo+hi) / 2)=true then bsr p r ((lo+hi) / 2+1) hi else bsr p r lo ((lo+hi) / 2) else lo
theorem a0Q (p:Nat->Bool) (r:Nat):∀ (lo hi:Nat),hi - lo<=r->lo<=hi->lo<=bsr p r lo hi/\bsr p r lo hi<=hi/\(lo < bsr p r lo hi->p (bsr p r lo hi - 1)=true)/\(bsr p r lo hi < hi->p (bsr p r lo hi)=false):=by
 induction r with
 | zero =>
  intro lo hi h1 h2
  simp only [bsr]
  exact ⟨Nat.le_refl _,h2,fun h=>by omega,fun h=>by omega⟩
 | succ r ih =>
  intro lo hi h1 h2
  simp only [bsr]
  by_cases c:lo < hi
  · rw [if_pos c]
    by_cases d:p ((lo+hi) / 2)=true
    · rw [if_pos d]
      obtain ⟨k1,k2,k3,k4⟩:=ih ((lo+hi) / 2+1) hi ya_ ya_
      refine ⟨by omega,k2,fun _=>?_,k4⟩
      rcases Nat.lt_or_ge ((lo+hi) / 2+1) (bsr p r ((lo+hi) / 2+1) hi) with h | h
      · exact k3 h
      · have:bsr p r ((lo+hi) / 2+1) hi=(lo+hi) / 2+1:=by omega
        rw [this]; simpa using d
    · rw [if_neg d]
      obtain ⟨k1,k2,k3,k4⟩:=ih lo ((lo+hi) / 2) ya_ ya_
      refine ⟨k1,by omega,k3,fun _=>?_⟩
      rcases Nat.lt_or_ge (bsr p r lo ((lo+hi) / 2)) ((lo+hi) / 2) with h | h
      · exact k4 h
      · have:bsr p r lo ((lo+hi) / 2)=(lo+hi) / 2:=by omega
        rw [this]; simpa using d
  · rw [if_neg c]
    exact ⟨Nat.le_refl _,h2,fun h=>by omega,fun h=>by omega⟩
def mgL (lt:α->α->Bool):Nat->List α->List α->List α
 | 0,L,R=>L++R
 | _+1,[],R=>R
 | _+1,L,[]=>L
 | n+1,x :: L,y :: R=>if lt y x=true then y :: mgL lt n (x :: L) R else x :: mgL lt n L (y :: R)
def mg (lt:α->α->Bool) (L R:List α):List α:=mgL lt (L.length+R.length) L R
theorem Y5 (lt:α->α->Bool) (R:List α):mg lt [] R=R:=by
 unfold mg; cases h:([]:List α).length+R.length <;> simp [mgL]
theorem dI (lt:α->α->Bool) (L:List α):mg lt L []=L:=by
 unfold mg
 cases L with
 | nil=>simp [mgL]
 | cons x L=>simp [mgL]
theorem iP (lt:α->α->Bool) (x y:α) (L R:List α):mg lt (x :: L) (y :: R)=if lt y x=true then y :: mg lt (x :: L) R else x :: mg lt L (y :: R):=by
 unfold mg
 have h1:(x :: L).length+(y :: R).length=((x :: L).length+R.length)+1:=by simp; omega
 have h2:L.length+(y :: R).length=(x :: L).length+R.length:=by simp; omega
 rw [h1,h2]
 rfl
theorem a2w {p:Prop} (h:p:=by simp at h ⊢; omega):p:=h
theorem a0y (lt:α->α->Bool) {L2 R2:List α} (n:Nat):∀ (L1 R1:List α),L1.length+R1.length<=n->(∀ x∈L2,∀ y∈R1,lt y x=true)->(∀ x∈L1,∀ y∈R2,lt y x=false)->mg lt (L1++L2) (R1++R2)=mg lt L1 R1++mg lt L2 R2:=by
 induction n with
 | zero =>
  intro L1 R1 h _ _
  obtain rfl:L1=[]:=List.eq_nil_of_length_eq_zero ya_
  obtain rfl:R1=[]:=List.eq_nil_of_length_eq_zero ya_
  rw [Y5]; rfl
 | succ n ih =>
  intro L1 R1 h h1 h2
  cases L1 with
  | nil =>
   cases R1 with
   | nil=>rw [Y5]; rfl
   | cons y R1 =>
    have:=ih [] R1 a2w (fun x hx y' hy'=>h1 x hx y' (List.mem_cons_of_mem _ hy')) (fun x hx=>by simp at hx)
    rw [Y5] at this ⊢
    simp only [List.nil_append,List.cons_append] at this ⊢
    cases L2 with
    | nil=>rw [Y5,Y5]
    | cons x L2=>rw [iP,if_pos (h1 x yf_ y yf_),this]
  | cons x L1 =>
   cases R1 with
   | nil =>
    have:=ih L1 [] a2w (fun x hx y' hy'=>by simp at hy') (fun x' hx' y hy=>h2 x' (List.mem_cons_of_mem _ hx') y hy)
    rw [dI] at this ⊢
    simp only [List.nil_append,List.cons_append] at this ⊢
    cases R2 with
    | nil=>rw [dI,dI]
    | cons y R2=>rw [iP,if_neg (by rw [h2 x yf_ y yf_]; simp),this]
   | cons y R1 =>
    simp only [List.cons_append]
    rw [iP,iP]
    have k1:=ih (x :: L1) R1 a2w (fun x hx y' hy'=>h1 x hx y' (List.mem_cons_of_mem _ hy')) h2
    have k2:=ih L1 (y :: R1) a2w h1 (fun x' hx' y hy=>h2 x' (List.mem_cons_of_mem _ hx') y hy)
    simp only [List.cons_append] at k1 k2
    split
    · rw [k1]; rfl
    · rw [k2]; rfl
theorem a2I (lt:α->α->Bool) (n:Nat):∀ (L R:List α),L.length+R.length<=n->List.Perm (mg lt L R) (L++R):=by
 induction n with
 | zero =>
  intro L R h
  obtain rfl:L=[]:=List.eq_nil_of_length_eq_zero ya_
  obtain rfl:R=[]:=List.eq_nil_of_length_eq_zero ya_
  rw [Y5]; exact .refl _
 | succ n ih =>
  intro L R h
  cases L with
  | nil=>rw [Y5]; exact .refl _
  | cons x L =>
   cases R with
   | nil=>rw [dI]; simp
   | cons y R =>
    rw [iP]
    split
    · refine (List.Perm.cons y (ih (x :: L) R a2w)).trans ?_
      exact (List.perm_middle (a:=y) (l₁:=x :: L) (l₂:=R)).symm
    · exact List.Perm.cons x (ih L (y :: R) a2w)
theorem rV (lt:α->α->Bool) (L R:List α):(mg lt L R).length=L.length+R.length:=by
 have:=(a2I lt _ L R (Nat.le_refl _)).length_eq
 simpa using this
end
attribute [local irreducible] A8 M8 N8
theorem oN {n h:Nat} (hn:n < 4611686018427387904) (hh:h=n / 2):IntKind.i64.wrap (Int.fdiv (IntKind.u64.wrap (n:Int)) (2 ^ (min (Int.toNat 1) 64)))=(h:Int):=by
 have h1:IntKind.u64.wrap (n:Int)=(n:Int):=by simp [IntKind.wrap,IntKind.signed,IntKind.bits]; omega
 have h2:(2:Int) ^ (min (Int.toNat 1) 64)=2:=rfl
 rw [h1,h2,Int.fdiv_eq_ediv_of_nonneg _ ow,IntKind.wrap_i64]
 omega
section
variable {α:Type} [Inhabited α]
def ltF (cmp:α->α->Int) (x y:α):Bool:=decide (cmp x y < 0)
def mAt (lt:α->α->Bool) (a m b:Nat) (l:List α):List α:=l.take a++(mg lt ((l.drop a).take (m - a)) ((l.drop m).take (b - m))++l.drop b)
def shU (r k:Nat) (l:List α):List α:=iter (fun k l=>(l.set k (nth l (k+1))).set (k+1) (nth l k)) r k l
def shD:Nat->Nat->List α->List α
 | 0,_,l=>l
 | r+1,k,l=>shD r (k - 1) ((l.set k (nth l (k - 1))).set (k - 1) (nth l k))
end
section
variable {α:Type} [Inhabited α]
theorem c2r (X:List α) (x y:α) (Z:List α) {k:Nat} (hk:k=X.length):((X++x :: y :: Z).set k (nth (X++x :: y :: Z) (k+1))).set (k+1) (nth (X++x :: y :: Z) k)=X++y :: x :: Z:=by
 have:=lD X [x] [] [y] Z (a:=k) (b:=k+1) (n:=1) hk rfl rfl yh_
 simpa [X0,iter] using this
theorem b4g (x:α) (R:List α):∀ (X Y:List α) (k:Nat),k=X.length->shU R.length k (X++x :: (R++Y))=X++(R++x :: Y):=by
 induction R with
 | nil=>intro X Y k hk; rfl
 | cons y R ih =>
  intro X Y k hk
  have h1:shU (y :: R).length k (X++x :: ((y :: R)++Y))=shU R.length (k+1) (((X++x :: y :: (R++Y)).set k (nth (X++x :: y :: (R++Y)) (k+1))).set (k+1) (nth (X++x :: y :: (R++Y)) k)):=rfl
  rw [h1,c2r X x y (R++Y) hk]
  have:=ih (X++[y]) Y (k+1) (by simp [hk])
  simpa using this
theorem b4h (y:α) (r:Nat):∀ (X L Y:List α) (k:Nat),L.length=r->k=X.length+r->shD r k (X++(L++y :: Y))=X++y :: (L++Y):=by
 induction r with
 | zero =>
  intro X L Y k hL hk
  obtain rfl:L=[]:=List.eq_nil_of_length_eq_zero hL
  rfl
 | succ r ih =>
  intro X L Y k hL hk
  rcases List.eq_nil_or_concat L with rfl | ⟨L',z,rfl⟩
  · simp at hL
  · rw [List.concat_eq_append] at *
    have hL':L'.length=r:=by simpa using hL
    simp only [shD]
    have e0:X++((L'++[z])++y :: Y)=(X++L')++z :: y :: Y:=by simp
    obtain ⟨k',rfl⟩:∃ k',k=k'+1:=⟨k - 1,by omega⟩
    rw [e0,Nat.add_sub_cancel,List.set_comm _ _ ya_,c2r (X++L') z y Y (k:=k') yh_]
    have:=ih X L' (z :: Y) k' hL' ya_
    simpa using this
theorem piece (A L Z:List α) {a k:Nat} (ha:a=A.length) (hk:k=L.length):((A++(L++Z)).drop a).take k=L:=by
 subst ha hk
 rw [List.drop_append_of_le_length (Nat.le_refl _),List.drop_length,List.nil_append,List.take_append_of_le_length (Nat.le_refl _),List.take_length]
theorem wF (lt:α->α->Bool) (A L R B:List α) {a m b:Nat} (ha:a=A.length) (hm:m=A.length+L.length) (hb:b=A.length+L.length+R.length):mAt lt a m b (A++(L++(R++B)))=A++(mg lt L R++B):=by
 unfold mAt
 have h1:(A++(L++(R++B))).take a=A:=by subst ha; rw [List.take_append_of_le_length (Nat.le_refl _),List.take_length]
 have h2:((A++(L++(R++B))).drop a).take (m - a)=L:=piece A L (R++B) ha ya_
 have h3:((A++(L++(R++B))).drop m).take (b - m)=R:=by
  have:=piece (A++L) R B (a:=m) (k:=b - m) yh_ ya_
  simpa using this
 have h4:(A++(L++(R++B))).drop b=B:=by
  have e:A++(L++(R++B))=(A++(L++R))++B:=by simp
  rw [e,List.drop_append_of_le_length yh_,List.drop_of_length_le yh_,List.nil_append]
 rw [h1,h2,h3,h4]
theorem sm1 (A L1 L2 R1 R2 B:List α) {l:List α} (hl:l=A++(L1++(L2++(R1++(R2++B))))) {s m e:Nat} (hs:s=A.length+L1.length) (hm:m=s+L2.length) (he:e=m+R1.length) :
 (if s < m/\m < e then Y9 s m e l else l)=A++(L1++(R1++(L2++(R2++B)))):=by
 subst hl
 split
 · rename_i h
   have:=b0o (A++L1) L2 R1 (R2++B) (a:=s) (m:=m) (b:=e) yh_ yh_ yh_ ya_ ya_
   simpa using this
 · rename_i h
   rcases Nat.eq_zero_or_pos L2.length with h1 | h1
   · obtain rfl:L2=[]:=List.eq_nil_of_length_eq_zero h1
     rfl
   · obtain rfl:R1=[]:=List.eq_nil_of_length_eq_zero ya_
     rfl
theorem sm2 (lt:α->α->Bool) (A L1 R1 Z:List α) {a s mid:Nat} (ha:a=A.length) (hs:s=a+L1.length) (hmid:mid=s+R1.length) :
 (if a < s/\s < mid then mAt lt a s mid (A++(L1++(R1++Z))) else A++(L1++(R1++Z)))=A++(mg lt L1 R1++Z):=by
 split
 · exact wF lt A L1 R1 Z ha ya_ ya_
 · rename_i h
   rcases Nat.eq_zero_or_pos L1.length with h1 | h1
   · obtain rfl:L1=[]:=List.eq_nil_of_length_eq_zero h1
     rw [Y5]; rfl
   · obtain rfl:R1=[]:=List.eq_nil_of_length_eq_zero ya_
     rw [dI]; rfl
theorem sm3 (lt:α->α->Bool) (A M L2 R2 B:List α) {mid e b:Nat} (hm:mid=A.length+M.length) (he:e=mid+L2.length) (hb:b=e+R2.length) :
 (if mid < e/\e < b then mAt lt mid e b (A++(M++(L2++(R2++B)))) else A++(M++(L2++(R2++B))))=A++(M++(mg lt L2 R2++B)):=by
 have:=sm2 lt (A++M) L2 R2 B (a:=mid) (s:=e) (mid:=b) yh_ he hb
 simpa using this
theorem a3u (X U V Y:List α) {l:List α} (hl:l=X++(U++(V++Y))) {a m b:Nat} (ha:a=X.length) (hm:m=a+U.length) (hb:b=m+V.length) (h1:0 < U.length) (h2:0 < V.length) :
 (N7 m (m - a+(b - m)) (m - a) (b - m) l).1.length=l.length/\(N7 m (m - a+(b - m)) (m - a) (b - m) l).2<=m - a/\(N7 m (m - a+(b - m)) (m - a) (b - m) l).2<=b - m:=by
 have e1:m - a=U.length:=by omega
 have e2:b - m=V.length:=by omega
 rw [e1,e2,hl]
 obtain ⟨_,k2,k3,k4,_⟩:=a1r m _ (U.length+V.length) X U V Y U.length V.length ya_ h1 h2 rfl rfl ya_ rfl
 exact ⟨by rw [k4]; simp; omega,k2,k3⟩
end
def yH:Ann:={ base:=1,fin:=some 1,live:=[(1,[0,1,2,3,10])],out:=[(1,[0,1,2,3,10])] }
@[simp] abbrev c3P (a:Nat) (b:l9C) (c:Nat) (d:Nat) (e:Nat):Heap:=[(o_ a 9 (mC ((b.set (c+d) (nth b (e+d))).set (e+d) (nth b (c+d)))))]
@[simp] abbrev b3r (a:Nat) (b:Nat) (c:Nat) (d:Nat) (e:Nat) (f:Nat):Fr:=(mkF 38 [(0,(AV.osl 0 a 9 0 b)),(1,(iN c)),(2,(iN d)),(3,(iN e)),(10,(iN f))])
@[simp] abbrev uR (a b:Nat):=(IntKind.i64.wrap ((a:Int)+(b:Int)))
@[simp] abbrev a2Z (a:l9C) (b c:Nat):=(AV.agg (j5.row (nth a (b+c))))
theorem a5W (a:Nat) (b:Nat) (k:Nat) (n:Nat) (g:Nat) (l:l9C) (i:Nat) (hab:a+k<=b) (hb:b+k<=n) (hnb:n < 1048576) (hn:n=l.length) (hle_:i<=k) {eX:Ex} {FX:Fr} {HX:Heap} (k1:(decide ((i:Int) < (k:Int)))=true->l7 (l9 Tryz.prog (X yH) (y7 Tryz.f232 0)) (some [0,1,2,3,10]) (some [0,1,2,3,10]) (mkF 38 [(0,(AV.osl 0 g 9 0 n)),(1,(iN a)),(2,(iN b)),(3,(iN k)),(10,(iN (i+1)))]) (c3P g l a i b) eX FX HX) (k2:(decide ((i:Int) < (k:Int)))=false->((.exit 0:Ex),(b3r g n a b k i),[(o_ g 9 (mC l))])=(eX,FX,HX)):l7 (l9 Tryz.prog (X yH) (y7 Tryz.f232 0)) (some [0,1,2,3,10]) (some [0,1,2,3,10]) (b3r g n a b k i) [(o_ g 9 (mC l))] eX FX HX :=
 K7 (.r (.g (.two (decide ((i:Int) < (k:Int))) (fun h1 h1'=>(.r (.y 3 (.int .i64 (uR a i)) (iN (a+i)) Yes.o (.y 7 (.int .i64 (uR b i)) (iN (b+i)) Yes.o (.y 11 (.int .i64 (uR b i)) (iN (b+i)) Yes.o (.io 12 0 g 9 9 0 n ((b+i:Nat):Int) (b+i) (G6.mk _ ow ow) (.t 13 (a2Z l b i) [(o_ g 9 (mC l))] (K9 (F4 (row:=j5.row) (l:=l) (k:=9) (room:=none) kr om) kr:P8 tt 50 0 [(o_ g 9 (mC l))] (rowAt [(o_ g 9 (mC l))] 0 g (b+i))=some ((a2Z l b i),([(o_ g 9 (mC l))]:Heap))) (.y 17 (.int .i64 (uR a i)) (iN (a+i)) Yes.o (.io 18 0 g 9 9 0 n ((a+i:Nat):Int) (a+i) (G6.mk _ ow ow) (.t 19 (a2Z l a i) [(o_ g 9 (mC l))] (K9 (F4 (row:=j5.row) (l:=l) (k:=9) (room:=none) kr om) kr:P8 tt 50 0 [(o_ g 9 (mC l))] (rowAt [(o_ g 9 (mC l))] 0 g (a+i))=some ((a2Z l a i),([(o_ g 9 (mC l))]:Heap))) (.io 20 0 g 9 9 0 n ((a+i:Nat):Int) (a+i) (G6.mk _ ow ow) (.st 21 0 g (a+i) 9 0 (a2Z l b i) [(o_ g 9 (mC (l.set (a+i) (nth l (b+i)))))] (U1 (us:=(j5.row (nth l (b+i)))) (F4 (row:=j5.row) (l:=l) (k:=9) (room:=none) kr om) kr iY iX) (.io 22 0 g 9 9 0 n ((b+i:Nat):Int) (b+i) (G6.mk _ ow ow) (.st 23 0 g (b+i) 9 0 (a2Z l a i) (c3P g l a i b) (U1 (us:=(j5.row (nth l (a+i)))) (F4 (row:=j5.row) (l:=l.set (a+i) (nth l (b+i))) (k:=9) (room:=none) kr om) kr iY iX) (.s (.y 1 (.int .i64 (ca_ i)) (iN (i+1)) Yes.o (.g (.l (k1 h1))))))))))))))))))) (fun h1 h1'=>(.l (k2 h1))))))
def c2t (a:Nat) (b:Nat) (k:Nat) (n:Nat) (g:Nat) (i:Nat) (s:(List j5)):(List j5):=((s.set (a+i) (nth s (b+i))).set (b+i) (nth s (a+i)))
@[simp] abbrev c3O (a:Nat) (b:Nat) (c:Nat) (d:Nat) (e:Nat):Fr:=(mkF 38 [(0,(AV.osl 0 a 9 0 b)),(1,(iN c)),(2,(iN d)),(3,(iN e)),(10,(iN e))])
theorem b9J (a:Nat) (b:Nat) (k:Nat) (n:Nat) (g:Nat) (hab:a+k<=b) (hb:b+k<=n) (hnb:n < 1048576)  (r_:Nat):∀ (l:l9C) (i:Nat) (sF:(l9C)),i+r_=k->n=l.length->sF=iter (c2t a b k n g) r_ i (l) ->
 l7 (l9 Tryz.prog (X yH) (y7 Tryz.f232 0)) (some [0,1,2,3,10]) (some [0,1,2,3,10]) (b3r g n a b k i) [(o_ g 9 (mC l))] (.exit 0) (c3O g n a b k) [(o_ g 9 (mC sF))]:=by
 induction r_ with
 | zero =>
  intro l i sF hi_ hn  hF
  obtain rfl:k=i:=by omega
  have e_:sF=(l):=hF
  refine a5W a b k n g l k hab hb hnb hn (Nat.le_refl _) (fun h=>by simp at h <;> omega) (fun _=>?_)
  first | done | rfl | (rw [e_]; done) | (rw [e_]; rfl)
 | succ r_ ih =>
  intro l i sF hi_ hn  hF
  refine a5W a b k n g l i hab hb hnb hn ow (fun h1=>?_) (fun h=>by simp at h <;> omega)
  · exact ih ((l.set (a+i) (nth l (b+i))).set (b+i) (nth l (a+i))) (i+1) sF ow R6  (by rw [hF] <;> simp only [iter,c2t,if_true,Bool.false_eq_true,if_false])
theorem b9I (f:Nat) (xs:List AV) (a b k n g:Nat) (l:l9C) (hxs:AV.bdds 1 xs=true) (hn:n=l.length) (hnb:n < 1048576) (hab:a+k<=b) (hb:b+k<=n):AC 232 [(AV.osl 0 g 9 0 n),(iN a),(iN b),(iN k),(AV.func f xs)] [(o_ g 9 (mC l))] ((AV.tup []),[(o_ g 9 (mC (X0 a b k l)))]) :=
 q9 (fn:=Tryz.f232) (ann:=yH) (Has.o Tryz.func232) (.r (.g (.loop (c3O g n a b k) (b9J a b k n g hab hb hnb k l 0 (X0 a b k l) ow hn rfl) (.q 1 (AV.tup [])))))
theorem a5X (f:Nat) (xs:List AV) (a b k n g:Nat) (l:l9C) (hxs:AV.bdds 1 xs=true) (hn:n=l.length) (hnb:n < 1048576) (hab:a+k<=b) (hb:b+k<=n) (H:Heap):AC 232 [(AV.osl 0 g 9 0 n),(iN a),(iN b),(iN k),(AV.func f xs)] (([(o_ g 9 (mC l))]:Heap)++H) ((AV.tup []),([(o_ g 9 (mC (X0 a b k l)))]:Heap)++H):=(b9I f xs a b k n g l hxs hn hnb hab hb).ext vQ kr ob ob kr H
def a2J:Ann:={ base:=1,fin:=some 1,live:=[(2,[0,2,4,10,11])],out:=[(2,[0,2,4,10,11])] }
@[simp] abbrev c3N (a:Nat) (b:Nat) (c:Nat) (d:Nat) (e:l9C):Heap:=[(o_ a 9 (mC (X0 (b - c) (b+d - c) c e)))]
@[simp] abbrev c3M (a:Nat) (b:Nat) (c:Nat) (d:Nat) (e:List AV) (f:Nat) (g:Nat):Fr:=(mkF 58 [(0,(AV.osl 0 a 9 0 b)),(2,(iN c)),(4,(AV.func d e)),(10,(iN f)),(11,(iN g))])
theorem iB {p:Prop} (h:p:=by first | exact hxs | omega):p:=h
@[simp] abbrev c1f :=(l9 Tryz.prog (X a2J) (y7 Tryz.f228 0))
@[simp] abbrev a2Y (a b:Nat):=(IntKind.i64.wrap ((a:Int) - (b:Int)))
theorem b9K (f:Nat) (xs:List AV) (p n g:Nat) (i j:Nat) (l:l9C) (hxs:AV.bdds 1 xs=true) (hn:n=l.length) (hnb:n < 1048576) (hi:0 < i) (hj:0 < j) (hip:i<=p) (hjp:p+j<=n) {eX:Ex} {FX:Fr} {HX:Heap} (k1:((i:Int) != (j:Int))=true->(decide ((i:Int) > (j:Int)))=true->l7 c1f (some [0,2,4,10,11]) (some [0,2,4,10,11]) (mkF 58 [(0,(AV.osl 0 g 9 0 n)),(2,(iN p)),(4,(AV.func f xs)),(10,(iN (i - j))),(11,(iN j))]) [(o_ g 9 (mC (X0 (p - i) p j l)))] eX FX HX) (k2:((i:Int) != (j:Int))=true->(decide ((i:Int) > (j:Int)))=false->l7 c1f (some [0,2,4,10,11]) (some [0,2,4,10,11]) (mkF 58 [(0,(AV.osl 0 g 9 0 n)),(2,(iN p)),(4,(AV.func f xs)),(10,(iN i)),(11,(iN (j - i)))]) (c3N g p i j l) eX FX HX) (k3:((i:Int) != (j:Int))=false->((.exit 0:Ex),(c3M g n p f xs i j),[(o_ g 9 (mC l))])=(eX,FX,HX)):l7 c1f (some [0,2,4,10,11]) (some [0,2,4,10,11]) (c3M g n p f xs i j) [(o_ g 9 (mC l))] eX FX HX :=
 K7 (.r (.g (.two ((i:Int) != (j:Int)) (fun h1 h1'=>(.r (.g (.two (decide ((i:Int) > (j:Int))) (fun h2 h2'=>(.r (.y 3 (.int .i64 (a2Y p i)) (iN (p - i)) Yes.o (.ch 7 [(o_ g 9 (mC (X0 (p - i) p j l)))] (a5X f xs (p - i) p j n g l iB iB iB iB iB []) (.s (.y 2 (.int .i64 (a2Y i j)) (iN (i - j)) Yes.o (.g (.l (k1 h1 h2))))))))) (fun h2 h2'=>(.r (.y 3 (.int .i64 (a2Y p i)) (iN (p - i)) Yes.o (.y 6 (.int .i64 (uR p j)) (iN (p+j)) Yes.o (.y 8 (iW (((p+j:Nat):Int) - (i:Int))) (iN (p+j - i)) Yes.o (.ch 11 (c3N g p i j l) (a5X f xs (p - i) (p+j - i) i n g l iB iB iB iB iB []) (.s (.y 2 (.int .i64 (a2Y j i)) (iN (j - i)) Yes.o (.g (.l (k2 h1 h2))))))))))))))) (fun h1 h1'=>(.l (k3 h1))))))
theorem b9M (f:Nat) (xs:List AV) (p n g:Nat) (hxs:AV.bdds 1 xs=true) (r:Nat):∀ (i j:Nat) (l:l9C),i+j<=r+1->n=l.length->n < 1048576->0 < i->0 < j->i<=p->p+j<=n ->
 l7 (l9 Tryz.prog (X a2J) (y7 Tryz.f228 0)) (some [0,2,4,10,11]) (some [0,2,4,10,11]) (mkF 58 [(0,(AV.osl 0 g 9 0 n)),(2,(iN p)),(4,(AV.func f xs)),(10,(iN i)),(11,(iN j))]) [(o_ g 9 (mC l))] (.exit 0) (mkF 58 [(0,(AV.osl 0 g 9 0 n)),(2,(iN p)),(4,(AV.func f xs)),(10,(iN ((N7 p r i j l).2))),(11,(iN ((N7 p r i j l).2)))]) [(o_ g 9 (mC (N7 p r i j l).1))]:=by
 induction r with
 | zero=>intro i j l h1 hn hnb hi hj; omega
 | succ r ih =>
  intro i j l h1 hn hnb hi hj hip hjp
  refine b9K f xs p n g i j l hxs hn hnb hi hj hip hjp (fun h2 h3=>?_) (fun h2 h3=>?_) (fun h2=>?_)
  · have h2':i≠j:=by simp at h2; omega
    have h3':j < i:=by simp at h3; omega
    simp only [N7,if_neg h2',if_pos h3']
    exact ih (i - j) j _ ow (by rw [a3m ow ow]; exact hn) hnb ow hj ow hjp
  · have h2':i≠j:=by simp at h2; omega
    have h3':¬ j < i:=by simp at h3; omega
    simp only [N7,if_neg h2',if_neg h3']
    exact ih i (j - i) _ ow (by rw [a3m ow ow]; exact hn) hnb hi ow hip ow
  · have h2':i=j:=by simp at h2; omega
    simp only [N7,if_pos h2']
    subst h2'
    rfl
@[simp] abbrev c7s (a:Nat) (b:Nat) (c:Nat) (d:Nat) (e:List AV) (f:Nat) (g:Nat) (h:l9C):Fr:=(mkF 58 [(0,(AV.osl 0 a 9 0 b)),(2,(iN c)),(4,(AV.func d e)),(10,(iN ((N7 c (c - f+(g - c)) (c - f) (g - c) h).2))),(11,(iN ((N7 c (c - f+(g - c)) (c - f) (g - c) h).2)))])
theorem b9L (f:Nat) (xs:List AV) (a p b n g:Nat) (l:l9C) (hxs:AV.bdds 1 xs=true) (hn:n=l.length) (hnb:n < 1048576) (hap:a < p) (hpb:p < b) (hbn:b<=n) (hl2:(N7 p (p - a+(b - p)) (p - a) (b - p) l).1.length=l.length) (hk:(N7 p (p - a+(b - p)) (p - a) (b - p) l).2<=p - a) (hk2:(N7 p (p - a+(b - p)) (p - a) (b - p) l).2<=b - p):AC 228 [(AV.osl 0 g 9 0 n),(iN a),(iN p),(iN b),(AV.func f xs)] [(o_ g 9 (mC l))] ((AV.tup []),[(o_ g 9 (mC (Y9 a p b l)))]) :=
 q9 (fn:=Tryz.f228) (ann:=a2J) (Has.o Tryz.func228) (.r (.y 2 (.int .i64 (a2Y p a)) (iN (p - a)) Yes.o (.s (.y 2 (.int .i64 (a2Y b p)) (iN (b - p)) Yes.o (.g (.loop (c7s g n p f xs a b l) (b9M f xs p n g hxs (p - a+(b - p)) (p - a) (b - p) l ow hn hnb ow ow ow ow) (.r (.y 3 (iW ((p:Int) - (((N7 p (p - a+(b - p)) (p - a) (b - p) l).2:Nat):Int))) (iN (p - (N7 p (p - a+(b - p)) (p - a) (b - p) l).2)) Yes.o (.ch 7 [(o_ g 9 (mC (X0 (p - (N7 p (p - a+(b - p)) (p - a) (b - p) l).2) p (N7 p (p - a+(b - p)) (p - a) (b - p) l).2 (N7 p (p - a+(b - p)) (p - a) (b - p) l).1)))] (a5X f xs (p - (N7 p (p - a+(b - p)) (p - a) (b - p) l).2) p (N7 p (p - a+(b - p)) (p - a) (b - p) l).2 n g (N7 p (p - a+(b - p)) (p - a) (b - p) l).1 iB iB iB iB iB []) (.q 1 (AV.tup [])))))))))))
theorem b5g (f:Nat) (xs:List AV) (a p b n g:Nat) (l:l9C) (hxs:AV.bdds 1 xs=true) (hn:n=l.length) (hnb:n < 1048576) (hap:a < p) (hpb:p < b) (hbn:b<=n) (hl2:(N7 p (p - a+(b - p)) (p - a) (b - p) l).1.length=l.length) (hk:(N7 p (p - a+(b - p)) (p - a) (b - p) l).2<=p - a) (hk2:(N7 p (p - a+(b - p)) (p - a) (b - p) l).2<=b - p) (H:Heap):AC 228 [(AV.osl 0 g 9 0 n),(iN a),(iN p),(iN b),(AV.func f xs)] (([(o_ g 9 (mC l))]:Heap)++H) ((AV.tup []),([(o_ g 9 (mC (Y9 a p b l)))]:Heap)++H):=(b9L f xs a p b n g l hxs hn hnb hap hpb hbn hl2 hk hk2).ext vQ kr ob ob kr H
def V3:Ann:={ base:=1,fin:=some 1,live:=[(3,[0,1,4,10,11]),(9,[0,10,13]),(15,[0,2,4,14,15]),(21,[0,14,17]),(33,[0,1,2,3,4,18,19,20,21,22])],out:=[(3,[0,1,10]),(9,[0,10,13]),(15,[0,2,14]),(21,[0,14,17]),(33,[0,1,2,3,4,18,19,20])] }
@[simp] abbrev c1e :=(l9 Tryz.prog (X V3) (y7 Tryz.f216 0))
@[simp] abbrev c1d (a b:Nat):=(iI (IntKind.i64.wrap (Int.fdiv (IntKind.u64.wrap ((a+b:Nat):Int)) (2 ^ (min (Int.toNat 1) 64)))))
@[simp] abbrev a2X (a:l9C) (b c:Nat):=(AV.agg (j5.row (nth a ((b+c) / 2))))
theorem a5w (cmp:j5->j5->Int) (f:Nat) (xs:List AV) (hc:h9C cmp f xs) (a n g:Nat) (l:l9C) (lo hi:Nat) (hn:n=l.length) (hnb:n < 1048576) (ha:a < n) (hlh:lo<=hi) (hhi:hi<=n) {eX:Ex} {FX:Fr} {HX:Heap} (k1:(decide ((lo:Int) < (hi:Int)))=true->(decide ((cmp (nth l ((lo+hi) / 2)) (nth l a)) < 0))=true->l7 c1e (some [0,1,4,10,11]) (some [0,1,10]) (mkF 220 [(0,(AV.osl 0 g 9 0 n)),(1,(iN a)),(4,(AV.func f xs)),(10,(iN (((lo+hi) / 2)+1))),(11,(iN hi))]) [(o_ g 9 (mC l))] eX FX HX) (k2:(decide ((lo:Int) < (hi:Int)))=true->(decide ((cmp (nth l ((lo+hi) / 2)) (nth l a)) < 0))=false->l7 c1e (some [0,1,4,10,11]) (some [0,1,10]) (mkF 220 [(0,(AV.osl 0 g 9 0 n)),(1,(iN a)),(4,(AV.func f xs)),(10,(iN lo)),(11,(iN (((lo+hi) / 2))))]) [(o_ g 9 (mC l))] eX FX HX) (k3:(decide ((lo:Int) < (hi:Int)))=false->((.exit 0:Ex),(mkF 220 [(0,(AV.osl 0 g 9 0 n)),(1,(iN a)),(10,(iN lo))]),[(o_ g 9 (mC l))])=(eX,FX,HX)):l7 c1e (some [0,1,4,10,11]) (some [0,1,10]) (mkF 220 [(0,(AV.osl 0 g 9 0 n)),(1,(iN a)),(4,(AV.func f xs)),(10,(iN lo)),(11,(iN hi))]) [(o_ g 9 (mC l))] eX FX HX :=
 K7 (.r (.g (.two (decide ((lo:Int) < (hi:Int))) (fun h1 h1'=>(.r (.y 2 (.int .i64 (uR lo hi)) (iN (lo+hi)) Yes.o (.y 5 (c1d lo hi) (iN (((lo+hi) / 2))) (Yes.int (oN ow (rfl))) (.s (.io 3 0 g 9 9 0 n ((((lo+hi) / 2):Nat):Int) ((lo+hi) / 2) (G6.mk _ ow ow) (.t 4 (a2X l lo hi) [(o_ g 9 (mC l))] (K9 (F4 (row:=j5.row) (l:=l) (k:=9) (room:=none) kr om) kr:P8 tt 50 0 [(o_ g 9 (mC l))] (rowAt [(o_ g 9 (mC l))] 0 g ((lo+hi) / 2))=some ((a2X l lo hi),([(o_ g 9 (mC l))]:Heap))) (.io 7 0 g 9 9 0 n (a:Int) a (G6.mk _ ow ow) (.t 8 (ci_ l a) [(o_ g 9 (mC l))] (K9 (F4 (row:=j5.row) (l:=l) (k:=9) (room:=none) kr om) kr:P8 tt 50 0 [(o_ g 9 (mC l))] (rowAt [(o_ g 9 (mC l))] 0 g a)=some ((ci_ l a),([(o_ g 9 (mC l))]:Heap))) (.c 9 (hc (nth l ((lo+hi) / 2)) (nth l a) [(o_ g 9 (mC l))]) (.g (.two (decide ((cmp (nth l ((lo+hi) / 2)) (nth l a)) < 0)) (fun h2 h2'=>(.r (.y 1 (iW (((((lo+hi) / 2):Nat):Int)+1)) (iN (((lo+hi) / 2)+1)) Yes.o (.g (.l (k1 h1 h2)))))) (fun h2 h2'=>(.r (.g (.l (k2 h1 h2))))))))))))))))) (fun h1 h1'=>(.l (k3 h1))))))
theorem a2v {p:Prop} (h:p:=by simpa using h5):p:=h
theorem b8T (cmp:j5->j5->Int) (f:Nat) (xs:List AV) (hc:h9C cmp f xs) (a n g:Nat) (l:l9C) (hn:n=l.length) (hnb:n < 1048576) (ha:a < n) (r:Nat):∀ (lo hi:Nat),hi - lo<=r->lo<=hi->hi<=n ->
 l7 (l9 Tryz.prog (X V3) (y7 Tryz.f216 0)) (some [0,1,4,10,11]) (some [0,1,10]) (mkF 220 [(0,(AV.osl 0 g 9 0 n)),(1,(iN a)),(4,(AV.func f xs)),(10,(iN lo)),(11,(iN hi))]) [(o_ g 9 (mC l))] (.exit 0) (mkF 220 [(0,(AV.osl 0 g 9 0 n)),(1,(iN a)),(10,(iN ((bsr (fun c=>decide (cmp (nth l c) (nth l a) < 0)) r lo hi))))]) [(o_ g 9 (mC l))]:=by
 induction r with
 | zero =>
  intro lo hi h1 h2 h3
  obtain rfl:lo=hi:=by omega
  refine a5w cmp f xs hc a n g l lo lo hn hnb ha h2 h3 (fun h _=>by simp at h) (fun h _=>by simp at h) (fun _=>?_)
  simp only [bsr]
 | succ r ih =>
  intro lo hi h1 h2 h3
  refine a5w cmp f xs hc a n g l lo hi hn hnb ha h2 h3 (fun h4 h5=>?_) (fun h4 h5=>?_) (fun h4=>?_)
  · have h4':lo < hi:=by simp at h4; omega
    simp only [bsr,if_pos h4']
    rw [if_pos a2v]
    exact ih ((lo+hi) / 2+1) hi ow ow ow
  · have h4':lo < hi:=by simp at h4; omega
    simp only [bsr,if_pos h4']
    rw [if_neg a2v]
    exact ih lo ((lo+hi) / 2) ow ow ow
  · have h4':¬ lo < hi:=by simp at h4; omega
    simp only [bsr,if_neg h4']
@[simp] abbrev c1c :=(l9 Tryz.prog (X V3) (y7 Tryz.f216 2))
theorem a5v (cmp:j5->j5->Int) (f:Nat) (xs:List AV) (hc:h9C cmp f xs) (p n g:Nat) (l:l9C) (lo hi:Nat) (hn:n=l.length) (hnb:n < 1048576) (ha:p < n) (hlh:lo<=hi) (hhi:hi<=n) {eX:Ex} {FX:Fr} {HX:Heap} (k1:(decide ((lo:Int) < (hi:Int)))=true->(!(decide ((cmp (nth l p) (nth l ((lo+hi) / 2))) < 0)))=true->l7 c1c (some [0,2,4,14,15]) (some [0,2,14]) (mkF 220 [(0,(AV.osl 0 g 9 0 n)),(2,(iN p)),(4,(AV.func f xs)),(14,(iN (((lo+hi) / 2)+1))),(15,(iN hi))]) [(o_ g 9 (mC l))] eX FX HX) (k2:(decide ((lo:Int) < (hi:Int)))=true->(!(decide ((cmp (nth l p) (nth l ((lo+hi) / 2))) < 0)))=false->l7 c1c (some [0,2,4,14,15]) (some [0,2,14]) (mkF 220 [(0,(AV.osl 0 g 9 0 n)),(2,(iN p)),(4,(AV.func f xs)),(14,(iN lo)),(15,(iN (((lo+hi) / 2))))]) [(o_ g 9 (mC l))] eX FX HX) (k3:(decide ((lo:Int) < (hi:Int)))=false->((.exit 4:Ex),(mkF 220 [(0,(AV.osl 0 g 9 0 n)),(2,(iN p)),(14,(iN lo))]),[(o_ g 9 (mC l))])=(eX,FX,HX)):l7 c1c (some [0,2,4,14,15]) (some [0,2,14]) (mkF 220 [(0,(AV.osl 0 g 9 0 n)),(2,(iN p)),(4,(AV.func f xs)),(14,(iN lo)),(15,(iN hi))]) [(o_ g 9 (mC l))] eX FX HX :=
 K7 (.r (.g (.two (decide ((lo:Int) < (hi:Int))) (fun h1 h1'=>(.r (.y 2 (.int .i64 (uR lo hi)) (iN (lo+hi)) Yes.o (.y 5 (c1d lo hi) (iN (((lo+hi) / 2))) (Yes.int (oN ow (rfl))) (.s (.io 3 0 g 9 9 0 n (p:Int) p (G6.mk _ ow ow) (.t 4 (ci_ l p) [(o_ g 9 (mC l))] (K9 (F4 (row:=j5.row) (l:=l) (k:=9) (room:=none) kr om) kr:P8 tt 50 0 [(o_ g 9 (mC l))] (rowAt [(o_ g 9 (mC l))] 0 g p)=some ((ci_ l p),([(o_ g 9 (mC l))]:Heap))) (.io 7 0 g 9 9 0 n ((((lo+hi) / 2):Nat):Int) ((lo+hi) / 2) (G6.mk _ ow ow) (.t 8 (a2X l lo hi) [(o_ g 9 (mC l))] (K9 (F4 (row:=j5.row) (l:=l) (k:=9) (room:=none) kr om) kr:P8 tt 50 0 [(o_ g 9 (mC l))] (rowAt [(o_ g 9 (mC l))] 0 g ((lo+hi) / 2))=some ((a2X l lo hi),([(o_ g 9 (mC l))]:Heap))) (.c 9 (hc (nth l p) (nth l ((lo+hi) / 2)) [(o_ g 9 (mC l))]) (.g (.two (!(decide ((cmp (nth l p) (nth l ((lo+hi) / 2))) < 0))) (fun h2 h2'=>(.r (.y 1 (iW (((((lo+hi) / 2):Nat):Int)+1)) (iN (((lo+hi) / 2)+1)) Yes.o (.g (.l (k1 h1 h2)))))) (fun h2 h2'=>(.r (.g (.l (k2 h1 h2))))))))))))))))) (fun h1 h1'=>(.l (k3 h1))))))
theorem b8S (cmp:j5->j5->Int) (f:Nat) (xs:List AV) (hc:h9C cmp f xs) (p n g:Nat) (l:l9C) (hn:n=l.length) (hnb:n < 1048576) (ha:p < n) (r:Nat):∀ (lo hi:Nat),hi - lo<=r->lo<=hi->hi<=n ->
 l7 (l9 Tryz.prog (X V3) (y7 Tryz.f216 2)) (some [0,2,4,14,15]) (some [0,2,14]) (mkF 220 [(0,(AV.osl 0 g 9 0 n)),(2,(iN p)),(4,(AV.func f xs)),(14,(iN lo)),(15,(iN hi))]) [(o_ g 9 (mC l))] (.exit 4) (mkF 220 [(0,(AV.osl 0 g 9 0 n)),(2,(iN p)),(14,(iN ((bsr (fun c=>!decide (cmp (nth l p) (nth l c) < 0)) r lo hi))))]) [(o_ g 9 (mC l))]:=by
 induction r with
 | zero =>
  intro lo hi h1 h2 h3
  obtain rfl:lo=hi:=by omega
  refine a5v cmp f xs hc p n g l lo lo hn hnb ha h2 h3 (fun h _=>by simp at h) (fun h _=>by simp at h) (fun _=>?_)
  simp only [bsr]
 | succ r ih =>
  intro lo hi h1 h2 h3
  refine a5v cmp f xs hc p n g l lo hi hn hnb ha h2 h3 (fun h4 h5=>?_) (fun h4 h5=>?_) (fun h4=>?_)
  · have h4':lo < hi:=by simp at h4; omega
    simp only [bsr,if_pos h4']
    rw [if_pos a2v]
    exact ih ((lo+hi) / 2+1) hi ow ow ow
  · have h4':lo < hi:=by simp at h4; omega
    simp only [bsr,if_pos h4']
    rw [if_neg a2v]
    exact ih lo ((lo+hi) / 2) ow ow ow
  · have h4':¬ lo < hi:=by simp at h4; omega
    simp only [bsr,if_neg h4']
@[simp] abbrev c1b :=(l9 Tryz.prog (X V3) (y7 Tryz.f216 4))
theorem a5t (cmp:j5->j5->Int) (f:Nat) (xs:List AV) (hc:h9C cmp f xs) (a p b mid nn q n g:Nat) (l:l9C) (lo hi:Nat) (hn:n=l.length) (hnb:n < 1048576) (hlh:lo<=hi) (hhi:hi<=n/\hi<=q+1/\q < n+lo) {eX:Ex} {FX:Fr} {HX:Heap} (k1:(decide ((lo:Int) < (hi:Int)))=true->(!(decide ((cmp (nth l (q - ((lo+hi) / 2))) (nth l ((lo+hi) / 2))) < 0)))=true->l7 c1b (some [0,1,2,3,4,18,19,20,21,22]) (some [0,1,2,3,4,18,19,20]) (mkF 220 [(0,(AV.osl 0 g 9 0 n)),(1,(iN a)),(2,(iN p)),(3,(iN b)),(4,(AV.func f xs)),(18,(iN mid)),(19,(iN nn)),(20,(iN (((lo+hi) / 2)+1))),(21,(iN hi)),(22,(iN q))]) [(o_ g 9 (mC l))] eX FX HX) (k2:(decide ((lo:Int) < (hi:Int)))=true->(!(decide ((cmp (nth l (q - ((lo+hi) / 2))) (nth l ((lo+hi) / 2))) < 0)))=false->l7 c1b (some [0,1,2,3,4,18,19,20,21,22]) (some [0,1,2,3,4,18,19,20]) (mkF 220 [(0,(AV.osl 0 g 9 0 n)),(1,(iN a)),(2,(iN p)),(3,(iN b)),(4,(AV.func f xs)),(18,(iN mid)),(19,(iN nn)),(20,(iN lo)),(21,(iN (((lo+hi) / 2)))),(22,(iN q))]) [(o_ g 9 (mC l))] eX FX HX) (k3:(decide ((lo:Int) < (hi:Int)))=false->((.exit 8:Ex),(mkF 220 [(0,(AV.osl 0 g 9 0 n)),(1,(iN a)),(2,(iN p)),(3,(iN b)),(4,(AV.func f xs)),(18,(iN mid)),(19,(iN nn)),(20,(iN lo))]),[(o_ g 9 (mC l))])=(eX,FX,HX)):l7 c1b (some [0,1,2,3,4,18,19,20,21,22]) (some [0,1,2,3,4,18,19,20]) (mkF 220 [(0,(AV.osl 0 g 9 0 n)),(1,(iN a)),(2,(iN p)),(3,(iN b)),(4,(AV.func f xs)),(18,(iN mid)),(19,(iN nn)),(20,(iN lo)),(21,(iN hi)),(22,(iN q))]) [(o_ g 9 (mC l))] eX FX HX :=
 K7 (.r (.g (.two (decide ((lo:Int) < (hi:Int))) (fun h1 h1'=>(.r (.y 2 (.int .i64 (uR lo hi)) (iN (lo+hi)) Yes.o (.y 5 (c1d lo hi) (iN (((lo+hi) / 2))) (Yes.int (oN ow (rfl))) (.s (.y 4 (iW ((q:Int) - ((((lo+hi) / 2):Nat):Int))) (iN (q - ((lo+hi) / 2))) Yes.o (.io 5 0 g 9 9 0 n ((q - ((lo+hi) / 2):Nat):Int) (q - ((lo+hi) / 2)) (G6.mk _ ow ow) (.t 6 (AV.agg (j5.row (nth l (q - ((lo+hi) / 2))))) [(o_ g 9 (mC l))] (K9 (F4 (row:=j5.row) (l:=l) (k:=9) (room:=none) kr om) kr:P8 tt 50 0 [(o_ g 9 (mC l))] (rowAt [(o_ g 9 (mC l))] 0 g (q - ((lo+hi) / 2)))=some ((AV.agg (j5.row (nth l (q - ((lo+hi) / 2))))),([(o_ g 9 (mC l))]:Heap))) (.io 9 0 g 9 9 0 n ((((lo+hi) / 2):Nat):Int) ((lo+hi) / 2) (G6.mk _ ow ow) (.t 10 (a2X l lo hi) [(o_ g 9 (mC l))] (K9 (F4 (row:=j5.row) (l:=l) (k:=9) (room:=none) kr om) kr:P8 tt 50 0 [(o_ g 9 (mC l))] (rowAt [(o_ g 9 (mC l))] 0 g ((lo+hi) / 2))=some ((a2X l lo hi),([(o_ g 9 (mC l))]:Heap))) (.c 11 (hc (nth l (q - ((lo+hi) / 2))) (nth l ((lo+hi) / 2)) [(o_ g 9 (mC l))]) (.g (.two (!(decide ((cmp (nth l (q - ((lo+hi) / 2))) (nth l ((lo+hi) / 2))) < 0))) (fun h2 h2'=>(.r (.y 1 (iW (((((lo+hi) / 2):Nat):Int)+1)) (iN (((lo+hi) / 2)+1)) Yes.o (.g (.l (k1 h1 h2)))))) (fun h2 h2'=>(.r (.g (.l (k2 h1 h2)))))))))))))))))) (fun h1 h1'=>(.l (k3 h1))))))
theorem a5u (cmp:j5->j5->Int) (f:Nat) (xs:List AV) (hc:h9C cmp f xs) (a p b mid nn q n g:Nat) (l:l9C) (hn:n=l.length) (hnb:n < 1048576) (r:Nat):∀ (lo hi:Nat),hi - lo<=r->lo<=hi->hi<=n/\hi<=q+1/\q < n+lo ->
 l7 (l9 Tryz.prog (X V3) (y7 Tryz.f216 4)) (some [0,1,2,3,4,18,19,20,21,22]) (some [0,1,2,3,4,18,19,20]) (mkF 220 [(0,(AV.osl 0 g 9 0 n)),(1,(iN a)),(2,(iN p)),(3,(iN b)),(4,(AV.func f xs)),(18,(iN mid)),(19,(iN nn)),(20,(iN lo)),(21,(iN hi)),(22,(iN q))]) [(o_ g 9 (mC l))] (.exit 8) (mkF 220 [(0,(AV.osl 0 g 9 0 n)),(1,(iN a)),(2,(iN p)),(3,(iN b)),(4,(AV.func f xs)),(18,(iN mid)),(19,(iN nn)),(20,(iN ((bsr (fun c=>!decide (cmp (nth l (q - c)) (nth l c) < 0)) r lo hi))))]) [(o_ g 9 (mC l))]:=by
 induction r with
 | zero =>
  intro lo hi h1 h2 h3
  obtain rfl:lo=hi:=by omega
  refine a5t cmp f xs hc a p b mid nn q n g l lo lo hn hnb h2 h3 (fun h _=>by simp at h) (fun h _=>by simp at h) (fun _=>?_)
  simp only [bsr]
 | succ r ih =>
  intro lo hi h1 h2 h3
  refine a5t cmp f xs hc a p b mid nn q n g l lo hi hn hnb h2 h3 (fun h4 h5=>?_) (fun h4 h5=>?_) (fun h4=>?_)
  · have h4':lo < hi:=by simp at h4; omega
    simp only [bsr,if_pos h4']
    rw [if_pos a2v]
    exact ih ((lo+hi) / 2+1) hi ow ow ow
  · have h4':lo < hi:=by simp at h4; omega
    simp only [bsr,if_pos h4']
    rw [if_neg a2v]
    exact ih lo ((lo+hi) / 2) ow ow ow
  · have h4':¬ lo < hi:=by simp at h4; omega
    simp only [bsr,if_neg h4']
@[simp] abbrev c3L (a:Nat) (b:l9C) (c:Nat):Heap:=[(o_ a 9 (mC ((b.set c (nth b (c+1))).set (c+1) (nth b c))))]
@[simp] abbrev b3q (a:Nat) (b:Nat) (c:Nat) (d:Nat):Fr:=(mkF 220 [(0,(AV.osl 0 a 9 0 b)),(10,(iN c)),(13,(iN d))])
theorem a5r (i:Nat) (n:Nat) (g:Nat) (l:l9C) (kk:Nat) (hi1:1<=i) (hin:i<=n) (hnb:n < 1048576) (hn:n=l.length) (hle_:kk<=(i - 1)) {eX:Ex} {FX:Fr} {HX:Heap} (k1:(decide ((kk:Int) < ((i - 1:Nat):Int)))=true->l7 (l9 Tryz.prog (X V3) (y7 Tryz.f216 1)) (some [0,10,13]) (some [0,10,13]) (mkF 220 [(0,(AV.osl 0 g 9 0 n)),(10,(iN i)),(13,(iN (kk+1)))]) (c3L g l kk) eX FX HX) (k2:(decide ((kk:Int) < ((i - 1:Nat):Int)))=false->((.exit 2:Ex),(b3q g n i kk),[(o_ g 9 (mC l))])=(eX,FX,HX)):l7 (l9 Tryz.prog (X V3) (y7 Tryz.f216 1)) (some [0,10,13]) (some [0,10,13]) (b3q g n i kk) [(o_ g 9 (mC l))] eX FX HX :=
 K7 (.r (.y 2 (.int .i64 (cj_ i)) (iN (i - 1)) Yes.o (.g (.two (decide ((kk:Int) < ((i - 1:Nat):Int))) (fun h1 h1'=>(.r (.y 4 (.int .i64 (ca_ kk)) (iN (kk+1)) Yes.o (.y 7 (.int .i64 (ca_ kk)) (iN (kk+1)) Yes.o (.io 8 0 g 9 9 0 n ((kk+1:Nat):Int) (kk+1) (G6.mk _ ow ow) (.t 9 (AV.agg (j5.row (nth l (kk+1)))) [(o_ g 9 (mC l))] (K9 (F4 (row:=j5.row) (l:=l) (k:=9) (room:=none) kr om) kr:P8 tt 50 0 [(o_ g 9 (mC l))] (rowAt [(o_ g 9 (mC l))] 0 g (kk+1))=some ((AV.agg (j5.row (nth l (kk+1)))),([(o_ g 9 (mC l))]:Heap))) (.io 12 0 g 9 9 0 n (kk:Int) kk (G6.mk _ ow ow) (.t 13 (ci_ l kk) [(o_ g 9 (mC l))] (K9 (F4 (row:=j5.row) (l:=l) (k:=9) (room:=none) kr om) kr:P8 tt 50 0 [(o_ g 9 (mC l))] (rowAt [(o_ g 9 (mC l))] 0 g kk)=some ((ci_ l kk),([(o_ g 9 (mC l))]:Heap))) (.io 14 0 g 9 9 0 n (kk:Int) kk (G6.mk _ ow ow) (.st 15 0 g kk 9 0 (AV.agg (j5.row (nth l (kk+1)))) [(o_ g 9 (mC (l.set kk (nth l (kk+1)))))] (U1 (us:=(j5.row (nth l (kk+1)))) (F4 (row:=j5.row) (l:=l) (k:=9) (room:=none) kr om) kr iY iX) (.io 16 0 g 9 9 0 n ((kk+1:Nat):Int) (kk+1) (G6.mk _ ow ow) (.st 17 0 g (kk+1) 9 0 (ci_ l kk) (c3L g l kk) (U1 (us:=(j5.row (nth l kk))) (F4 (row:=j5.row) (l:=l.set kk (nth l (kk+1))) (k:=9) (room:=none) kr om) kr iY iX) (.s (.y 1 (.int .i64 (ca_ kk)) (iN (kk+1)) Yes.o (.g (.l (k1 h1))))))))))))))))) (fun h1 h1'=>(.l (k2 h1)))))))
def b0k (i:Nat) (n:Nat) (g:Nat) (kk:Nat) (s:(List j5)):(List j5):=((s.set kk (nth s (kk+1))).set (kk+1) (nth s kk))
theorem b8O (i:Nat) (n:Nat) (g:Nat) (hi1:1<=i) (hin:i<=n) (hnb:n < 1048576)  (r_:Nat):∀ (l:l9C) (kk:Nat) (sF:(l9C)),kk+r_=(i - 1)->n=l.length->sF=iter (b0k i n g) r_ kk (l) ->
 l7 (l9 Tryz.prog (X V3) (y7 Tryz.f216 1)) (some [0,10,13]) (some [0,10,13]) (b3q g n i kk) [(o_ g 9 (mC l))] (.exit 2) (mkF 220 [(0,(AV.osl 0 g 9 0 n)),(10,(iN i)),(13,(iN ((i - 1))))]) [(o_ g 9 (mC sF))]:=by
 induction r_ with
 | zero =>
  intro l kk sF hi_ hn  hF
  obtain rfl:(i - 1)=kk:=by omega
  have e_:sF=(l):=hF
  refine a5r i n g l (i - 1) hi1 hin hnb hn (Nat.le_refl _) (fun h=>by simp at h <;> omega) (fun _=>?_)
  first | done | rfl | (rw [e_]; done) | (rw [e_]; rfl)
 | succ r_ ih =>
  intro l kk sF hi_ hn  hF
  refine a5r i n g l kk hi1 hin hnb hn ow (fun h1=>?_) (fun h=>by simp at h <;> omega)
  · exact ih ((l.set kk (nth l (kk+1))).set (kk+1) (nth l kk)) (kk+1) sF ow R6  (by rw [hF] <;> simp only [iter,b0k,if_true,Bool.false_eq_true,if_false])
theorem b8P (i n g r k:Nat) (l:l9C):shU r k l=iter (b0k i n g) r k l:=rfl
@[simp] abbrev b8f (a:Nat) (b:Nat) (c:Nat) (d:Nat):Fr:=(mkF 220 [(0,(AV.osl 0 a 9 0 b)),(14,(iN c)),(17,(iN d))])
theorem a5s (i kk n g:Nat) (l:l9C) (hn:n=l.length) (hnb:n < 1048576) (hk:kk < n) {eX:Ex} {FX:Fr} {HX:Heap} (k1:(decide ((kk:Int) > (i:Int)))=true->l7 (l9 Tryz.prog (X V3) (y7 Tryz.f216 3)) (some [0,14,17]) (some [0,14,17]) (mkF 220 [(0,(AV.osl 0 g 9 0 n)),(14,(iN i)),(17,(iN (kk - 1)))]) (b3C g l kk) eX FX HX) (k2:(decide ((kk:Int) > (i:Int)))=false->((.exit 6:Ex),(b8f g n i kk),[(o_ g 9 (mC l))])=(eX,FX,HX)):l7 (l9 Tryz.prog (X V3) (y7 Tryz.f216 3)) (some [0,14,17]) (some [0,14,17]) (b8f g n i kk) [(o_ g 9 (mC l))] eX FX HX :=
 K7 (.r (.g (.two (decide ((kk:Int) > (i:Int))) (fun h1 h1'=>(.r (.y 4 (.int .i64 (cj_ kk)) (iN (kk - 1)) Yes.o (.y 7 (.int .i64 (cj_ kk)) (iN (kk - 1)) Yes.o (.io 8 0 g 9 9 0 n ((kk - 1:Nat):Int) (kk - 1) (G6.mk _ ow ow) (.t 9 (ck_ l kk) [(o_ g 9 (mC l))] (K9 (F4 (row:=j5.row) (l:=l) (k:=9) (room:=none) kr om) kr:P8 tt 50 0 [(o_ g 9 (mC l))] (rowAt [(o_ g 9 (mC l))] 0 g (kk - 1))=some ((ck_ l kk),([(o_ g 9 (mC l))]:Heap))) (.io 12 0 g 9 9 0 n (kk:Int) kk (G6.mk _ ow ow) (.t 13 (ci_ l kk) [(o_ g 9 (mC l))] (K9 (F4 (row:=j5.row) (l:=l) (k:=9) (room:=none) kr om) kr:P8 tt 50 0 [(o_ g 9 (mC l))] (rowAt [(o_ g 9 (mC l))] 0 g kk)=some ((ci_ l kk),([(o_ g 9 (mC l))]:Heap))) (.io 14 0 g 9 9 0 n (kk:Int) kk (G6.mk _ ow ow) (.st 15 0 g kk 9 0 (ck_ l kk) [(o_ g 9 (mC (l.set kk (nth l (kk - 1)))))] (U1 (us:=(j5.row (nth l (kk - 1)))) (F4 (row:=j5.row) (l:=l) (k:=9) (room:=none) kr om) kr iY iX) (.io 16 0 g 9 9 0 n ((kk - 1:Nat):Int) (kk - 1) (G6.mk _ ow ow) (.st 17 0 g (kk - 1) 9 0 (ci_ l kk) (b3C g l kk) (U1 (us:=(j5.row (nth l kk))) (F4 (row:=j5.row) (l:=l.set kk (nth l (kk - 1))) (k:=9) (room:=none) kr om) kr iY iX) (.s (.y 1 (.int .i64 (cj_ kk)) (iN (kk - 1)) Yes.o (.g (.l (k1 h1))))))))))))))))) (fun h1 h1'=>(.l (k2 h1))))))
theorem b8R (i n g:Nat) (hnb:n < 1048576) (r:Nat):∀ (kk:Nat) (l:l9C),kk=i+r->n=l.length->kk < n ->
 l7 (l9 Tryz.prog (X V3) (y7 Tryz.f216 3)) (some [0,14,17]) (some [0,14,17]) (mkF 220 [(0,(AV.osl 0 g 9 0 n)),(14,(iN i)),(17,(iN kk))]) [(o_ g 9 (mC l))] (.exit 6) (mkF 220 [(0,(AV.osl 0 g 9 0 n)),(14,(iN i)),(17,(iN i))]) [(o_ g 9 (mC (shD r kk l)))]:=by
 induction r with
 | zero =>
  intro kk l h1 hn hk
  obtain rfl:kk=i:=by omega
  exact a5s kk kk n g l hn hnb hk (fun h=>by simp at h) (fun _=>rfl)
 | succ r ih =>
  intro kk l h1 hn hk
  refine a5s i kk n g l hn hnb hk (fun _=>?_) (fun h=>by simp at h; omega)
  simp only [shD]
  exact ih (kk - 1) _ ow (by simpa using hn) ow
attribute [local irreducible] N7 X0 Y9 bsr mAt mg mgL shD shU
@[simp] abbrev a4V (a:Nat) (b:l9C) (c:l9C) (d:j5) (e:l9C) (f:l9C):Heap:=[(o_ a 9 (mC (b++(c++(d :: (e++f))))))]
@[simp] abbrev c3K (a:Nat) (b:Nat) (c:Nat) (d:Nat):Fr:=(mkF 220 [(0,(AV.osl 0 a 9 0 b)),(1,(iN c)),(10,(iN d))])
@[simp] abbrev c3J (a:Nat) (b:Nat) (c:Nat):Fr:=(mkF 220 [(0,(AV.osl 0 a 9 0 b)),(10,(iN c)),(13,(iN ((c - 1))))])
theorem b8X (cmp:j5->j5->Int) (f:Nat) (xs:List AV) (A R1 R2 B:l9C) (x:j5) (a p b n g i:Nat) (l:l9C) (hc:h9C cmp f xs) (hxs:AV.bdds 1 xs=true) (hn:n=l.length) (hnb:n < 1048576) (hl:l=A++(x :: (R1++(R2++B)))) (hA:a=A.length) (hp:p=a+1) (hpb:p<=b) (hbn:b<=n) (hi:i=p+R1.length) (hib:i<=b) (hs:i=bsr (fun c=>decide (cmp (nth l c) (nth l a) < 0)) (b - p) p b):AC 216 [(AV.osl 0 g 9 0 n),(AV.int .i64 (a:Int)),(AV.int .i64 (p:Int)),(AV.int .i64 (b:Int)),(AV.func f xs)] [(o_ g 9 (List.map j5.row l))] ((AV.tup []),(a4V g A R1 x R2 B)):=by
 have hfin:shU (i - 1 - a) a l=A++(R1++(x :: (R2++B))):=by rw [hl,show i - 1 - a=R1.length by omega]; exact b4g x R1 A (R2++B) a hA
 exact q9 (fn:=Tryz.f216) (ann:=V3) (Has.o Tryz.func216) (.r (.y 2 (iW ((p:Int) - (a:Int))) (AV.int .i64 ((p - a:Nat):Int)) Yes.o (.y 3 (AV.bool (((p - a:Nat):Int) == 1)) (AV.bool true) (Yes.b (by exact beq_iff_eq.2 ow)) (.ru (.s (.g (.loop (c3K g n a i) (show l7 (l9 Tryz.prog (X V3) (y7 Tryz.f216 0)) (some [0,1,4,10,11]) (some [0,1,10]) (mkF 220 [(0,(AV.osl 0 g 9 0 n)),(1,(AV.int .i64 (a:Int))),(4,(AV.func f xs)),(10,(AV.int .i64 (p:Int))),(11,(AV.int .i64 (b:Int)))]) [(o_ g 9 (List.map j5.row l))] (.exit 0) (c3K g n a i) [(o_ g 9 (List.map j5.row l))] from (by rw [hs]; exact b8T cmp f xs hc a n g l hn hnb ow (b - p) p b ow ow ow)) (.r (.g (.loop (c3J g n i) (show l7 (l9 Tryz.prog (X V3) (y7 Tryz.f216 1)) (some [0,10,13]) (some [0,10,13]) (mkF 220 [(0,(AV.osl 0 g 9 0 n)),(10,(AV.int .i64 (i:Int))),(13,(AV.int .i64 (a:Int)))]) [(o_ g 9 (List.map j5.row l))] (.exit 2) (c3J g n i) [(o_ g 9 (List.map j5.row (shU (i - 1 - a) a l)))] from (b8O i n g ow ow hnb (i - 1 - a) l a _ ow hn (b8P _ _ _ _ _ _))) (.q 1 (AV.tup []) (by (try delta a4V); rw [hfin]))))))))))))
@[simp] abbrev c3I (a:Nat) (b:Nat) (c:Nat) (d:Nat):Fr:=(mkF 220 [(0,(AV.osl 0 a 9 0 b)),(2,(iN c)),(14,(iN d))])
@[simp] abbrev c7r (a:Nat) (b:Nat) (c:Nat):Fr:=(mkF 220 [(0,(AV.osl 0 a 9 0 b)),(14,(iN c)),(17,(iN c))])
theorem a2u {p:Prop} (h:p:=by exact beq_eq_false_iff_ne.2 ow):p:=h
theorem b8W (cmp:j5->j5->Int) (f:Nat) (xs:List AV) (A L1 L2 B:l9C) (y:j5) (a p b n g i:Nat) (l:l9C) (hc:h9C cmp f xs) (hxs:AV.bdds 1 xs=true) (hn:n=l.length) (hnb:n < 1048576) (hl:l=A++(L1++(L2++(y :: B)))) (hA:a=A.length) (hi:i=a+L1.length) (hp:p=i+L2.length) (h1:p≠a+1) (hb:b=p+1) (hbn:b<=n) (hs:i=bsr (fun c=>!decide (cmp (nth l p) (nth l c) < 0)) (p - a) a p):AC 216 [(AV.osl 0 g 9 0 n),(AV.int .i64 (a:Int)),(AV.int .i64 (p:Int)),(AV.int .i64 (b:Int)),(AV.func f xs)] [(o_ g 9 (List.map j5.row l))] ((AV.tup []),(a4V g A L1 y L2 B)):=by
 have hfin:shD (p - i) p l=A++(L1++(y :: (L2++B))):=by rw [hl,show p - i=L2.length by omega,show A++(L1++(L2++(y :: B)))=(A++L1)++(L2++(y :: B)) by simp,b4h y L2.length (A++L1) L2 B p rfl yh_]; simp
 exact q9 (fn:=Tryz.f216) (ann:=V3) (Has.o Tryz.func216) (.r (.y 2 (iW ((p:Int) - (a:Int))) (AV.int .i64 ((p - a:Nat):Int)) Yes.o (.y 3 (AV.bool (((p - a:Nat):Int) == 1)) (AV.bool false) (Yes.b a2u) (.rn (.y 2 (iW ((b:Int) - (p:Int))) (AV.int .i64 ((b - p:Nat):Int)) Yes.o (.y 3 (AV.bool (((b - p:Nat):Int) == 1)) (AV.bool true) (Yes.b (by exact beq_iff_eq.2 ow)) (.ru (.s (.g (.loop (c3I g n p i) (show l7 (l9 Tryz.prog (X V3) (y7 Tryz.f216 2)) (some [0,2,4,14,15]) (some [0,2,14]) (mkF 220 [(0,(AV.osl 0 g 9 0 n)),(2,(AV.int .i64 (p:Int))),(4,(AV.func f xs)),(14,(AV.int .i64 (a:Int))),(15,(AV.int .i64 (p:Int)))]) [(o_ g 9 (List.map j5.row l))] (.exit 4) (c3I g n p i) [(o_ g 9 (List.map j5.row l))] from (by rw [hs]; exact b8S cmp f xs hc p n g l hn hnb ow (p - a) a p ow ow ow)) (.r (.g (.loop (c7r g n i) (b8R i n g hnb (p - i) p l ow hn ow) (.q 1 (AV.tup []) (by (try delta a4V); rw [hfin])))))))))))))))
@[simp] abbrev a4U (a:Nat) (b:Nat) (c:Nat) (d:Nat) (e:Nat) (f:Nat) (g:List AV) (h:Nat) (i:Nat):Fr:=(mkF 220 [(0,(AV.osl 0 a 9 0 b)),(1,(iN c)),(2,(iN d)),(3,(iN e)),(4,(AV.func f g)),(18,(iN h)),(19,(iN ((h+d)))),(20,(iN i))])
@[simp] abbrev b3p (a:Nat) (b:Nat) (c:Nat) (d:Nat) (e:l9C):Heap:=[(o_ a 9 (mC (Y9 b c ((d+c) - b) e)))]
theorem C8 {p:Prop} (h:p:=by first | exact hc | exact hxs | omega | (simp; omega)):p:=h
theorem a2t {p:Prop} (h:p:=by first | (exfalso; omega) | ((first | rw [if_pos ow] at e1 | rw [if_neg ow] at e1); rw [e1]; exact hlen1.symm)):p:=h
theorem a2s {p:Prop} (h:p:=by first | (exfalso; omega) | ((first | rw [if_pos ow] at e1 | rw [if_neg ow] at e1); rw [e1]; rw [piece A L1 _ hA ow]; exact q1)):p:=h
theorem a2r {p:Prop} (h:p:=by first | (exfalso; omega) | ((first | rw [if_pos ow] at e1 | rw [if_neg ow] at e1); rw [e1]; rw [show A++(L1++(R1++(L2++(R2++B))))=(A++L1)++(R1++(L2++(R2++B))) by simp,piece (A++L1) R1 _ (by simp; omega) ow]; exact q3)):p:=h
theorem eB {p:Prop} (h:p:=by first | (exfalso; omega) | ((first | rw [if_pos ow] at e1 | rw [if_neg ow] at e1); (first | rw [if_pos ow] at e2 | rw [if_neg ow] at e2); rw [e1,e2]; exact hlen2.symm)):p:=h
theorem dZ {p:Prop} (h:p:=by first | (exfalso; omega) | ((first | rw [if_pos ow] at e1 | rw [if_neg ow] at e1); (first | rw [if_pos ow] at e2 | rw [if_neg ow] at e2); rw [e1,e2]; rw [show A++(mg (ltF cmp) L1 R1++(L2++(R2++B)))=(A++mg (ltF cmp) L1 R1)++(L2++(R2++B)) by simp,piece (A++mg (ltF cmp) L1 R1) L2 _ (by simp [rV]; omega) ow]; exact q2)):p:=h
theorem dY {p:Prop} (h:p:=by first | (exfalso; omega) | ((first | rw [if_pos ow] at e1 | rw [if_neg ow] at e1); (first | rw [if_pos ow] at e2 | rw [if_neg ow] at e2); rw [e1,e2]; rw [show A++(mg (ltF cmp) L1 R1++(L2++(R2++B)))=((A++mg (ltF cmp) L1 R1)++L2)++(R2++B) by simp,piece ((A++mg (ltF cmp) L1 R1)++L2) R2 _ (by simp [rV]; omega) ow]; exact q4)):p:=h
theorem J7 {p:Prop} (h:p:=by (try delta b3p); first | (exfalso; omega) | ((first | rw [if_pos ow] at e1 | rw [if_neg ow] at e1); (first | rw [if_pos ow] at e2 | rw [if_neg ow] at e2); (first | rw [if_pos ow] at e3 | rw [if_neg ow] at e3); rw [e1,e2,e3])):p:=h
set_option maxHeartbeats 4000000 in
theorem b8V (cmp:j5->j5->Int) (f:Nat) (xs:List AV) (A L1 L2 R1 R2 B:l9C) (a p b n g i mid Nz:Nat) (l:l9C) (hc:h9C cmp f xs) (hxs:AV.bdds 1 xs=true) (hn:n=l.length) (hnb:n < 1048576) (ih_at:∀ (a p b n g:Nat) (l:l9C),n=l.length->n < 1048576->a < p->p < b->b<=n->b - a < Nz->Srt (ltF cmp) ((l.drop a).take (p - a))->Srt (ltF cmp) ((l.drop p).take (b - p))->∀ H:Heap,AC 216 [(AV.osl 0 g 9 0 n),(AV.int .i64 (a:Int)),(AV.int .i64 (p:Int)),(AV.int .i64 (b:Int)),(AV.func f xs)] (([(o_ g 9 (List.map j5.row l))]:Heap)++H) (.tup [],([(o_ g 9 (List.map j5.row (mAt (ltF cmp) a p b l)))]:Heap)++H)) (hl:l=A++(L1++(L2++(R1++(R2++B))))) (hA:a=A.length) (hi:i=a+L1.length) (hp:p=i+L2.length) (hR1:mid=i+R1.length) (hb:b=p+R1.length+R2.length) (hbn:b<=n) (hap:a < p) (hpb:p < b) (h1:p≠a+1) (h2:b≠p+1) (hmid:mid=(a+b) / 2) (hNz:b - a<=Nz) (hgt:mid < p) (hs:i=bsr (fun c=>!decide (cmp (nth l (mid+p - 1 - c)) (nth l c) < 0)) (mid - (mid+p - b)) (mid+p - b) mid) (hlo:mid+p - b<=i) (hhi:i<=mid) (q1:Srt (ltF cmp) L1) (q2:Srt (ltF cmp) L2) (q3:Srt (ltF cmp) R1) (q4:Srt (ltF cmp) R2):AC 216 [(AV.osl 0 g 9 0 n),(AV.int .i64 (a:Int)),(AV.int .i64 (p:Int)),(AV.int .i64 (b:Int)),(AV.func f xs)] [(o_ g 9 (List.map j5.row l))] ((AV.tup []),[(o_ g 9 (List.map j5.row (A++(mg (ltF cmp) L1 R1++(mg (ltF cmp) L2 R2++B)))))]):=by
 have hll:n=A.length+L1.length+L2.length+R1.length+R2.length+B.length:=by rw [hn,hl]; simp; omega
 have e1:=sm1 A L1 L2 R1 R2 B hl (s:=i) (m:=p) (e:=mid+p - i) ow hp ow
 have e2:=sm2 (ltF cmp) A L1 R1 (L2++(R2++B)) (a:=a) (s:=i) (mid:=mid) hA hi hR1
 have e3:=sm3 (ltF cmp) A (mg (ltF cmp) L1 R1) L2 R2 B (mid:=mid) (e:=mid+p - i) (b:=b) (by rw [rV]; omega) ow ow
 have hrot:0 < L2.length->0 < R1.length->_:=a3u (A++L1) L2 R1 (R2++B) (l:=l) (by rw [hl]; simp) (a:=i) (m:=p) (b:=mid+p - i) yh_ hp ow
 have hlen2:(A++(mg (ltF cmp) L1 R1++(L2++(R2++B)))).length=n:=by rw [hll]; simp [rV]; omega
 have hlen1:(A++(L1++(R1++(L2++(R2++B))))).length=n:=by rw [hll]; simp; omega
 exact q9 (fn:=Tryz.f216) (ann:=V3) (Has.o Tryz.func216) (.r (.y 2 (iW ((p:Int) - (a:Int))) (AV.int .i64 ((p - a:Nat):Int)) Yes.o (.y 3 (AV.bool (((p - a:Nat):Int) == 1)) (AV.bool false) (Yes.b a2u) (.rn (.y 2 (iW ((b:Int) - (p:Int))) (AV.int .i64 ((b - p:Nat):Int)) Yes.o (.y 3 (AV.bool (((b - p:Nat):Int) == 1)) (AV.bool false) (Yes.b a2u) (.rn (.y 2 (iW ((a:Int)+(b:Int))) (AV.int .i64 ((a+b:Nat):Int)) Yes.o (.y 5 (iW (Int.fdiv (IntKind.u64.wrap ((a+b:Nat):Int)) (2 ^ (min (Int.toNat 1) 64)))) (AV.int .i64 (mid:Int)) (Yes.int (oN ow ow)) (.s (.y 2 (iW ((mid:Int)+(p:Int))) (AV.int .i64 ((mid+p:Nat):Int)) Yes.o (.s (.s (.y 2 (AV.bool (decide ((p:Int) > (mid:Int)))) (AV.bool true) (Yes.b (by exact decide_eq_true ow)) (.ru (.y 2 (iW (((mid+p:Nat):Int) - (b:Int))) (AV.int .i64 ((mid+p - b:Nat):Int)) Yes.o (.s (.s (.y 1 (iW (((mid+p:Nat):Int) - 1)) (AV.int .i64 ((mid+p - 1:Nat):Int)) Yes.o (.g (.loop (a4U g n a p b f xs mid i) (show l7 (l9 Tryz.prog (X V3) (y7 Tryz.f216 4)) (some [0,1,2,3,4,18,19,20,21,22]) (some [0,1,2,3,4,18,19,20]) (mkF 220 [(0,(AV.osl 0 g 9 0 n)),(1,(AV.int .i64 (a:Int))),(2,(AV.int .i64 (p:Int))),(3,(AV.int .i64 (b:Int))),(4,(AV.func f xs)),(18,(AV.int .i64 (mid:Int))),(19,(AV.int .i64 ((mid+p:Nat):Int))),(20,(AV.int .i64 ((mid+p - b:Nat):Int))),(21,(AV.int .i64 (mid:Int))),(22,(AV.int .i64 ((mid+p - 1:Nat):Int)))]) [(o_ g 9 (List.map j5.row l))] (.exit 8) (a4U g n a p b f xs mid i) [(o_ g 9 (List.map j5.row l))] from (by rw [hs]; exact a5u cmp f xs hc a p b mid (mid+p) (mid+p - 1) n g l hn hnb (mid - ((mid+p - b))) (mid+p - b) mid ow ow ow)) (.r (.y 2 (iW ((((mid+p):Nat):Int) - (i:Int))) (AV.int .i64 (((mid+p) - i:Nat):Int)) Yes.o (.s (.two (decide ((i:Int) < (p:Int))) (fun h1 h1'=>(.u2 (.g (.two (decide ((p:Int) < (((mid+p) - i:Nat):Int))) (fun h2 h2'=>(.r (.ch 5 (b3p g i p mid l) (b5g f xs i p ((mid+p) - i) n g l C8 C8 C8 C8 C8 C8 ((hrot ow ow).1) ((hrot ow ow).2.1) ((hrot ow ow).2.2) []) (.s (.two (decide ((a:Int) < (i:Int))) (fun h3 h3'=>(.u2 (.g (.two (decide ((i:Int) < (mid:Int))) (fun h4 h4'=>(.r (.ch 5 [(o_ g 9 (List.map j5.row (mAt (ltF cmp) a i mid (Y9 i p ((mid+p) - i) l))))] (ih_at a i mid n g (Y9 i p ((mid+p) - i) l) a2t C8 C8 C8 C8 C8 a2s a2r []) (.s (.two (decide ((mid:Int) < (((mid+p) - i:Nat):Int))) (fun h5 h5'=>(.u2 (.g (.two (decide ((((mid+p) - i:Nat):Int) < (b:Int))) (fun h6 h6'=>(.r (.ch 5 [(o_ g 9 (List.map j5.row (mAt (ltF cmp) mid ((mid+p) - i) b (mAt (ltF cmp) a i mid (Y9 i p ((mid+p) - i) l)))))] (ih_at mid ((mid+p) - i) b n g (mAt (ltF cmp) a i mid (Y9 i p ((mid+p) - i) l)) eB C8 C8 C8 C8 C8 dZ dY []) (.q 1 (AV.tup []) J7)))) (fun h6 h6'=>(.q 1 (AV.tup []) J7)))))) (fun h5 h5'=>(.n2 (.g (.n (.q 1 (AV.tup []) J7)))))))))) (fun h4 h4'=>(.r (.two (decide ((mid:Int) < (((mid+p) - i:Nat):Int))) (fun h5 h5'=>(.u2 (.g (.two (decide ((((mid+p) - i:Nat):Int) < (b:Int))) (fun h6 h6'=>(.r (.ch 5 [(o_ g 9 (List.map j5.row (mAt (ltF cmp) mid ((mid+p) - i) b (Y9 i p ((mid+p) - i) l))))] (ih_at mid ((mid+p) - i) b n g (Y9 i p ((mid+p) - i) l) eB C8 C8 C8 C8 C8 dZ dY []) (.q 1 (AV.tup []) J7)))) (fun h6 h6'=>(.q 1 (AV.tup []) J7)))))) (fun h5 h5'=>(.n2 (.g (.n (.q 1 (AV.tup []) J7)))))))))))) (fun h3 h3'=>(.n2 (.rn (.two (decide ((mid:Int) < (((mid+p) - i:Nat):Int))) (fun h4 h4'=>(.u2 (.g (.two (decide ((((mid+p) - i:Nat):Int) < (b:Int))) (fun h5 h5'=>(.r (.ch 5 [(o_ g 9 (List.map j5.row (mAt (ltF cmp) mid ((mid+p) - i) b (Y9 i p ((mid+p) - i) l))))] (ih_at mid ((mid+p) - i) b n g (Y9 i p ((mid+p) - i) l) eB C8 C8 C8 C8 C8 dZ dY []) (.q 1 (AV.tup []) J7)))) (fun h5 h5'=>(.q 1 (AV.tup []) J7)))))) (fun h4 h4'=>(.n2 (.g (.n (.q 1 (AV.tup []) J7)))))))))))))) (fun h2 h2'=>(.r (.two (decide ((a:Int) < (i:Int))) (fun h3 h3'=>(.u2 (.g (.two (decide ((i:Int) < (mid:Int))) (fun h4 h4'=>(.r (.ch 5 [(o_ g 9 (List.map j5.row (mAt (ltF cmp) a i mid l)))] (ih_at a i mid n g l a2t C8 C8 C8 C8 C8 a2s a2r []) (.s (.two (decide ((mid:Int) < (((mid+p) - i:Nat):Int))) (fun h5 h5'=>(.u2 (.g (.two (decide ((((mid+p) - i:Nat):Int) < (b:Int))) (fun h6 h6'=>(.r (.ch 5 [(o_ g 9 (List.map j5.row (mAt (ltF cmp) mid ((mid+p) - i) b (mAt (ltF cmp) a i mid l))))] (ih_at mid ((mid+p) - i) b n g (mAt (ltF cmp) a i mid l) eB C8 C8 C8 C8 C8 dZ dY []) (.q 1 (AV.tup []) J7)))) (fun h6 h6'=>(.q 1 (AV.tup []) J7)))))) (fun h5 h5'=>(.n2 (.g (.n (.q 1 (AV.tup []) J7)))))))))) (fun h4 h4'=>(.r (.two (decide ((mid:Int) < (((mid+p) - i:Nat):Int))) (fun h5 h5'=>(.u2 (.g (.two (decide ((((mid+p) - i:Nat):Int) < (b:Int))) (fun h6 h6'=>(.r (.ch 5 [(o_ g 9 (List.map j5.row (mAt (ltF cmp) mid ((mid+p) - i) b l)))] (ih_at mid ((mid+p) - i) b n g l eB C8 C8 C8 C8 C8 dZ dY []) (.q 1 (AV.tup []) J7)))) (fun h6 h6'=>(.q 1 (AV.tup []) J7)))))) (fun h5 h5'=>(.n2 (.g (.n (.q 1 (AV.tup []) J7)))))))))))) (fun h3 h3'=>(.n2 (.rn (.two (decide ((mid:Int) < (((mid+p) - i:Nat):Int))) (fun h4 h4'=>(.u2 (.g (.two (decide ((((mid+p) - i:Nat):Int) < (b:Int))) (fun h5 h5'=>(.r (.ch 5 [(o_ g 9 (List.map j5.row (mAt (ltF cmp) mid ((mid+p) - i) b l)))] (ih_at mid ((mid+p) - i) b n g l eB C8 C8 C8 C8 C8 dZ dY []) (.q 1 (AV.tup []) J7)))) (fun h5 h5'=>(.q 1 (AV.tup []) J7)))))) (fun h4 h4'=>(.n2 (.g (.n (.q 1 (AV.tup []) J7)))))))))))))))) (fun h1 h1'=>(.n2 (.rn (.two (decide ((a:Int) < (i:Int))) (fun h2 h2'=>(.u2 (.g (.two (decide ((i:Int) < (mid:Int))) (fun h3 h3'=>(.r (.ch 5 [(o_ g 9 (List.map j5.row (mAt (ltF cmp) a i mid l)))] (ih_at a i mid n g l a2t C8 C8 C8 C8 C8 a2s a2r []) (.s (.two (decide ((mid:Int) < (((mid+p) - i:Nat):Int))) (fun h4 h4'=>(.u2 (.g (.two (decide ((((mid+p) - i:Nat):Int) < (b:Int))) (fun h5 h5'=>(.r (.ch 5 [(o_ g 9 (List.map j5.row (mAt (ltF cmp) mid ((mid+p) - i) b (mAt (ltF cmp) a i mid l))))] (ih_at mid ((mid+p) - i) b n g (mAt (ltF cmp) a i mid l) eB C8 C8 C8 C8 C8 dZ dY []) (.q 1 (AV.tup []) J7)))) (fun h5 h5'=>(.q 1 (AV.tup []) J7)))))) (fun h4 h4'=>(.n2 (.g (.n (.q 1 (AV.tup []) J7)))))))))) (fun h3 h3'=>(.r (.two (decide ((mid:Int) < (((mid+p) - i:Nat):Int))) (fun h4 h4'=>(.u2 (.g (.two (decide ((((mid+p) - i:Nat):Int) < (b:Int))) (fun h5 h5'=>(.r (.ch 5 [(o_ g 9 (List.map j5.row (mAt (ltF cmp) mid ((mid+p) - i) b l)))] (ih_at mid ((mid+p) - i) b n g l eB C8 C8 C8 C8 C8 dZ dY []) (.q 1 (AV.tup []) J7)))) (fun h5 h5'=>(.q 1 (AV.tup []) J7)))))) (fun h4 h4'=>(.n2 (.g (.n (.q 1 (AV.tup []) J7)))))))))))) (fun h2 h2'=>(.n2 (.rn (.two (decide ((mid:Int) < (((mid+p) - i:Nat):Int))) (fun h3 h3'=>(.u2 (.g (.two (decide ((((mid+p) - i:Nat):Int) < (b:Int))) (fun h4 h4'=>(.r (.ch 5 [(o_ g 9 (List.map j5.row (mAt (ltF cmp) mid ((mid+p) - i) b l)))] (ih_at mid ((mid+p) - i) b n g l eB C8 C8 C8 C8 C8 dZ dY []) (.q 1 (AV.tup []) J7)))) (fun h4 h4'=>(.q 1 (AV.tup []) J7)))))) (fun h3 h3'=>(.n2 (.g (.n (.q 1 (AV.tup []) J7))))))))))))))))))))))))))))))))))))))
set_option maxHeartbeats 4000000 in
theorem b8U (cmp:j5->j5->Int) (f:Nat) (xs:List AV) (A L1 L2 R1 R2 B:l9C) (a p b n g i mid Nz:Nat) (l:l9C) (hc:h9C cmp f xs) (hxs:AV.bdds 1 xs=true) (hn:n=l.length) (hnb:n < 1048576) (ih_at:∀ (a p b n g:Nat) (l:l9C),n=l.length->n < 1048576->a < p->p < b->b<=n->b - a < Nz->Srt (ltF cmp) ((l.drop a).take (p - a))->Srt (ltF cmp) ((l.drop p).take (b - p))->∀ H:Heap,AC 216 [(AV.osl 0 g 9 0 n),(AV.int .i64 (a:Int)),(AV.int .i64 (p:Int)),(AV.int .i64 (b:Int)),(AV.func f xs)] (([(o_ g 9 (List.map j5.row l))]:Heap)++H) (.tup [],([(o_ g 9 (List.map j5.row (mAt (ltF cmp) a p b l)))]:Heap)++H)) (hl:l=A++(L1++(L2++(R1++(R2++B))))) (hA:a=A.length) (hi:i=a+L1.length) (hp:p=i+L2.length) (hR1:mid=i+R1.length) (hb:b=p+R1.length+R2.length) (hbn:b<=n) (hap:a < p) (hpb:p < b) (h1:p≠a+1) (h2:b≠p+1) (hmid:mid=(a+b) / 2) (hNz:b - a<=Nz) (hgt:p<=mid) (hs:i=bsr (fun c=>!decide (cmp (nth l (mid+p - 1 - c)) (nth l c) < 0)) (p - (a)) (a) p) (hlo:a<=i) (hhi:i<=p) (q1:Srt (ltF cmp) L1) (q2:Srt (ltF cmp) L2) (q3:Srt (ltF cmp) R1) (q4:Srt (ltF cmp) R2):AC 216 [(AV.osl 0 g 9 0 n),(AV.int .i64 (a:Int)),(AV.int .i64 (p:Int)),(AV.int .i64 (b:Int)),(AV.func f xs)] [(o_ g 9 (List.map j5.row l))] ((AV.tup []),[(o_ g 9 (List.map j5.row (A++(mg (ltF cmp) L1 R1++(mg (ltF cmp) L2 R2++B)))))]):=by
 have hll:n=A.length+L1.length+L2.length+R1.length+R2.length+B.length:=by rw [hn,hl]; simp; omega
 have e1:=sm1 A L1 L2 R1 R2 B hl (s:=i) (m:=p) (e:=mid+p - i) ow hp ow
 have e2:=sm2 (ltF cmp) A L1 R1 (L2++(R2++B)) (a:=a) (s:=i) (mid:=mid) hA hi hR1
 have e3:=sm3 (ltF cmp) A (mg (ltF cmp) L1 R1) L2 R2 B (mid:=mid) (e:=mid+p - i) (b:=b) (by rw [rV]; omega) ow ow
 have hrot:0 < L2.length->0 < R1.length->_:=a3u (A++L1) L2 R1 (R2++B) (l:=l) (by rw [hl]; simp) (a:=i) (m:=p) (b:=mid+p - i) yh_ hp ow
 have hlen2:(A++(mg (ltF cmp) L1 R1++(L2++(R2++B)))).length=n:=by rw [hll]; simp [rV]; omega
 have hlen1:(A++(L1++(R1++(L2++(R2++B))))).length=n:=by rw [hll]; simp; omega
 exact q9 (fn:=Tryz.f216) (ann:=V3) (Has.o Tryz.func216) (.r (.y 2 (iW ((p:Int) - (a:Int))) (AV.int .i64 ((p - a:Nat):Int)) Yes.o (.y 3 (AV.bool (((p - a:Nat):Int) == 1)) (AV.bool false) (Yes.b a2u) (.rn (.y 2 (iW ((b:Int) - (p:Int))) (AV.int .i64 ((b - p:Nat):Int)) Yes.o (.y 3 (AV.bool (((b - p:Nat):Int) == 1)) (AV.bool false) (Yes.b a2u) (.rn (.y 2 (iW ((a:Int)+(b:Int))) (AV.int .i64 ((a+b:Nat):Int)) Yes.o (.y 5 (iW (Int.fdiv (IntKind.u64.wrap ((a+b:Nat):Int)) (2 ^ (min (Int.toNat 1) 64)))) (AV.int .i64 (mid:Int)) (Yes.int (oN ow ow)) (.s (.y 2 (iW ((mid:Int)+(p:Int))) (AV.int .i64 ((mid+p:Nat):Int)) Yes.o (.s (.s (.y 2 (AV.bool (decide ((p:Int) > (mid:Int)))) (AV.bool false) (Yes.b (by exact decide_eq_false ow)) (.rn (.s (.s (.y 1 (iW (((mid+p:Nat):Int) - 1)) (AV.int .i64 ((mid+p - 1:Nat):Int)) Yes.o (.g (.loop (a4U g n a p b f xs mid i) (show l7 (l9 Tryz.prog (X V3) (y7 Tryz.f216 4)) (some [0,1,2,3,4,18,19,20,21,22]) (some [0,1,2,3,4,18,19,20]) (mkF 220 [(0,(AV.osl 0 g 9 0 n)),(1,(AV.int .i64 (a:Int))),(2,(AV.int .i64 (p:Int))),(3,(AV.int .i64 (b:Int))),(4,(AV.func f xs)),(18,(AV.int .i64 (mid:Int))),(19,(AV.int .i64 ((mid+p:Nat):Int))),(20,(AV.int .i64 (a:Int))),(21,(AV.int .i64 (p:Int))),(22,(AV.int .i64 ((mid+p - 1:Nat):Int)))]) [(o_ g 9 (List.map j5.row l))] (.exit 8) (a4U g n a p b f xs mid i) [(o_ g 9 (List.map j5.row l))] from (by rw [hs]; exact a5u cmp f xs hc a p b mid (mid+p) (mid+p - 1) n g l hn hnb (p - (a)) a p ow ow ow)) (.r (.y 2 (iW ((((mid+p):Nat):Int) - (i:Int))) (AV.int .i64 (((mid+p) - i:Nat):Int)) Yes.o (.s (.two (decide ((i:Int) < (p:Int))) (fun h1 h1'=>(.u2 (.g (.two (decide ((p:Int) < (((mid+p) - i:Nat):Int))) (fun h2 h2'=>(.r (.ch 5 (b3p g i p mid l) (b5g f xs i p ((mid+p) - i) n g l C8 C8 C8 C8 C8 C8 ((hrot ow ow).1) ((hrot ow ow).2.1) ((hrot ow ow).2.2) []) (.s (.two (decide ((a:Int) < (i:Int))) (fun h3 h3'=>(.u2 (.g (.two (decide ((i:Int) < (mid:Int))) (fun h4 h4'=>(.r (.ch 5 [(o_ g 9 (List.map j5.row (mAt (ltF cmp) a i mid (Y9 i p ((mid+p) - i) l))))] (ih_at a i mid n g (Y9 i p ((mid+p) - i) l) a2t C8 C8 C8 C8 C8 a2s a2r []) (.s (.two (decide ((mid:Int) < (((mid+p) - i:Nat):Int))) (fun h5 h5'=>(.u2 (.g (.two (decide ((((mid+p) - i:Nat):Int) < (b:Int))) (fun h6 h6'=>(.r (.ch 5 [(o_ g 9 (List.map j5.row (mAt (ltF cmp) mid ((mid+p) - i) b (mAt (ltF cmp) a i mid (Y9 i p ((mid+p) - i) l)))))] (ih_at mid ((mid+p) - i) b n g (mAt (ltF cmp) a i mid (Y9 i p ((mid+p) - i) l)) eB C8 C8 C8 C8 C8 dZ dY []) (.q 1 (AV.tup []) J7)))) (fun h6 h6'=>(.q 1 (AV.tup []) J7)))))) (fun h5 h5'=>(.n2 (.g (.n (.q 1 (AV.tup []) J7)))))))))) (fun h4 h4'=>(.r (.two (decide ((mid:Int) < (((mid+p) - i:Nat):Int))) (fun h5 h5'=>(.u2 (.g (.two (decide ((((mid+p) - i:Nat):Int) < (b:Int))) (fun h6 h6'=>(.r (.ch 5 [(o_ g 9 (List.map j5.row (mAt (ltF cmp) mid ((mid+p) - i) b (Y9 i p ((mid+p) - i) l))))] (ih_at mid ((mid+p) - i) b n g (Y9 i p ((mid+p) - i) l) eB C8 C8 C8 C8 C8 dZ dY []) (.q 1 (AV.tup []) J7)))) (fun h6 h6'=>(.q 1 (AV.tup []) J7)))))) (fun h5 h5'=>(.n2 (.g (.n (.q 1 (AV.tup []) J7)))))))))))) (fun h3 h3'=>(.n2 (.rn (.two (decide ((mid:Int) < (((mid+p) - i:Nat):Int))) (fun h4 h4'=>(.u2 (.g (.two (decide ((((mid+p) - i:Nat):Int) < (b:Int))) (fun h5 h5'=>(.r (.ch 5 [(o_ g 9 (List.map j5.row (mAt (ltF cmp) mid ((mid+p) - i) b (Y9 i p ((mid+p) - i) l))))] (ih_at mid ((mid+p) - i) b n g (Y9 i p ((mid+p) - i) l) eB C8 C8 C8 C8 C8 dZ dY []) (.q 1 (AV.tup []) J7)))) (fun h5 h5'=>(.q 1 (AV.tup []) J7)))))) (fun h4 h4'=>(.n2 (.g (.n (.q 1 (AV.tup []) J7)))))))))))))) (fun h2 h2'=>(.r (.two (decide ((a:Int) < (i:Int))) (fun h3 h3'=>(.u2 (.g (.two (decide ((i:Int) < (mid:Int))) (fun h4 h4'=>(.r (.ch 5 [(o_ g 9 (List.map j5.row (mAt (ltF cmp) a i mid l)))] (ih_at a i mid n g l a2t C8 C8 C8 C8 C8 a2s a2r []) (.s (.two (decide ((mid:Int) < (((mid+p) - i:Nat):Int))) (fun h5 h5'=>(.u2 (.g (.two (decide ((((mid+p) - i:Nat):Int) < (b:Int))) (fun h6 h6'=>(.r (.ch 5 [(o_ g 9 (List.map j5.row (mAt (ltF cmp) mid ((mid+p) - i) b (mAt (ltF cmp) a i mid l))))] (ih_at mid ((mid+p) - i) b n g (mAt (ltF cmp) a i mid l) eB C8 C8 C8 C8 C8 dZ dY []) (.q 1 (AV.tup []) J7)))) (fun h6 h6'=>(.q 1 (AV.tup []) J7)))))) (fun h5 h5'=>(.n2 (.g (.n (.q 1 (AV.tup []) J7)))))))))) (fun h4 h4'=>(.r (.two (decide ((mid:Int) < (((mid+p) - i:Nat):Int))) (fun h5 h5'=>(.u2 (.g (.two (decide ((((mid+p) - i:Nat):Int) < (b:Int))) (fun h6 h6'=>(.r (.ch 5 [(o_ g 9 (List.map j5.row (mAt (ltF cmp) mid ((mid+p) - i) b l)))] (ih_at mid ((mid+p) - i) b n g l eB C8 C8 C8 C8 C8 dZ dY []) (.q 1 (AV.tup []) J7)))) (fun h6 h6'=>(.q 1 (AV.tup []) J7)))))) (fun h5 h5'=>(.n2 (.g (.n (.q 1 (AV.tup []) J7)))))))))))) (fun h3 h3'=>(.n2 (.rn (.two (decide ((mid:Int) < (((mid+p) - i:Nat):Int))) (fun h4 h4'=>(.u2 (.g (.two (decide ((((mid+p) - i:Nat):Int) < (b:Int))) (fun h5 h5'=>(.r (.ch 5 [(o_ g 9 (List.map j5.row (mAt (ltF cmp) mid ((mid+p) - i) b l)))] (ih_at mid ((mid+p) - i) b n g l eB C8 C8 C8 C8 C8 dZ dY []) (.q 1 (AV.tup []) J7)))) (fun h5 h5'=>(.q 1 (AV.tup []) J7)))))) (fun h4 h4'=>(.n2 (.g (.n (.q 1 (AV.tup []) J7)))))))))))))))) (fun h1 h1'=>(.n2 (.rn (.two (decide ((a:Int) < (i:Int))) (fun h2 h2'=>(.u2 (.g (.two (decide ((i:Int) < (mid:Int))) (fun h3 h3'=>(.r (.ch 5 [(o_ g 9 (List.map j5.row (mAt (ltF cmp) a i mid l)))] (ih_at a i mid n g l a2t C8 C8 C8 C8 C8 a2s a2r []) (.s (.two (decide ((mid:Int) < (((mid+p) - i:Nat):Int))) (fun h4 h4'=>(.u2 (.g (.two (decide ((((mid+p) - i:Nat):Int) < (b:Int))) (fun h5 h5'=>(.r (.ch 5 [(o_ g 9 (List.map j5.row (mAt (ltF cmp) mid ((mid+p) - i) b (mAt (ltF cmp) a i mid l))))] (ih_at mid ((mid+p) - i) b n g (mAt (ltF cmp) a i mid l) eB C8 C8 C8 C8 C8 dZ dY []) (.q 1 (AV.tup []) J7)))) (fun h5 h5'=>(.q 1 (AV.tup []) J7)))))) (fun h4 h4'=>(.n2 (.g (.n (.q 1 (AV.tup []) J7)))))))))) (fun h3 h3'=>(.r (.two (decide ((mid:Int) < (((mid+p) - i:Nat):Int))) (fun h4 h4'=>(.u2 (.g (.two (decide ((((mid+p) - i:Nat):Int) < (b:Int))) (fun h5 h5'=>(.r (.ch 5 [(o_ g 9 (List.map j5.row (mAt (ltF cmp) mid ((mid+p) - i) b l)))] (ih_at mid ((mid+p) - i) b n g l eB C8 C8 C8 C8 C8 dZ dY []) (.q 1 (AV.tup []) J7)))) (fun h5 h5'=>(.q 1 (AV.tup []) J7)))))) (fun h4 h4'=>(.n2 (.g (.n (.q 1 (AV.tup []) J7)))))))))))) (fun h2 h2'=>(.n2 (.rn (.two (decide ((mid:Int) < (((mid+p) - i:Nat):Int))) (fun h3 h3'=>(.u2 (.g (.two (decide ((((mid+p) - i:Nat):Int) < (b:Int))) (fun h4 h4'=>(.r (.ch 5 [(o_ g 9 (List.map j5.row (mAt (ltF cmp) mid ((mid+p) - i) b l)))] (ih_at mid ((mid+p) - i) b n g l eB C8 C8 C8 C8 C8 dZ dY []) (.q 1 (AV.tup []) J7)))) (fun h4 h4'=>(.q 1 (AV.tup []) J7)))))) (fun h3 h3'=>(.n2 (.g (.n (.q 1 (AV.tup []) J7)))))))))))))))))))))))))))))))))))))
end Go.Proofs.YtmghjcbabebanaaGreat.AM
namespace Go.Proofs.YtmghjcbabebanaaGreat.AM
open Go
section
variable {α:Type} [Inhabited α] {lt:α->α->Bool}
theorem Y1.irr (W:Y1 lt) (a:α):lt a a=false:=by
 cases h:lt a a with
 | false=>rfl
 | true=>have:=W.asymm a a h; rw [h] at this; exact this
theorem four {l:List α} {a m b:Nat} (ham:a<=m) (hmb:m<=b):l=l.take a++((l.drop a).take (m - a)++((l.drop m).take (b - m)++l.drop b)):=by
 have h1:(l.drop m).take (b - m)++l.drop b=l.drop m:=by
  have:=List.take_append_drop (b - m) (l.drop m)
  rw [List.drop_drop,show m+(b - m)=b by omega] at this
  exact this
 have h2:(l.drop a).take (m - a)++l.drop m=l.drop a:=by
  have:=List.take_append_drop (m - a) (l.drop a)
  rw [List.drop_drop,show a+(m - a)=m by omega] at this
  exact this
 rw [h1,h2,List.take_append_drop]
theorem a0s {l:List α} {a k i:Nat} (hi:i < k):nth ((l.drop a).take k) i=nth l (a+i):=by rw [bR hi,kN]
theorem oK {l:List α} {a k:Nat} (h:a+k<=l.length):((l.drop a).take k).length=k:=by simp; omega
theorem uF {l:List α} {a k:Nat} {x:α} (h:a+k<=l.length) (hx:x∈(l.drop a).take k):∃ i,a<=i/\i < a+k/\nth l i=x:=by
 obtain ⟨i,hi,rfl⟩:=U6 hx
 rw [oK h] at hi
 exact ⟨a+i,by omega,by omega,(a0s hi).symm⟩
theorem a1b {l:List α} {a k:Nat} (W:Y1 lt) (h:a+k<=l.length) (hs:Srt lt ((l.drop a).take k)) {i j:Nat} (h1:a<=i) (h2:i<=j) (h3:j < a+k):lt (nth l j) (nth l i)=false:=by
 rcases Nat.lt_or_ge i j with h4 | h4
 · have:=wB.1 hs (i - a) (j - a) ya_ (by rw [oK h]; omega)
   rw [a0s ya_,a0s ya_] at this
   rwa [show a+(i - a)=i by omega,show a+(j - a)=j by omega] at this
 · obtain rfl:i=j:=by omega
   exact W.irr _
theorem iD {l:List α} {a k s:Nat} (hs:s<=k):(l.drop a).take k=(l.drop a).take s++(l.drop (a+s)).take (k - s):=by
 have:=List.take_append_drop s ((l.drop a).take k)
 rw [List.take_take,Nat.min_eq_left hs,List.drop_take,List.drop_drop] at this
 exact this.symm
theorem a8X {l:List α} {a k s:Nat} (hs:s<=k) (h:Srt lt ((l.drop a).take k)):Srt lt ((l.drop a).take s)/\Srt lt ((l.drop (a+s)).take (k - s)):=by
 rw [iD hs] at h
 have:=List.pairwise_append.1 h
 exact ⟨this.1,this.2.1⟩
theorem a0A (W:Y1 lt) {x y u v:α} (h1:lt u y=false) (h2:lt u v=true) (h3:lt x v=false):lt y x=true:=by
 cases h:lt y x with
 | true=>rfl
 | false =>
  have h4:=W.trans v x y h3 h
  have h5:=W.trans v y u h4 h1
  rw [h2] at h5; simp at h5
theorem a0t (W:Y1 lt) {l:List α} {a p b s e:Nat} (ham:a<=p) (hpb:p<=b) (hbl:b<=l.length) (h7:Srt lt ((l.drop a).take (p - a))) (h8:Srt lt ((l.drop p).take (b - p))) (has:a<=s) (hsp:s<=p) (hpe:p<=e) (heb:e<=b)
 (k1:s < p->p < e->lt (nth l (e - 1)) (nth l s)=true) (k2:a < s->e < b->lt (nth l e) (nth l (s - 1))=false) :
 mAt lt a p b l=l.take a++(mg lt ((l.drop a).take (s - a)) ((l.drop p).take (e - p))++(mg lt ((l.drop s).take (p - s)) ((l.drop e).take (b - e))++l.drop b)):=by
 unfold mAt
 have c1:=iD (l:=l) (a:=a) (k:=p - a) (s:=s - a) ya_
 have c2:=iD (l:=l) (a:=p) (k:=b - p) (s:=e - p) ya_
 rw [show a+(s - a)=s by omega,show p - a - (s - a)=p - s by omega] at c1
 rw [show p+(e - p)=e by omega,show b - p - (e - p)=b - e by omega] at c2
 rw [c1,c2,a0y lt _ _ _ (Nat.le_refl _) (fun x hx y hy=>?_) (fun x hx y hy=>?_),List.append_assoc]
 · obtain ⟨i,i1,i2,rfl⟩:=uF ya_ hx
   obtain ⟨j,j1,j2,rfl⟩:=uF ya_ hy
   exact a0A W (a1b W ya_ h8 (i:=j) (j:=e - 1) ya_ ya_ ya_) (k1 ya_ ya_) (a1b W ya_ h7 (i:=s) (j:=i) ya_ ya_ ya_)
 · obtain ⟨i,i1,i2,rfl⟩:=uF ya_ hx
   obtain ⟨j,j1,j2,rfl⟩:=uF ya_ hy
   have q1:=a1b W ya_ h7 (i:=i) (j:=s - 1) ya_ ya_ ya_
   have q2:=a1b W ya_ h8 (i:=e) (j:=j) ya_ ya_ ya_
   exact W.trans _ _ _ (W.trans _ _ _ q1 (k2 ya_ ya_)) q2
theorem b9w {x:α} {R:List α} (h:∀ y,R.head?=some y->lt y x=false):mg lt [x] R=x :: R:=by
 cases R with
 | nil=>rw [dI]
 | cons y R=>rw [iP,if_neg (by rw [h y rfl]; simp),Y5]
theorem b9v {y:α} {L:List α} (h:∀ x,L.head?=some x->lt y x=true):mg lt L [y]=y :: L:=by
 cases L with
 | nil=>rw [Y5]
 | cons x L=>rw [iP,if_pos (h x rfl),dI]
theorem a5G {l:List α} {a:Nat} (h:a < l.length):(l.drop a).take 1=[nth l a]:=by rw [aY h]; rfl
theorem a3S {l:List α} {a k:Nat} {x:α} (h:((l.drop a).take k).head?=some x) (hl:a+k<=l.length):0 < k/\x=nth l a:=by
 cases k with
 | zero=>simp at h
 | succ k =>
  rw [aY ya_] at h
  simp at h
  exact ⟨by omega,h.symm⟩
theorem c4z (W:Y1 lt) {S T:List α} (hS:Srt lt S) (hT:Srt lt T) (y:α):mg lt S (Y3 lt T y)=Y3 lt (mg lt S T) y:=by
 have fS:S=S.filter (fun z=>!lt y z)++S.filter (fun z=>lt y z):=by
  clear hT
  induction S with
  | nil=>rfl
  | cons z S ih =>
   have h:=List.pairwise_cons.1 hS
   have ih':=ih h.2
   by_cases c:lt y z=true
   · have hall:∀ w∈S,lt y w=true:=fun w hw=>a0A W (W.irr y) c (h.1 w hw)
     have e1:S.filter (fun z=>!lt y z)=[]:=List.filter_eq_nil_iff.2 fun w hw=>by simp [hall w hw]
     have e2:S.filter (fun z=>lt y z)=S:=List.filter_eq_self.2 fun w hw=>hall w hw
     simp [List.filter_cons,c,e1,e2]
   · simp only [Bool.not_eq_true] at c
     conv=>lhs; rw [ih']
     simp [List.filter_cons,c]
 have fT:T=T.filter (fun z=>!lt y z)++T.filter (fun z=>lt y z):=by
  clear hS fS
  induction T with
  | nil=>rfl
  | cons z T ih =>
   have h:=List.pairwise_cons.1 hT
   have ih':=ih h.2
   by_cases c:lt y z=true
   · have hall:∀ w∈T,lt y w=true:=fun w hw=>a0A W (W.irr y) c (h.1 w hw)
     have e1:T.filter (fun z=>!lt y z)=[]:=List.filter_eq_nil_iff.2 fun w hw=>by simp [hall w hw]
     have e2:T.filter (fun z=>lt y z)=T:=List.filter_eq_self.2 fun w hw=>hall w hw
     simp [List.filter_cons,c,e1,e2]
   · simp only [Bool.not_eq_true] at c
     conv=>lhs; rw [ih']
     simp [List.filter_cons,c]
 have m1:∀ z∈S.filter (fun z=>!lt y z),lt y z=false:=fun z hz=>by simpa using (List.mem_filter.1 hz).2
 have m2:∀ z∈S.filter (fun z=>lt y z),lt y z=true:=fun z hz=>(List.mem_filter.1 hz).2
 have m3:∀ z∈T.filter (fun z=>!lt y z),lt y z=false:=fun z hz=>by simpa using (List.mem_filter.1 hz).2
 have m4:∀ z∈T.filter (fun z=>lt y z),lt y z=true:=fun z hz=>(List.mem_filter.1 hz).2
 rw [b1o W hT y]
 generalize hS1:S.filter (fun z=>!lt y z)=S1 at fS m1
 generalize hS2:S.filter (fun z=>lt y z)=S2 at fS m2
 generalize hT1:T.filter (fun z=>!lt y z)=T1 at fT m3
 generalize hT2:T.filter (fun z=>lt y z)=T2 at fT m4
 have cross:∀ x∈S2,∀ z∈T1,lt z x=true:=fun x hx z hz=>by
  cases h:lt z x with
  | true=>rfl
  | false=>have:=W.trans x z y h (m3 z hz); rw [m2 x hx] at this; simp at this
 have cross2:∀ x∈S1,∀ z∈T2,lt z x=false:=fun x hx z hz=>by
  have h1:=W.asymm _ _ (m4 z hz)
  exact W.trans x y z (m1 x hx) h1
 have e1:mg lt S T=mg lt S1 T1++mg lt S2 T2:=by
  rw [fS,fT]; exact a0y lt _ _ _ (Nat.le_refl _) cross cross2
 have e2:mg lt S (T1++y :: T2)=mg lt S1 T1++mg lt S2 (y :: T2):=by
  rw [fS]; exact a0y lt _ _ _ (Nat.le_refl _) cross fun x hx z hz=>by
   rcases List.mem_cons.1 hz with rfl | hz
   · exact m1 x hx
   · exact cross2 x hx z hz
 have e3:mg lt S2 (y :: T2)=y :: mg lt S2 T2:=by
  cases S2 with
  | nil=>rw [Y5,Y5]
  | cons x S2=>rw [iP,if_pos (m2 x yf_)]
 have p1:∀ z∈mg lt S1 T1,lt y z=false:=fun z hz=>by
  have:=(a2I lt _ S1 T1 (Nat.le_refl _)).mem_iff.1 hz
  rcases List.mem_append.1 this with h | h
  · exact m1 z h
  · exact m3 z h
 have p2:∀ z∈mg lt S2 T2,lt y z=true:=fun z hz=>by
  have:=(a2I lt _ S2 T2 (Nat.le_refl _)).mem_iff.1 hz
  rcases List.mem_append.1 this with h | h
  · exact m2 z h
  · exact m4 z h
 have ins:∀ (P Q:List α),(∀ z∈P,lt y z=false)->(∀ z∈Q,lt y z=true)->Y3 lt (P++Q) y=P++y :: Q:=fun P Q hP hQ=>by
  have hpos:Z0 lt y (P++Q) (P++Q).length=P.length:=by
   obtain ⟨s1,s2⟩:=wC lt y (P++Q) (P++Q).length
   have s3:=yG lt y (P++Q) (P++Q).length
   have hlen:(P++Q).length=P.length+Q.length:=List.length_append
   rcases Nat.lt_trichotomy (Z0 lt y (P++Q) (P++Q).length) P.length with h | h | h
   · have:=s1 _ (Nat.le_refl _) ya_
     rw [kP,if_pos h] at this
     rw [hP _ (iO h)] at this; simp at this
   · exact h
   · have:=s2 ya_
     rw [kP,if_neg ya_] at this
     rw [hQ _ (iO ya_)] at this; simp at this
  unfold Y3
  rw [hpos]
  simp
 rw [e2,e3,e1,ins _ _ p1 p2]
theorem a3o (W:Y1 lt) (Y:List α):∀ (X:List α),K5 lt (X++Y)=mg lt (K5 lt X) (K5 lt Y):=by
 intro X
 have key:∀ (Z T:List α),Srt lt T->mg lt (K5 lt X) (Z.foldl (Y3 lt) T)=Z.foldl (Y3 lt) (mg lt (K5 lt X) T):=by
  intro Z
  induction Z with
  | nil=>intro T _; rfl
  | cons z Z ih =>
   intro T hT
   simp only [List.foldl_cons]
   rw [ih _ (zP W hT z),c4z W (cB W X) hT]
 have:=key Y [] List.Pairwise.nil
 rw [dI] at this
 have e:K5 lt (X++Y)=Y.foldl (Y3 lt) (K5 lt X):=by unfold K5; rw [List.foldl_append]
 rw [e,<- this]
 rfl
end
open Go.Proofs.YtmghjcbabebanaaGreat
attribute [local irreducible] A8 C9 D7 F3 F7 G7 M0 M5 M8 N7 N8 O6 O7 P9 Q6 Q7 Tp.F9 Tp.G8 Tp.card Tp.cards Tp.key Tp.keyT Tp.next Tp.step X0 Y9 bsr cmpL j6 l7 l9 mg mgL shD shU sink z8
theorem a2q {p:Prop} (h:p:=by rw [oK ow]; omega):p:=h
theorem c4X (cmp:j5->j5->Int) (f:Nat) (xs:List AV) (hc:h9C cmp f xs) (hxs:AV.bdds 1 xs=true) (W:Y1 (ltF cmp)) (Nz:Nat):∀ (a p b n g:Nat) (l:l9C),n=l.length->n < 1048576->a < p->p < b->b<=n->b - a < Nz ->
 Srt (ltF cmp) ((l.drop a).take (p - a))->Srt (ltF cmp) ((l.drop p).take (b - p))->AC 216 [(AV.osl 0 g 9 0 n),(iN a),(iN p),(iN b),(AV.func f xs)] [(o_ g 9 (mC l))] (.tup [],[(o_ g 9 (mC (mAt (ltF cmp) a p b l)))]):=by
 induction Nz with
 | zero=>intro a p b n g l _ _ _ _ _ h; omega
 | succ Nz ih =>
  intro a p b n g l hn hnb hap hpb hbn hN h7 h8
  by_cases c1:p=a+1
  · obtain ⟨s1,s2,s3,s4⟩:=a0Q (fun c=>decide (cmp (nth l c) (nth l a) < 0)) (b - p) p b (Nat.le_refl _) ow
    generalize hs:bsr (fun c=>decide (cmp (nth l c) (nth l a) < 0)) (b - p) p b=s at s1 s2 s3 s4
    have hlaw:=a0t W (l:=l) (a:=a) (p:=p) (b:=b) (s:=a) (e:=s) ow ow ow h7 h8 ow ow s1 s2 (fun _ h=>s3 h) (fun h=>by omega)
    have hx:(l.drop a).take (p - a)=[nth l a]:=by rw [show p - a=1 by omega]; exact a5G ow
    rw [Nat.sub_self,List.take_zero,Y5,hx,b9w (fun y hy=>by
     obtain ⟨q1,q2⟩:=a3S hy ow
     rw [q2]; exact s4 ow)] at hlaw
    rw [hlaw]
    have hl:=four (l:=l) (a:=a) (m:=p) (b:=b) ow ow
    rw [hx,iD (l:=l) (a:=p) (k:=b - p) (s:=s - p) ow,show p+(s - p)=s by omega,show b - p - (s - p)=b - s by omega,List.append_assoc] at hl
    exact b8X cmp f xs (l.take a) ((l.drop p).take (s - p)) ((l.drop s).take (b - s)) (l.drop b) (nth l a) a p b n g s l hc hxs hn hnb hl yh_ c1 ow hbn a2q s2 hs.symm
  by_cases c2:b=p+1
  · obtain ⟨s1,s2,s3,s4⟩:=a0Q (fun c=>!decide (cmp (nth l p) (nth l c) < 0)) (p - a) a p (Nat.le_refl _) ow
    generalize hs:bsr (fun c=>!decide (cmp (nth l p) (nth l c) < 0)) (p - a) a p=s at s1 s2 s3 s4
    have hlaw:=a0t W (l:=l) (a:=a) (p:=p) (b:=b) (s:=s) (e:=p) ow ow ow h7 h8 s1 s2 ow ow (fun _ h=>by omega) (fun h _=>by have:=s3 h; simp only [Bool.not_eq_true'] at this; exact this)
    have hx:(l.drop p).take (b - p)=[nth l p]:=by rw [show b - p=1 by omega]; exact a5G ow
    rw [Nat.sub_self,List.take_zero,dI,hx,b9v (fun y hy=>by
     obtain ⟨q1,q2⟩:=a3S hy ow
     rw [q2]; simpa [ltF] using s4 ow)] at hlaw
    rw [hlaw]
    have hl:=four (l:=l) (a:=a) (m:=p) (b:=b) ow ow
    rw [hx,iD (l:=l) (a:=a) (k:=p - a) (s:=s - a) ow,show a+(s - a)=s by omega,show p - a - (s - a)=p - s by omega,List.append_assoc] at hl
    exact b8W cmp f xs (l.take a) ((l.drop a).take (s - a)) ((l.drop s).take (p - s)) (l.drop b) (nth l p) a p b n g s l hc hxs hn hnb hl yh_ a2q a2q c1 c2 hbn hs.symm
  have ih_at:∀ (a p b n g:Nat) (l:l9C),n=l.length->n < 1048576->a < p->p < b->b<=n->b - a < Nz->Srt (ltF cmp) ((l.drop a).take (p - a))->Srt (ltF cmp) ((l.drop p).take (b - p))->∀ H:Heap,AC 216 [(AV.osl 0 g 9 0 n),(iN a),(iN p),(iN b),(AV.func f xs)] (([(o_ g 9 (mC l))]:Heap)++H) (.tup [],([(o_ g 9 (mC (mAt (ltF cmp) a p b l)))]:Heap)++H) :=
   fun a p b n g l q1 q2 q3 q4 q5 q6 q7 q8 H=>(ih a p b n g l q1 q2 q3 q4 q5 q6 q7 q8).ext (by simp [AV.bdds,AV.bdd,hxs]) kr ob ob kr H
  obtain ⟨mid,hmid⟩:∃ mid,mid=(a+b) / 2:=⟨_,rfl⟩
  have go:∀ lo hi,lo<=hi->(∀ s,lo<=s->s<=hi->a<=s/\s<=p/\p<=mid+p - s/\mid+p - s<=b/\(s < p->p < mid+p - s->s < hi)/\(a < s->mid+p - s < b->lo < s)) ->
   (∀ s,s=bsr (fun c=>!decide (cmp (nth l (mid+p - 1 - c)) (nth l c) < 0)) (hi - lo) lo hi->lo<=s->s<=hi->∀ (L1 L2 R1 R2:l9C),l=l.take a++(L1++(L2++(R1++(R2++l.drop b))))->s=a+L1.length->p=s+L2.length->mid=s+R1.length->b=p+R1.length+R2.length->Srt (ltF cmp) L1->Srt (ltF cmp) L2->Srt (ltF cmp) R1->Srt (ltF cmp) R2 ->
    AC 216 [(AV.osl 0 g 9 0 n),(iN a),(iN p),(iN b),(AV.func f xs)] [(o_ g 9 (mC l))] (.tup [],([(o_ g 9 (mC (l.take a++(mg (ltF cmp) L1 R1++(mg (ltF cmp) L2 R2++l.drop b)))))]:Heap))) ->
   AC 216 [(AV.osl 0 g 9 0 n),(iN a),(iN p),(iN b),(AV.func f xs)] [(o_ g 9 (mC l))] (.tup [],([(o_ g 9 (mC (mAt (ltF cmp) a p b l)))]:Heap)):=by
   intro lo hi hlh hb walk
   obtain ⟨s1,s2,s3,s4⟩:=a0Q (fun c=>!decide (cmp (nth l (mid+p - 1 - c)) (nth l c) < 0)) (hi - lo) lo hi (Nat.le_refl _) hlh
   generalize hs:bsr (fun c=>!decide (cmp (nth l (mid+p - 1 - c)) (nth l c) < 0)) (hi - lo) lo hi=s at s1 s2 s3 s4
   obtain ⟨b1,b2,b3,b4,b5,b6⟩:=hb s s1 s2
   have hlaw:=a0t W (l:=l) (a:=a) (p:=p) (b:=b) (s:=s) (e:=mid+p - s) ow ow ow h7 h8 b1 b2 b3 b4 (fun h1 h2=>by
    have:=s4 (b5 h1 h2)
    simp only [Bool.not_eq_false'] at this
    rwa [show mid+p - 1 - s=mid+p - s - 1 by omega] at this) (fun h1 h2=>by
    have:=s3 (b6 h1 h2)
    simp only [Bool.not_eq_true'] at this
    rwa [show mid+p - 1 - (s - 1)=mid+p - s by omega] at this)
   rw [hlaw]
   have hl:=four (l:=l) (a:=a) (m:=p) (b:=b) ow ow
   rw [iD (l:=l) (a:=a) (k:=p - a) (s:=s - a) ow,show a+(s - a)=s by omega,show p - a - (s - a)=p - s by omega,
    iD (l:=l) (a:=p) (k:=b - p) (s:=mid+p - s - p) ow,show p+(mid+p - s - p)=mid+p - s by omega,show b - p - (mid+p - s - p)=b - (mid+p - s) by omega,List.append_assoc,List.append_assoc] at hl
   have q1:=a8X (l:=l) (a:=a) (k:=p - a) (s:=s - a) ow h7
   have q2:=a8X (l:=l) (a:=p) (k:=b - p) (s:=mid+p - s - p) ow h8
   rw [show a+(s - a)=s by omega,show p - a - (s - a)=p - s by omega] at q1
   rw [show p+(mid+p - s - p)=mid+p - s by omega,show b - p - (mid+p - s - p)=b - (mid+p - s) by omega] at q2
   exact walk s hs.symm s1 s2 _ _ _ _ hl a2q a2q a2q (by rw [oK ow,oK ow]; omega) q1.1 q1.2 q2.1 q2.2
  have hA:a=(l.take a).length:=by simp; omega
  by_cases hgt:mid < p
  · refine go (mid+p - b) mid ow (fun s h1 h2=>⟨by omega,by omega,by omega,by omega,fun _ _=>by omega,fun _ _=>by omega⟩) fun s hs h1 h2 L1 L2 R1 R2 hl e1 e2 e3 e4 q1 q2 q3 q4=>?_
    exact b8V cmp f xs (l.take a) L1 L2 R1 R2 (l.drop b) a p b n g s mid Nz l hc hxs hn hnb ih_at hl hA e1 e2 e3 e4 hbn hap hpb c1 c2 hmid ow hgt hs h1 h2 q1 q2 q3 q4
  · refine go a p ow (fun s h1 h2=>⟨by omega,by omega,by omega,by omega,fun _ _=>by omega,fun _ _=>by omega⟩) fun s hs h1 h2 L1 L2 R1 R2 hl e1 e2 e3 e4 q1 q2 q3 q4=>?_
    exact b8U cmp f xs (l.take a) L1 L2 R1 R2 (l.drop b) a p b n g s mid Nz l hc hxs hn hnb ih_at hl hA e1 e2 e3 e4 hbn hap hpb c1 c2 hmid ow ow hs h1 h2 q1 q2 q3 q4
end Go.Proofs.YtmghjcbabebanaaGreat.AM
namespace Go.Proofs.YtmghjcbabebanaaGreat.AM
open Go
section
variable {α:Type} [Inhabited α]
theorem b0b (cmp:α->α->Int) (X:List α) (j:Nat):∀ (l:List α),j < l.length->sink cmp X.length (X.length+j) (X++l)=X++sink cmp 0 j l:=by
 induction j with
 | zero =>
  intro l hl
  have h1:sink cmp X.length X.length (X++l)=X++l:=by
   cases h:X.length with
   | zero=>simp only [sink]
   | succ q=>simp only [sink]; rw [if_neg]; simp
  simpa [sink] using h1
 | succ j ih =>
  intro l hl
  have e1:nth (X++l) (X.length+j+1)=nth l (j+1):=by rw [kP,if_neg ya_]; congr 1; omega
  have e2:nth (X++l) (X.length+j)=nth l j:=by rw [kP,if_neg ya_]; congr 1; omega
  have L:sink cmp X.length (X.length+(j+1)) (X++l)=if decide (cmp (nth (X++l) (X.length+j+1)) (nth (X++l) (X.length+j)) < 0)=true then sink cmp X.length (X.length+j) (((X++l).set (X.length+j+1) (nth (X++l) (X.length+j))).set (X.length+j) (nth (X++l) (X.length+j+1))) else X++l:=by
   rw [<- Nat.add_assoc]; simp only [sink]; rw [if_pos yh_]
  have R:sink cmp 0 (j+1) l=if decide (cmp (nth l (j+1)) (nth l j) < 0)=true then sink cmp 0 j ((l.set (j+1) (nth l j)).set j (nth l (j+1))) else l:=by
   simp only [sink]; rw [if_pos yf_]
  rw [L,R,e1,e2]
  split
  · have e3:((X++l).set (X.length+j+1) (nth l j)).set (X.length+j) (nth l (j+1))=X++(l.set (j+1) (nth l j)).set j (nth l (j+1)):=by
     rw [List.set_append_right _ _ ya_,List.set_append_right _ _ ya_]
     congr 2
     · congr 1; omega
     · omega
    rw [e3]
    exact ih _ (by simpa using (by omega:j < l.length))
  · rfl
theorem a4u (cmp:α->α->Int) (X:List α) (k:Nat):∀ (i:Nat) (l:List α),i+k<=l.length->z8 cmp X.length k (X.length+i) (X++l)=X++z8 cmp 0 k i l:=by
 induction k with
 | zero=>intro i l _; simp only [z8]
 | succ k ih =>
  intro i l h
  simp only [z8]
  rw [b0b cmp X i l ya_]
  exact ih (i+1) _ (by rw [a0h]; omega)
theorem a8p (cmp:α->α->Int) (Y:List α) (rest:List α):∀ (S:List α),z8 cmp 0 rest.length S.length (S++(rest++Y))=rest.foldl (Y3 fun a b=>decide (cmp a b < 0)) S++Y:=by
 induction rest with
 | nil=>intro S; simp only [List.length_nil,z8,List.nil_append,List.foldl_nil]
 | cons x rest ih =>
  intro S
  simp only [List.length_cons,z8,List.foldl_cons]
  have h1:=a5k cmp S.length (S++(x :: rest++Y)) yf_
  have e1:(S++(x :: rest++Y)).take S.length=S:=by rw [List.take_append_of_le_length (Nat.le_refl _),List.take_length]
  have e2:nth (S++(x :: rest++Y)) S.length=x:=by rw [kP,if_neg ya_,Nat.sub_self]; rfl
  have e3:(S++(x :: rest++Y)).drop (S.length+1)=rest++Y:=by
   rw [<- List.drop_drop,List.drop_append_of_le_length (Nat.le_refl _),List.drop_length]; rfl
  rw [e1,e2,e3] at h1
  rw [h1]
  have:=ih (Y3 (fun a b=>decide (cmp a b < 0)) S x)
  rw [a6c] at this
  exact this
theorem wM (cmp:α->α->Int) (X M Y:List α) {a b:Nat} (ha:a=X.length) (hb:b=a+M.length):z8 cmp a (b - (a+1)) (a+1) (X++(M++Y))=X++(K5 (fun a b=>decide (cmp a b < 0)) M++Y):=by
 subst ha hb
 cases M with
 | nil=>rw [show X.length+([]:List α).length - (X.length+1)=0 by simp]; simp only [z8]; rfl
 | cons x M =>
  rw [show X.length+(x :: M).length - (X.length+1)=M.length by simp; omega,a4u cmp X M.length 1 (x :: M++Y) yh_]
  have:=a8p cmp Y M [x]
  simp only [List.length_singleton,List.singleton_append] at this
  rw [show x :: M++Y=x :: (M++Y) from rfl,this]
  have e:K5 (fun a b=>decide (cmp a b < 0)) (x :: M)=M.foldl (Y3 fun a b=>decide (cmp a b < 0)) [x]:=by
   unfold K5
   rw [List.foldl_cons]
   congr 1
  rw [e]
def blk (lt:α->α->Bool) (bs:Nat):Nat->List α->List α
 | 0,l=>l
 | K+1,l=>K5 lt (l.take bs)++blk lt bs K (l.drop bs)
theorem dB (lt:α->α->Bool) (l:List α):(K5 lt l).length=l.length:=(mY lt l).length_eq
theorem a9n (lt:α->α->Bool) (bs K:Nat):blk lt bs K ([]:List α)=[]:=by
 induction K with
 | zero=>rfl
 | succ K ih=>simp only [blk,List.take_nil,List.drop_nil]; rw [ih]; rfl
theorem sK (lt:α->α->Bool) (bs K:Nat):∀ (l:List α),(blk lt bs K l).length=l.length:=by
 induction K with
 | zero=>intro l; rfl
 | succ K ih=>intro l; simp only [blk,List.length_append]; rw [dB,ih,List.length_take,List.length_drop]; omega
theorem a6S (lt:α->α->Bool) (bs K:Nat):∀ (l:List α),K * bs<=l.length->∃ X,X.length=K * bs/\blk lt bs K l=X++l.drop (K * bs)/\∀ (D:Nat),blk lt bs (K+D) l=X++blk lt bs D (l.drop (K * bs)):=by
 induction K with
 | zero=>intro l h; exact ⟨[],by simp,by simp [blk],fun D=>by simp⟩
 | succ K ih =>
  intro l h
  rw [Nat.succ_mul] at h
  obtain ⟨X,h1,h2,h3⟩:=ih (l.drop bs) yh_
  refine ⟨K5 lt (l.take bs)++X,by rw [List.length_append,dB,h1,Nat.succ_mul]; simp; omega,?_,fun D=>?_⟩
  · simp only [blk]
    rw [h2,List.drop_drop,List.append_assoc,Nat.succ_mul,Nat.add_comm bs]
  · rw [show K+1+D=(K+D)+1 by omega]
    simp only [blk]
    rw [h3,List.drop_drop,List.append_assoc,Nat.succ_mul,Nat.add_comm bs]
theorem a6T (lt:α->α->Bool) (bs D:Nat) (K:Nat):∀ (l:List α),l.length<=K * bs->blk lt bs (K+D) l=blk lt bs K l:=by
 induction K with
 | zero=>intro l h; obtain rfl:l=[]:=List.eq_nil_of_length_eq_zero ya_; rw [a9n,a9n]
 | succ K ih =>
  intro l h
  rw [Nat.succ_mul] at h
  rw [show K+1+D=(K+D)+1 by omega]
  simp only [blk]
  rw [ih _ yh_]
def fM (lt:α->α->Bool) (bs:Nat) (l:List α):List α:=blk lt bs (l.length+1) l
theorem sN (lt:α->α->Bool) {bs K:Nat} (hb:0 < bs) {l:List α} (h:l.length<=K * bs):blk lt bs K l=fM lt bs l:=by
 unfold fM
 have h2:l.length<=(l.length+1) * bs:=Nat.le_trans (Nat.le_succ _) (Nat.le_mul_of_pos_right _ hb)
 rcases Nat.le_total K (l.length+1) with h1 | h1
 · obtain ⟨D,hD⟩:=Nat.le.dest h1
   rw [<- hD,a6T lt bs D K l h]
 · obtain ⟨D,hD⟩:=Nat.le.dest h1
   rw [<- hD,a6T lt bs D _ l h2]
theorem uY (lt:α->α->Bool) {bs:Nat} {l:List α} (h:l.length<=bs) (hb:0 < bs):fM lt bs l=K5 lt l:=by
 rw [<- sN lt (K:=1) hb ya_]
 simp only [blk]
 rw [List.take_of_length_le h,List.drop_of_length_le h,List.append_nil]
theorem xD (lt:α->α->Bool) {bs:Nat} (hb:0 < bs) (l:List α):fM lt bs l=K5 lt (l.take bs)++fM lt bs (l.drop bs):=by
 have h2:∀ q:Nat,q<=(q+1) * bs:=fun q=>Nat.le_trans (Nat.le_succ _) (Nat.le_mul_of_pos_right _ hb)
 rw [<- sN lt (K:=(l.length+1)+1) hb (Nat.le_trans (h2 _) (Nat.mul_le_mul_right _ (Nat.le_succ _)))]
 have e:blk lt bs (l.length+1+1) l=K5 lt (l.take bs)++blk lt bs (l.length+1) (l.drop bs):=rfl
 rw [e,sN lt hb (Nat.le_trans yf_ (h2 l.length))]
theorem c1s (lt:α->α->Bool) (bs:Nat) (l:List α):(fM lt bs l).length=l.length:=sK lt bs _ l
def mix (lt:α->α->Bool) (bs:Nat):Nat->List α->List α
 | 0,l=>fM lt bs l
 | J+1,l=>K5 lt (l.take (2 * bs))++mix lt bs J (l.drop (2 * bs))
theorem a5N (lt:α->α->Bool) {bs:Nat} (hb:0 < bs) (J:Nat):∀ (l:List α),J * (2 * bs)<=l.length->∃ X,X.length=J * (2 * bs)/\mix lt bs J l=X++fM lt bs (l.drop (J * (2 * bs)))/\mix lt bs (J+1) l=X++(K5 lt ((l.drop (J * (2 * bs))).take (2 * bs))++fM lt bs ((l.drop (J * (2 * bs))).drop (2 * bs)))/\∀ D,blk lt (2 * bs) (J+D) l=X++blk lt (2 * bs) D (l.drop (J * (2 * bs))):=by
 induction J with
 | zero=>intro l h; exact ⟨[],by simp,by simp [mix],by simp [mix],fun D=>by simp⟩
 | succ J ih =>
  intro l h
  rw [Nat.succ_mul] at h
  obtain ⟨X,h1,h2,h3,h4⟩:=ih (l.drop (2 * bs)) yh_
  have hmul:(J+1) * (2 * bs)=J * (2 * bs)+2 * bs:=Nat.succ_mul _ _
  have hd0:(l.drop (2 * bs)).drop (J * (2 * bs))=l.drop ((J+1) * (2 * bs)):=by rw [List.drop_drop,hmul,Nat.add_comm]
  refine ⟨K5 lt (l.take (2 * bs))++X,by rw [List.length_append,dB,h1,hmul,List.length_take]; omega,?_,?_,fun D=>?_⟩
  · rw [mix,h2,hd0,List.append_assoc]
  · rw [mix,h3,hd0,List.append_assoc]
  · rw [show J+1+D=(J+D)+1 by omega]
    simp only [blk]
    rw [h4,hd0,List.append_assoc]
theorem a2G (lt:α->α->Bool) (bs J:Nat):∀ (l:List α),(mix lt bs J l).length=l.length:=by
 induction J with
 | zero=>intro l; exact c1s lt bs l
 | succ J ih=>intro l; simp only [mix,List.length_append]; rw [dB,ih,List.length_take,List.length_drop]; omega
variable {lt:α->α->Bool}
theorem b4R (W:Y1 lt) {bs J:Nat} (hb:0 < bs) {l:List α} {a b:Nat} (ha:a=J * (2 * bs)) (hbe:b=a+2 * bs) (hn:b<=l.length) :
 mAt lt a (a+bs) b (mix lt bs J l)=mix lt bs (J+1) l/\Srt lt (((mix lt bs J l).drop a).take (a+bs - a))/\Srt lt (((mix lt bs J l).drop (a+bs)).take (b - (a+bs))):=by
 obtain ⟨X,h1,h2,h3,_⟩:=a5N lt hb J l ya_
 rw [<- ha] at h1 h2 h3
 rw [h2,h3,xD lt hb,xD lt hb ((l.drop a).drop bs)]
 have l1:(K5 lt ((l.drop a).take bs)).length=bs:=by rw [dB]; simp; omega
 have l2:(K5 lt (((l.drop a).drop bs).take bs)).length=bs:=by rw [dB]; simp; omega
 refine ⟨?_,?_,?_⟩
 · rw [wF lt X _ _ _ h1.symm ya_ ya_,<- a3o W]
   have e:(l.drop a).take bs++((l.drop a).drop bs).take bs=(l.drop a).take (2 * bs):=by
    rw [show 2 * bs=bs+bs by omega,List.take_add]
   rw [e,List.drop_drop,show bs+bs=2 * bs by omega]
 · rw [piece X _ _ h1.symm ya_]; exact cB W _
 · have:=piece (X++K5 lt ((l.drop a).take bs)) (K5 lt (((l.drop a).drop bs).take bs)) (fM lt bs (((l.drop a).drop bs).drop bs)) (a:=a+bs) (k:=b - (a+bs)) (by simp [l1,h1]) ya_
   rw [List.append_assoc] at this
   rw [this]; exact cB W _
theorem a5O (W:Y1 lt) {bs J:Nat} (hb:0 < bs) {l:List α} {a n:Nat} (ha:a=J * (2 * bs)) (hn:n=l.length) (han:a<=n) (hlt:n < a+2 * bs) :
 (a+bs < n->mAt lt a (a+bs) n (mix lt bs J l)=fM lt (2 * bs) l/\Srt lt (((mix lt bs J l).drop a).take (a+bs - a))/\Srt lt (((mix lt bs J l).drop (a+bs)).take (n - (a+bs))))/\(n<=a+bs->mix lt bs J l=fM lt (2 * bs) l):=by
 obtain ⟨X,h1,h2,_,h4⟩:=a5N lt hb J l ya_
 rw [<- ha] at h1 h2
 have h5:=h4 1
 rw [sN lt ya_ (by rw [Nat.succ_mul]; omega),<- ha] at h5
 simp only [blk] at h5
 rw [List.take_of_length_le yh_,List.drop_of_length_le (i:=2 * bs) yh_,List.append_nil] at h5
 rw [h2,h5]
 refine ⟨fun h=>?_,fun h=>?_⟩
 · rw [xD lt hb,uY lt (l:=(l.drop a).drop bs) yh_ hb]
   have l1:(K5 lt ((l.drop a).take bs)).length=bs:=by rw [dB]; simp; omega
   have l2:(K5 lt ((l.drop a).drop bs)).length=n - (a+bs):=by rw [dB]; simp; omega
   refine ⟨?_,?_,?_⟩
   · have:=wF lt X (K5 lt ((l.drop a).take bs)) (K5 lt ((l.drop a).drop bs)) [] (a:=a) (m:=a+bs) (b:=n) h1.symm ya_ ya_
     rw [List.append_nil,List.append_nil] at this
     rw [this,<- a3o W,List.take_append_drop]
   · rw [piece X _ _ h1.symm ya_]; exact cB W _
   · have:=piece (X++K5 lt ((l.drop a).take bs)) (K5 lt ((l.drop a).drop bs)) [] (a:=a+bs) (k:=n - (a+bs)) (by simp [l1,h1]) ya_
     rw [List.append_assoc,List.append_nil] at this
     rw [this]; exact cB W _
 · rw [uY lt yh_ hb]
end
section
variable {α:Type} [Inhabited α]
theorem b8E (cmp:α->α->Int) {l:List α} {j a b:Nat} (ha:a=j * 20) (hb:b=a+20) (hn:b<=l.length):z8 cmp a (b - (a+1)) (a+1) (blk (ltF cmp) 20 j l)=blk (ltF cmp) 20 (j+1) l:=by
 obtain ⟨X,h1,h2,h3⟩:=a6S (ltF cmp) 20 j l ya_
 have h4:blk (ltF cmp) 20 1 (l.drop (j * 20))=K5 (ltF cmp) ((l.drop (j * 20)).take 20)++(l.drop (j * 20)).drop 20:=by simp only [blk]
 rw [h2,h3 1,h4,<- ha]
 have:=wM cmp X ((l.drop a).take 20) ((l.drop a).drop 20) (a:=a) (b:=b) ya_ yh_
 rw [List.take_append_drop] at this
 exact this
theorem c4h (cmp:α->α->Int) {l:List α} {j a n:Nat} (ha:a=j * 20) (hn:n=l.length) (han:a<=n) (hlt:n < a+20):z8 cmp a (n - (a+1)) (a+1) (blk (ltF cmp) 20 j l)=fM (ltF cmp) 20 l:=by
 obtain ⟨X,h1,h2,h3⟩:=a6S (ltF cmp) 20 j l ya_
 have h4:blk (ltF cmp) 20 1 (l.drop (j * 20))=K5 (ltF cmp) ((l.drop (j * 20)).take 20)++(l.drop (j * 20)).drop 20:=by simp only [blk]
 rw [<- sN (ltF cmp) (bs:=20) (K:=j+1) ya_ ya_,h2,h3 1,h4,<- ha]
 have:=wM cmp X (l.drop a) [] (a:=a) (b:=n) ya_ yh_
 rw [List.append_nil,List.append_nil] at this
 rw [this,List.take_of_length_le yh_,List.drop_of_length_le (i:=20) yh_,List.append_nil]
 rfl
end
open Go.Proofs.YtmghjcbabebanaaGreat
attribute [local irreducible] A8 C9 D7 F3 F7 G7 K5 M0 M5 M8 N8 O6 O7 P9 Q6 Q7 Tp.F9 Tp.G8 Tp.card Tp.cards Tp.key Tp.keyT Tp.next Tp.step blk cmpL fM j6 l7 l9 mAt mg mgL mix sink z8
theorem b8Q (cmp:j5->j5->Int) (f:Nat) (xs:List AV) (a p b n g:Nat) (l:l9C) (hc:h9C cmp f xs) (hxs:AV.bdds 1 xs=true) (W:Y1 (ltF cmp)) (h1:n=l.length) (h2:n < 1048576) (h3:a < p) (h4:p < b) (h5:b<=n) (h7:Srt (ltF cmp) ((l.drop a).take (p - a))) (h8:Srt (ltF cmp) ((l.drop p).take (b - p))):AC 216 [(AV.osl 0 g 9 0 n),(iN a),(iN p),(iN b),(AV.func f xs)] [(o_ g 9 (mC l))] ((AV.tup []),[(o_ g 9 (mC (mAt (ltF cmp) a p b l)))]):=c4X cmp f xs hc hxs W (b - a+1) a p b n g l h1 h2 h3 h4 h5 ow h7 h8
theorem b4q (cmp:j5->j5->Int) (f:Nat) (xs:List AV) (a p b n g:Nat) (l:l9C) (hc:h9C cmp f xs) (hxs:AV.bdds 1 xs=true) (W:Y1 (ltF cmp)) (h1:n=l.length) (h2:n < 1048576) (h3:a < p) (h4:p < b) (h5:b<=n) (h7:Srt (ltF cmp) ((l.drop a).take (p - a))) (h8:Srt (ltF cmp) ((l.drop p).take (b - p))) (H:Heap):AC 216 [(AV.osl 0 g 9 0 n),(iN a),(iN p),(iN b),(AV.func f xs)] (([(o_ g 9 (mC l))]:Heap)++H) ((AV.tup []),([(o_ g 9 (mC (mAt (ltF cmp) a p b l)))]:Heap)++H):=(b8Q cmp f xs a p b n g l hc hxs W h1 h2 h3 h4 h5 h7 h8).ext vQ kr ob ob kr H
def dG:Ann:={ base:=1,fin:=some 1,live:=[(2,[0,1,2,6,7,8]),(7,[0,1,2,6]),(9,[0,1,2,6,7,8])],out:=[(2,[0,1,2,6,7]),(7,[]),(9,[0,1,2,6,7])] }
theorem iU {p:Prop} (h:p:=by first | exact hc | exact hxs | exact W | omega | (simp; omega)):p:=h
theorem a1p (cmp:j5->j5->Int) (f:Nat) (xs:List AV) (a b n g:Nat) (l:l9C) (hc:h9C cmp f xs) (hxs:AV.bdds 1 xs=true) (W:Y1 (ltF cmp)) (hn:n=l.length) (hnb:n < 524288) (hb:b=a+20) (han:a<=n) {eX:Ex} {FX:Fr} {HX:Heap} (k1:(decide ((b:Int)<=(n:Int)))=true->l7 (l9 Tryz.prog (X dG) (y7 Tryz.f206 0)) (some [0,1,2,6,7,8]) (some [0,1,2,6,7]) (mkF 63 [(0,(AV.osl 0 g 9 0 n)),(1,(iN n)),(2,(AV.func f xs)),(6,(iI 20)),(7,(iN b)),(8,(iN (b+20)))]) [(o_ g 9 (mC (z8 cmp a (b - (a+1)) (a+1) l)))] eX FX HX) (k2:(decide ((b:Int)<=(n:Int)))=false->((.exit 0:Ex),(mkF 63 [(0,(AV.osl 0 g 9 0 n)),(1,(iN n)),(2,(AV.func f xs)),(6,(iI 20)),(7,(iN a))]),[(o_ g 9 (mC l))])=(eX,FX,HX)):l7 (l9 Tryz.prog (X dG) (y7 Tryz.f206 0)) (some [0,1,2,6,7,8]) (some [0,1,2,6,7]) (mkF 63 [(0,(AV.osl 0 g 9 0 n)),(1,(iN n)),(2,(AV.func f xs)),(6,(iI 20)),(7,(iN a)),(8,(iN b))]) [(o_ g 9 (mC l))] eX FX HX :=
 K7 (.r (.g (.two (decide ((b:Int)<=(n:Int))) (fun h1 h1'=>(.r (.t 4 (AV.tup []) [(o_ g 9 (mC (z8 cmp a (b - (a+1)) (a+1) l)))] (a9j _ f xs a b n g l iU iU iU iU iU iU []:AC 215 [(AV.osl 0 g 9 0 n),(iN a),(iN b),(AV.func f xs)] [(o_ g 9 (mC l))] ((AV.tup []),([(o_ g 9 (mC (z8 cmp a (b - (a+1)) (a+1) l)))]:Heap))) (.s (.s (.h' [(o_ g 9 (mC (z8 cmp a (b - (a+1)) (a+1) l)))] (.y 2 (iW ((b:Int)+20)) (iN (b+20)) Yes.o (.g (.l (k1 h1)))))))))) (fun h1 h1'=>(.l (k2 h1))))))
theorem b0n (cmp:j5->j5->Int) (f:Nat) (xs:List AV) (hc:h9C cmp f xs) (hxs:AV.bdds 1 xs=true) (W:Y1 (ltF cmp)) (n g:Nat) (l0:l9C) (hn:n=l0.length) (hnb:n < 524288) (r:Nat):∀ (j a b:Nat) (l:l9C),j+r=n / 20->a=j * 20->b=a+20->l=blk (ltF cmp) 20 j l0 ->
 l7 (l9 Tryz.prog (X dG) (y7 Tryz.f206 0)) (some [0,1,2,6,7,8]) (some [0,1,2,6,7]) (mkF 63 [(0,(AV.osl 0 g 9 0 n)),(1,(iN n)),(2,(AV.func f xs)),(6,(iI 20)),(7,(iN a)),(8,(iN b))]) [(o_ g 9 (mC l))] (.exit 0) (mkF 63 [(0,(AV.osl 0 g 9 0 n)),(1,(iN n)),(2,(AV.func f xs)),(6,(iI 20)),(7,(iN ((n / 20 * 20))))]) [(o_ g 9 (mC (blk (ltF cmp) 20 (n / 20) l0)))]:=by
 induction r with
 | zero =>
  intro j a b l hj ha hb hl
  subst hl
  refine a1p cmp f xs a b n g _ hc hxs W (by rw [sK]; exact hn) hnb hb ow (fun h=>by simp at h; omega) (fun _=>?_)
  rw [show n / 20=j by omega,<- ha]
 | succ r ih =>
  intro j a b l hj ha hb hl
  subst hl
  refine a1p cmp f xs a b n g _ hc hxs W (by rw [sK]; exact hn) hnb hb ow (fun h=>?_) (fun h=>by simp at h; omega)
  rw [b8E cmp ha hb ow]
  exact ih (j+1) b (b+20) _ ow ow rfl rfl
theorem a1o (cmp:j5->j5->Int) (f:Nat) (xs:List AV) (bs a b n g:Nat) (l:l9C) (hc:h9C cmp f xs) (hxs:AV.bdds 1 xs=true) (W:Y1 (ltF cmp)) (hn:n=l.length) (hnb:n < 524288) (hb:b=a+2 * bs) (hbs:0 < bs) (hbn:bs < 524288) (han:a<=n) (hs7:b<=n->Srt (ltF cmp) ((l.drop a).take (a+bs - a))) (hs8:b<=n->Srt (ltF cmp) ((l.drop (a+bs)).take (b - (a+bs)))) {eX:Ex} {FX:Fr} {HX:Heap} (k1:(decide ((b:Int)<=(n:Int)))=true->l7 (l9 Tryz.prog (X dG) (y7 Tryz.f206 2)) (some [0,1,2,6,7,8]) (some [0,1,2,6,7]) (mkF 63 [(0,(AV.osl 0 g 9 0 n)),(1,(iN n)),(2,(AV.func f xs)),(6,(iN bs)),(7,(iN b)),(8,(iN (b+(2 * bs))))]) [(o_ g 9 (mC (mAt (ltF cmp) a (a+bs) b l)))] eX FX HX) (k2:(decide ((b:Int)<=(n:Int)))=false->((.exit 4:Ex),(mkF 63 [(0,(AV.osl 0 g 9 0 n)),(1,(iN n)),(2,(AV.func f xs)),(6,(iN bs)),(7,(iN a))]),[(o_ g 9 (mC l))])=(eX,FX,HX)):l7 (l9 Tryz.prog (X dG) (y7 Tryz.f206 2)) (some [0,1,2,6,7,8]) (some [0,1,2,6,7]) (mkF 63 [(0,(AV.osl 0 g 9 0 n)),(1,(iN n)),(2,(AV.func f xs)),(6,(iN bs)),(7,(iN a)),(8,(iN b))]) [(o_ g 9 (mC l))] eX FX HX :=
 K7 (.r (.g (.two (decide ((b:Int)<=(n:Int))) (fun h1 h1'=>(.r (.y 4 (.int .i64 (uR a bs)) (iN (a+bs)) Yes.o (.t 7 (AV.tup []) [(o_ g 9 (mC (mAt (ltF cmp) a (a+bs) b l)))] (b4q _ f xs a (a+bs) b n g l iU iU iU iU iU iU iU iU (hs7 b8n) (hs8 b8n) []:AC 216 [(AV.osl 0 g 9 0 n),(iN a),(iN (a+bs)),(iN b),(AV.func f xs)] [(o_ g 9 (mC l))] ((AV.tup []),([(o_ g 9 (mC (mAt (ltF cmp) a (a+bs) b l)))]:Heap))) (.s (.s (.h' [(o_ g 9 (mC (mAt (ltF cmp) a (a+bs) b l)))] (.y 2 (iW (2 * (bs:Int))) (iN (2 * bs)) Yes.o (.y 3 (iW ((b:Int)+((2 * bs:Nat):Int))) (iN (b+(2 * bs))) Yes.o (.g (.l (k1 h1)))))))))))) (fun h1 h1'=>(.l (k2 h1))))))
theorem b0m (cmp:j5->j5->Int) (f:Nat) (xs:List AV) (hc:h9C cmp f xs) (hxs:AV.bdds 1 xs=true) (W:Y1 (ltF cmp)) (bs n g:Nat) (l0:l9C) (hn:n=l0.length) (hnb:n < 524288) (hbs:0 < bs) (hbn:bs < 524288) (J:Nat) (hJ:J=n / (2 * bs)) (r:Nat):∀ (j a b:Nat) (l:l9C),j+r=J->a=j * (2 * bs)->b=a+2 * bs->l=mix (ltF cmp) bs j l0 ->
 l7 (l9 Tryz.prog (X dG) (y7 Tryz.f206 2)) (some [0,1,2,6,7,8]) (some [0,1,2,6,7]) (mkF 63 [(0,(AV.osl 0 g 9 0 n)),(1,(iN n)),(2,(AV.func f xs)),(6,(iN bs)),(7,(iN a)),(8,(iN b))]) [(o_ g 9 (mC l))] (.exit 4) (mkF 63 [(0,(AV.osl 0 g 9 0 n)),(1,(iN n)),(2,(AV.func f xs)),(6,(iN bs)),(7,(iN ((J * (2 * bs)))))]) [(o_ g 9 (mC (mix (ltF cmp) bs J l0)))]:=by
 have hdm:=Nat.div_mul_le_self n (2 * bs)
 have hlt:=Nat.lt_div_mul_add (a:=n) (b:=2 * bs) ow
 rw [<- hJ] at hdm hlt
 induction r with
 | zero =>
  intro j a b l hj ha hb hl
  subst hl
  obtain rfl:j=J:=by omega
  refine a1o cmp f xs bs a b n g _ hc hxs W (by rw [a2G]; exact hn) hnb hb hbs hbn ow (fun h=>by omega) (fun h=>by omega) (fun h=>by simp at h; omega) (fun _=>?_)
  rw [<- ha]
 | succ r ih =>
  intro j a b l hj ha hb hl
  subst hl
  have hmul:(j+1) * (2 * bs)=j * (2 * bs)+2 * bs:=Nat.succ_mul _ _
  have hle:(j+1) * (2 * bs)<=J * (2 * bs):=Nat.mul_le_mul_right _ ow
  obtain ⟨q1,q2,q3⟩:=b4R W hbs (l:=l0) ha hb ow
  refine a1o cmp f xs bs a b n g _ hc hxs W (by rw [a2G]; exact hn) hnb hb hbs hbn ow (fun _=>q2) (fun _=>q3) (fun h=>?_) (fun h=>by simp at h; omega)
  rw [q1]
  exact ih (j+1) b (b+2 * bs) _ ow ow rfl rfl
@[simp] abbrev c3H (a:Nat) (b:Nat) (c:Nat) (d:List AV) (e:Nat):Fr:=(mkF 63 [(0,(AV.osl 0 a 9 0 b)),(1,(iN b)),(2,(AV.func c d)),(6,(iN (e * 2)))])
@[simp] abbrev c7q (a:Nat) (b:Nat) (c:Nat) (d:List AV) (e:Nat) (f:Nat):Fr:=(mkF 63 [(0,(AV.osl 0 a 9 0 b)),(1,(iN b)),(2,(AV.func c d)),(6,(iN e)),(7,(iN ((f * (2 * e)))))])
theorem a2p {p:Prop} (h:p:=by first | exact hc | exact hxs | exact W | omega | (rw [a2G]; exact hn) | (simp; omega)):p:=h
theorem a9B {p:Prop} (h:p:=by have:=of_decide_eq_true h2; omega):p:=h
@[simp] abbrev c0Z :=(l9 Tryz.prog (X dG) (y7 Tryz.f206 1))
theorem a1n (cmp:j5->j5->Int) (f:Nat) (xs:List AV) (bs J n g:Nat) (l l0:l9C) (hc:h9C cmp f xs) (hxs:AV.bdds 1 xs=true) (W:Y1 (ltF cmp)) (hn:n=l0.length) (hnb:n < 524288) (hbs:0 < bs) (hbn:bs < 1048576) (hl:l=fM (ltF cmp) bs l0) (hJ:J=n / (2 * bs)) (hJn:J * (2 * bs)<=n) (hs7:J * (2 * bs)+bs < n->Srt (ltF cmp) (((mix (ltF cmp) bs J l0).drop (J * (2 * bs))).take (J * (2 * bs)+bs - J * (2 * bs)))) (hs8:J * (2 * bs)+bs < n->Srt (ltF cmp) (((mix (ltF cmp) bs J l0).drop (J * (2 * bs)+bs)).take (n - (J * (2 * bs)+bs)))) {eX:Ex} {FX:Fr} {HX:Heap} (k1:(decide ((bs:Int) < (n:Int)))=true->(decide ((((J * (2 * bs))+bs:Nat):Int) < (n:Int)))=true->l7 c0Z (some [0,1,2,6]) (some []) (c3H g n f xs bs) [(o_ g 9 (mC (mAt (ltF cmp) (J * (2 * bs)) ((J * (2 * bs))+bs) n (mix (ltF cmp) bs J l0))))] eX FX HX) (k2:(decide ((bs:Int) < (n:Int)))=true->(decide ((((J * (2 * bs))+bs:Nat):Int) < (n:Int)))=false->l7 c0Z (some [0,1,2,6]) (some []) (c3H g n f xs bs) [(o_ g 9 (mC (mix (ltF cmp) bs J l0)))] eX FX HX) (k3:(decide ((bs:Int) < (n:Int)))=false->((.exit 2:Ex),(mkF 63 []),[(o_ g 9 (mC l))])=(eX,FX,HX)):l7 c0Z (some [0,1,2,6]) (some []) (mkF 63 [(0,(AV.osl 0 g 9 0 n)),(1,(iN n)),(2,(AV.func f xs)),(6,(iN bs))]) [(o_ g 9 (mC l))] eX FX HX :=
 K7 (.r (.g (.two (decide ((bs:Int) < (n:Int))) (fun h1 h1'=>(.r (.y 1 (iW (2 * (bs:Int))) (iN (2 * bs)) Yes.o (.g (.loop (c7q g n f xs bs J) (b0m cmp f xs hc hxs W bs n g l0 hn hnb hbs ow J hJ J 0 0 (2 * bs) l ow ow ow (by rw [hl]; simp only [mix])) (.r (.y 2 (iW ((((J * (2 * bs)):Nat):Int)+(bs:Int))) (iN ((J * (2 * bs))+bs)) Yes.o (.s (.g (.two (decide ((((J * (2 * bs))+bs:Nat):Int) < (n:Int))) (fun h2 h2'=>(.r (.t 5 (AV.tup []) [(o_ g 9 (mC (mAt (ltF cmp) (J * (2 * bs)) ((J * (2 * bs))+bs) n (mix (ltF cmp) bs J l0))))] (b4q _ f xs (J * (2 * bs)) ((J * (2 * bs))+bs) n n g (mix (ltF cmp) bs J l0) a2p a2p a2p a2p a2p a2p a9B ow (hs7 a9B) (hs8 a9B) []:AC 216 [(AV.osl 0 g 9 0 n),(iN ((J * (2 * bs)))),(iN ((J * (2 * bs))+bs)),(iN n),(AV.func f xs)] [(o_ g 9 (mC (mix (ltF cmp) bs J l0)))] ((AV.tup []),([(o_ g 9 (mC (mAt (ltF cmp) (J * (2 * bs)) ((J * (2 * bs))+bs) n (mix (ltF cmp) bs J l0))))]:Heap))) (.s (.h' [(o_ g 9 (mC (mAt (ltF cmp) (J * (2 * bs)) ((J * (2 * bs))+bs) n (mix (ltF cmp) bs J l0))))] (.y 1 (iW ((bs:Int) * 2)) (iN (bs * 2)) Yes.o (.g (.l (k1 h1 h2))))))))) (fun h2 h2'=>(.r (.y 1 (iW ((bs:Int) * 2)) (iN (bs * 2)) Yes.o (.g (.l (k2 h1 h2)))))))))))))))) (fun h1 h1'=>(.l (k3 h1))))))
theorem b0l (cmp:j5->j5->Int) (f:Nat) (xs:List AV) (hc:h9C cmp f xs) (hxs:AV.bdds 1 xs=true) (W:Y1 (ltF cmp)) (n g:Nat) (l0:l9C) (hn:n=l0.length) (hnb:n < 524288) (r:Nat):∀ (bs:Nat) (l:l9C),n - bs<=r->0 < bs->bs < 1048576->l=fM (ltF cmp) bs l0 ->
 l7 (l9 Tryz.prog (X dG) (y7 Tryz.f206 1)) (some [0,1,2,6]) (some []) (mkF 63 [(0,(AV.osl 0 g 9 0 n)),(1,(iN n)),(2,(AV.func f xs)),(6,(iN bs))]) [(o_ g 9 (mC l))] (.exit 2) (mkF 63 []) [(o_ g 9 (mC (K5 (ltF cmp) l0)))]:=by
 have key:∀ bs,0 < bs->(n / (2 * bs) * (2 * bs)<=n/\n < n / (2 * bs) * (2 * bs)+2 * bs):=fun bs hbs=>⟨Nat.div_mul_le_self n (2 * bs),Nat.lt_div_mul_add (a:=n) (b:=2 * bs) ow⟩
 induction r with
 | zero =>
  intro bs l h1 hbs hbn hl
  obtain ⟨k1,k2⟩:=key bs hbs
  obtain ⟨q1,q2⟩:=a5O W hbs (l:=l0) (J:=n / (2 * bs)) rfl hn k1 k2
  refine a1n cmp f xs bs (n / (2 * bs)) n g l l0 hc hxs W hn hnb hbs hbn hl rfl k1 (fun h=>(q1 h).2.1) (fun h=>(q1 h).2.2) (fun h=>by simp at h; omega) (fun h=>by simp at h; omega) (fun _=>?_)
  rw [hl,uY (ltF cmp) ow hbs]
 | succ r ih =>
  intro bs l h1 hbs hbn hl
  obtain ⟨k1,k2⟩:=key bs hbs
  obtain ⟨q1,q2⟩:=a5O W hbs (l:=l0) (J:=n / (2 * bs)) rfl hn k1 k2
  refine a1n cmp f xs bs (n / (2 * bs)) n g l l0 hc hxs W hn hnb hbs hbn hl rfl k1 (fun h=>(q1 h).2.1) (fun h=>(q1 h).2.2) (fun h h2=>?_) (fun h h2=>?_) (fun h=>?_)
  · rw [(q1 a9B).1]
    exact ih (bs * 2) _ a2x ow a2x (by rw [Nat.mul_comm])
  · rw [q2 (by have:=of_decide_eq_false h2; omega)]
    exact ih (bs * 2) _ a2x ow a2x (by rw [Nat.mul_comm])
  · rw [hl,uY (ltF cmp) a2x hbs]
@[simp] abbrev c7p (a:Nat) (b:Nat) (c:Nat) (d:List AV):Fr:=(mkF 63 [(0,(AV.osl 0 a 9 0 b)),(1,(iN b)),(2,(AV.func c d)),(6,(iI 20)),(7,(iN ((b / 20 * 20))))])
theorem a2o {p:Prop} (h:p:=by first | exact hc | exact hxs | omega | (rw [sK]; omega) | (simp; omega)):p:=h
theorem b4p (cmp:j5->j5->Int) (f:Nat) (xs:List AV) (n g:Nat) (l:l9C) (hc:h9C cmp f xs) (hxs:AV.bdds 1 xs=true) (W:Y1 (ltF cmp)) (hn:n=l.length) (hb:n < 524288):AC 206 [(AV.osl 0 g 9 0 n),(AV.int .i64 (n:Int)),(AV.func f xs)] [(o_ g 9 (List.map j5.row l))] ((AV.tup []),[(o_ g 9 (List.map j5.row (z8 cmp 0 (n - 1) 1 l)))]):=by
 have hq:(blk (ltF cmp) 20 (n / 20) l).length=n:=by rw [sK]; exact hn.symm
 have ht:=c4h cmp (l:=l) (j:=n / 20) (a:=n / 20 * 20) rfl hn ow ow
 have hfin:K5 (ltF cmp) l=z8 cmp 0 (n - 1) 1 l:=by subst hn; exact (vJ cmp l).symm
 exact q9 (fn:=Tryz.f206) (ann:=dG) (Has.o Tryz.func206) (.r (.s (.g (.loop (c7p g n f xs) (b0n cmp f xs hc hxs W n g l hn hb (n / 20) 0 0 20 l ow rfl ow (by simp only [blk])) (.r (.t 4 (AV.tup []) [(o_ g 9 (List.map j5.row (z8 cmp (n / 20 * 20) (n - ((n / 20 * 20)+1)) ((n / 20 * 20)+1) (blk (ltF cmp) 20 (n / 20) l))))] (a9j _ f xs (n / 20 * 20) n n g (blk (ltF cmp) 20 (n / 20) l) a2o a2o a2o a2o a2o a2o []:AC 215 [(AV.osl 0 g 9 0 n),(AV.int .i64 (((n / 20 * 20):Nat):Int)),(AV.int .i64 (n:Int)),(AV.func f xs)] [(o_ g 9 (List.map j5.row (blk (ltF cmp) 20 (n / 20) l)))] ((AV.tup []),([(o_ g 9 (List.map j5.row (z8 cmp (n / 20 * 20) (n - ((n / 20 * 20)+1)) ((n / 20 * 20)+1) (blk (ltF cmp) 20 (n / 20) l))))]:Heap))) (.g (.loop (mkF 63 []) (b0l cmp f xs hc hxs W n g l hn hb n 20 (z8 cmp (n / 20 * 20) (n - ((n / 20 * 20)+1)) ((n / 20 * 20)+1) (blk (ltF cmp) 20 (n / 20) l)) ow ow ow ht) (.q 1 (AV.tup []) (by rw [hfin]))))))))))
theorem c4j (cmp:j5->j5->Int) (f:Nat) (xs:List AV) (n g:Nat) (l:l9C) (hc:h9C cmp f xs) (hxs:AV.bdds 1 xs=true) (W:Y1 (ltF cmp)) (hn:n=l.length) (hb:n < 524288) (H:Heap):AC 206 [(AV.osl 0 g 9 0 n),(iN n),(AV.func f xs)] (([(o_ g 9 (mC l))]:Heap)++H) ((AV.tup []),([(o_ g 9 (mC (z8 cmp 0 (n - 1) 1 l)))]:Heap)++H):=(b4p cmp f xs n g l hc hxs W hn hb).ext vQ kr ob ob kr H
def a9W:Ann:={ base:=1,fin:=some 1 }
theorem a4Y {p:Prop} (h:p:=by first | exact hc | exact hxs | exact W | omega):p:=h
theorem a7O (cmp:j5->j5->Int) (f:Nat) (xs:List AV) (n g:Nat) (l:l9C) (hc:h9C cmp f xs) (hxs:AV.bdds 1 xs=true) (W:Y1 (ltF cmp)) (hn:n=l.length) (hb:n < 524288):AC 172 [(AV.osl 0 g 9 0 n),(AV.func f xs)] [(o_ g 9 (mC l))] ((AV.tup []),[(o_ g 9 (mC (z8 cmp 0 (n - 1) 1 l)))]) :=
 q9 (fn:=Tryz.f172) (ann:=a9W) (Has.o Tryz.func172) (.r (.t 4 (AV.tup []) [(o_ g 9 (mC (z8 cmp 0 (n - 1) 1 l)))] (c4j _ f xs n g l a4Y a4Y a4Y a4Y a4Y []:AC 206 [(AV.osl 0 g 9 0 n),(iN n),(AV.func f xs)] [(o_ g 9 (mC l))] ((AV.tup []),([(o_ g 9 (mC (z8 cmp 0 (n - 1) 1 l)))]:Heap))) (.g (.h' [(o_ g 9 (mC (z8 cmp 0 (n - 1) 1 l)))] (.q 1 (AV.tup []))))))
theorem b3W (cmp:j5->j5->Int) (f:Nat) (xs:List AV) (n g:Nat) (l:l9C) (hc:h9C cmp f xs) (hxs:AV.bdds 1 xs=true) (W:Y1 (ltF cmp)) (hn:n=l.length) (hb:n < 524288) (H:Heap):AC 172 [(AV.osl 0 g 9 0 n),(AV.func f xs)] (([(o_ g 9 (mC l))]:Heap)++H) ((AV.tup []),([(o_ g 9 (mC (z8 cmp 0 (n - 1) 1 l)))]:Heap)++H):=(a7O cmp f xs n g l hc hxs W hn hb).ext vQ kr ob ob kr H
end Go.Proofs.YtmghjcbabebanaaGreat.AM
namespace Go.Proofs.YtmghjcbabebanaaGreat.AM
open Go Go.Proofs.YtmghjcbabebanaaGreat
attribute [local irreducible] D7 G7 j6 l7 l9
structure nR where
 l:List j5
 deriving Inhabited
def nR.row (x:nR):List AV:=[(sA 9 (mC x.l))]
@[simp] theorem nR.O4 (n:Nat) (x:nR):AV.bdds n x.row=true:=by simp [nR.row,AV.bdds,AV.bdd]
@[simp] theorem nR.y8 (n:Nat) (l:List nR):AV.D5 n (l.map nR.row)=true:=by induction l with | nil=>rfl | cons x l ih=>simp [AV.D5,nR.O4,ih]
theorem c6W:Y1 (ltF fun a b:j5=>N8 a.key b.key):=c6X
theorem sU {p:Prop} (h:p:=by with_unfolding_all rfl):p:=h
theorem a1e (l:l9C) (hl:l.length < 1000):AC 128 [(sA 9 (mC l))] [] ((AV.sl .cn 9 (mC (F3 l))),[]):=by
 have hpl:=lW l
 exact q9 (fn:=Tryz.f128) (ann:=a4m) (Has.o Tryz.func128) (.r (.s (.ch 1 [(o_ 0 9 (mC l))] (b6m l oa []) (.s (.ch 1 [(o_ 0 9 (mC (z8 (fun a b=>N8 a.key b.key) 0 (l.length - 1) 1 l)))] (b3W (fun a b=>N8 a.key b.key) 173 [] l.length 0 l (fun x y H=>a9V x y H) (rfl) (c6W) oa oa []) (.w' 3 (mC (z8 (fun a b=>N8 a.key b.key) 0 (l.length - 1) 1 l)) (And.intro (G9 (room:=none) kr (by first | omega | (simp [lN]; done) | (simp [lN]; omega))) (j5.y8 _ _):F5 [(o_ 0 9 (mC (z8 (fun a b=>N8 a.key b.key) 0 (l.length - 1) 1 l)))] 9 (AV.osl 0 0 9 0 l.length)=some (mC (z8 (fun a b=>N8 a.key b.key) 0 (l.length - 1) 1 l))/\AV.D5 0 (mC (z8 (fun a b=>N8 a.key b.key) 0 (l.length - 1) 1 l))=true) (.s (.c 1 ((b1U (z8 (fun a b=>N8 a.key b.key) 0 (l.length - 1) 1 l) (by rw [lN]; omega)).lift kr kr [(o_ 1 9 [])]) (.g (.h' [] (.q 0 (AV.sl .cn 9 (mC (z8 (fun a b=>N8 a.key b.key) 0 (l.length - 1) 1 l))) sU)))))))))))
theorem kG (l:l9C) (hl:l.length < 1000):AC 128 [(sA 9 (mC l))] [] ((sA 9 (mC (F3 l))),[]):=(a1e l hl).post ⟨rfl,rfl,.inl rfl⟩
attribute [local irreducible] F3
attribute [local irreducible] A8 C9 F7 J8 M0 M5 M8 N8 O6 O7 P9 Q0 Q6 Q7 R3 T9 Tp.F9 Tp.G8 Tp.card Tp.cards Tp.key Tp.keyT Tp.next Tp.step V5 aS cmpL dV eT gZ kS ofB qH rG sink wU z8
@[simp] abbrev c3G (a:l9C):Fr:=(mkF 22 [(3,(AV.osl 0 (Q0 a).length 9 0 (Q0 a).length)),(6,(sA 9 (mC a))),(7,(iN a.length)),(8,(iN a.length))])
theorem a1k (l:l9C) (hl:l.length < 1000):AC 161 [(sA 9 (mC l))] [] ((sA 9 (mC (T9 l))),[]):=by
 have hk:=a3R l
 exact q9 (fn:=Tryz.f161) (ann:=a0l) (Has.o Tryz.func161) (.r (.s (.s (.h' [(o_ 0 9 (mC []))] (.y 1 (.int .i64 ((List.length (mC l):Nat):Int)) (iN l.length) (Yes.len _ _ _) (.g (.loop (c3G l) (show l7 cap_ (some [3,6,7,8]) (some [3,6,7,8]) (mkF 22 [(3,(AV.osl 0 0 9 0 0)),(6,(sA 9 (mC l))),(7,(iN l.length)),(8,z_)]) [(o_ 0 9 (mC []))] (.exit 0) (c3G l) [(o_ ((Q0 l).length) 9 (mC (Q0 l)))] from (b4i l ow (List.length l) [] 0 0 0 (Q0 l,(Q0 l).length,(Q0 l).length) ow rfl ow (b4j _))) (.r (.w 3 (mC (Q0 l)) (And.intro (G9 (room:=none) kr om) (j5.y8 _ _):F5 [(o_ ((Q0 l).length) 9 (mC (Q0 l)))] 9 (AV.osl 0 (Q0 l).length 9 0 (Q0 l).length)=some (mC (Q0 l))/\AV.D5 0 (mC (Q0 l))=true) (.c 1 ((kG (Q0 l) oa).lift kr kr [(o_ ((Q0 l).length+1) 9 [])]) (.g (.h' [] (.q 0 (sA 9 (mC (F3 (Q0 l)))) sU)))))))))))))
@[simp] abbrev c5M (a:l9C):=(sA 1 (List.map rU8 (List.foldl gZ [] (T9 a))))
@[simp] abbrev c3F (a:l9C):Fr:=(mkF 31 [(3,(c5M a)),(7,(sA 9 (mC (T9 a)))),(8,(iN ((T9 a).length))),(9,(iN ((T9 a).length)))])
theorem a7S (l:l9C) (hl:l.length < 1000):AC 213 [(sA 9 (mC l))] [] ((sA 1 (List.map rU8 (eT l))),[]):=by
 have h1:=a3r l
 exact q9 (fn:=Tryz.f213) (ann:=vU) (Has.o Tryz.func213) (.r (.s (.s (.c 1 ((a1k l oa).lift kr kr []) (.y 2 (.int .i64 ((List.length (mC (T9 l)):Nat):Int)) (iN ((T9 l).length)) (Yes.len _ _ _) (.g (.loop (c3F l) (show l7 c1k (some [3,7,8,9]) (some [3,7,8,9]) (mkF 31 [(3,(sA 1 [])),(7,(sA 9 (mC (T9 l)))),(8,(iN ((T9 l).length))),(9,z_)]) [] (.exit 0) (c3F l) [] from (b0g (T9 l) ow (List.length (T9 l)) [] 0 (List.foldl gZ [] (T9 l)) ow yf_ (b0h _))) (.qr 0 (c5M l) sU))))))))
def a7R:Ann:={ fin:=some 0 }
theorem a5q (l:l9C) (hl:l.length < 1000):AC 204 [(sA 9 (mC l))] [] ((AV.int .u32 (ofB l)),[]):=by
 have h1:=b4k l
 exact q9 (fn:=Tryz.f204) (ann:=a7R) (Has.o Tryz.func204) (.r (.s (.c 1 ((a7S l oa).lift kr kr []) (.c 2 ((b8B (eT l) oa).lift kr kr []) (.q 0 (AV.int .u32 (qH (eT l))) sU)))))
end Go.Proofs.YtmghjcbabebanaaGreat.AM
