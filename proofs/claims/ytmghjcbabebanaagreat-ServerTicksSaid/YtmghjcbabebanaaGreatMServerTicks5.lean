/-
  Part 5 of 8: an abstract machine over the model; walks; plain laws.
-/
import Derived.Test.YtmghjcbabebanaaGreatMServerTicks4
import Derived.Deep.OwnRows
set_option maxRecDepth 100000
set_option linter.unusedVariables false
set_option linter.unusedSimpArgs false
set_option linter.unusedSectionVars false
namespace Go.Proofs.YtmghjcbabebanaaGreat.AM
open Go Go.Proofs.YtmghjcbabebanaaGreat
attribute [local irreducible] A9 E9 F5 F6 F8 F9 G9 H6 J4 K4 K5 L8 M8 Q5 R7 S9 Tp.J5 Tp.K8 Tp.card Tp.cards Tp.key Tp.keyT Tp.next Tp.step U6 U7 V3 V8 bsr cmpL j5 l6 mAt mg mgL shD shU sink
abbrev a9b (a:Nat) (b:l9C) (c:l9C) (d:j4) (e:l9C) (f:l9C):Heap:=[(o_ a 9 (mC (b++(c++(d :: (e++f))))))]
abbrev d4i (a:Nat) (b:Nat) (c:Nat) (d:Nat):Fr:=(mkF 220 [(0,(d9 0 a 9 b)),(1,(iN c)),(10,(iN d))])
abbrev d4h (a:Nat) (b:Nat) (c:Nat):Fr:=(mkF 220 [(0,(d9 0 a 9 b)),(10,(iN c)),(13,(iN ((c - 1))))])
theorem b4R {p:Prop} (h:p:=by exact beq_iff_eq.2 ow):p:=h
theorem c8H (cmp:j4->j4->Int) (f:Nat) (xs:List AV) (A R1 R2 B:l9C) (x:j4) (a p b n g i:Nat) (l:l9C) (hc:h9C cmp f xs) (hxs:AV.bdds 1 xs=true) (hn:n=l.length) (hnb:n < 1048576) (hl:l=A++(x :: (R1++(R2++B)))) (hA:a=A.length) (hp:p=a+1) (hpb:p<=b) (hbn:b<=n) (hi:i=p+R1.length) (hib:i<=b) (hs:i=bsr (fun c=>decide (cmp (nth l c) (nth l a) < 0)) (b - p) p b):AC 216 [(d9 0 g 9 n),(AV.int .i64 (a:Int)),(AV.int .i64 (p:Int)),(AV.int .i64 (b:Int)),(A8 f xs)] [(o_ g 9 (l.map j4.row))] (F4,(a9b g A R1 x R2 B)):=by
 have hfin:shU (i - 1 - a) a l=A++(R1++(x :: (R2++B))):=by rw [hl,show i - 1 - a=R1.length by omega]; exact a7j x R1 A (R2++B) a hA
 exact x9 (fn:=Tryz.f216) (ann:=aM) (Has.o Tryz.func216) (.r (.y 2 (iW ((p:Int) - (a:Int))) (AV.int .i64 ((p - a:Nat):Int)) Yes.o (.y 3 (AV.bool (((p - a:Nat):Int) == 1)) (AV.bool true) (Yes.b b4R) (.ru (.s (.g (.loop (d4i g n a i) (show l6 (C8 aM Tryz.f216 0) (some [0,1,4,10,11]) (some [0,1,10]) (mkF 220 [(0,(d9 0 g 9 n)),(1,(AV.int .i64 (a:Int))),(4,(A8 f xs)),(10,(AV.int .i64 (p:Int))),(11,(AV.int .i64 (b:Int)))]) [(o_ g 9 (l.map j4.row))] (.exit 0) (d4i g n a i) [(o_ g 9 (l.map j4.row))] from (by rw [hs]; exact c8D cmp f xs hc a n g l hn hnb ow (b - p) p b ow ow ow)) (.r (.g (.loop (d4h g n i) (show l6 (C8 aM Tryz.f216 1) (some [0,10,13]) (some [0,10,13]) (mkF 220 [(0,(d9 0 g 9 n)),(10,(AV.int .i64 (i:Int))),(13,(AV.int .i64 (a:Int)))]) [(o_ g 9 (l.map j4.row))] (.exit 2) (d4h g n i) [(o_ g 9 ((shU (i - 1 - a) a l).map j4.row))] from (c8x i n g ow ow hnb (i - 1 - a) l a _ ow hn (c8y _ _ _ _ _ _))) (.q 1 F4 (by (try delta a9b); rw [hfin]))))))))))))
abbrev d4g (a:Nat) (b:Nat) (c:Nat) (d:Nat):Fr:=(mkF 220 [(0,(d9 0 a 9 b)),(2,(iN c)),(14,(iN d))])
abbrev e0c (a:Nat) (b:Nat) (c:Nat):Fr:=(mkF 220 [(0,(d9 0 a 9 b)),(14,(iN c)),(17,(iN c))])
theorem uF {p:Prop} (h:p:=by exact beq_eq_false_iff_ne.2 ow):p:=h
theorem c8G (cmp:j4->j4->Int) (f:Nat) (xs:List AV) (A L1 L2 B:l9C) (y:j4) (a p b n g i:Nat) (l:l9C) (hc:h9C cmp f xs) (hxs:AV.bdds 1 xs=true) (hn:n=l.length) (hnb:n < 1048576) (hl:l=A++(L1++(L2++(y :: B)))) (hA:a=A.length) (hi:i=a+L1.length) (hp:p=i+L2.length) (h1:p≠a+1) (hb:b=p+1) (hbn:b<=n) (hs:i=bsr (fun c=>!decide (cmp (nth l p) (nth l c) < 0)) (p - a) a p):AC 216 [(d9 0 g 9 n),(AV.int .i64 (a:Int)),(AV.int .i64 (p:Int)),(AV.int .i64 (b:Int)),(A8 f xs)] [(o_ g 9 (l.map j4.row))] (F4,(a9b g A L1 y L2 B)):=by
 have hfin:shD (p - i) p l=A++(L1++(y :: (L2++B))):=by rw [hl,show p - i=L2.length by omega,show A++(L1++(L2++(y :: B)))=(A++L1)++(L2++(y :: B)) by simp,a7k y L2.length (A++L1) L2 B p rfl yg_]; simp
 exact x9 (fn:=Tryz.f216) (ann:=aM) (Has.o Tryz.func216) (.r (.y 2 (iW ((p:Int) - (a:Int))) (AV.int .i64 ((p - a:Nat):Int)) Yes.o (.y 3 (AV.bool (((p - a:Nat):Int) == 1)) (AV.bool false) (Yes.b uF) (.rn (.y 2 (iW ((b:Int) - (p:Int))) (AV.int .i64 ((b - p:Nat):Int)) Yes.o (.y 3 (AV.bool (((b - p:Nat):Int) == 1)) (AV.bool true) (Yes.b b4R) (.ru (.s (.g (.loop (d4g g n p i) (show l6 (C8 aM Tryz.f216 2) (some [0,2,4,14,15]) (some [0,2,14]) (mkF 220 [(0,(d9 0 g 9 n)),(2,(AV.int .i64 (p:Int))),(4,(A8 f xs)),(14,(AV.int .i64 (a:Int))),(15,(AV.int .i64 (p:Int)))]) [(o_ g 9 (l.map j4.row))] (.exit 4) (d4g g n p i) [(o_ g 9 (l.map j4.row))] from (by rw [hs]; exact c8C cmp f xs hc p n g l hn hnb ow (p - a) a p ow ow ow)) (.r (.g (.loop (e0c g n i) (c8B i n g hnb (p - i) p l ow hn ow) (.q 1 F4 (by (try delta a9b); rw [hfin])))))))))))))))
abbrev a9a (a:Nat) (b:Nat) (c:Nat) (d:Nat) (e:Nat) (f:Nat) (g:List AV) (h:Nat) (i:Nat):Fr:=(mkF 220 [(0,(d9 0 a 9 b)),(1,(iN c)),(2,(iN d)),(3,(iN e)),(4,(A8 f g)),(18,(iN h)),(19,(iN ((h+d)))),(20,(iN i))])
@[simp] abbrev c0H (a:Nat) (b:Nat) (c:Nat) (d:Nat) (e:l9C):Heap:=[(o_ a 9 (mC (S9 b c ((d+c) - b) e)))]
theorem b4Q {p:Prop} (h:p:=by rw [uW]; omega):p:=h
theorem a9k {p:Prop} (h:p:=by exact decide_eq_true ow):p:=h
theorem y7 {p:Prop} (h:p:=by first | exact hc | exact hxs | omega | (simp; omega)):p:=h
theorem rM {p:Prop} (h:p:=by first | (exfalso; omega) | ((first | rw [if_pos ow] at e1 | rw [if_neg ow] at e1); rw [e1]; exact hlen1.symm)):p:=h
theorem rJ {p:Prop} (h:p:=by first | (exfalso; omega) | ((first | rw [if_pos ow] at e1 | rw [if_neg ow] at e1); rw [e1]; rw [piece A L1 _ hA ow]; exact q1)):p:=h
theorem rH {p:Prop} (h:p:=by first | (exfalso; omega) | ((first | rw [if_pos ow] at e1 | rw [if_neg ow] at e1); rw [e1]; rw [show A++(L1++(R1++(L2++(R2++B))))=(A++L1)++(R1++(L2++(R2++B))) by simp,piece (A++L1) R1 _ (by simp; omega) ow]; exact q3)):p:=h
theorem Y2 {p:Prop} (h:p:=by first | (exfalso; omega) | ((first | rw [if_pos ow] at e1 | rw [if_neg ow] at e1); (first | rw [if_pos ow] at e2 | rw [if_neg ow] at e2); rw [e1,e2]; exact hlen2.symm)):p:=h
theorem Y1 {p:Prop} (h:p:=by first | (exfalso; omega) | ((first | rw [if_pos ow] at e1 | rw [if_neg ow] at e1); (first | rw [if_pos ow] at e2 | rw [if_neg ow] at e2); rw [e1,e2]; rw [show A++(mg (ltF cmp) L1 R1++(L2++(R2++B)))=(A++mg (ltF cmp) L1 R1)++(L2++(R2++B)) by simp,piece (A++mg (ltF cmp) L1 R1) L2 _ (by simp [uW]; omega) ow]; exact q2)):p:=h
theorem Y0 {p:Prop} (h:p:=by first | (exfalso; omega) | ((first | rw [if_pos ow] at e1 | rw [if_neg ow] at e1); (first | rw [if_pos ow] at e2 | rw [if_neg ow] at e2); rw [e1,e2]; rw [show A++(mg (ltF cmp) L1 R1++(L2++(R2++B)))=((A++mg (ltF cmp) L1 R1)++L2)++(R2++B) by simp,piece ((A++mg (ltF cmp) L1 R1)++L2) R2 _ (by simp [uW]; omega) ow]; exact q4)):p:=h
theorem O9 {p:Prop} (h:p:=by (try delta c0H); first | (exfalso; omega) | ((first | rw [if_pos ow] at e1 | rw [if_neg ow] at e1); (first | rw [if_pos ow] at e2 | rw [if_neg ow] at e2); (first | rw [if_pos ow] at e3 | rw [if_neg ow] at e3); rw [e1,e2,e3])):p:=h
set_option maxHeartbeats 4000000 in
theorem c8F (cmp:j4->j4->Int) (f:Nat) (xs:List AV) (A L1 L2 R1 R2 B:l9C) (a p b n g i mid Nz:Nat) (l:l9C) (hc:h9C cmp f xs) (hxs:AV.bdds 1 xs=true) (hn:n=l.length) (hnb:n < 1048576) (ih_at:∀ (a p b n g:Nat) (l:l9C),n=l.length->n < 1048576->a < p->p < b->b<=n->b - a < Nz->Srt (ltF cmp) ((l.drop a).take (p - a))->Srt (ltF cmp) ((l.drop p).take (b - p))->∀ H:Heap,AC 216 [(AV.osl 0 g 9 0 n),(AV.int .i64 (a:Int)),(AV.int .i64 (p:Int)),(AV.int .i64 (b:Int)),(AV.func f xs)] (([(o_ g 9 (l.map j4.row))]:Heap)++H) (.tup [],([(o_ g 9 ((mAt (ltF cmp) a p b l).map j4.row))]:Heap)++H)) (hl:l=A++(L1++(L2++(R1++(R2++B))))) (hA:a=A.length) (hi:i=a+L1.length) (hp:p=i+L2.length) (hR1:mid=i+R1.length) (hb:b=p+R1.length+R2.length) (hbn:b<=n) (hap:a < p) (hpb:p < b) (h1:p≠a+1) (h2:b≠p+1) (hmid:mid=(a+b) / 2) (hNz:b - a<=Nz) (hgt:mid < p) (hs:i=bsr (fun c=>!decide (cmp (nth l (mid+p - 1 - c)) (nth l c) < 0)) (mid - (mid+p - b)) (mid+p - b) mid) (hlo:mid+p - b<=i) (hhi:i<=mid) (q1:Srt (ltF cmp) L1) (q2:Srt (ltF cmp) L2) (q3:Srt (ltF cmp) R1) (q4:Srt (ltF cmp) R2):AC 216 [(AV.osl 0 g 9 0 n),(AV.int .i64 (a:Int)),(AV.int .i64 (p:Int)),(AV.int .i64 (b:Int)),(AV.func f xs)] [(o_ g 9 (l.map j4.row))] ((AV.tup []),[(o_ g 9 ((A++(mg (ltF cmp) L1 R1++(mg (ltF cmp) L2 R2++B))).map j4.row))]):=by
 have hll:n=A.length+L1.length+L2.length+R1.length+R2.length+B.length:=by rw [hn,hl]; simp; omega
 have e1:=sm1 A L1 L2 R1 R2 B hl (s:=i) (m:=p) (e:=mid+p - i) ow hp ow
 have e2:=sm2 (ltF cmp) A L1 R1 (L2++(R2++B)) (a:=a) (s:=i) (mid:=mid) hA hi hR1
 have e3:=sm3 (ltF cmp) A (mg (ltF cmp) L1 R1) L2 R2 B (mid:=mid) (e:=mid+p - i) (b:=b) b4Q ow ow
 have hrot:0 < L2.length->0 < R1.length->_:=vP (A++L1) L2 R1 (R2++B) (l:=l) (by rw [hl]; simp) (a:=i) (m:=p) (b:=mid+p - i) yg_ hp ow
 have hlen2:(A++(mg (ltF cmp) L1 R1++(L2++(R2++B)))).length=n:=by rw [hll]; simp [uW]; omega
 have hlen1:(A++(L1++(R1++(L2++(R2++B))))).length=n:=by rw [hll]; simp; omega
 exact x9 (fn:=Tryz.f216) (ann:=aM) (Has.o Tryz.func216) (.r (.y 2 (iW ((p:Int) - (a:Int))) (AV.int .i64 ((p - a:Nat):Int)) Yes.o (.y 3 (AV.bool (((p - a:Nat):Int) == 1)) (AV.bool false) (Yes.b uF) (.rn (.y 2 (iW ((b:Int) - (p:Int))) (AV.int .i64 ((b - p:Nat):Int)) Yes.o (.y 3 (AV.bool (((b - p:Nat):Int) == 1)) (AV.bool false) (Yes.b uF) (.rn (.y 2 (iW ((a:Int)+(b:Int))) (AV.int .i64 ((a+b:Nat):Int)) Yes.o (.y 5 (iW (Int.fdiv (IntKind.u64.wrap ((a+b:Nat):Int)) (2 ^ (min (Int.toNat 1) 64)))) (AV.int .i64 (mid:Int)) (Yes.int (fQ ow ow)) (.s (.y 2 (iW ((mid:Int)+(p:Int))) (AV.int .i64 ((mid+p:Nat):Int)) Yes.o (.s (.s (.y 2 (AV.bool (decide ((p:Int) > (mid:Int)))) (AV.bool true) (Yes.b a9k) (.ru (.y 2 (iW (((mid+p:Nat):Int) - (b:Int))) (AV.int .i64 ((mid+p - b:Nat):Int)) Yes.o (.s (.s (.y 1 (iW (((mid+p:Nat):Int) - 1)) (AV.int .i64 ((mid+p - 1:Nat):Int)) Yes.o (.g (.loop (a9a g n a p b f xs mid i) (show l6 (C8 aM Tryz.f216 4) (some [0,1,2,3,4,18,19,20,21,22]) (some [0,1,2,3,4,18,19,20]) (mkF 220 [(0,(AV.osl 0 g 9 0 n)),(1,(AV.int .i64 (a:Int))),(2,(AV.int .i64 (p:Int))),(3,(AV.int .i64 (b:Int))),(4,(AV.func f xs)),(18,(AV.int .i64 (mid:Int))),(19,(AV.int .i64 ((mid+p:Nat):Int))),(20,(AV.int .i64 ((mid+p - b:Nat):Int))),(21,(AV.int .i64 (mid:Int))),(22,(AV.int .i64 ((mid+p - 1:Nat):Int)))]) [(o_ g 9 (l.map j4.row))] (.exit 8) (a9a g n a p b f xs mid i) [(o_ g 9 (l.map j4.row))] from (by rw [hs]; exact a9Q cmp f xs hc a p b mid (mid+p) (mid+p - 1) n g l hn hnb (mid - ((mid+p - b))) (mid+p - b) mid ow ow ow)) (.r (.y 2 (iW ((((mid+p):Nat):Int) - (i:Int))) (AV.int .i64 (((mid+p) - i:Nat):Int)) Yes.o (.s (.two (l9 i p) (fun h1 h1'=>(.u2 (.g (.two (l9 p ((mid+p) - i)) (fun h2 h2'=>(.r (.ch 5 (c0H g i p mid l) (c3J f xs i p ((mid+p) - i) n g l y7 y7 y7 y7 y7 y7 ((hrot ow ow).1) ((hrot ow ow).2.1) ((hrot ow ow).2.2) []) (.s (.two (l9 a i) (fun h3 h3'=>(.u2 (.g (.two (l9 i mid) (fun h4 h4'=>(.r (.ch 5 [(o_ g 9 ((mAt (ltF cmp) a i mid (S9 i p ((mid+p) - i) l)).map j4.row))] (ih_at a i mid n g (S9 i p ((mid+p) - i) l) rM y7 y7 y7 y7 y7 rJ rH []) (.s (.two (l9 mid ((mid+p) - i)) (fun h5 h5'=>(.u2 (.g (.two (l9 ((mid+p) - i) b) (fun h6 h6'=>(.r (.ch 5 [(o_ g 9 ((mAt (ltF cmp) mid ((mid+p) - i) b (mAt (ltF cmp) a i mid (S9 i p ((mid+p) - i) l))).map j4.row))] (ih_at mid ((mid+p) - i) b n g (mAt (ltF cmp) a i mid (S9 i p ((mid+p) - i) l)) Y2 y7 y7 y7 y7 y7 Y1 Y0 []) (.q 1 (AV.tup []) O9)))) (fun h6 h6'=>(.q 1 (AV.tup []) O9)))))) (fun h5 h5'=>(.n2 (.g (.n (.q 1 (AV.tup []) O9)))))))))) (fun h4 h4'=>(.r (.two (l9 mid ((mid+p) - i)) (fun h5 h5'=>(.u2 (.g (.two (l9 ((mid+p) - i) b) (fun h6 h6'=>(.r (.ch 5 [(o_ g 9 ((mAt (ltF cmp) mid ((mid+p) - i) b (S9 i p ((mid+p) - i) l)).map j4.row))] (ih_at mid ((mid+p) - i) b n g (S9 i p ((mid+p) - i) l) Y2 y7 y7 y7 y7 y7 Y1 Y0 []) (.q 1 (AV.tup []) O9)))) (fun h6 h6'=>(.q 1 (AV.tup []) O9)))))) (fun h5 h5'=>(.n2 (.g (.n (.q 1 (AV.tup []) O9)))))))))))) (fun h3 h3'=>(.n2 (.rn (.two (l9 mid ((mid+p) - i)) (fun h4 h4'=>(.u2 (.g (.two (l9 ((mid+p) - i) b) (fun h5 h5'=>(.r (.ch 5 [(o_ g 9 ((mAt (ltF cmp) mid ((mid+p) - i) b (S9 i p ((mid+p) - i) l)).map j4.row))] (ih_at mid ((mid+p) - i) b n g (S9 i p ((mid+p) - i) l) Y2 y7 y7 y7 y7 y7 Y1 Y0 []) (.q 1 (AV.tup []) O9)))) (fun h5 h5'=>(.q 1 (AV.tup []) O9)))))) (fun h4 h4'=>(.n2 (.g (.n (.q 1 (AV.tup []) O9)))))))))))))) (fun h2 h2'=>(.r (.two (l9 a i) (fun h3 h3'=>(.u2 (.g (.two (l9 i mid) (fun h4 h4'=>(.r (.ch 5 [(o_ g 9 ((mAt (ltF cmp) a i mid l).map j4.row))] (ih_at a i mid n g l rM y7 y7 y7 y7 y7 rJ rH []) (.s (.two (l9 mid ((mid+p) - i)) (fun h5 h5'=>(.u2 (.g (.two (l9 ((mid+p) - i) b) (fun h6 h6'=>(.r (.ch 5 [(o_ g 9 ((mAt (ltF cmp) mid ((mid+p) - i) b (mAt (ltF cmp) a i mid l)).map j4.row))] (ih_at mid ((mid+p) - i) b n g (mAt (ltF cmp) a i mid l) Y2 y7 y7 y7 y7 y7 Y1 Y0 []) (.q 1 (AV.tup []) O9)))) (fun h6 h6'=>(.q 1 (AV.tup []) O9)))))) (fun h5 h5'=>(.n2 (.g (.n (.q 1 (AV.tup []) O9)))))))))) (fun h4 h4'=>(.r (.two (l9 mid ((mid+p) - i)) (fun h5 h5'=>(.u2 (.g (.two (l9 ((mid+p) - i) b) (fun h6 h6'=>(.r (.ch 5 [(o_ g 9 ((mAt (ltF cmp) mid ((mid+p) - i) b l).map j4.row))] (ih_at mid ((mid+p) - i) b n g l Y2 y7 y7 y7 y7 y7 Y1 Y0 []) (.q 1 (AV.tup []) O9)))) (fun h6 h6'=>(.q 1 (AV.tup []) O9)))))) (fun h5 h5'=>(.n2 (.g (.n (.q 1 (AV.tup []) O9)))))))))))) (fun h3 h3'=>(.n2 (.rn (.two (l9 mid ((mid+p) - i)) (fun h4 h4'=>(.u2 (.g (.two (l9 ((mid+p) - i) b) (fun h5 h5'=>(.r (.ch 5 [(o_ g 9 ((mAt (ltF cmp) mid ((mid+p) - i) b l).map j4.row))] (ih_at mid ((mid+p) - i) b n g l Y2 y7 y7 y7 y7 y7 Y1 Y0 []) (.q 1 (AV.tup []) O9)))) (fun h5 h5'=>(.q 1 (AV.tup []) O9)))))) (fun h4 h4'=>(.n2 (.g (.n (.q 1 (AV.tup []) O9)))))))))))))))) (fun h1 h1'=>(.n2 (.rn (.two (l9 a i) (fun h2 h2'=>(.u2 (.g (.two (l9 i mid) (fun h3 h3'=>(.r (.ch 5 [(o_ g 9 ((mAt (ltF cmp) a i mid l).map j4.row))] (ih_at a i mid n g l rM y7 y7 y7 y7 y7 rJ rH []) (.s (.two (l9 mid ((mid+p) - i)) (fun h4 h4'=>(.u2 (.g (.two (l9 ((mid+p) - i) b) (fun h5 h5'=>(.r (.ch 5 [(o_ g 9 ((mAt (ltF cmp) mid ((mid+p) - i) b (mAt (ltF cmp) a i mid l)).map j4.row))] (ih_at mid ((mid+p) - i) b n g (mAt (ltF cmp) a i mid l) Y2 y7 y7 y7 y7 y7 Y1 Y0 []) (.q 1 (AV.tup []) O9)))) (fun h5 h5'=>(.q 1 (AV.tup []) O9)))))) (fun h4 h4'=>(.n2 (.g (.n (.q 1 (AV.tup []) O9)))))))))) (fun h3 h3'=>(.r (.two (l9 mid ((mid+p) - i)) (fun h4 h4'=>(.u2 (.g (.two (l9 ((mid+p) - i) b) (fun h5 h5'=>(.r (.ch 5 [(o_ g 9 ((mAt (ltF cmp) mid ((mid+p) - i) b l).map j4.row))] (ih_at mid ((mid+p) - i) b n g l Y2 y7 y7 y7 y7 y7 Y1 Y0 []) (.q 1 (AV.tup []) O9)))) (fun h5 h5'=>(.q 1 (AV.tup []) O9)))))) (fun h4 h4'=>(.n2 (.g (.n (.q 1 (AV.tup []) O9)))))))))))) (fun h2 h2'=>(.n2 (.rn (.two (l9 mid ((mid+p) - i)) (fun h3 h3'=>(.u2 (.g (.two (l9 ((mid+p) - i) b) (fun h4 h4'=>(.r (.ch 5 [(o_ g 9 ((mAt (ltF cmp) mid ((mid+p) - i) b l).map j4.row))] (ih_at mid ((mid+p) - i) b n g l Y2 y7 y7 y7 y7 y7 Y1 Y0 []) (.q 1 (AV.tup []) O9)))) (fun h4 h4'=>(.q 1 (AV.tup []) O9)))))) (fun h3 h3'=>(.n2 (.g (.n (.q 1 (AV.tup []) O9))))))))))))))))))))))))))))))))))))))
theorem a9j {p:Prop} (h:p:=by exact decide_eq_false ow):p:=h
set_option maxHeartbeats 4000000 in
theorem c8E (cmp:j4->j4->Int) (f:Nat) (xs:List AV) (A L1 L2 R1 R2 B:l9C) (a p b n g i mid Nz:Nat) (l:l9C) (hc:h9C cmp f xs) (hxs:AV.bdds 1 xs=true) (hn:n=l.length) (hnb:n < 1048576) (ih_at:∀ (a p b n g:Nat) (l:l9C),n=l.length->n < 1048576->a < p->p < b->b<=n->b - a < Nz->Srt (ltF cmp) ((l.drop a).take (p - a))->Srt (ltF cmp) ((l.drop p).take (b - p))->∀ H:Heap,AC 216 [(AV.osl 0 g 9 0 n),(AV.int .i64 (a:Int)),(AV.int .i64 (p:Int)),(AV.int .i64 (b:Int)),(AV.func f xs)] (([(o_ g 9 (l.map j4.row))]:Heap)++H) (.tup [],([(o_ g 9 ((mAt (ltF cmp) a p b l).map j4.row))]:Heap)++H)) (hl:l=A++(L1++(L2++(R1++(R2++B))))) (hA:a=A.length) (hi:i=a+L1.length) (hp:p=i+L2.length) (hR1:mid=i+R1.length) (hb:b=p+R1.length+R2.length) (hbn:b<=n) (hap:a < p) (hpb:p < b) (h1:p≠a+1) (h2:b≠p+1) (hmid:mid=(a+b) / 2) (hNz:b - a<=Nz) (hgt:p<=mid) (hs:i=bsr (fun c=>!decide (cmp (nth l (mid+p - 1 - c)) (nth l c) < 0)) (p - a) a p) (hlo:a<=i) (hhi:i<=p) (q1:Srt (ltF cmp) L1) (q2:Srt (ltF cmp) L2) (q3:Srt (ltF cmp) R1) (q4:Srt (ltF cmp) R2):AC 216 [(AV.osl 0 g 9 0 n),(AV.int .i64 (a:Int)),(AV.int .i64 (p:Int)),(AV.int .i64 (b:Int)),(AV.func f xs)] [(o_ g 9 (l.map j4.row))] ((AV.tup []),[(o_ g 9 ((A++(mg (ltF cmp) L1 R1++(mg (ltF cmp) L2 R2++B))).map j4.row))]):=by
 have hll:n=A.length+L1.length+L2.length+R1.length+R2.length+B.length:=by rw [hn,hl]; simp; omega
 have e1:=sm1 A L1 L2 R1 R2 B hl (s:=i) (m:=p) (e:=mid+p - i) ow hp ow
 have e2:=sm2 (ltF cmp) A L1 R1 (L2++(R2++B)) (a:=a) (s:=i) (mid:=mid) hA hi hR1
 have e3:=sm3 (ltF cmp) A (mg (ltF cmp) L1 R1) L2 R2 B (mid:=mid) (e:=mid+p - i) (b:=b) b4Q ow ow
 have hrot:0 < L2.length->0 < R1.length->_:=vP (A++L1) L2 R1 (R2++B) (l:=l) (by rw [hl]; simp) (a:=i) (m:=p) (b:=mid+p - i) yg_ hp ow
 have hlen2:(A++(mg (ltF cmp) L1 R1++(L2++(R2++B)))).length=n:=by rw [hll]; simp [uW]; omega
 have hlen1:(A++(L1++(R1++(L2++(R2++B))))).length=n:=by rw [hll]; simp; omega
 exact x9 (fn:=Tryz.f216) (ann:=aM) (Has.o Tryz.func216) (.r (.y 2 (iW ((p:Int) - (a:Int))) (AV.int .i64 ((p - a:Nat):Int)) Yes.o (.y 3 (AV.bool (((p - a:Nat):Int) == 1)) (AV.bool false) (Yes.b uF) (.rn (.y 2 (iW ((b:Int) - (p:Int))) (AV.int .i64 ((b - p:Nat):Int)) Yes.o (.y 3 (AV.bool (((b - p:Nat):Int) == 1)) (AV.bool false) (Yes.b uF) (.rn (.y 2 (iW ((a:Int)+(b:Int))) (AV.int .i64 ((a+b:Nat):Int)) Yes.o (.y 5 (iW (Int.fdiv (IntKind.u64.wrap ((a+b:Nat):Int)) (2 ^ (min (Int.toNat 1) 64)))) (AV.int .i64 (mid:Int)) (Yes.int (fQ ow ow)) (.s (.y 2 (iW ((mid:Int)+(p:Int))) (AV.int .i64 ((mid+p:Nat):Int)) Yes.o (.s (.s (.y 2 (AV.bool (decide ((p:Int) > (mid:Int)))) (AV.bool false) (Yes.b a9j) (.rn (.s (.s (.y 1 (iW (((mid+p:Nat):Int) - 1)) (AV.int .i64 ((mid+p - 1:Nat):Int)) Yes.o (.g (.loop (a9a g n a p b f xs mid i) (show l6 (C8 aM Tryz.f216 4) (some [0,1,2,3,4,18,19,20,21,22]) (some [0,1,2,3,4,18,19,20]) (mkF 220 [(0,(AV.osl 0 g 9 0 n)),(1,(AV.int .i64 (a:Int))),(2,(AV.int .i64 (p:Int))),(3,(AV.int .i64 (b:Int))),(4,(AV.func f xs)),(18,(AV.int .i64 (mid:Int))),(19,(AV.int .i64 ((mid+p:Nat):Int))),(20,(AV.int .i64 (a:Int))),(21,(AV.int .i64 (p:Int))),(22,(AV.int .i64 ((mid+p - 1:Nat):Int)))]) [(o_ g 9 (l.map j4.row))] (.exit 8) (a9a g n a p b f xs mid i) [(o_ g 9 (l.map j4.row))] from (by rw [hs]; exact a9Q cmp f xs hc a p b mid (mid+p) (mid+p - 1) n g l hn hnb (p - a) a p ow ow ow)) (.r (.y 2 (iW ((((mid+p):Nat):Int) - (i:Int))) (AV.int .i64 (((mid+p) - i:Nat):Int)) Yes.o (.s (.two (l9 i p) (fun h1 h1'=>(.u2 (.g (.two (l9 p ((mid+p) - i)) (fun h2 h2'=>(.r (.ch 5 (c0H g i p mid l) (c3J f xs i p ((mid+p) - i) n g l y7 y7 y7 y7 y7 y7 ((hrot ow ow).1) ((hrot ow ow).2.1) ((hrot ow ow).2.2) []) (.s (.two (l9 a i) (fun h3 h3'=>(.u2 (.g (.two (l9 i mid) (fun h4 h4'=>(.r (.ch 5 [(o_ g 9 ((mAt (ltF cmp) a i mid (S9 i p ((mid+p) - i) l)).map j4.row))] (ih_at a i mid n g (S9 i p ((mid+p) - i) l) rM y7 y7 y7 y7 y7 rJ rH []) (.s (.two (l9 mid ((mid+p) - i)) (fun h5 h5'=>(.u2 (.g (.two (l9 ((mid+p) - i) b) (fun h6 h6'=>(.r (.ch 5 [(o_ g 9 ((mAt (ltF cmp) mid ((mid+p) - i) b (mAt (ltF cmp) a i mid (S9 i p ((mid+p) - i) l))).map j4.row))] (ih_at mid ((mid+p) - i) b n g (mAt (ltF cmp) a i mid (S9 i p ((mid+p) - i) l)) Y2 y7 y7 y7 y7 y7 Y1 Y0 []) (.q 1 (AV.tup []) O9)))) (fun h6 h6'=>(.q 1 (AV.tup []) O9)))))) (fun h5 h5'=>(.n2 (.g (.n (.q 1 (AV.tup []) O9)))))))))) (fun h4 h4'=>(.r (.two (l9 mid ((mid+p) - i)) (fun h5 h5'=>(.u2 (.g (.two (l9 ((mid+p) - i) b) (fun h6 h6'=>(.r (.ch 5 [(o_ g 9 ((mAt (ltF cmp) mid ((mid+p) - i) b (S9 i p ((mid+p) - i) l)).map j4.row))] (ih_at mid ((mid+p) - i) b n g (S9 i p ((mid+p) - i) l) Y2 y7 y7 y7 y7 y7 Y1 Y0 []) (.q 1 (AV.tup []) O9)))) (fun h6 h6'=>(.q 1 (AV.tup []) O9)))))) (fun h5 h5'=>(.n2 (.g (.n (.q 1 (AV.tup []) O9)))))))))))) (fun h3 h3'=>(.n2 (.rn (.two (l9 mid ((mid+p) - i)) (fun h4 h4'=>(.u2 (.g (.two (l9 ((mid+p) - i) b) (fun h5 h5'=>(.r (.ch 5 [(o_ g 9 ((mAt (ltF cmp) mid ((mid+p) - i) b (S9 i p ((mid+p) - i) l)).map j4.row))] (ih_at mid ((mid+p) - i) b n g (S9 i p ((mid+p) - i) l) Y2 y7 y7 y7 y7 y7 Y1 Y0 []) (.q 1 (AV.tup []) O9)))) (fun h5 h5'=>(.q 1 (AV.tup []) O9)))))) (fun h4 h4'=>(.n2 (.g (.n (.q 1 (AV.tup []) O9)))))))))))))) (fun h2 h2'=>(.r (.two (l9 a i) (fun h3 h3'=>(.u2 (.g (.two (l9 i mid) (fun h4 h4'=>(.r (.ch 5 [(o_ g 9 ((mAt (ltF cmp) a i mid l).map j4.row))] (ih_at a i mid n g l rM y7 y7 y7 y7 y7 rJ rH []) (.s (.two (l9 mid ((mid+p) - i)) (fun h5 h5'=>(.u2 (.g (.two (l9 ((mid+p) - i) b) (fun h6 h6'=>(.r (.ch 5 [(o_ g 9 ((mAt (ltF cmp) mid ((mid+p) - i) b (mAt (ltF cmp) a i mid l)).map j4.row))] (ih_at mid ((mid+p) - i) b n g (mAt (ltF cmp) a i mid l) Y2 y7 y7 y7 y7 y7 Y1 Y0 []) (.q 1 (AV.tup []) O9)))) (fun h6 h6'=>(.q 1 (AV.tup []) O9)))))) (fun h5 h5'=>(.n2 (.g (.n (.q 1 (AV.tup []) O9)))))))))) (fun h4 h4'=>(.r (.two (l9 mid ((mid+p) - i)) (fun h5 h5'=>(.u2 (.g (.two (l9 ((mid+p) - i) b) (fun h6 h6'=>(.r (.ch 5 [(o_ g 9 ((mAt (ltF cmp) mid ((mid+p) - i) b l).map j4.row))] (ih_at mid ((mid+p) - i) b n g l Y2 y7 y7 y7 y7 y7 Y1 Y0 []) (.q 1 (AV.tup []) O9)))) (fun h6 h6'=>(.q 1 (AV.tup []) O9)))))) (fun h5 h5'=>(.n2 (.g (.n (.q 1 (AV.tup []) O9)))))))))))) (fun h3 h3'=>(.n2 (.rn (.two (l9 mid ((mid+p) - i)) (fun h4 h4'=>(.u2 (.g (.two (l9 ((mid+p) - i) b) (fun h5 h5'=>(.r (.ch 5 [(o_ g 9 ((mAt (ltF cmp) mid ((mid+p) - i) b l).map j4.row))] (ih_at mid ((mid+p) - i) b n g l Y2 y7 y7 y7 y7 y7 Y1 Y0 []) (.q 1 (AV.tup []) O9)))) (fun h5 h5'=>(.q 1 (AV.tup []) O9)))))) (fun h4 h4'=>(.n2 (.g (.n (.q 1 (AV.tup []) O9)))))))))))))))) (fun h1 h1'=>(.n2 (.rn (.two (l9 a i) (fun h2 h2'=>(.u2 (.g (.two (l9 i mid) (fun h3 h3'=>(.r (.ch 5 [(o_ g 9 ((mAt (ltF cmp) a i mid l).map j4.row))] (ih_at a i mid n g l rM y7 y7 y7 y7 y7 rJ rH []) (.s (.two (l9 mid ((mid+p) - i)) (fun h4 h4'=>(.u2 (.g (.two (l9 ((mid+p) - i) b) (fun h5 h5'=>(.r (.ch 5 [(o_ g 9 ((mAt (ltF cmp) mid ((mid+p) - i) b (mAt (ltF cmp) a i mid l)).map j4.row))] (ih_at mid ((mid+p) - i) b n g (mAt (ltF cmp) a i mid l) Y2 y7 y7 y7 y7 y7 Y1 Y0 []) (.q 1 (AV.tup []) O9)))) (fun h5 h5'=>(.q 1 (AV.tup []) O9)))))) (fun h4 h4'=>(.n2 (.g (.n (.q 1 (AV.tup []) O9)))))))))) (fun h3 h3'=>(.r (.two (l9 mid ((mid+p) - i)) (fun h4 h4'=>(.u2 (.g (.two (l9 ((mid+p) - i) b) (fun h5 h5'=>(.r (.ch 5 [(o_ g 9 ((mAt (ltF cmp) mid ((mid+p) - i) b l).map j4.row))] (ih_at mid ((mid+p) - i) b n g l Y2 y7 y7 y7 y7 y7 Y1 Y0 []) (.q 1 (AV.tup []) O9)))) (fun h5 h5'=>(.q 1 (AV.tup []) O9)))))) (fun h4 h4'=>(.n2 (.g (.n (.q 1 (AV.tup []) O9)))))))))))) (fun h2 h2'=>(.n2 (.rn (.two (l9 mid ((mid+p) - i)) (fun h3 h3'=>(.u2 (.g (.two (l9 ((mid+p) - i) b) (fun h4 h4'=>(.r (.ch 5 [(o_ g 9 ((mAt (ltF cmp) mid ((mid+p) - i) b l).map j4.row))] (ih_at mid ((mid+p) - i) b n g l Y2 y7 y7 y7 y7 y7 Y1 Y0 []) (.q 1 (AV.tup []) O9)))) (fun h4 h4'=>(.q 1 (AV.tup []) O9)))))) (fun h3 h3'=>(.n2 (.g (.n (.q 1 (AV.tup []) O9)))))))))))))))))))))))))))))))))))))
end Go.Proofs.YtmghjcbabebanaaGreat.AM
namespace Go.Proofs.YtmghjcbabebanaaGreat.AM
open Go
section
variable {α:Type} [Inhabited α] {lt:α->α->Bool}
theorem U8.irr (W:U8 lt) (a:α):lt a a=false:=by
 cases h:lt a a with
 | false=>rfl
 | true=>have:=W.asymm a a h; rw [h] at this; exact this
theorem four {l:List α} {a m b:Nat} (ham:a<=m) (hmb:m<=b):l=l.take a++((l.drop a).take (m - a)++((l.drop m).take (b - m)++l.drop b)):=by
 have h1:(l.drop m).take (b - m)++l.drop b=l.drop m:=by
  have:=List.take_append_drop (b - m) (l.drop m)
  rw [List.drop_drop,show m+(b - m)=b by omega] at this
  exact this
 have h2:(l.drop a).take (m - a)++l.drop m=l.drop a:=by
  have:=List.take_append_drop (m - a) (l.drop a)
  rw [List.drop_drop,show a+(m - a)=m by omega] at this
  exact this
 rw [h1,h2,List.take_append_drop]
theorem a3q {l:List α} {a k i:Nat} (hi:i < k):nth ((l.drop a).take k) i=nth l (a+i):=by rw [fK hi,nY]
theorem lG {l:List α} {a k:Nat} (h:a+k<=l.length):((l.drop a).take k).length=k:=by simp; omega
theorem zQ {l:List α} {a k:Nat} {x:α} (h:a+k<=l.length) (hx:x∈(l.drop a).take k):∃ i,a<=i/\i < a+k/\nth l i=x:=by
 obtain ⟨i,hi,rfl⟩:=dF hx
 rw [lG h] at hi
 exact ⟨a+i,by omega,by omega,(a3q hi).symm⟩
theorem a4d {l:List α} {a k:Nat} (W:U8 lt) (h:a+k<=l.length) (hs:Srt lt ((l.drop a).take k)) {i j:Nat} (h1:a<=i) (h2:i<=j) (h3:j < a+k):lt (nth l j) (nth l i)=false:=by
 rcases Nat.lt_or_ge i j with h4 | h4
 · have:=a4F.1 hs (i - a) (j - a) ya_ (by rw [lG h]; omega)
   rw [a3q ya_,a3q ya_] at this
   rwa [show a+(i - a)=i by omega,show a+(j - a)=j by omega] at this
 · obtain rfl:i=j:=by omega
   exact W.irr _
theorem dX {l:List α} {a k s:Nat} (hs:s<=k):(l.drop a).take k=(l.drop a).take s++(l.drop (a+s)).take (k - s):=by
 have:=List.take_append_drop s ((l.drop a).take k)
 rw [List.take_take,Nat.min_eq_left hs,List.drop_take,List.drop_drop] at this
 exact this.symm
theorem a2g {l:List α} {a k s:Nat} (hs:s<=k) (h:Srt lt ((l.drop a).take k)):Srt lt ((l.drop a).take s)/\Srt lt ((l.drop (a+s)).take (k - s)):=by
 rw [dX hs] at h
 have:=List.pairwise_append.1 h
 exact ⟨this.1,this.2.1⟩
theorem a3z (W:U8 lt) {x y u v:α} (h1:lt u y=false) (h2:lt u v=true) (h3:lt x v=false):lt y x=true:=by
 cases h:lt y x with
 | true=>rfl
 | false =>
  have h4:=W.trans v x y h3 h
  have h5:=W.trans v y u h4 h1
  rw [h2] at h5; simp at h5
theorem nV (W:U8 lt) {l:List α} {a p b s e:Nat} (ham:a<=p) (hpb:p<=b) (hbl:b<=l.length) (h7:Srt lt ((l.drop a).take (p - a))) (h8:Srt lt ((l.drop p).take (b - p))) (has:a<=s) (hsp:s<=p) (hpe:p<=e) (heb:e<=b)
 (k1:s < p->p < e->lt (nth l (e - 1)) (nth l s)=true) (k2:a < s->e < b->lt (nth l e) (nth l (s - 1))=false) :
 mAt lt a p b l=l.take a++(mg lt ((l.drop a).take (s - a)) ((l.drop p).take (e - p))++(mg lt ((l.drop s).take (p - s)) ((l.drop e).take (b - e))++l.drop b)):=by
 unfold mAt
 have c1:=dX (l:=l) (a:=a) (k:=p - a) (s:=s - a) ya_
 have c2:=dX (l:=l) (a:=p) (k:=b - p) (s:=e - p) ya_
 rw [show a+(s - a)=s by omega,show p - a - (s - a)=p - s by omega] at c1
 rw [show p+(e - p)=e by omega,show b - p - (e - p)=b - e by omega] at c2
 rw [c1,c2,a3v lt _ _ _ J8 (fun x hx y hy=>?_) (fun x hx y hy=>?_),List.append_assoc]
 · obtain ⟨i,i1,i2,rfl⟩:=zQ ya_ hx
   obtain ⟨j,j1,j2,rfl⟩:=zQ ya_ hy
   exact a3z W (a4d W ya_ h8 (i:=j) (j:=e - 1) ya_ ya_ ya_) (k1 ya_ ya_) (a4d W ya_ h7 (i:=s) (j:=i) ya_ ya_ ya_)
 · obtain ⟨i,i1,i2,rfl⟩:=zQ ya_ hx
   obtain ⟨j,j1,j2,rfl⟩:=zQ ya_ hy
   have q1:=a4d W ya_ h7 (i:=i) (j:=s - 1) ya_ ya_ ya_
   have q2:=a4d W ya_ h8 (i:=e) (j:=j) ya_ ya_ ya_
   exact W.trans _ _ _ (W.trans _ _ _ q1 (k2 ya_ ya_)) q2
theorem b0r {x:α} {R:List α} (h:∀ y,R.head?=some y->lt y x=false):mg lt [x] R=x :: R:=by
 cases R with
 | nil=>rw [fM]
 | cons y R=>rw [lV,if_neg (by rw [h y rfl]; simp),bE]
theorem b0q {y:α} {L:List α} (h:∀ x,L.head?=some x->lt y x=true):mg lt L [y]=y :: L:=by
 cases L with
 | nil=>rw [bE]
 | cons x L=>rw [lV,if_pos (h x rfl),fM]
theorem zV {l:List α} {a:Nat} (h:a < l.length):(l.drop a).take 1=[nth l a]:=by rw [aU h]; rfl
theorem vZ {l:List α} {a k:Nat} {x:α} (h:((l.drop a).take k).head?=some x) (hl:a+k<=l.length):0 < k/\x=nth l a:=by
 cases k with
 | zero=>simp at h
 | succ k =>
  rw [aU ya_] at h
  simp at h
  exact ⟨by omega,h.symm⟩
theorem d6b (W:U8 lt) {S T:List α} (hS:Srt lt S) (hT:Srt lt T) (y:α):mg lt S (aY lt T y)=aY lt (mg lt S T) y:=by
 have fS:S=S.filter (fun z=>!lt y z)++S.filter (fun z=>lt y z):=by
  clear hT
  induction S with
  | nil=>rfl
  | cons z S ih =>
   have h:=List.pairwise_cons.1 hS
   have ih':=ih h.2
   by_cases c:lt y z=true
   · have hall:∀ w∈S,lt y w=true:=fun w hw=>a3z W (W.irr y) c (h.1 w hw)
     have e1:S.filter (fun z=>!lt y z)=[]:=List.filter_eq_nil_iff.2 fun w hw=>by simp [hall w hw]
     have e2:S.filter (fun z=>lt y z)=S:=List.filter_eq_self.2 fun w hw=>hall w hw
     simp [List.filter_cons,c,e1,e2]
   · simp only [Bool.not_eq_true] at c
     conv=>lhs; rw [ih']
     simp [List.filter_cons,c]
 have fT:T=T.filter (fun z=>!lt y z)++T.filter (fun z=>lt y z):=by
  clear hS fS
  induction T with
  | nil=>rfl
  | cons z T ih =>
   have h:=List.pairwise_cons.1 hT
   have ih':=ih h.2
   by_cases c:lt y z=true
   · have hall:∀ w∈T,lt y w=true:=fun w hw=>a3z W (W.irr y) c (h.1 w hw)
     have e1:T.filter (fun z=>!lt y z)=[]:=List.filter_eq_nil_iff.2 fun w hw=>by simp [hall w hw]
     have e2:T.filter (fun z=>lt y z)=T:=List.filter_eq_self.2 fun w hw=>hall w hw
     simp [List.filter_cons,c,e1,e2]
   · simp only [Bool.not_eq_true] at c
     conv=>lhs; rw [ih']
     simp [List.filter_cons,c]
 have m1:∀ z∈S.filter (fun z=>!lt y z),lt y z=false:=fun z hz=>by simpa using (List.mem_filter.1 hz).2
 have m2:∀ z∈S.filter (fun z=>lt y z),lt y z=true:=fun z hz=>(List.mem_filter.1 hz).2
 have m3:∀ z∈T.filter (fun z=>!lt y z),lt y z=false:=fun z hz=>by simpa using (List.mem_filter.1 hz).2
 have m4:∀ z∈T.filter (fun z=>lt y z),lt y z=true:=fun z hz=>(List.mem_filter.1 hz).2
 rw [b7v W hT y]
 generalize hS1:S.filter (fun z=>!lt y z)=S1 at fS m1
 generalize hS2:S.filter (fun z=>lt y z)=S2 at fS m2
 generalize hT1:T.filter (fun z=>!lt y z)=T1 at fT m3
 generalize hT2:T.filter (fun z=>lt y z)=T2 at fT m4
 have cross:∀ x∈S2,∀ z∈T1,lt z x=true:=fun x hx z hz=>by
  cases h:lt z x with
  | true=>rfl
  | false=>have:=W.trans x z y h (m3 z hz); rw [m2 x hx] at this; simp at this
 have cross2:∀ x∈S1,∀ z∈T2,lt z x=false:=fun x hx z hz=>by
  have h1:=W.asymm _ _ (m4 z hz)
  exact W.trans x y z (m1 x hx) h1
 have e1:mg lt S T=mg lt S1 T1++mg lt S2 T2:=by
  rw [fS,fT]; exact a3v lt _ _ _ J8 cross cross2
 have e2:mg lt S (T1++y :: T2)=mg lt S1 T1++mg lt S2 (y :: T2):=by
  rw [fS]; exact a3v lt _ _ _ J8 cross fun x hx z hz=>by
   rcases List.mem_cons.1 hz with rfl | hz
   · exact m1 x hx
   · exact cross2 x hx z hz
 have e3:mg lt S2 (y :: T2)=y :: mg lt S2 T2:=by
  cases S2 with
  | nil=>rw [bE,bE]
  | cons x S2=>rw [lV,if_pos (m2 x ye_)]
 have p1:∀ z∈mg lt S1 T1,lt y z=false:=fun z hz=>by
  have:=(a6t lt _ S1 T1 J8).mem_iff.1 hz
  rcases List.mem_append.1 this with h | h
  · exact m1 z h
  · exact m3 z h
 have p2:∀ z∈mg lt S2 T2,lt y z=true:=fun z hz=>by
  have:=(a6t lt _ S2 T2 J8).mem_iff.1 hz
  rcases List.mem_append.1 this with h | h
  · exact m2 z h
  · exact m4 z h
 have ins:∀ (P Q:List α),(∀ z∈P,lt y z=false)->(∀ z∈Q,lt y z=true)->aY lt (P++Q) y=P++y :: Q:=fun P Q hP hQ=>by
  have hpos:bM lt y (P++Q) (P++Q).length=P.length:=by
   obtain ⟨s1,s2⟩:=a0Y lt y (P++Q) (P++Q).length
   have s3:=a2p lt y (P++Q) (P++Q).length
   have hlen:(P++Q).length=P.length+Q.length:=List.length_append
   rcases Nat.lt_trichotomy (bM lt y (P++Q) (P++Q).length) P.length with h | h | h
   · have:=s1 _ J8 ya_
     rw [nZ,if_pos h] at this
     rw [hP _ (tX h)] at this; simp at this
   · exact h
   · have:=s2 ya_
     rw [nZ,if_neg ya_] at this
     rw [hQ _ (tX ya_)] at this; simp at this
  unfold aY
  rw [hpos]
  simp
 rw [e2,e3,e1,ins _ _ p1 p2]
theorem a7h (W:U8 lt) (Y:List α):∀ (X:List α),Q0 lt (X++Y)=mg lt (Q0 lt X) (Q0 lt Y):=by
 intro X
 have key:∀ (Z T:List α),Srt lt T->mg lt (Q0 lt X) (Z.foldl (aY lt) T)=Z.foldl (aY lt) (mg lt (Q0 lt X) T):=by
  intro Z
  induction Z with
  | nil=>intro T _; rfl
  | cons z Z ih =>
   intro T hT
   simp only [List.foldl_cons]
   rw [ih _ (a2V W hT z),d6b W (jE W X) hT]
 have:=key Y [] List.Pairwise.nil
 rw [fM] at this
 have e:Q0 lt (X++Y)=Y.foldl (aY lt) (Q0 lt X):=by unfold Q0; rw [List.foldl_append]
 rw [e,<- this]
 rfl
end
open Go.Proofs.YtmghjcbabebanaaGreat
attribute [local irreducible] A9 E9 F5 F6 F8 F9 G9 H6 J4 K4 K5 L8 M8 Q5 R7 S9 Tp.J5 Tp.K8 Tp.card Tp.cards Tp.key Tp.keyT Tp.next Tp.step U6 U7 V3 V8 bsr cmpL j5 l6 mg mgL shD shU sink
theorem rG {p:Prop} (h:p:=by rw [lG ow]; omega):p:=h
theorem d6z (cmp:j4->j4->Int) (f:Nat) (xs:List AV) (hc:h9C cmp f xs) (hxs:AV.bdds 1 xs=true) (W:U8 (ltF cmp)) (Nz:Nat):∀ (a p b n g:Nat) (l:l9C),n=l.length->n < 1048576->a < p->p < b->b<=n->b - a < Nz ->
 Srt (ltF cmp) ((l.drop a).take (p - a))->Srt (ltF cmp) ((l.drop p).take (b - p))->AC 216 [(d9 0 g 9 n),(iN a),(iN p),(iN b),(A8 f xs)] [(o_ g 9 (mC l))] (.tup [],[(o_ g 9 (mC (mAt (ltF cmp) a p b l)))]):=by
 induction Nz with
 | zero=>intro a p b n g l _ _ _ _ _ h; omega
 | succ Nz ih =>
  intro a p b n g l hn hnb hap hpb hbn hN h7 h8
  by_cases c1:p=a+1
  · obtain ⟨s1,s2,s3,s4⟩:=oN (fun c=>decide (cmp (nth l c) (nth l a) < 0)) (b - p) p b J8 ow
    generalize hs:bsr (fun c=>decide (cmp (nth l c) (nth l a) < 0)) (b - p) p b=s at s1 s2 s3 s4
    have hlaw:=nV W (l:=l) (a:=a) (p:=p) (b:=b) (s:=a) (e:=s) ow ow ow h7 h8 ow ow s1 s2 (fun _ h=>s3 h) (fun h=>by omega)
    have hx:(l.drop a).take (p - a)=[nth l a]:=by rw [show p - a=1 by omega]; exact zV ow
    rw [Nat.sub_self,List.take_zero,bE,hx,b0r (fun y hy=>by
     obtain ⟨q1,q2⟩:=vZ hy ow
     rw [q2]; exact s4 ow)] at hlaw
    rw [hlaw]
    have hl:=four (l:=l) (a:=a) (m:=p) (b:=b) ow ow
    rw [hx,dX (l:=l) (a:=p) (k:=b - p) (s:=s - p) ow,show p+(s - p)=s by omega,show b - p - (s - p)=b - s by omega,List.append_assoc] at hl
    exact c8H cmp f xs (l.take a) ((l.drop p).take (s - p)) ((l.drop s).take (b - s)) (l.drop b) (nth l a) a p b n g s l hc hxs hn hnb hl yg_ c1 ow hbn rG s2 hs.symm
  by_cases c2:b=p+1
  · obtain ⟨s1,s2,s3,s4⟩:=oN (fun c=>!decide (cmp (nth l p) (nth l c) < 0)) (p - a) a p J8 ow
    generalize hs:bsr (fun c=>!decide (cmp (nth l p) (nth l c) < 0)) (p - a) a p=s at s1 s2 s3 s4
    have hlaw:=nV W (l:=l) (a:=a) (p:=p) (b:=b) (s:=s) (e:=p) ow ow ow h7 h8 s1 s2 ow ow (fun _ h=>by omega) (fun h _=>by have:=s3 h; simp only [Bool.not_eq_true'] at this; exact this)
    have hx:(l.drop p).take (b - p)=[nth l p]:=by rw [show b - p=1 by omega]; exact zV ow
    rw [Nat.sub_self,List.take_zero,fM,hx,b0q (fun y hy=>by
     obtain ⟨q1,q2⟩:=vZ hy ow
     rw [q2]; simpa [ltF] using s4 ow)] at hlaw
    rw [hlaw]
    have hl:=four (l:=l) (a:=a) (m:=p) (b:=b) ow ow
    rw [hx,dX (l:=l) (a:=a) (k:=p - a) (s:=s - a) ow,show a+(s - a)=s by omega,show p - a - (s - a)=p - s by omega,List.append_assoc] at hl
    exact c8G cmp f xs (l.take a) ((l.drop a).take (s - a)) ((l.drop s).take (p - s)) (l.drop b) (nth l p) a p b n g s l hc hxs hn hnb hl yg_ rG rG c1 c2 hbn hs.symm
  have ih_at:∀ (a p b n g:Nat) (l:l9C),n=l.length->n < 1048576->a < p->p < b->b<=n->b - a < Nz->Srt (ltF cmp) ((l.drop a).take (p - a))->Srt (ltF cmp) ((l.drop p).take (b - p))->∀ H:Heap,AC 216 [(d9 0 g 9 n),(iN a),(iN p),(iN b),(A8 f xs)] (([(o_ g 9 (mC l))]:Heap)++H) (.tup [],([(o_ g 9 (mC (mAt (ltF cmp) a p b l)))]:Heap)++H) :=
   fun a p b n g l q1 q2 q3 q4 q5 q6 q7 q8 H=>(ih a p b n g l q1 q2 q3 q4 q5 q6 q7 q8).ext (by simp [AV.bdds,AV.bdd,hxs]) kr ob ob kr H
  obtain ⟨mid,hmid⟩:∃ mid,mid=(a+b) / 2:=⟨_,rfl⟩
  have go:∀ lo hi,lo<=hi->(∀ s,lo<=s->s<=hi->a<=s/\s<=p/\p<=mid+p - s/\mid+p - s<=b/\(s < p->p < mid+p - s->s < hi)/\(a < s->mid+p - s < b->lo < s)) ->
   (∀ s,s=bsr (fun c=>!decide (cmp (nth l (mid+p - 1 - c)) (nth l c) < 0)) (hi - lo) lo hi->lo<=s->s<=hi->∀ (L1 L2 R1 R2:l9C),l=l.take a++(L1++(L2++(R1++(R2++l.drop b))))->s=a+L1.length->p=s+L2.length->mid=s+R1.length->b=p+R1.length+R2.length->Srt (ltF cmp) L1->Srt (ltF cmp) L2->Srt (ltF cmp) R1->Srt (ltF cmp) R2 ->
    AC 216 [(d9 0 g 9 n),(iN a),(iN p),(iN b),(A8 f xs)] [(o_ g 9 (mC l))] (.tup [],([(o_ g 9 (mC (l.take a++(mg (ltF cmp) L1 R1++(mg (ltF cmp) L2 R2++l.drop b)))))]:Heap))) ->
   AC 216 [(d9 0 g 9 n),(iN a),(iN p),(iN b),(A8 f xs)] [(o_ g 9 (mC l))] (.tup [],([(o_ g 9 (mC (mAt (ltF cmp) a p b l)))]:Heap)):=by
   intro lo hi hlh hb walk
   obtain ⟨s1,s2,s3,s4⟩:=oN (fun c=>!decide (cmp (nth l (mid+p - 1 - c)) (nth l c) < 0)) (hi - lo) lo hi J8 hlh
   generalize hs:bsr (fun c=>!decide (cmp (nth l (mid+p - 1 - c)) (nth l c) < 0)) (hi - lo) lo hi=s at s1 s2 s3 s4
   obtain ⟨b1,b2,b3,b4,b5,b6⟩:=hb s s1 s2
   have hlaw:=nV W (l:=l) (a:=a) (p:=p) (b:=b) (s:=s) (e:=mid+p - s) ow ow ow h7 h8 b1 b2 b3 b4 (fun h1 h2=>by
    have:=s4 (b5 h1 h2)
    simp only [Bool.not_eq_false'] at this
    rwa [show mid+p - 1 - s=mid+p - s - 1 by omega] at this) (fun h1 h2=>by
    have:=s3 (b6 h1 h2)
    simp only [Bool.not_eq_true'] at this
    rwa [show mid+p - 1 - (s - 1)=mid+p - s by omega] at this)
   rw [hlaw]
   have hl:=four (l:=l) (a:=a) (m:=p) (b:=b) ow ow
   rw [dX (l:=l) (a:=a) (k:=p - a) (s:=s - a) ow,show a+(s - a)=s by omega,show p - a - (s - a)=p - s by omega,
    dX (l:=l) (a:=p) (k:=b - p) (s:=mid+p - s - p) ow,show p+(mid+p - s - p)=mid+p - s by omega,show b - p - (mid+p - s - p)=b - (mid+p - s) by omega,List.append_assoc,List.append_assoc] at hl
   have q1:=a2g (l:=l) (a:=a) (k:=p - a) (s:=s - a) ow h7
   have q2:=a2g (l:=l) (a:=p) (k:=b - p) (s:=mid+p - s - p) ow h8
   rw [show a+(s - a)=s by omega,show p - a - (s - a)=p - s by omega] at q1
   rw [show p+(mid+p - s - p)=mid+p - s by omega,show b - p - (mid+p - s - p)=b - (mid+p - s) by omega] at q2
   exact walk s hs.symm s1 s2 _ _ _ _ hl rG rG rG (by rw [lG ow,lG ow]; omega) q1.1 q1.2 q2.1 q2.2
  have hA:a=(l.take a).length:=by simp; omega
  by_cases hgt:mid < p
  · refine go (mid+p - b) mid ow (fun s h1 h2=>⟨by omega,by omega,by omega,by omega,fun _ _=>by omega,fun _ _=>by omega⟩) fun s hs h1 h2 L1 L2 R1 R2 hl e1 e2 e3 e4 q1 q2 q3 q4=>?_
    exact c8F cmp f xs (l.take a) L1 L2 R1 R2 (l.drop b) a p b n g s mid Nz l hc hxs hn hnb ih_at hl hA e1 e2 e3 e4 hbn hap hpb c1 c2 hmid ow hgt hs h1 h2 q1 q2 q3 q4
  · refine go a p ow (fun s h1 h2=>⟨by omega,by omega,by omega,by omega,fun _ _=>by omega,fun _ _=>by omega⟩) fun s hs h1 h2 L1 L2 R1 R2 hl e1 e2 e3 e4 q1 q2 q3 q4=>?_
    exact c8E cmp f xs (l.take a) L1 L2 R1 R2 (l.drop b) a p b n g s mid Nz l hc hxs hn hnb ih_at hl hA e1 e2 e3 e4 hbn hap hpb c1 c2 hmid ow ow hs h1 h2 q1 q2 q3 q4
end Go.Proofs.YtmghjcbabebanaaGreat.AM
namespace Go.Proofs.YtmghjcbabebanaaGreat.AM
open Go
section
variable {α:Type} [Inhabited α]
theorem b5C (cmp:α->α->Int) (X:List α) (j:Nat):∀ (l:List α),j < l.length->sink cmp X.length (X.length+j) (X++l)=X++sink cmp 0 j l:=by
 induction j with
 | zero =>
  intro l hl
  have h1:sink cmp X.length X.length (X++l)=X++l:=by
   cases h:X.length with
   | zero=>simp only [sink]
   | succ q=>simp only [sink]; rw [if_neg]; simp
  simpa [sink] using h1
 | succ j ih =>
  intro l hl
  have e1:nth (X++l) (X.length+j+1)=nth l (j+1):=by rw [nZ,if_neg ya_]; congr 1; omega
  have e2:nth (X++l) (X.length+j)=nth l j:=by rw [nZ,if_neg ya_]; congr 1; omega
  have L:sink cmp X.length (X.length+(j+1)) (X++l)=if decide (cmp (nth (X++l) (X.length+j+1)) (nth (X++l) (X.length+j)) < 0)=true then sink cmp X.length (X.length+j) (((X++l).set (X.length+j+1) (nth (X++l) (X.length+j))).set (X.length+j) (nth (X++l) (X.length+j+1))) else X++l:=by
   rw [<- Nat.add_assoc]; simp only [sink]; rw [if_pos yg_]
  have R:sink cmp 0 (j+1) l=if decide (cmp (nth l (j+1)) (nth l j) < 0)=true then sink cmp 0 j ((l.set (j+1) (nth l j)).set j (nth l (j+1))) else l:=by
   simp only [sink]; rw [if_pos ye_]
  rw [L,R,e1,e2]
  split
  · have e3:((X++l).set (X.length+j+1) (nth l j)).set (X.length+j) (nth l (j+1))=X++(l.set (j+1) (nth l j)).set j (nth l (j+1)):=by
     rw [List.set_append_right _ _ ya_,List.set_append_right _ _ ya_]
     congr 2
     · congr 1; omega
     · omega
    rw [e3]
    exact ih _ (by simpa using (by omega:j < l.length))
  · rfl
theorem a8w (cmp:α->α->Int) (X:List α) (k:Nat):∀ (i:Nat) (l:List α),i+k<=l.length->A9 cmp X.length k (X.length+i) (X++l)=X++A9 cmp 0 k i l:=by
 induction k with
 | zero=>intro i l _; simp only [A9]
 | succ k ih =>
  intro i l h
  simp only [A9]
  rw [b5C cmp X i l ya_]
  exact ih (i+1) _ (by rw [uM]; omega)
theorem b3G (cmp:α->α->Int) (Y:List α) (rest:List α):∀ (S:List α),A9 cmp 0 rest.length S.length (S++(rest++Y))=rest.foldl (aY fun a b=>decide (cmp a b < 0)) S++Y:=by
 induction rest with
 | nil=>intro S; simp only [List.length_nil,A9,List.nil_append,List.foldl_nil]
 | cons x rest ih =>
  intro S
  simp only [List.length_cons,A9,List.foldl_cons]
  have h1:=a9A cmp S.length (S++(x :: rest++Y)) ye_
  have e1:(S++(x :: rest++Y)).take S.length=S:=by rw [List.take_append_of_le_length J8,List.take_length]
  have e2:nth (S++(x :: rest++Y)) S.length=x:=by rw [nZ,if_neg ya_,Nat.sub_self]; rfl
  have e3:(S++(x :: rest++Y)).drop (S.length+1)=rest++Y:=by
   rw [<- List.drop_drop,List.drop_append_of_le_length J8,List.drop_length]; rfl
  rw [e1,e2,e3] at h1
  rw [h1]
  have:=ih (aY (fun a b=>decide (cmp a b < 0)) S x)
  rw [b0E] at this
  exact this
theorem a1d (cmp:α->α->Int) (X M Y:List α) {a b:Nat} (ha:a=X.length) (hb:b=a+M.length):A9 cmp a (b - (a+1)) (a+1) (X++(M++Y))=X++(Q0 (fun a b=>decide (cmp a b < 0)) M++Y):=by
 subst ha hb
 cases M with
 | nil=>rw [show X.length+([]:List α).length - (X.length+1)=0 by simp]; simp only [A9]; rfl
 | cons x M =>
  rw [show X.length+(x :: M).length - (X.length+1)=M.length by simp; omega,a8w cmp X M.length 1 (x :: M++Y) yg_]
  have:=b3G cmp Y M [x]
  simp only [List.length_singleton,List.singleton_append] at this
  rw [show x :: M++Y=x :: (M++Y) from rfl,this]
  have e:Q0 (fun a b=>decide (cmp a b < 0)) (x :: M)=M.foldl (aY fun a b=>decide (cmp a b < 0)) [x]:=by
   unfold Q0
   rw [List.foldl_cons]
   congr 1
  rw [e]
def blk (lt:α->α->Bool) (bs:Nat):Nat->List α->List α
 | 0,l=>l
 | K+1,l=>Q0 lt (l.take bs)++blk lt bs K (l.drop bs)
theorem gU (lt:α->α->Bool) (l:List α):(Q0 lt l).length=l.length:=(b5r lt l).length_eq
theorem b4J (lt:α->α->Bool) (bs K:Nat):blk lt bs K ([]:List α)=[]:=by
 induction K with
 | zero=>rfl
 | succ K ih=>simp only [blk,List.take_nil,List.drop_nil]; rw [ih]; rfl
theorem yP (lt:α->α->Bool) (bs K:Nat):∀ (l:List α),(blk lt bs K l).length=l.length:=by
 induction K with
 | zero=>intro l; rfl
 | succ K ih=>intro l; simp only [blk,List.length_append]; rw [gU,ih,List.length_take,List.length_drop]; omega
theorem b1x (lt:α->α->Bool) (bs K:Nat):∀ (l:List α),K * bs<=l.length->∃ X,X.length=K * bs/\blk lt bs K l=X++l.drop (K * bs)/\∀ (D:Nat),blk lt bs (K+D) l=X++blk lt bs D (l.drop (K * bs)):=by
 induction K with
 | zero=>intro l h; exact ⟨[],by simp,by simp [blk],fun D=>by simp⟩
 | succ K ih =>
  intro l h
  rw [Nat.succ_mul] at h
  obtain ⟨X,h1,h2,h3⟩:=ih (l.drop bs) yg_
  refine ⟨Q0 lt (l.take bs)++X,by rw [List.length_append,gU,h1,Nat.succ_mul]; simp; omega,?_,fun D=>?_⟩
  · simp only [blk]
    rw [h2,List.drop_drop,List.append_assoc,Nat.succ_mul,Nat.add_comm bs]
  · rw [show K+1+D=(K+D)+1 by omega]
    simp only [blk]
    rw [h3,List.drop_drop,List.append_assoc,Nat.succ_mul,Nat.add_comm bs]
theorem b1y (lt:α->α->Bool) (bs D:Nat) (K:Nat):∀ (l:List α),l.length<=K * bs->blk lt bs (K+D) l=blk lt bs K l:=by
 induction K with
 | zero=>intro l h; obtain rfl:l=[]:=List.eq_nil_of_length_eq_zero ya_; rw [b4J,b4J]
 | succ K ih =>
  intro l h
  rw [Nat.succ_mul] at h
  rw [show K+1+D=(K+D)+1 by omega]
  simp only [blk]
  rw [ih _ yg_]
def iD (lt:α->α->Bool) (bs:Nat) (l:List α):List α:=blk lt bs (l.length+1) l
theorem yR (lt:α->α->Bool) {bs K:Nat} (hb:0 < bs) {l:List α} (h:l.length<=K * bs):blk lt bs K l=iD lt bs l:=by
 unfold iD
 have h2:l.length<=(l.length+1) * bs:=Nat.le_trans (Nat.le_succ _) (Nat.le_mul_of_pos_right _ hb)
 rcases Nat.le_total K (l.length+1) with h1 | h1
 · obtain ⟨D,hD⟩:=Nat.le.dest h1
   rw [<- hD,b1y lt bs D K l h]
 · obtain ⟨D,hD⟩:=Nat.le.dest h1
   rw [<- hD,b1y lt bs D _ l h2]
theorem oQ (lt:α->α->Bool) {bs:Nat} {l:List α} (h:l.length<=bs) (hb:0 < bs):iD lt bs l=Q0 lt l:=by
 rw [<- yR lt (K:=1) hb ya_]
 simp only [blk]
 rw [List.take_of_length_le h,List.drop_of_length_le h,List.append_nil]
theorem a1E (lt:α->α->Bool) {bs:Nat} (hb:0 < bs) (l:List α):iD lt bs l=Q0 lt (l.take bs)++iD lt bs (l.drop bs):=by
 have h2:∀ q:Nat,q<=(q+1) * bs:=fun q=>Nat.le_trans (Nat.le_succ _) (Nat.le_mul_of_pos_right _ hb)
 rw [<- yR lt (K:=(l.length+1)+1) hb (Nat.le_trans (h2 _) (Nat.mul_le_mul_right _ (Nat.le_succ _)))]
 have e:blk lt bs (l.length+1+1) l=Q0 lt (l.take bs)++blk lt bs (l.length+1) (l.drop bs):=rfl
 rw [e,yR lt hb (Nat.le_trans ye_ (h2 l.length))]
theorem d1r (lt:α->α->Bool) (bs:Nat) (l:List α):(iD lt bs l).length=l.length:=yP lt bs _ l
def mix (lt:α->α->Bool) (bs:Nat):Nat->List α->List α
 | 0,l=>iD lt bs l
 | J+1,l=>Q0 lt (l.take (2 * bs))++mix lt bs J (l.drop (2 * bs))
theorem b0o (lt:α->α->Bool) {bs:Nat} (hb:0 < bs) (J:Nat):∀ (l:List α),J * (2 * bs)<=l.length->∃ X,X.length=J * (2 * bs)/\mix lt bs J l=X++iD lt bs (l.drop (J * (2 * bs)))/\mix lt bs (J+1) l=X++(Q0 lt ((l.drop (J * (2 * bs))).take (2 * bs))++iD lt bs ((l.drop (J * (2 * bs))).drop (2 * bs)))/\∀ D,blk lt (2 * bs) (J+D) l=X++blk lt (2 * bs) D (l.drop (J * (2 * bs))):=by
 induction J with
 | zero=>intro l h; exact ⟨[],by simp,by simp [mix],by simp [mix],fun D=>by simp⟩
 | succ J ih =>
  intro l h
  rw [Nat.succ_mul] at h
  obtain ⟨X,h1,h2,h3,h4⟩:=ih (l.drop (2 * bs)) yg_
  have hmul:(J+1) * (2 * bs)=J * (2 * bs)+2 * bs:=Nat.succ_mul _ _
  have hd0:(l.drop (2 * bs)).drop (J * (2 * bs))=l.drop ((J+1) * (2 * bs)):=by rw [List.drop_drop,hmul,Nat.add_comm]
  refine ⟨Q0 lt (l.take (2 * bs))++X,by rw [List.length_append,gU,h1,hmul,List.length_take]; omega,?_,?_,fun D=>?_⟩
  · rw [mix,h2,hd0,List.append_assoc]
  · rw [mix,h3,hd0,List.append_assoc]
  · rw [show J+1+D=(J+D)+1 by omega]
    simp only [blk]
    rw [h4,hd0,List.append_assoc]
theorem b4z (lt:α->α->Bool) (bs J:Nat):∀ (l:List α),(mix lt bs J l).length=l.length:=by
 induction J with
 | zero=>intro l; exact d1r lt bs l
 | succ J ih=>intro l; simp only [mix,List.length_append]; rw [gU,ih,List.length_take,List.length_drop]; omega
variable {lt:α->α->Bool}
theorem a7B (W:U8 lt) {bs J:Nat} (hb:0 < bs) {l:List α} {a b:Nat} (ha:a=J * (2 * bs)) (hbe:b=a+2 * bs) (hn:b<=l.length) :
 mAt lt a (a+bs) b (mix lt bs J l)=mix lt bs (J+1) l/\Srt lt (((mix lt bs J l).drop a).take (a+bs - a))/\Srt lt (((mix lt bs J l).drop (a+bs)).take (b - (a+bs))):=by
 obtain ⟨X,h1,h2,h3,_⟩:=b0o lt hb J l ya_
 rw [<- ha] at h1 h2 h3
 rw [h2,h3,a1E lt hb,a1E lt hb ((l.drop a).drop bs)]
 have l1:(Q0 lt ((l.drop a).take bs)).length=bs:=by rw [gU]; simp; omega
 have l2:(Q0 lt (((l.drop a).drop bs).take bs)).length=bs:=by rw [gU]; simp; omega
 refine ⟨?_,?_,?_⟩
 · rw [a1a lt X _ _ _ h1.symm ya_ ya_,<- a7h W]
   have e:(l.drop a).take bs++((l.drop a).drop bs).take bs=(l.drop a).take (2 * bs):=by
    rw [show 2 * bs=bs+bs by omega,List.take_add]
   rw [e,List.drop_drop,show bs+bs=2 * bs by omega]
 · rw [piece X _ _ h1.symm ya_]; exact jE W _
 · have:=piece (X++Q0 lt ((l.drop a).take bs)) (Q0 lt (((l.drop a).drop bs).take bs)) (iD lt bs (((l.drop a).drop bs).drop bs)) (a:=a+bs) (k:=b - (a+bs)) (by simp [l1,h1]) ya_
   rw [List.append_assoc] at this
   rw [this]; exact jE W _
theorem zW (W:U8 lt) {bs J:Nat} (hb:0 < bs) {l:List α} {a n:Nat} (ha:a=J * (2 * bs)) (hn:n=l.length) (han:a<=n) (hlt:n < a+2 * bs) :
 (a+bs < n->mAt lt a (a+bs) n (mix lt bs J l)=iD lt (2 * bs) l/\Srt lt (((mix lt bs J l).drop a).take (a+bs - a))/\Srt lt (((mix lt bs J l).drop (a+bs)).take (n - (a+bs))))/\(n<=a+bs->mix lt bs J l=iD lt (2 * bs) l):=by
 obtain ⟨X,h1,h2,_,h4⟩:=b0o lt hb J l ya_
 rw [<- ha] at h1 h2
 have h5:=h4 1
 rw [yR lt ya_ (by rw [Nat.succ_mul]; omega),<- ha] at h5
 simp only [blk] at h5
 rw [List.take_of_length_le yg_,List.drop_of_length_le (i:=2 * bs) yg_,List.append_nil] at h5
 rw [h2,h5]
 refine ⟨fun h=>?_,fun h=>?_⟩
 · rw [a1E lt hb,oQ lt (l:=(l.drop a).drop bs) yg_ hb]
   have l1:(Q0 lt ((l.drop a).take bs)).length=bs:=by rw [gU]; simp; omega
   have l2:(Q0 lt ((l.drop a).drop bs)).length=n - (a+bs):=by rw [gU]; simp; omega
   refine ⟨?_,?_,?_⟩
   · have:=a1a lt X (Q0 lt ((l.drop a).take bs)) (Q0 lt ((l.drop a).drop bs)) [] (a:=a) (m:=a+bs) (b:=n) h1.symm ya_ ya_
     rw [List.append_nil,List.append_nil] at this
     rw [this,<- a7h W,List.take_append_drop]
   · rw [piece X _ _ h1.symm ya_]; exact jE W _
   · have:=piece (X++Q0 lt ((l.drop a).take bs)) (Q0 lt ((l.drop a).drop bs)) [] (a:=a+bs) (k:=n - (a+bs)) (by simp [l1,h1]) ya_
     rw [List.append_assoc,List.append_nil] at this
     rw [this]; exact jE W _
 · rw [oQ lt yg_ hb]
end
section
variable {α:Type} [Inhabited α]
theorem a9w (cmp:α->α->Int) {l:List α} {j a b:Nat} (ha:a=j * 20) (hb:b=a+20) (hn:b<=l.length):A9 cmp a (b - (a+1)) (a+1) (blk (ltF cmp) 20 j l)=blk (ltF cmp) 20 (j+1) l:=by
 obtain ⟨X,h1,h2,h3⟩:=b1x (ltF cmp) 20 j l ya_
 have h4:blk (ltF cmp) 20 1 (l.drop (j * 20))=Q0 (ltF cmp) ((l.drop (j * 20)).take 20)++(l.drop (j * 20)).drop 20:=by simp only [blk]
 rw [h2,h3 1,h4,<- ha]
 have:=a1d cmp X ((l.drop a).take 20) ((l.drop a).drop 20) (a:=a) (b:=b) ya_ yg_
 rw [List.take_append_drop] at this
 exact this
theorem b4q (cmp:α->α->Int) {l:List α} {j a n:Nat} (ha:a=j * 20) (hn:n=l.length) (han:a<=n) (hlt:n < a+20):A9 cmp a (n - (a+1)) (a+1) (blk (ltF cmp) 20 j l)=iD (ltF cmp) 20 l:=by
 obtain ⟨X,h1,h2,h3⟩:=b1x (ltF cmp) 20 j l ya_
 have h4:blk (ltF cmp) 20 1 (l.drop (j * 20))=Q0 (ltF cmp) ((l.drop (j * 20)).take 20)++(l.drop (j * 20)).drop 20:=by simp only [blk]
 rw [<- yR (ltF cmp) (bs:=20) (K:=j+1) ya_ ya_,h2,h3 1,h4,<- ha]
 have:=a1d cmp X (l.drop a) [] (a:=a) (b:=n) ya_ yg_
 rw [List.append_nil,List.append_nil] at this
 rw [this,List.take_of_length_le yg_,List.drop_of_length_le (i:=20) yg_,List.append_nil]
 rfl
end
open Go.Proofs.YtmghjcbabebanaaGreat
attribute [local irreducible] A9 E9 F5 F6 F8 F9 G9 H6 J4 K4 K5 M8 Q0 Q5 R7 Tp.J5 Tp.K8 Tp.card Tp.cards Tp.key Tp.keyT Tp.next Tp.step U6 U7 V3 blk cmpL iD j5 l6 mAt mg mgL mix sink
theorem c8A (cmp:j4->j4->Int) (f:Nat) (xs:List AV) (a p b n g:Nat) (l:l9C) (hc:h9C cmp f xs) (hxs:AV.bdds 1 xs=true) (W:U8 (ltF cmp)) (h1:n=l.length) (h2:n < 1048576) (h3:a < p) (h4:p < b) (h5:b<=n) (h7:Srt (ltF cmp) ((l.drop a).take (p - a))) (h8:Srt (ltF cmp) ((l.drop p).take (b - p))):AC 216 [(d9 0 g 9 n),(iN a),(iN p),(iN b),(A8 f xs)] [(o_ g 9 (mC l))] (F4,[(o_ g 9 (mC (mAt (ltF cmp) a p b l)))]):=d6z cmp f xs hc hxs W (b - a+1) a p b n g l h1 h2 h3 h4 h5 ow h7 h8
theorem c2C (cmp:j4->j4->Int) (f:Nat) (xs:List AV) (a p b n g:Nat) (l:l9C) (hc:h9C cmp f xs) (hxs:AV.bdds 1 xs=true) (W:U8 (ltF cmp)) (h1:n=l.length) (h2:n < 1048576) (h3:a < p) (h4:p < b) (h5:b<=n) (h7:Srt (ltF cmp) ((l.drop a).take (p - a))) (h8:Srt (ltF cmp) ((l.drop p).take (b - p))) (H:Heap):AC 216 [(d9 0 g 9 n),(iN a),(iN p),(iN b),(A8 f xs)] (([(o_ g 9 (mC l))]:Heap)++H) (F4,([(o_ g 9 (mC (mAt (ltF cmp) a p b l)))]:Heap)++H):=(c8A cmp f xs a p b n g l hc hxs W h1 h2 h3 h4 h5 h7 h8).ext lZ kr ob ob kr H
def gY:Ann:={ base:=1,fin:=some 1,live:=[(2,[0,1,2,6,7,8]),(7,[0,1,2,6]),(9,[0,1,2,6,7,8])],out:=[(2,[0,1,2,6,7]),(7,[]),(9,[0,1,2,6,7])] }
theorem bL {p:Prop} (h:p:=by first | exact hc | exact hxs | exact W | omega | (simp; omega)):p:=h
theorem a4x (cmp:j4->j4->Int) (f:Nat) (xs:List AV) (a b n g:Nat) (l:l9C) (hc:h9C cmp f xs) (hxs:AV.bdds 1 xs=true) (W:U8 (ltF cmp)) (hn:n=l.length) (hnb:n < 524288) (hb:b=a+20) (han:a<=n) {eX:Ex} {FX:Fr} {HX:Heap} (k1:(decide ((b:Int)<=(n:Int)))=true->l6 (C8 gY Tryz.f206 0) (some [0,1,2,6,7,8]) (some [0,1,2,6,7]) (mkF 63 [(0,(d9 0 g 9 n)),(1,(iN n)),(2,(A8 f xs)),(6,(iI 20)),(7,(iN b)),(8,(iN (b+20)))]) [(o_ g 9 (mC (A9 cmp a (b - (a+1)) (a+1) l)))] eX FX HX) (k2:(decide ((b:Int)<=(n:Int)))=false->((.exit 0:Ex),(mkF 63 [(0,(d9 0 g 9 n)),(1,(iN n)),(2,(A8 f xs)),(6,(iI 20)),(7,(iN a))]),[(o_ g 9 (mC l))])=(eX,FX,HX)):l6 (C8 gY Tryz.f206 0) (some [0,1,2,6,7,8]) (some [0,1,2,6,7]) (mkF 63 [(0,(d9 0 g 9 n)),(1,(iN n)),(2,(A8 f xs)),(6,(iI 20)),(7,(iN a)),(8,(iN b))]) [(o_ g 9 (mC l))] eX FX HX :=
 J7 (.r (.g (.two (decide ((b:Int)<=(n:Int))) (fun h1 h1'=>(.r (.t 4 F4 [(o_ g 9 (mC (A9 cmp a (b - (a+1)) (a+1) l)))] (b4E _ f xs a b n g l bL bL bL bL bL bL []:AC 215 [(d9 0 g 9 n),(iN a),(iN b),(A8 f xs)] [(o_ g 9 (mC l))] (F4,([(o_ g 9 (mC (A9 cmp a (b - (a+1)) (a+1) l)))]:Heap))) (.s (.s (.h' [(o_ g 9 (mC (A9 cmp a (b - (a+1)) (a+1) l)))] (.y 2 (iW ((b:Int)+20)) (iN (b+20)) Yes.o (.g (.l (k1 h1)))))))))) (fun h1 h1'=>(.l (k2 h1))))))
theorem b4P {p:Prop} (h:p:=by rw [yP]; exact hn):p:=h
theorem b5W (cmp:j4->j4->Int) (f:Nat) (xs:List AV) (hc:h9C cmp f xs) (hxs:AV.bdds 1 xs=true) (W:U8 (ltF cmp)) (n g:Nat) (l0:l9C) (hn:n=l0.length) (hnb:n < 524288) (r:Nat):∀ (j a b:Nat) (l:l9C),j+r=n / 20->a=j * 20->b=a+20->l=blk (ltF cmp) 20 j l0 ->
 l6 (C8 gY Tryz.f206 0) (some [0,1,2,6,7,8]) (some [0,1,2,6,7]) (mkF 63 [(0,(d9 0 g 9 n)),(1,(iN n)),(2,(A8 f xs)),(6,(iI 20)),(7,(iN a)),(8,(iN b))]) [(o_ g 9 (mC l))] (.exit 0) (mkF 63 [(0,(d9 0 g 9 n)),(1,(iN n)),(2,(A8 f xs)),(6,(iI 20)),(7,(iN ((n / 20 * 20))))]) [(o_ g 9 (mC (blk (ltF cmp) 20 (n / 20) l0)))]:=by
 induction r with
 | zero =>
  intro j a b l hj ha hb hl
  subst hl
  refine a4x cmp f xs a b n g _ hc hxs W b4P hnb hb ow (fun h=>by simp at h; omega) (fun _=>?_)
  rw [show n / 20=j by omega,<- ha]
 | succ r ih =>
  intro j a b l hj ha hb hl
  subst hl
  refine a4x cmp f xs a b n g _ hc hxs W b4P hnb hb ow (fun h=>?_) (fun h=>by simp at h; omega)
  rw [a9w cmp ha hb ow]
  exact ih (j+1) b (b+20) _ ow ow rfl rfl
abbrev b9u (a:Nat):=(IntKind.i64.wrap (2 * (a:Int)))
theorem a4w (cmp:j4->j4->Int) (f:Nat) (xs:List AV) (bs a b n g:Nat) (l:l9C) (hc:h9C cmp f xs) (hxs:AV.bdds 1 xs=true) (W:U8 (ltF cmp)) (hn:n=l.length) (hnb:n < 524288) (hb:b=a+2 * bs) (hbs:0 < bs) (hbn:bs < 524288) (han:a<=n) (hs7:b<=n->Srt (ltF cmp) ((l.drop a).take (a+bs - a))) (hs8:b<=n->Srt (ltF cmp) ((l.drop (a+bs)).take (b - (a+bs)))) {eX:Ex} {FX:Fr} {HX:Heap} (k1:(decide ((b:Int)<=(n:Int)))=true->l6 (C8 gY Tryz.f206 2) (some [0,1,2,6,7,8]) (some [0,1,2,6,7]) (mkF 63 [(0,(d9 0 g 9 n)),(1,(iN n)),(2,(A8 f xs)),(6,(iN bs)),(7,(iN b)),(8,(iN (b+(2 * bs))))]) [(o_ g 9 (mC (mAt (ltF cmp) a (a+bs) b l)))] eX FX HX) (k2:(decide ((b:Int)<=(n:Int)))=false->((.exit 4:Ex),(mkF 63 [(0,(d9 0 g 9 n)),(1,(iN n)),(2,(A8 f xs)),(6,(iN bs)),(7,(iN a))]),[(o_ g 9 (mC l))])=(eX,FX,HX)):l6 (C8 gY Tryz.f206 2) (some [0,1,2,6,7,8]) (some [0,1,2,6,7]) (mkF 63 [(0,(d9 0 g 9 n)),(1,(iN n)),(2,(A8 f xs)),(6,(iN bs)),(7,(iN a)),(8,(iN b))]) [(o_ g 9 (mC l))] eX FX HX :=
 J7 (.r (.g (.two (decide ((b:Int)<=(n:Int))) (fun h1 h1'=>(.r (.y 4 (.int .i64 (iT a bs)) (iN (a+bs)) Yes.o (.t 7 F4 [(o_ g 9 (mC (mAt (ltF cmp) a (a+bs) b l)))] (c2C _ f xs a (a+bs) b n g l bL bL bL bL bL bL bL bL (hs7 a9l) (hs8 a9l) []:AC 216 [(d9 0 g 9 n),(iN a),(iN (a+bs)),(iN b),(A8 f xs)] [(o_ g 9 (mC l))] (F4,([(o_ g 9 (mC (mAt (ltF cmp) a (a+bs) b l)))]:Heap))) (.s (.s (.h' [(o_ g 9 (mC (mAt (ltF cmp) a (a+bs) b l)))] (.y 2 (.int .i64 (b9u bs)) (iN (2 * bs)) Yes.o (.y 3 (iW ((b:Int)+((2 * bs:Nat):Int))) (iN (b+(2 * bs))) Yes.o (.g (.l (k1 h1)))))))))))) (fun h1 h1'=>(.l (k2 h1))))))
theorem b4O {p:Prop} (h:p:=by rw [b4z]; exact hn):p:=h
theorem b5V (cmp:j4->j4->Int) (f:Nat) (xs:List AV) (hc:h9C cmp f xs) (hxs:AV.bdds 1 xs=true) (W:U8 (ltF cmp)) (bs n g:Nat) (l0:l9C) (hn:n=l0.length) (hnb:n < 524288) (hbs:0 < bs) (hbn:bs < 524288) (J:Nat) (hJ:J=n / (2 * bs)) (r:Nat):∀ (j a b:Nat) (l:l9C),j+r=J->a=j * (2 * bs)->b=a+2 * bs->l=mix (ltF cmp) bs j l0 ->
 l6 (C8 gY Tryz.f206 2) (some [0,1,2,6,7,8]) (some [0,1,2,6,7]) (mkF 63 [(0,(d9 0 g 9 n)),(1,(iN n)),(2,(A8 f xs)),(6,(iN bs)),(7,(iN a)),(8,(iN b))]) [(o_ g 9 (mC l))] (.exit 4) (mkF 63 [(0,(d9 0 g 9 n)),(1,(iN n)),(2,(A8 f xs)),(6,(iN bs)),(7,(iN ((J * (2 * bs)))))]) [(o_ g 9 (mC (mix (ltF cmp) bs J l0)))]:=by
 have hdm:=Nat.div_mul_le_self n (2 * bs)
 have hlt:=Nat.lt_div_mul_add (a:=n) (b:=2 * bs) ow
 rw [<- hJ] at hdm hlt
 induction r with
 | zero =>
  intro j a b l hj ha hb hl
  subst hl
  obtain rfl:j=J:=by omega
  refine a4w cmp f xs bs a b n g _ hc hxs W b4O hnb hb hbs hbn ow (fun h=>by omega) (fun h=>by omega) (fun h=>by simp at h; omega) (fun _=>?_)
  rw [<- ha]
 | succ r ih =>
  intro j a b l hj ha hb hl
  subst hl
  have hmul:(j+1) * (2 * bs)=j * (2 * bs)+2 * bs:=Nat.succ_mul _ _
  have hle:(j+1) * (2 * bs)<=J * (2 * bs):=Nat.mul_le_mul_right _ ow
  obtain ⟨q1,q2,q3⟩:=a7B W hbs (l:=l0) ha hb ow
  refine a4w cmp f xs bs a b n g _ hc hxs W b4O hnb hb hbs hbn ow (fun _=>q2) (fun _=>q3) (fun h=>?_) (fun h=>by simp at h; omega)
  rw [q1]
  exact ih (j+1) b (b+2 * bs) _ ow ow rfl rfl
@[simp] abbrev d4f (a:Nat) (b:Nat) (c:Nat) (d:List AV) (e:Nat):Fr:=(mkF 63 [(0,(d9 0 a 9 b)),(1,(iN b)),(2,(A8 c d)),(6,(iN (e * 2)))])
abbrev e0b (a:Nat) (b:Nat) (c:Nat) (d:List AV) (e:Nat) (f:Nat):Fr:=(mkF 63 [(0,(d9 0 a 9 b)),(1,(iN b)),(2,(A8 c d)),(6,(iN e)),(7,(iN ((f * (2 * e)))))])
theorem rF {p:Prop} (h:p:=by first | exact hc | exact hxs | exact W | omega | (rw [b4z]; exact hn) | (simp; omega)):p:=h
theorem a0J {p:Prop} (h:p:=by have:=of_decide_eq_true h2; omega):p:=h
@[simp] abbrev d0S :=(C8 gY Tryz.f206 1)
abbrev b9t (a:Nat):=(IntKind.i64.wrap ((a:Int) * 2))
theorem a4v (cmp:j4->j4->Int) (f:Nat) (xs:List AV) (bs J n g:Nat) (l l0:l9C) (hc:h9C cmp f xs) (hxs:AV.bdds 1 xs=true) (W:U8 (ltF cmp)) (hn:n=l0.length) (hnb:n < 524288) (hbs:0 < bs) (hbn:bs < 1048576) (hl:l=iD (ltF cmp) bs l0) (hJ:J=n / (2 * bs)) (hJn:J * (2 * bs)<=n) (hs7:J * (2 * bs)+bs < n->Srt (ltF cmp) (((mix (ltF cmp) bs J l0).drop (J * (2 * bs))).take (J * (2 * bs)+bs - J * (2 * bs)))) (hs8:J * (2 * bs)+bs < n->Srt (ltF cmp) (((mix (ltF cmp) bs J l0).drop (J * (2 * bs)+bs)).take (n - (J * (2 * bs)+bs)))) {eX:Ex} {FX:Fr} {HX:Heap} (k1:(l9 bs n)=true->(l9 ((J * (2 * bs))+bs) n)=true->l6 d0S (some [0,1,2,6]) (some []) (d4f g n f xs bs) [(o_ g 9 (mC (mAt (ltF cmp) (J * (2 * bs)) ((J * (2 * bs))+bs) n (mix (ltF cmp) bs J l0))))] eX FX HX) (k2:(l9 bs n)=true->(l9 ((J * (2 * bs))+bs) n)=false->l6 d0S (some [0,1,2,6]) (some []) (d4f g n f xs bs) [(o_ g 9 (mC (mix (ltF cmp) bs J l0)))] eX FX HX) (k3:(l9 bs n)=false->((.exit 2:Ex),(mkF 63 []),[(o_ g 9 (mC l))])=(eX,FX,HX)):l6 d0S (some [0,1,2,6]) (some []) (mkF 63 [(0,(d9 0 g 9 n)),(1,(iN n)),(2,(A8 f xs)),(6,(iN bs))]) [(o_ g 9 (mC l))] eX FX HX :=
 J7 (.r (.g (.two (l9 bs n) (fun h1 h1'=>(.r (.y 1 (.int .i64 (b9u bs)) (iN (2 * bs)) Yes.o (.g (.loop (e0b g n f xs bs J) (b5V cmp f xs hc hxs W bs n g l0 hn hnb hbs ow J hJ J 0 0 (2 * bs) l ow ow ow (by rw [hl]; simp only [mix])) (.r (.y 2 (iW ((((J * (2 * bs)):Nat):Int)+(bs:Int))) (iN ((J * (2 * bs))+bs)) Yes.o (.s (.g (.two (l9 ((J * (2 * bs))+bs) n) (fun h2 h2'=>(.r (.t 5 F4 [(o_ g 9 (mC (mAt (ltF cmp) (J * (2 * bs)) ((J * (2 * bs))+bs) n (mix (ltF cmp) bs J l0))))] (c2C _ f xs (J * (2 * bs)) ((J * (2 * bs))+bs) n n g (mix (ltF cmp) bs J l0) rF rF rF rF rF rF a0J ow (hs7 a0J) (hs8 a0J) []:AC 216 [(d9 0 g 9 n),(iN ((J * (2 * bs)))),(iN ((J * (2 * bs))+bs)),(iN n),(A8 f xs)] [(o_ g 9 (mC (mix (ltF cmp) bs J l0)))] (F4,([(o_ g 9 (mC (mAt (ltF cmp) (J * (2 * bs)) ((J * (2 * bs))+bs) n (mix (ltF cmp) bs J l0))))]:Heap))) (.s (.h' [(o_ g 9 (mC (mAt (ltF cmp) (J * (2 * bs)) ((J * (2 * bs))+bs) n (mix (ltF cmp) bs J l0))))] (.y 1 (.int .i64 (b9t bs)) (iN (bs * 2)) Yes.o (.g (.l (k1 h1 h2))))))))) (fun h2 h2'=>(.r (.y 1 (.int .i64 (b9t bs)) (iN (bs * 2)) Yes.o (.g (.l (k2 h1 h2)))))))))))))))) (fun h1 h1'=>(.l (k3 h1))))))
theorem b4N {p:Prop} (h:p:=by rw [Nat.mul_comm]):p:=h
theorem b5U (cmp:j4->j4->Int) (f:Nat) (xs:List AV) (hc:h9C cmp f xs) (hxs:AV.bdds 1 xs=true) (W:U8 (ltF cmp)) (n g:Nat) (l0:l9C) (hn:n=l0.length) (hnb:n < 524288) (r:Nat):∀ (bs:Nat) (l:l9C),n - bs<=r->0 < bs->bs < 1048576->l=iD (ltF cmp) bs l0 ->
 l6 (C8 gY Tryz.f206 1) (some [0,1,2,6]) (some []) (mkF 63 [(0,(d9 0 g 9 n)),(1,(iN n)),(2,(A8 f xs)),(6,(iN bs))]) [(o_ g 9 (mC l))] (.exit 2) (mkF 63 []) [(o_ g 9 (mC (Q0 (ltF cmp) l0)))]:=by
 have key:∀ bs,0 < bs->(n / (2 * bs) * (2 * bs)<=n/\n < n / (2 * bs) * (2 * bs)+2 * bs):=fun bs hbs=>⟨Nat.div_mul_le_self n (2 * bs),Nat.lt_div_mul_add (a:=n) (b:=2 * bs) ow⟩
 induction r with
 | zero =>
  intro bs l h1 hbs hbn hl
  obtain ⟨k1,k2⟩:=key bs hbs
  obtain ⟨q1,q2⟩:=zW W hbs (l:=l0) (J:=n / (2 * bs)) rfl hn k1 k2
  refine a4v cmp f xs bs (n / (2 * bs)) n g l l0 hc hxs W hn hnb hbs hbn hl rfl k1 (fun h=>(q1 h).2.1) (fun h=>(q1 h).2.2) (fun h=>by simp at h; omega) (fun h=>by simp at h; omega) (fun _=>?_)
  rw [hl,oQ (ltF cmp) ow hbs]
 | succ r ih =>
  intro bs l h1 hbs hbn hl
  obtain ⟨k1,k2⟩:=key bs hbs
  obtain ⟨q1,q2⟩:=zW W hbs (l:=l0) (J:=n / (2 * bs)) rfl hn k1 k2
  refine a4v cmp f xs bs (n / (2 * bs)) n g l l0 hc hxs W hn hnb hbs hbn hl rfl k1 (fun h=>(q1 h).2.1) (fun h=>(q1 h).2.2) (fun h h2=>?_) (fun h h2=>?_) (fun h=>?_)
  · rw [(q1 a0J).1]
    exact ih (bs * 2) _ rQ ow rQ b4N
  · rw [q2 (by have:=of_decide_eq_false h2; omega)]
    exact ih (bs * 2) _ rQ ow rQ b4N
  · rw [hl,oQ (ltF cmp) rQ hbs]
abbrev e0a (a:Nat) (b:Nat) (c:Nat) (d:List AV):Fr:=(mkF 63 [(0,(d9 0 a 9 b)),(1,(iN b)),(2,(A8 c d)),(6,(iI 20)),(7,(iN ((b / 20 * 20))))])
theorem rE {p:Prop} (h:p:=by first | exact hc | exact hxs | omega | (rw [yP]; omega) | (simp; omega)):p:=h
theorem c2B (cmp:j4->j4->Int) (f:Nat) (xs:List AV) (n g:Nat) (l:l9C) (hc:h9C cmp f xs) (hxs:AV.bdds 1 xs=true) (W:U8 (ltF cmp)) (hn:n=l.length) (hb:n < 524288):AC 206 [(d9 0 g 9 n),(AV.int .i64 (n:Int)),(A8 f xs)] [(o_ g 9 (l.map j4.row))] (F4,[(o_ g 9 ((A9 cmp 0 (n - 1) 1 l).map j4.row))]):=by
 have hq:(blk (ltF cmp) 20 (n / 20) l).length=n:=by rw [yP]; exact hn.symm
 have ht:=b4q cmp (l:=l) (j:=n / 20) (a:=n / 20 * 20) rfl hn ow ow
 have hfin:Q0 (ltF cmp) l=A9 cmp 0 (n - 1) 1 l:=by subst hn; exact (rT cmp l).symm
 exact x9 (fn:=Tryz.f206) (ann:=gY) (Has.o Tryz.func206) (.r (.s (.g (.loop (e0a g n f xs) (b5W cmp f xs hc hxs W n g l hn hb (n / 20) 0 0 20 l ow rfl ow (by simp only [blk])) (.r (.t 4 F4 [(o_ g 9 ((A9 cmp (n / 20 * 20) (n - ((n / 20 * 20)+1)) ((n / 20 * 20)+1) (blk (ltF cmp) 20 (n / 20) l)).map j4.row))] (b4E _ f xs (n / 20 * 20) n n g (blk (ltF cmp) 20 (n / 20) l) rE rE rE rE rE rE []:AC 215 [(d9 0 g 9 n),(AV.int .i64 (((n / 20 * 20):Nat):Int)),(AV.int .i64 (n:Int)),(A8 f xs)] [(o_ g 9 ((blk (ltF cmp) 20 (n / 20) l).map j4.row))] (F4,([(o_ g 9 ((A9 cmp (n / 20 * 20) (n - ((n / 20 * 20)+1)) ((n / 20 * 20)+1) (blk (ltF cmp) 20 (n / 20) l)).map j4.row))]:Heap))) (.g (.loop (mkF 63 []) (b5U cmp f xs hc hxs W n g l hn hb n 20 (A9 cmp (n / 20 * 20) (n - ((n / 20 * 20)+1)) ((n / 20 * 20)+1) (blk (ltF cmp) 20 (n / 20) l)) ow ow ow ht) (.q 1 F4 (by rw [hfin]))))))))))
theorem d5K (cmp:j4->j4->Int) (f:Nat) (xs:List AV) (n g:Nat) (l:l9C) (hc:h9C cmp f xs) (hxs:AV.bdds 1 xs=true) (W:U8 (ltF cmp)) (hn:n=l.length) (hb:n < 524288) (H:Heap):AC 206 [(d9 0 g 9 n),(iN n),(A8 f xs)] (([(o_ g 9 (mC l))]:Heap)++H) (F4,([(o_ g 9 (mC (A9 cmp 0 (n - 1) 1 l)))]:Heap)++H):=(c2B cmp f xs n g l hc hxs W hn hb).ext lZ kr ob ob kr H
def b5t:Ann:={ base:=1,fin:=some 1 }
theorem wO {p:Prop} (h:p:=by first | exact hc | exact hxs | exact W | omega):p:=h
theorem b2U (cmp:j4->j4->Int) (f:Nat) (xs:List AV) (n g:Nat) (l:l9C) (hc:h9C cmp f xs) (hxs:AV.bdds 1 xs=true) (W:U8 (ltF cmp)) (hn:n=l.length) (hb:n < 524288):AC 172 [(d9 0 g 9 n),(A8 f xs)] [(o_ g 9 (mC l))] (F4,[(o_ g 9 (mC (A9 cmp 0 (n - 1) 1 l)))]) :=
 x9 (fn:=Tryz.f172) (ann:=b5t) (Has.o Tryz.func172) (.r (.t 4 F4 [(o_ g 9 (mC (A9 cmp 0 (n - 1) 1 l)))] (d5K _ f xs n g l wO wO wO wO wO []:AC 206 [(d9 0 g 9 n),(iN n),(A8 f xs)] [(o_ g 9 (mC l))] (F4,([(o_ g 9 (mC (A9 cmp 0 (n - 1) 1 l)))]:Heap))) (.g (.h' [(o_ g 9 (mC (A9 cmp 0 (n - 1) 1 l)))] (.q 1 F4)))))
theorem c2e (cmp:j4->j4->Int) (f:Nat) (xs:List AV) (n g:Nat) (l:l9C) (hc:h9C cmp f xs) (hxs:AV.bdds 1 xs=true) (W:U8 (ltF cmp)) (hn:n=l.length) (hb:n < 524288) (H:Heap):AC 172 [(d9 0 g 9 n),(A8 f xs)] (([(o_ g 9 (mC l))]:Heap)++H) (F4,([(o_ g 9 (mC (A9 cmp 0 (n - 1) 1 l)))]:Heap)++H):=(b2U cmp f xs n g l hc hxs W hn hb).ext lZ kr ob ob kr H
end Go.Proofs.YtmghjcbabebanaaGreat.AM
namespace Go.Proofs.YtmghjcbabebanaaGreat.AM
open Go Go.Proofs.YtmghjcbabebanaaGreat
attribute [local irreducible] E9 H6 K5 j5 l6
structure tQ where
 l:List j4
 deriving Inhabited
def tQ.row (x:tQ):List AV:=[(sA 9 (mC x.l))]
@[simp] theorem tQ.U9 (n:Nat) (x:tQ):AV.bdds n x.row=true:=by simp [tQ.row,AV.bdds,AV.bdd]
@[simp] theorem tQ.z8 (n:Nat) (l:List tQ):AV.F3 n (l.map tQ.row)=true:=by induction l with | nil=>rfl | cons x l ih=>simp [AV.F3,tQ.U9,ih]
theorem d9L:U8 (ltF fun a b:j4=>U7 a.key b.key):=d9M
theorem wM {p:Prop} (h:p:=by with_unfolding_all rfl):p:=h
theorem a4e (l:l9C) (hl:l.length < 1000):AC 128 [(sA 9 (mC l))] [] ((AV.sl .cn 9 (mC (J4 l))),[]):=by
 have hpl:=qJ l
 exact x9 (fn:=Tryz.f128) (ann:=a8o) (Has.o Tryz.func128) (.r (.s (.ch 1 [(o_ 0 9 (mC l))] (c5d l oa []) (.s (.ch 1 [(o_ 0 9 (mC (A9 (fun a b=>U7 a.key b.key) 0 (l.length - 1) 1 l)))] (c2e (fun a b=>U7 a.key b.key) 173 [] l.length 0 l (fun x y H=>b5q x y H) (rfl) d9L oa oa []) (.w' 3 (mC (A9 (fun a b=>U7 a.key b.key) 0 (l.length - 1) 1 l)) (And.intro (G5 (room:=none) kr (by first | omega | (simp [dU]; done) | (simp [dU]; omega))) (j4.z8 _ _):I5 [(o_ 0 9 (mC (A9 (fun a b=>U7 a.key b.key) 0 (l.length - 1) 1 l)))] 9 (d9 0 0 9 l.length)=some (mC (A9 (fun a b=>U7 a.key b.key) 0 (l.length - 1) 1 l))/\AV.F3 0 (mC (A9 (fun a b=>U7 a.key b.key) 0 (l.length - 1) 1 l))=true) (.s (.c 1 ((b8h (A9 (fun a b=>U7 a.key b.key) 0 (l.length - 1) 1 l) (by rw [dU]; omega)).lift kr kr [(o_ 1 9 [])]) (.g (.h' [] (.q 0 (AV.sl .cn 9 (mC (A9 (fun a b=>U7 a.key b.key) 0 (l.length - 1) 1 l))) wM)))))))))))
theorem nR (l:l9C) (hl:l.length < 1000):AC 128 [(sA 9 (mC l))] [] ((sA 9 (mC (J4 l))),[]):=(a4e l hl).post ⟨rfl,rfl,.inl rfl⟩
attribute [local irreducible] J4
attribute [local irreducible] A9 F5 F6 F8 F9 G9 K4 M8 P5 Q5 R7 Tp.J5 Tp.K8 Tp.card Tp.cards Tp.key Tp.keyT Tp.next Tp.step U6 U7 V3 V9 X8 Y8 a1m aR cmpL dW iJ iX kQ oF ofB sink wT xY
abbrev d4e (a:l9C):Fr:=(mkF 22 [(3,(d9 0 (V9 a).length 9 (V9 a).length)),(6,(sA 9 (mC a))),(7,(iN a.length)),(8,(iN a.length))])
theorem a4n (l:l9C) (hl:l.length < 1000):AC 161 [(sA 9 (mC l))] [] ((sA 9 (mC (Y8 l))),[]):=by
 have hk:=a7Q l
 exact x9 (fn:=Tryz.f161) (ann:=a3k) (Has.o Tryz.func161) (.r (.s (.s (.h' [(o_ 0 9 (mC []))] (.y 1 (.int .i64 ((List.length (mC l):Nat):Int)) (iN l.length) (Yes.len _ _ _) (.g (.loop (d4e l) (show l6 b9w (some [3,6,7,8]) (some [3,6,7,8]) (mkF 22 [(3,(d9 0 0 9 0)),(6,(sA 9 (mC l))),(7,(iN l.length)),(8,z_)]) [(o_ 0 9 (mC []))] (.exit 0) (d4e l) [(o_ ((V9 l).length) 9 (mC (V9 l)))] from (c2s l ow l.length [] 0 0 0 (V9 l,(V9 l).length,(V9 l).length) ow rfl ow (c2t _))) (.r (.w 3 (mC (V9 l)) (And.intro (G5 (room:=none) kr om) (j4.z8 _ _):I5 [(o_ ((V9 l).length) 9 (mC (V9 l)))] 9 (d9 0 (V9 l).length 9 (V9 l).length)=some (mC (V9 l))/\AV.F3 0 (mC (V9 l))=true) (.c 1 ((nR (V9 l) oa).lift kr kr [(o_ ((V9 l).length+1) 9 [])]) (.g (.h' [] (.q 0 (sA 9 (mC (J4 (V9 l)))) wM)))))))))))))
abbrev d7G (a:l9C):=(sA 1 ((List.foldl kQ [] (Y8 a)).map rU8))
abbrev d4d (a:l9C):Fr:=(mkF 31 [(3,(d7G a)),(7,(sA 9 (mC (Y8 a)))),(8,(iN ((Y8 a).length))),(9,(iN ((Y8 a).length)))])
theorem b2Y (l:l9C) (hl:l.length < 1000):AC 213 [(sA 9 (mC l))] [] ((sA 1 ((iX l).map rU8)),[]):=by
 have h1:=a7m l
 exact x9 (fn:=Tryz.f213) (ann:=a0O) (Has.o Tryz.func213) (.r (.s (.s (.c 1 ((a4n l oa).lift kr kr []) (.y 2 (.int .i64 ((List.length (mC (Y8 l)):Nat):Int)) (iN ((Y8 l).length)) (Yes.len _ _ _) (.g (.loop (d4d l) (show l6 d1e (some [3,7,8,9]) (some [3,7,8,9]) (mkF 31 [(3,(sA 1 [])),(7,(sA 9 (mC (Y8 l)))),(8,(iN ((Y8 l).length))),(9,z_)]) [] (.exit 0) (d4d l) [] from (b5H (Y8 l) ow (Y8 l).length [] 0 (List.foldl kQ [] (Y8 l)) ow ye_ (b5I _))) (.qr 0 (d7G l) wM))))))))
def b2X:Ann:={ fin:=some 0 }
theorem a9G (l:l9C) (hl:l.length < 1000):AC 204 [(sA 9 (mC l))] [] ((AV.int .u32 (ofB l)),[]):=by
 have h1:=c2u l
 exact x9 (fn:=Tryz.f204) (ann:=b2X) (Has.o Tryz.func204) (.r (.s (.c 1 ((b2Y l oa).lift kr kr []) (.c 2 ((c8b (iX l) oa).lift kr kr []) (.q 0 (AV.int .u32 (wT (iX l))) wM)))))
def tZ:Ann:={ fin:=some 0,live:=[(2,[0,1,7,8])],out:=[(2,[4])] }
theorem a0a (p:j4->Bool) (f:Nat) (xs:List AV) (l:l9C) (i:Nat) (hc:∀ (x:j4) (H:Heap),AC f ([AV.agg (j4.row x)]++xs) H (bB (p x),H)) (hl:l.length < 1099511627776) (hi:i<=l.length) {eX:Ex} {FX:Fr} {HX:Heap} (k1:(l9 i l.length)=true->(p (nth l i))=true->((.ret:Ex),(mkF 19 [(4,(iN i))]),[])=(eX,FX,HX)) (k2:(l9 i l.length)=true->(p (nth l i))=false->l6 (C8 tZ Tryz.f105 0) (some [0,1,7,8]) (some [4]) (mkF 19 [(0,(sA 9 (mC l))),(1,(A8 f xs)),(7,(iN l.length)),(8,(iN (i+1)))]) [] eX FX HX) (k3:(l9 i l.length)=false->((.exit 0:Ex),(mkF 19 []),[])=(eX,FX,HX)):l6 (C8 tZ Tryz.f105 0) (some [0,1,7,8]) (some [4]) (mkF 19 [(0,(sA 9 (mC l))),(1,(A8 f xs)),(7,(iN l.length)),(8,(iN i))]) [] eX FX HX :=
 J7 (.r (.g (.two (l9 i l.length) (fun h1 h1'=>(.r (.s (.is 3 9 9 (mC l) (i:Int) (j4.row (nth l i)) (N7.mk _ ow ow) (.c 5 (hc (nth l i) []) (.g (.two (p (nth l i)) (fun h2 h2'=>(.r (.g (.l (k1 h1 h2))))) (fun h2 h2'=>(.r (.y 0 (.int .i64 (cb_ i)) (iN (i+1)) Yes.o (.g (.l (k2 h1 h2))))))))))))) (fun h1 h1'=>(.l (k3 h1))))))
theorem c9M (p:j4->Bool) (f:Nat) (xs:List AV) (l:l9C) (hc:∀ (x:j4) (H:Heap),AC f ([AV.agg (j4.row x)]++xs) H (bB (p x),H)) (hl:l.length < 1099511627776) (n:Nat) (hn:n < l.length) (hp:p (nth l n)=true) (r:Nat):∀ (i:Nat),i+r=n->(∀ j,i<=j->j < n->p (nth l j)=false) ->
 l6 (C8 tZ Tryz.f105 0) (some [0,1,7,8]) (some [4]) (mkF 19 [(0,(sA 9 (mC l))),(1,(A8 f xs)),(7,(iN l.length)),(8,(iN i))]) [] (.ret) (mkF 19 [(4,(iN n))]) []:=by
 induction r with
 | zero =>
  intro i hi h
  obtain rfl:i=n:=by omega
  refine a0a p f xs l i hc hl ow (fun _ _=>rfl) (fun _ h2=>?_) (fun h1=>?_)
  · rw [hp] at h2; simp at h2
  · simp at h1; omega
 | succ r ih =>
  intro i hi h
  refine a0a p f xs l i hc hl ow (fun _ h2=>?_) (fun _ h2=>?_) (fun h1=>?_)
  · rw [h i J8 ow] at h2; simp at h2
  · exact ih (i+1) ow (fun j h3 h4=>h j ow h4)
  · simp at h1; omega
theorem c9N (p:j4->Bool) (f:Nat) (xs:List AV) (l:l9C) (hc:∀ (x:j4) (H:Heap),AC f ([AV.agg (j4.row x)]++xs) H (bB (p x),H)) (hl:l.length < 1099511627776) (r:Nat):∀ (i:Nat),i+r=l.length->(∀ j,i<=j->j < l.length->p (nth l j)=false) ->
 l6 (C8 tZ Tryz.f105 0) (some [0,1,7,8]) (some [4]) (mkF 19 [(0,(sA 9 (mC l))),(1,(A8 f xs)),(7,(iN l.length)),(8,(iN i))]) [] (.exit 0) (mkF 19 []) []:=by
 induction r with
 | zero =>
  intro i hi h
  refine a0a p f xs l i hc hl ow (fun h1 _=>?_) (fun h1 h2=>?_) (fun h1=>rfl)
  · simp at h1; omega
  · simp at h1; omega
 | succ r ih =>
  intro i hi h
  refine a0a p f xs l i hc hl ow (fun _ h2=>?_) (fun _ h2=>?_) (fun h1=>?_)
  · rw [h i J8 ow] at h2; simp at h2
  · exact ih (i+1) ow (fun j h3 h4=>h j ow h4)
  · simp at h1; omega
abbrev e1u (a:l9C) (b:Nat) (c:List AV):Fr:=(mkF 19 [(0,(sA 9 (mC a))),(1,(A8 b c)),(7,(iN a.length)),(8,z_)])
theorem c3V (p:j4->Bool) (f:Nat) (xs:List AV) (l:l9C) (n:Nat) (hc:∀ (x:j4) (H:Heap),AC f ([AV.agg (j4.row x)]++xs) H (bB (p x),H)) (hxs:AV.bdds 0 xs=true) (hl:l.length < 1099511627776) (hn:n < l.length) (hp:p (nth l n)=true) (h:∀ j,0<=j->j < n->p (nth l j)=false):AC 105 [(sA 9 (mC l)),(A8 f xs)] [] ((iN n),[]) :=
 x9 (fn:=Tryz.f105) (ann:=tZ) (Has.o Tryz.func105) (.r (.s (.y 1 (.int .i64 ((List.length (mC l):Nat):Int)) (iN l.length) (Yes.len _ _ _) (.g (.loop (mkF 19 [(4,(iN n))]) (c9M p f xs l hc hl n hn hp n 0 ow h) (.q 0 (iN n)))))))
theorem c3W (p:j4->Bool) (f:Nat) (xs:List AV) (l:l9C) (hc:∀ (x:j4) (H:Heap),AC f ([AV.agg (j4.row x)]++xs) H (bB (p x),H)) (hxs:AV.bdds 0 xs=true) (hl:l.length < 1099511627776) (h:∀ j,0<=j->j < l.length->p (nth l j)=false):AC 105 [(sA 9 (mC l)),(A8 f xs)] [] ((iI (-1)),[]) :=
 x9 (fn:=Tryz.f105) (ann:=tZ) (Has.o Tryz.func105) (.r (.s (.y 1 (.int .i64 ((List.length (mC l):Nat):Int)) (iN l.length) (Yes.len _ _ _) (.g (.loop (mkF 19 []) (c9N p f xs l hc hl l.length 0 ow h) (.qr 0 (iI (-1))))))))
theorem a3B (p:j4->Bool) (f:Nat) (xs:List AV) (l:l9C) (hc:∀ (x:j4) (H:Heap),AC f ([AV.agg (j4.row x)]++xs) H (bB (p x),H)) (hxs:AV.bdds 0 xs=true) (hl:l.length < 1099511627776):AC 105 [(sA 9 (mC l)),(A8 f xs)] [] ((iI (ixI p l)),[]):=by
 unfold ixI
 cases h:mQ p l 0 with
 | none=>exact c3W p f xs l hc hxs hl (fun j _ hj=>qM l 0 h j hj)
 | some n =>
  obtain ⟨_,h2,h3,h4⟩:=qL l 0 n h
  exact c3V p f xs l n hc hxs hl ow h3 (fun j _ hj=>h4 j hj)
theorem c3U (p:j4->Bool) (f:Nat) (xs:List AV) (l:l9C) (hc:∀ (x:j4) (H:Heap),AC f ([AV.agg (j4.row x)]++xs) H (bB (p x),H)) (hxs:AV.bdds 0 xs=true) (hl:l.length < 1099511627776) (H:Heap):AC 105 [(sA 9 (mC l)),(A8 f xs)] H ((iI (ixI p l)),H):=(a3B p f xs l hc hxs hl).lift lZ kr H
def b4L:j4:=⟨⟨⟨#[]⟩,⟨#[]⟩⟩,0,0,0,⟨0,0,0⟩,false⟩
def isKey (k:Key) (x:j4):Bool:=Key.eqb x.key k
def aH (l:List j4) (k:Key):j4:=if ixI (isKey k) l < 0 then b4L else nth l (ixI (isKey k) l).toNat
def inC (l:List j4) (k:Key):Bool:=!decide (ixI (isKey k) l < 0)
def b7D:Ann:={ refs:=[2],fin:=some 0 }
theorem b3I (x:j4) (k:Key) :AC 129 [(p9 (j4.row x)),(AV.ref (Key.row k) 0)] [] ((bB (isKey k x)),[]) :=
 x9 (fn:=Tryz.f129) (ann:=b7D) (Has.o Tryz.func129) (.r (.g (.qr 0 (bB (Key.eqb x.key k)))))
theorem c4t (x:j4) (k:Key)  (H:Heap):AC 129 [(p9 (j4.row x)),(AV.ref (Key.row k) 0)] H ((bB (isKey k x)),H):=(b3I x k ).lift kr kr H
def c4u:Ann:={ refs:=[3],fin:=some 0 }
abbrev c1u :Heap:=[(o_ 0 9 [[e_,e_,z_,z_,z_,z_,z_,z_,bF]])]
theorem a4S (l:l9C) (k:Key) (hl:l.length < 1099511627776):AC 72 [(sA 9 (mC l)),(p9 (Key.row k))] [] ((AV.tup [(p9 (j4.row (aH l k))),(bB (inC l k))]),[]):=by
 have h1:=d6L (isKey k) l
 have h2:=d6M (isKey k) l
 exact x9 (fn:=Tryz.f72) (ann:=c4u) (Has.o Tryz.func72) (.r (.s (.c 2 (c3U (isKey k) 129 [(AV.ref (Key.row k) 0)] l (fun x H=>c4t x k H) (rfl) oa c1u) (.s (.g (.two (decide ((ixI (isKey k) l) < 0)) (fun h1 h1'=>(.qr 0 (AV.tup [(p9 [e_,e_,z_,z_,z_,z_,z_,z_,bF]),bF]) (by (try delta c1u); by_cases h0:ixI (isKey k) l < 0 <;> first | (simp_all [aH,inC,j4.row,Key.row,y9.row,b4L]; done) | (exfalso; omega) | (simp only [aH,inC,if_neg h0,decide_eq_false h0]; rfl)))) (fun h1 h1'=>(.r (.h' c1u (.is 2 9 9 (mC l) (ixI (isKey k) l) (j4.row (nth l (Int.toNat (ixI (isKey k) l)))) (N7.mk _ ow ow) (.g (.h' [] (.q 0 (AV.tup [(p9 (j4.row (nth l (Int.toNat (ixI (isKey k) l))))),bT]) (by (try delta c1u); by_cases h0:ixI (isKey k) l < 0 <;> first | (simp_all [aH,inC,j4.row,Key.row,y9.row,b4L]; done) | (exfalso; omega) | (simp only [aH,inC,if_neg h0,decide_eq_false h0]; rfl)))))))))))))))
attribute [local irreducible] R9 aH inC isKey ixI
theorem a7S {α β:Type} (p:α->Bool) (f:α->β) (l:List α):∀ (out:List β) (k g:Nat),
 l.foldl (fun (s:List β × Nat × Nat) c=>if p c=true then (s.1++[f c],s.2.1+1,s.2.2+1) else s) (out,k,g)=(out++(l.filter p).map f,k+((l.filter p).map f).length,g+((l.filter p).map f).length):=by
 induction l with
 | nil=>intro out k g; simp
 | cons c l ih =>
  intro out k g
  rw [List.foldl_cons]
  by_cases h:p c=true
  · rw [if_pos h,ih]; simp [List.filter_cons,h]; omega
  · rw [if_neg h,ih]; simp [List.filter_cons,h]
def a1G (other:List j4) (c:j4):Bool:=!(inC other c.key) || decide (R9 (aH other c.key).stamp c.stamp < 0)
def K7 (l other:List j4):List j4:=l.filter (a1G other)
theorem a5j (l other:l9C):(K7 l other).length<=l.length:=List.length_filter_le _ _
def a1F:Ann:={ gha:=[(1,.vir 5 9),(8,.cut 1),(9,.frz 4)],fin:=some 0,live:=[(3,[1,5,10,11,12])],out:=[(3,[1,5,10,11,12])] }
@[simp] abbrev d9i (a:l9C) (b:Nat) (c:Nat) (d:l9C) (e:Nat):Fr:=(mkF 38 [(1,(sA 9 (mC a))),(5,(cw_ b c)),(10,(sA 9 (mC d))),(11,(iN d.length)),(12,(iN (e+1)))])
@[simp] abbrev d2r (a:l9C) (b:Nat) (c:Nat) (d:l9C) (e:Nat):Fr:=(mkF 38 [(1,(sA 9 (mC a))),(5,(d9 0 b 9 c)),(10,(sA 9 (mC d))),(11,(iN d.length)),(12,(iN e))])
abbrev d5l (a:l9C) (b:l9C) (c:Nat):Ob:=(o_ 0 9 [(j4.row (aH a (nth b c).key))])
abbrev c1s (a:Nat) (b:l9C) (c:l9C) (d:Nat) (e:l9C):Heap:=[(o_ a 9 (mC b)),(o_ 0 9 [(j4.row (nth c d))]),d5l e c d]
abbrev d9h (a:Nat) (b:l9C) (c:l9C) (d:Nat) (e:l9C):Heap:=[a5Z a b c d,(o_ 0 9 [(j4.row (nth c d))]),d5l e c d]
@[simp] abbrev b9s :=(C8 a1F Tryz.f127 0)
theorem a5h (l:l9C) (other:l9C) (out:l9C) (k:Nat) (g:Nat) (i:Nat) (hl:l.length < 1048576) (ho:other.length < 1048576) (hk:k=out.length) (hki:k<=i) (hle_:i<=l.length) {eX:Ex} {FX:Fr} {HX:Heap} (k1:(l9 i l.length)=true->(!(inC other (nth l i).key))=true->l6 b9s (some [1,5,10,11,12]) (some [1,5,10,11,12]) (d9i other g k l i) (a1Z g out l i) eX FX HX) (k2:(l9 i l.length)=true->(!(inC other (nth l i).key))=false->(decide (R9 (aH other (nth l i).key).stamp (nth l i).stamp < 0))=true->l6 b9s (some [1,5,10,11,12]) (some [1,5,10,11,12]) (d9i other g k l i) (a1Z g out l i) eX FX HX) (k3:(l9 i l.length)=true->(!(inC other (nth l i).key))=false->(decide (R9 (aH other (nth l i).key).stamp (nth l i).stamp < 0))=false->l6 b9s (some [1,5,10,11,12]) (some [1,5,10,11,12]) (mkF 38 [(1,(sA 9 (mC other))),(5,(d9 0 g 9 k)),(10,(sA 9 (mC l))),(11,(iN l.length)),(12,(iN (i+1)))]) [(o_ g 9 (mC out))] eX FX HX) (k4:(l9 i l.length)=false->((.exit 0:Ex),(d2r other g k l i),[(o_ g 9 (mC out))])=(eX,FX,HX)):l6 b9s (some [1,5,10,11,12]) (some [1,5,10,11,12]) (d2r other g k l i) [(o_ g 9 (mC out))] eX FX HX :=
 J7 (.r (.g (.two (l9 i l.length) (fun h1 h1'=>(.r (.h' [(o_ g 9 (mC out)),(o_ 0 9 [[e_,e_,z_,z_,z_,z_,z_,z_,bF]])] (.is 0 9 9 (mC l) (i:Int) (j4.row (nth l i)) (N7.mk _ ow ow) (.s (.c 3 ((a4S other (nth l i).key oa).lift kr kr [(o_ g 9 (mC out)),(o_ 0 9 [(j4.row (nth l i))]),(o_ 0 9 [[e_,e_,z_,z_,z_,z_,z_,z_,bF]])]) (.s (.two (!(inC other (nth l i).key)) (fun h2 h2'=>(.u4 (.ru (.h' (c1s g out l i other) (.ap 3 30 (d9 0 g 9 k) (cy_ l i) (cw_ g k) (d9h g out l i other) (I4 (row:=j4.row) (l:=out) (x:=(nth l i)) (T:=tt) (e:=50) (te:=bZ) (z:=1) (b:=24) (y:=[.sl .nil 0 []]) kr kr rfl D8 D8 kr Z0 rfl rfl gV) (.s (.y 0 (.int .i64 (cb_ i)) (iN (i+1)) Yes.o (.h' (a1Z g out l i) (.b 1 (.g (.l (k1 h1 h2)))))))))))) (fun h2 h2'=>(.n4 (.c 7 ((wV (aH other (nth l i).key).stamp (nth l i).stamp).lift kr kr (c1s g out l i other)) (.g (.two (decide (R9 (aH other (nth l i).key).stamp (nth l i).stamp < 0)) (fun h3 h3'=>(.r (.h' (c1s g out l i other) (.ap 3 30 (d9 0 g 9 k) (cy_ l i) (cw_ g k) (d9h g out l i other) (I4 (row:=j4.row) (l:=out) (x:=(nth l i)) (T:=tt) (e:=50) (te:=bZ) (z:=1) (b:=24) (y:=[.sl .nil 0 []]) kr kr rfl D8 D8 kr Z0 rfl rfl gV) (.s (.y 0 (.int .i64 (cb_ i)) (iN (i+1)) Yes.o (.h' (a1Z g out l i) (.b 1 (.g (.l (k2 h1 h2 h3))))))))))) (fun h3 h3'=>(.r (.h' (c1s g out l i other) (.y 0 (.int .i64 (cb_ i)) (iN (i+1)) Yes.o (.h' [(o_ g 9 (mC out))] (.b 1 (.g (.l (k3 h1 h2 h3)))))))))))))))))))))) (fun h1 h1'=>(.l (k4 h1))))))
def oU (l:List j4) (other:List j4) (i:Nat) (s:(List j4) × Nat × Nat):(List j4) × Nat × Nat:=(if (!(inC other (nth l i).key))=true then (s.1++[(nth l i)],(s.2.1+1),(s.2.2+1)) else (if (decide (R9 (aH other (nth l i).key).stamp (nth l i).stamp < 0))=true then (s.1++[(nth l i)],(s.2.1+1),(s.2.2+1)) else (s.1,s.2.1,s.2.2)))
theorem b9M (l:l9C) (other:l9C) (hl:l.length < 1048576) (ho:other.length < 1048576)  (r_:Nat):∀ (out:l9C) (k:Nat) (g:Nat) (i:Nat) (sF:l9C × Nat × Nat),i+r_=l.length->k=out.length->k<=i->sF=iter (oU l other) r_ i (out,k,g) ->
 l6 (C8 a1F Tryz.f127 0) (some [1,5,10,11,12]) (some [1,5,10,11,12]) (d2r other g k l i) [(o_ g 9 (mC out))] (.exit 0) (mkF 38 [(1,(sA 9 (mC other))),(5,(d9 0 sF.2.2 9 sF.2.1)),(10,(sA 9 (mC l))),(11,(iN l.length)),(12,(iN l.length))]) [(o_ sF.2.2 9 (mC sF.1))]:=by
 induction r_ with
 | zero =>
  intro out k g i sF hi_ hk hki  hF
  obtain rfl:l.length=i:=by omega
  have e_:sF=(out,k,g):=hF
  refine a5h l other out k g l.length hl ho hk hki J8 (fun h _=>by simp at h <;> omega) (fun h _ _=>by simp at h <;> omega) (fun h _ _=>by simp at h <;> omega) (fun _=>?_)
  first | done | rfl | (rw [e_]; done) | (rw [e_]; rfl)
 | succ r_ ih =>
  intro out k g i sF hi_ hk hki  hF
  refine a5h l other out k g i hl ho hk hki ow (fun h1 h2=>?_) (fun h1 h2 h3=>?_) (fun h1 h2 h3=>?_) (fun h=>by simp at h <;> omega)
  · exact ih (out++[(nth l i)]) (k+1) (g+1) (i+1) sF ow X0 X0  (by rw [hF] <;> simp only [iter,oU,h2,if_true,Bool.false_eq_true,if_false])
  · exact ih (out++[(nth l i)]) (k+1) (g+1) (i+1) sF ow X0 X0  (by rw [hF] <;> simp only [iter,oU,h2,h3,if_true,Bool.false_eq_true,if_false])
  · exact ih out k g (i+1) sF ow X0 X0  (by rw [hF] <;> simp only [iter,oU,h2,h3,if_true,Bool.false_eq_true,if_false])
theorem b9N (l other:l9C):(K7 l other,(K7 l other).length,(K7 l other).length)=iter (oU l other) l.length 0 ([],0,0):=by
 rw [fO (oU l other) (fun s c=>if a1G other c=true then (s.1++[c],s.2.1+1,s.2.2+1) else s) l (fun i s hi=>?_)]
 · rw [a7S (a1G other) (fun c=>c) l]; simp [K7]
 · simp only [oU,a1G]
   by_cases h1:inC other (nth l i).key=true <;> by_cases h2:R9 (aH other (nth l i).key).stamp (nth l i).stamp < 0 <;> simp [h1,h2]
abbrev e1o (a:l9C) (b:l9C):Fr:=(mkF 38 [(1,(sA 9 (mC a))),(5,(d9 0 (K7 b a).length 9 (K7 b a).length)),(10,(sA 9 (mC b))),(11,(iN b.length)),(12,(iN b.length))])
abbrev e1n (a:l9C) (b:l9C):Heap:=[(o_ ((K7 a b).length) 9 (mC (K7 a b)))]
theorem a5i (l other:l9C) (hl:l.length < 1048576) (ho:other.length < 1048576):AC 127 [(sA 9 (mC l)),(sA 9 (mC other))] [] ((sA 9 (mC (K7 l other))),[]):=by
 have hk:=a5j l other
 exact x9 (fn:=Tryz.f127) (ann:=a1F) (Has.o Tryz.func127) (.r (.s (.s (.h' [(o_ 0 9 (mC []))] (.y 1 (.int .i64 ((List.length (mC l):Nat):Int)) (iN l.length) (Yes.len _ _ _) (.g (.loop (e1o other l) (b9M l other hl ho l.length [] 0 0 0 ((K7 l other),(K7 l other).length,(K7 l other).length) ow rfl ow (b9N l other)) (.r (.w' 4 (mC (K7 l other)) (And.intro (G5 (room:=none) kr om) (j4.z8 _ _):I5 (e1n l other) 9 (d9 0 (K7 l other).length 9 (K7 l other).length)=some (mC (K7 l other))/\AV.F3 0 (mC (K7 l other))=true) (.g (.h' [] (.q 0 (sA 9 (mC (K7 l other)))))))))))))))
theorem b1d (l:l9C) (hl:l.length < 1099511627776):AC 137 [(sA 9 (mC l))] [] ((sA 9 (mC l)),[]):=by
 have h1:=(kG l hl).a6w (xs:=l.map j4.row) (G5 (room:=none) kr (by first | omega | simp)) (j4.z8 _ _)
 exact j5.forget (H2:=[]) (X:=[(o_ 1 9 [])]) h1 rfl kr (fun id o ho=>by simp at ho)
def a3J:Ann:={ gh:=[(8,.frz 8)],gha:=[(2,.vir 8 2),(7,.cut 1)],fin:=some 0,live:=[(4,[6,7,8,17,18,19])],out:=[(4,[6,7,8,17,18,19])] }
@[simp] abbrev d9g (a:Nat) (b:l9K) (c:l9C) (d:Nat):Heap:=[(o_ (a+1) 2 (mK (b++[(nth c d).key])))]
@[simp] abbrev d2q (a:l9C) (b:l9C) (c:Nat) (d:Nat) (e:l9C) (f:Nat):Fr:=(mkF 33 [(6,(sA 9 (mC a))),(7,(sA 9 (mC b))),(8,(d9 0 c 2 d)),(17,(sA 9 (mC e))),(18,(iN e.length)),(19,(iN f))])
@[simp] abbrev d0R :=(C8 a3J Tryz.f70 0)
theorem a8f (l:l9C) (a:l9C) (b:l9C) (out:l9K) (k:Nat) (g:Nat) (i:Nat) (hl:l.length < 1048576) (hk:k=out.length) (hki:k<=i) (hle_:i<=l.length) {eX:Ex} {FX:Fr} {HX:Heap} (k1:(l9 i l.length)=true->l6 d0R (some [6,7,8,17,18,19]) (some [6,7,8,17,18,19]) (mkF 33 [(6,(sA 9 (mC a))),(7,(sA 9 (mC b))),(8,(d9 0 (g+1) 2 (k+1))),(17,(sA 9 (mC l))),(18,(iN l.length)),(19,(iN (i+1)))]) (d9g g out l i) eX FX HX) (k2:(l9 i l.length)=false->((.exit 0:Ex),(d2q a b g k l i),[(o_ g 2 (mK out))])=(eX,FX,HX)):l6 d0R (some [6,7,8,17,18,19]) (some [6,7,8,17,18,19]) (d2q a b g k l i) [(o_ g 2 (mK out))] eX FX HX :=
 J7 (.r (.g (.two (l9 i l.length) (fun h1 h1'=>(.r (.h' [(o_ g 2 (mK out)),(o_ 0 9 [[e_,e_,z_,z_,z_,z_,z_,z_,bF]])] (.is 0 9 9 (mC l) (i:Int) (j4.row (nth l i)) (N7.mk _ ow ow) (.s (.h' [(o_ g 2 (mK out)),(o_ 0 9 [(j4.row (nth l i))])] (.ap 4 31 (d9 0 g 2 k) (AV.sl .clip 2 [(Key.row (nth l i).key)]) (d9 0 (g+1) 2 (k+1)) [(o_ (g+1) 2 (mK (out++[(nth l i).key]))),(o_ 0 9 [(j4.row (nth l i))])] (I4 (row:=Key.row) (l:=out) (x:=(nth l i).key) (T:=tt) (e:=28) (te:=a6g) (z:=1) (b:=24) (y:=[.sl .nil 0 []]) kr kr rfl D8 D8 kr Z0 rfl rfl b4W) (.s (.y 0 (.int .i64 (cb_ i)) (iN (i+1)) Yes.o (.h' (d9g g out l i) (.b 1 (.g (.l (k1 h1)))))))))))))) (fun h1 h1'=>(.l (k2 h1))))))
def a1n (l:List j4) (a:List j4) (b:List j4) (i:Nat) (s:(List Key) × Nat × Nat):(List Key) × Nat × Nat:=(s.1++[(nth l i).key],(s.2.1+1),(s.2.2+1))
theorem c5b (l:l9C) (a:l9C) (b:l9C) (hl:l.length < 1048576)  (r_:Nat):∀ (out:l9K) (k:Nat) (g:Nat) (i:Nat) (sF:l9K × Nat × Nat),i+r_=l.length->k=out.length->k<=i->sF=iter (a1n l a b) r_ i (out,k,g) ->
 l6 (C8 a3J Tryz.f70 0) (some [6,7,8,17,18,19]) (some [6,7,8,17,18,19]) (d2q a b g k l i) [(o_ g 2 (mK out))] (.exit 0) (mkF 33 [(6,(sA 9 (mC a))),(7,(sA 9 (mC b))),(8,(d9 0 sF.2.2 2 sF.2.1)),(17,(sA 9 (mC l))),(18,(iN l.length)),(19,(iN l.length))]) [(o_ sF.2.2 2 (mK sF.1))]:=by
 induction r_ with
 | zero =>
  intro out k g i sF hi_ hk hki  hF
  obtain rfl:l.length=i:=by omega
  have e_:sF=(out,k,g):=hF
  refine a8f l a b out k g l.length hl hk hki J8 (fun h=>by simp at h <;> omega) (fun _=>?_)
  first | done | rfl | (rw [e_]; done) | (rw [e_]; rfl)
 | succ r_ ih =>
  intro out k g i sF hi_ hk hki  hF
  refine a8f l a b out k g i hl hk hki ow (fun h1=>?_) (fun h=>by simp at h <;> omega)
  · exact ih (out++[(nth l i).key]) (k+1) (g+1) (i+1) sF ow X0 X0  (by rw [hF] <;> simp only [iter,a1n,if_true,Bool.false_eq_true,if_false])
theorem b3K {α:Type} (l:List α):l.filter (fun _=>true)=l:=by induction l with | nil=>rfl | cons x l ih=>simp [List.filter_cons]
def bV (l:List j4):List Key:=l.map (·.key)
theorem c3M (l:l9C):(bV l).length=l.length:=by simp [bV]
theorem c5c (l a b:l9C):(bV l,(bV l).length,(bV l).length)=iter (a1n l a b) l.length 0 ([],0,0):=by
 rw [fO (a1n l a b) (fun s c=>if (fun _=>true) c=true then (s.1++[c.key],s.2.1+1,s.2.2+1) else s) l (fun i s hi=>by simp [a1n])]
 rw [a7S (fun _=>true) (fun c:j4=>c.key) l,b3K]; simp [bV]
def Y7 (mine dig:List j4):List Key:=bV (K7 (F6 dig) (F6 mine))
def Z8 (mine dig:List j4):List j4:=K7 (F6 mine) (F6 dig)
def P8 (l:List j4):List j4:=(J4 l).take (min (J4 l).length 64)
def a0p:Ann:={ gh:=[(10,.frz 6)],gha:=[(2,.vir 6 9),(9,.cut 1)],fin:=some 0,live:=[(4,[1,5,6,13,14,15])],out:=[(4,[1,5,6,13,14,15])] }
@[simp] abbrev d5n (a:Nat) (b:l9C) (c:l9C) (d:l9K) (e:Nat):Heap:=[(o_ (a+1) 9 (mC (b++[(aH c (nth d e))])))]
@[simp] abbrev d5m (a:l9K) (b:l9C) (c:Nat) (d:Nat) (e:Nat):Fr:=(mkF 41 [(1,(sA 2 (mK a))),(5,(sA 9 (mC b))),(6,(d9 0 c 9 d)),(13,(sA 2 (mK a))),(14,(iN a.length)),(15,(iN (e+1)))])
@[simp] abbrev c1t (a:l9K) (b:l9C) (c:Nat) (d:Nat) (e:Nat):Fr:=(mkF 41 [(1,(sA 2 (mK a))),(5,(sA 9 (mC b))),(6,(d9 0 c 9 d)),(13,(sA 2 (mK a))),(14,(iN a.length)),(15,(iN e))])
abbrev a0A (a:Nat) (b:l9C) (c:l9K) (d:Nat) (e:l9C):Heap:=[(o_ a 9 (mC b)),(o_ 0 2 [(Key.row (nth c d))]),(o_ 0 9 [(j4.row (aH e (nth c d)))])]
@[simp] abbrev b1u :=(C8 a0p Tryz.f36 0)
theorem a3c (keys:l9K) (l:l9C) (out:l9C) (k:Nat) (g:Nat) (i:Nat) (hl:l.length < 1048576) (hks:keys.length < 1048576) (hk:k=out.length) (hki:k<=i) (hle_:i<=keys.length) {eX:Ex} {FX:Fr} {HX:Heap} (k1:(l9 i keys.length)=true->(inC l (nth keys i))=true->(!(fP (keys.take i) (nth keys i)))=true->l6 b1u (some [1,5,6,13,14,15]) (some [1,5,6,13,14,15]) (mkF 41 [(1,(sA 2 (mK keys))),(5,(sA 9 (mC l))),(6,(cw_ g k)),(13,(sA 2 (mK keys))),(14,(iN keys.length)),(15,(iN (i+1)))]) (d5n g out l keys i) eX FX HX) (k2:(l9 i keys.length)=true->(inC l (nth keys i))=true->(!(fP (keys.take i) (nth keys i)))=false->l6 b1u (some [1,5,6,13,14,15]) (some [1,5,6,13,14,15]) (d5m keys l g k i) [(o_ g 9 (mC out))] eX FX HX) (k3:(l9 i keys.length)=true->(inC l (nth keys i))=false->l6 b1u (some [1,5,6,13,14,15]) (some [1,5,6,13,14,15]) (d5m keys l g k i) [(o_ g 9 (mC out))] eX FX HX) (k4:(l9 i keys.length)=false->((.exit 0:Ex),(c1t keys l g k i),[(o_ g 9 (mC out))])=(eX,FX,HX)):l6 b1u (some [1,5,6,13,14,15]) (some [1,5,6,13,14,15]) (c1t keys l g k i) [(o_ g 9 (mC out))] eX FX HX :=
 J7 (.r (.g (.two (l9 i keys.length) (fun h1 h1'=>(.r (.h' [(o_ g 9 (mC out)),(o_ 0 2 [[e_,e_]])] (.is 1 2 2 (mK keys) (i:Int) (Key.row (nth keys i)) (N7.mk _ ow ow) (.s (.c 2 ((a4S l (nth keys i) oa).lift kr kr [(o_ g 9 (mC out)),(o_ 0 2 [(Key.row (nth keys i))]),(o_ 0 9 [[e_,e_,z_,z_,z_,z_,z_,z_,bF]])]) (.s (.two (inC l (nth keys i)) (fun h2 h2'=>(.u2 (.t 4 (sA 2 (mK (keys.take i))) (a0A g out keys i l) (zD (l:=0) (h:=i) om om om om a9m:Option.map (fun a=>(a,(a0A g out keys i l))) (if 2=2\/((mK keys)).isEmpty=true then (bounds 0 (i:Int) (mK keys).length).map fun p=>sA 2 ((List.take p.2 (mK keys)).drop p.1) else none)=some ((sA 2 (mK (keys.take i))),(a0A g out keys i l))) (.u2 (.c 6 ((a2W (keys.take i) (nth keys i) oa).lift kr kr (a0A g out keys i l)) (.u (.g (.two (!(fP (keys.take i) (nth keys i))) (fun h3 h3'=>(.r (.h' (a0A g out keys i l) (.ap 3 30 (d9 0 g 9 k) (AV.sl .clip 9 [(j4.row (aH l (nth keys i)))]) (cw_ g k) [(o_ (g+1) 9 (mC (out++[(aH l (nth keys i))]))),(o_ 0 2 [(Key.row (nth keys i))]),(o_ 0 9 [(j4.row (aH l (nth keys i)))])] (I4 (row:=j4.row) (l:=out) (x:=(aH l (nth keys i))) (T:=tt) (e:=50) (te:=bZ) (z:=1) (b:=24) (y:=[.sl .nil 0 []]) kr kr rfl D8 D8 kr Z0 rfl rfl gV) (.s (.y 0 (.int .i64 (cb_ i)) (iN (i+1)) Yes.o (.h' (d5n g out l keys i) (.b 1 (.g (.l (k1 h1 h2 h3))))))))))) (fun h3 h3'=>(.r (.h' (a0A g out keys i l) (.y 0 (.int .i64 (cb_ i)) (iN (i+1)) Yes.o (.h' [(o_ g 9 (mC out))] (.b 1 (.g (.l (k2 h1 h2 h3))))))))))))))))) (fun h2 h2'=>(.n5 (.rn (.h' (a0A g out keys i l) (.y 0 (.int .i64 (cb_ i)) (iN (i+1)) Yes.o (.h' [(o_ g 9 (mC out))] (.b 1 (.g (.l (k3 h1 h2)))))))))))))))))) (fun h1 h1'=>(.l (k4 h1))))))
def lN (keys:List Key) (l:List j4) (i:Nat) (s:(List j4) × Nat × Nat):(List j4) × Nat × Nat:=(if (inC l (nth keys i))=true then (if (!(fP (keys.take i) (nth keys i)))=true then (s.1++[(aH l (nth keys i))],(s.2.1+1),(s.2.2+1)) else (s.1,s.2.1,s.2.2)) else (s.1,s.2.1,s.2.2))
theorem b4n (keys:l9K) (l:l9C) (hl:l.length < 1048576) (hks:keys.length < 1048576)  (r_:Nat):∀ (out:l9C) (k:Nat) (g:Nat) (i:Nat) (sF:l9C × Nat × Nat),i+r_=keys.length->k=out.length->k<=i->sF=iter (lN keys l) r_ i (out,k,g) ->
 l6 (C8 a0p Tryz.f36 0) (some [1,5,6,13,14,15]) (some [1,5,6,13,14,15]) (c1t keys l g k i) [(o_ g 9 (mC out))] (.exit 0) (mkF 41 [(1,(sA 2 (mK keys))),(5,(sA 9 (mC l))),(6,(d9 0 sF.2.2 9 sF.2.1)),(13,(sA 2 (mK keys))),(14,(iN keys.length)),(15,(iN keys.length))]) [(o_ sF.2.2 9 (mC sF.1))]:=by
 induction r_ with
 | zero =>
  intro out k g i sF hi_ hk hki  hF
  obtain rfl:keys.length=i:=by omega
  have e_:sF=(out,k,g):=hF
  refine a3c keys l out k g keys.length hl hks hk hki J8 (fun h _ _=>by simp at h <;> omega) (fun h _ _=>by simp at h <;> omega) (fun h _=>by simp at h <;> omega) (fun _=>?_)
  first | done | rfl | (rw [e_]; done) | (rw [e_]; rfl)
 | succ r_ ih =>
  intro out k g i sF hi_ hk hki  hF
  refine a3c keys l out k g i hl hks hk hki ow (fun h1 h2 h3=>?_) (fun h1 h2 h3=>?_) (fun h1 h2=>?_) (fun h=>by simp at h <;> omega)
  · exact ih (out++[(aH l (nth keys i))]) (k+1) (g+1) (i+1) sF ow X0 X0  (by rw [hF] <;> simp only [iter,lN,h2,h3,if_true,Bool.false_eq_true,if_false])
  · exact ih out k g (i+1) sF ow X0 X0  (by rw [hF] <;> simp only [iter,lN,h2,h3,if_true,Bool.false_eq_true,if_false])
  · exact ih out k g (i+1) sF ow X0 X0  (by rw [hF] <;> simp only [iter,lN,h2,if_true,Bool.false_eq_true,if_false])
def bJ (l:List j4):List Key->List Key->List j4
 | _,[]=>[]
 | seen,k :: ks=>if inC l k=true then if (!(fP seen k))=true then aH l k :: bJ l (seen++[k]) ks else bJ l (seen++[k]) ks else bJ l (seen++[k]) ks
theorem c7Z {α:Type} [Inhabited α] {l:List α} {i:Nat} (h:i < l.length):l.take (i+1)=l.take i++[nth l i]:=by
 rw [List.take_add_one,List.getElem?_eq_getElem h]
 simp [nth,List.getD_eq_getElem?_getD,List.getElem?_eq_getElem h]
theorem d1q (l:l9C) (ks:l9K):∀ (seen:l9K),(bJ l seen ks).length<=ks.length:=by
 induction ks with
 | nil=>intro s; simp [bJ]
 | cons k ks ih =>
  intro s
  have:=ih (s++[k])
  simp only [bJ]
  split
  · split
    · simp only [List.length_cons]; omega
    · simp only [List.length_cons]; omega
  · simp only [List.length_cons]; omega
theorem b1F (keys:l9K) (l:l9C) (r:Nat):∀ (i:Nat) (out:l9C) (k g:Nat),i+r=keys.length ->
 iter (lN keys l) r i (out,k,g)=(out++bJ l (keys.take i) (keys.drop i),k+(bJ l (keys.take i) (keys.drop i)).length,g+(bJ l (keys.take i) (keys.drop i)).length):=by
 induction r with
 | zero =>
  intro i out k g hi
  have:keys.drop i=[]:=List.drop_of_length_le ow
  rw [this]; simp [iter,bJ]
 | succ r ih =>
  intro i out k g hi
  rw [aU ow]
  simp only [iter,bJ,lN]
  rw [<- c7Z ow]
  split
  · split
    · rw [ih (i+1) _ _ _ ow]; simp; omega
    · rw [ih (i+1) _ _ _ ow]
  · rw [ih (i+1) _ _ _ ow]
def gT (l:List j4) (keys:List Key):List j4:=bJ (F6 l) [] keys
theorem b4o (keys:l9K) (l:l9C):(bJ l [] keys,(bJ l [] keys).length,(bJ l [] keys).length)=iter (lN keys l) keys.length 0 ([],0,0):=by
 rw [b1F keys l keys.length 0 [] 0 0 ow]; simp
attribute [local irreducible] K7 P8 a1G bJ
abbrev d7T (a:l9C):Fr:=(mkF 40 [(3,(d9 0 (U6 (J4 a)).2 9 (U6 (J4 a)).1.length)),(8,(sA 9 (mC (J4 a)))),(9,(iN ((J4 a).length))),(10,(iN ((J4 a).length)))])
abbrev d1z (a:l9C):Heap:=[(o_ ((U6 (J4 a)).2) 9 (mC (U6 (J4 a)).1))]
theorem zY (l:l9C) (hl:l.length < 1000):AC 71 [(sA 9 (mC l))] [] ((sA 9 (mC (F6 l))),[]):=by
 have hs:=qJ l
 exact x9 (fn:=Tryz.f71) (ann:=a3A) (Has.o Tryz.func71) (.r (.s (.s (.c 1 ((nR l oa).lift kr kr [(o_ 0 9 (mC []))]) (.h' [(o_ 0 9 (mC []))] (.y 2 (.int .i64 ((List.length (mC (J4 l)):Nat):Int)) (iN ((J4 l).length)) (Yes.len _ _ _) (.g (.loop (d7T l) (show l6 cx_ (some [3,8,9,10]) (some [3,8,9,10]) (mkF 40 [(3,(d9 0 0 9 0)),(8,(sA 9 (mC (J4 l)))),(9,(iN ((J4 l).length))),(10,z_)]) [(o_ 0 9 (mC []))] (.exit 0) (d7T l) (d1z l) from (c3L (J4 l) (J4 l).length [] 0 0 0 _ ow rfl ow ow (by unfold U6; rfl))) (.r (.w' 2 (mC (U6 (J4 l)).1) (And.intro (G5 (room:=none) kr om) (j4.z8 _ _):I5 (d1z l) 9 (d9 0 (U6 (J4 l)).2 9 (U6 (J4 l)).1.length)=some (mC (U6 (J4 l)).1)/\AV.F3 0 (mC (U6 (J4 l)).1)=true) (.g (.h' [] (.q 0 (sA 9 (mC (U6 (J4 l)).1)) (by (try delta d1z); with_unfolding_all rfl))))))))))))))
abbrev d7S (a:l9C) (b:l9C):Fr:=(mkF 33 [(6,(sA 9 (mC (F6 a)))),(7,(sA 9 (mC (F6 b)))),(8,(d9 0 (bV (K7 (F6 b) (F6 a))).length 2 (bV (K7 (F6 b) (F6 a))).length)),(17,(sA 9 (mC (K7 (F6 b) (F6 a))))),(18,(iN ((K7 (F6 b) (F6 a)).length))),(19,(iN ((K7 (F6 b) (F6 a)).length)))])
abbrev d1y (a:l9C) (b:l9C):Heap:=[(o_ ((bV (K7 (F6 a) (F6 b))).length) 2 (mK (bV (K7 (F6 a) (F6 b)))))]
theorem a0h (mine dig:l9C) (hm:mine.length < 1000) (hd:dig.length < 1000):AC 70 [(sA 9 (mC mine)),(sA 9 (mC dig))] [] ((AV.tup [(sA 2 (mK (Y7 mine dig))),(sA 9 (mC (Z8 mine dig)))]),[]):=by
 have h1:=a1b mine
 have h2:=a1b dig
 have h3:=a5j (F6 dig) (F6 mine)
 have h4:=c3M (K7 (F6 dig) (F6 mine))
 exact x9 (fn:=Tryz.f70) (ann:=a3J) (Has.o Tryz.func70) (.r (.s (.c 1 ((zY mine oa).lift kr kr []) (.c 3 ((zY dig oa).lift kr kr []) (.s (.s (.c 2 ((a5i (F6 dig) (F6 mine) oa oa).lift kr kr [(o_ 0 2 (mK []))]) (.h' [(o_ 0 2 (mK []))] (.y 3 (.int .i64 ((List.length (mC (K7 (F6 dig) (F6 mine))):Nat):Int)) (iN ((K7 (F6 dig) (F6 mine)).length)) (Yes.len _ _ _) (.g (.loop (d7S mine dig) (show l6 d0R (some [6,7,8,17,18,19]) (some [6,7,8,17,18,19]) (mkF 33 [(6,(sA 9 (mC (F6 mine)))),(7,(sA 9 (mC (F6 dig)))),(8,(d9 0 0 2 0)),(17,(sA 9 (mC (K7 (F6 dig) (F6 mine))))),(18,(iN ((K7 (F6 dig) (F6 mine)).length))),(19,z_)]) [(o_ 0 2 (mK []))] (.exit 0) (d7S mine dig) (d1y dig mine) from (c5b (K7 (F6 dig) (F6 mine)) (F6 mine) (F6 dig) ow (K7 (F6 dig) (F6 mine)).length [] 0 0 0 (bV (K7 (F6 dig) (F6 mine)),(bV (K7 (F6 dig) (F6 mine))).length,(bV (K7 (F6 dig) (F6 mine))).length) ow rfl ow (c5c _ _ _))) (.r (.w 8 (mK (bV (K7 (F6 dig) (F6 mine)))) (And.intro (G5 (room:=none) kr om) (Key.z8 _ _):I5 (d1y dig mine) 2 (d9 0 (bV (K7 (F6 dig) (F6 mine))).length 2 (bV (K7 (F6 dig) (F6 mine))).length)=some (mK (bV (K7 (F6 dig) (F6 mine))))/\AV.F3 0 (mK (bV (K7 (F6 dig) (F6 mine))))=true) (.c 3 ((a5i (F6 mine) (F6 dig) oa oa).lift kr kr [(o_ ((bV (K7 (F6 dig) (F6 mine))).length+1) 2 [])]) (.g (.h' [] (.q 0 (AV.tup [(sA 2 (mK (bV (K7 (F6 dig) (F6 mine))))),(sA 9 (mC (K7 (F6 mine) (F6 dig))))]) (by (try delta d1y); with_unfolding_all rfl))))))))))))))))))
def b3Q:Ann:={ fin:=some 0 }
abbrev a3U :Heap:=[(o_ 0 13 [[z_,z_,z_,z_,z_,z_,z_,e_,e_,bF,H9,w9,w9]])]
abbrev d0Q (a:l9C):=(sA 9 (mC ((J4 a).take (min (J4 a).length 64))))
theorem vD (l:l9C) (hl:l.length < 1000):AC 78 [(sA 9 (mC l))] [] ((p9 [(iI 4),z_,z_,z_,z_,z_,z_,e_,e_,bF,H9,(sA 9 (mC (P8 l))),w9]),[]):=by
 have h1:=qJ l
 exact x9 (fn:=Tryz.f78) (ann:=b3Q) (Has.o Tryz.func78) (.r (.s (.c 1 ((nR l oa).lift kr kr a3U) (.s (.h' a3U (.y 2 (.int .i64 ((List.length (mC (J4 l)):Nat):Int)) (iN ((J4 l).length)) (Yes.len _ _ _) (.y 3 (.int .i64 (if 64 < (((J4 l).length:Nat):Int) then 64 else (((J4 l).length:Nat):Int))) (iN (min (J4 l).length 64)) (Yes.int yv_) (.t 4 (d0Q l) a3U (zD (l:=0) (h:=min (J4 l).length 64) om om om om a9m:Option.map (fun a=>(a,a3U)) (if 9=9\/((mC (J4 l))).isEmpty=true then (bounds 0 ((min (J4 l).length 64:Nat):Int) (mC (J4 l)).length).map fun p=>sA 9 ((List.take p.2 (mC (J4 l))).drop p.1) else none)=some ((d0Q l),a3U)) (.c 5 ((b1d ((J4 l).take (min (J4 l).length 64)) oa).lift kr kr a3U) (.g (.h' [] (.q 0 (p9 [(iI 4),z_,z_,z_,z_,z_,z_,e_,e_,bF,H9,(d0Q l),w9]) (by (try delta a3U); with_unfolding_all rfl)))))))))))))
abbrev d7R (a:l9K) (b:l9C):Fr:=(mkF 41 [(1,(sA 2 (mK a))),(5,(sA 9 (mC (F6 b)))),(6,(d9 0 (bJ (F6 b) [] a).length 9 (bJ (F6 b) [] a).length)),(13,(sA 2 (mK a))),(14,(iN a.length)),(15,(iN a.length))])
abbrev d1x (a:l9C) (b:l9K):Heap:=[(o_ ((bJ (F6 a) [] b).length) 9 (mC (bJ (F6 a) [] b)))]
theorem b1G (mine:l9C) (keys:l9K) (hm:mine.length < 1000) (hks:keys.length < 1048576):AC 36 [(sA 9 (mC mine)),(sA 2 (mK keys))] [] ((sA 9 (mC (gT mine keys))),[]):=by
 have h1:=a1b mine
 have h2:=d1q (F6 mine) keys []
 exact x9 (fn:=Tryz.f36) (ann:=a0p) (Has.o Tryz.func36) (.r (.s (.c 1 ((zY mine oa).lift kr kr []) (.s (.s (.h' [(o_ 0 9 (mC []))] (.y 1 (.int .i64 ((List.length (mK keys):Nat):Int)) (iN keys.length) (Yes.len _ _ _) (.g (.loop (d7R keys mine) (show l6 b1u (some [1,5,6,13,14,15]) (some [1,5,6,13,14,15]) (mkF 41 [(1,(sA 2 (mK keys))),(5,(sA 9 (mC (F6 mine)))),(6,(d9 0 0 9 0)),(13,(sA 2 (mK keys))),(14,(iN keys.length)),(15,z_)]) [(o_ 0 9 (mC []))] (.exit 0) (d7R keys mine) (d1x mine keys) from (b4n keys (F6 mine) ow ow keys.length [] 0 0 0 (bJ (F6 mine) [] keys,(bJ (F6 mine) [] keys).length,(bJ (F6 mine) [] keys).length) ow rfl ow (b4o _ _))) (.r (.w 6 (mC (bJ (F6 mine) [] keys)) (And.intro (G5 (room:=none) kr om) (j4.z8 _ _):I5 (d1x mine keys) 9 (d9 0 (bJ (F6 mine) [] keys).length 9 (bJ (F6 mine) [] keys).length)=some (mC (bJ (F6 mine) [] keys))/\AV.F3 0 (mC (bJ (F6 mine) [] keys))=true) (.g (.h' [] (.q 0 (sA 9 (mC (bJ (F6 mine) [] keys))) (by (try delta d1x); with_unfolding_all rfl)))))))))))))))
theorem wX {α:Type} {row:α->List AV} {H:Heap} {id g k n:Nat} {l:List α} {room:Option Nat} (ho:H[id]?=some ⟨g,k,l.map row,room⟩) (hn:n<=l.length):I5 H k (.osl id g k 0 n)=some ((l.take n).map row):=by
 simp [I5,ho,List.map_take]
 exact hn
def mkN (o:Oper):Operand:=match o.op with
 | .makeSlice _ x _=>x
 | _=>.tmp 0
def mkC (o:Oper):Operand:=match o.op with
 | .makeSlice _ _ x=>x
 | _=>.tmp 0
theorem b5n {P:Program} {F:Fr} {H:Heap} {dst:Option Tmp} {x y:Operand} {t e0:TypeId} {type:TypeId} {pos:String} {after:Array Edge} {guard:Option (Nat × Bool)} {c:Nat} {i:TypeInfo} {z:Value} {kl kc:IntKind} {a0:AV}
 (ht:P.underlying t=some (.slice e0)) (hi:P.info? e0=some i) (hz:i.zero=some z) (hs:i.size=1) (hz1:z.cells = #[z]) (hz2:z.oneCell'=true) (hz3:∀ G w C,VR G w C a0 z)
 (hx:opv F x=some (.int kl (c:Int))) (hy:opv F y=some (.int kc (c:Int))) (hby:i.bytes * c<=281474976710656) (h63:c<=9223372036854775807) :
 lS P F H ⟨dst,.makeSlice t x y,type,pos,after,guard⟩ (.osl H.length 0 1 0 c,H++[⟨0,1,List.replicate c [a0],none⟩]):=by
 intro G w C f hf hH
 have hvx:=hf x yo_ _ hx
 have hvy:=hf y yo_ _ hy
 generalize hux:f x=ux at hvx
 generalize huy:f y=uy at hvy
 cases hvx
 cases hvy
 have hr:=run_make_row (P:=P) t e0 i z ht hi hz hs hz1 kl kc c hby h63 w
 have hsz:(madeCells #[z] c).size=c:=size_madeCells _ _
 have hnone:=hH.out H.length (Nat.le_refl _)
 have hget:∀ q,q < c->(madeCells #[z] c).getD q undef=z:=fun q hq=>by
  rw [Array.getD_eq_getD_getElem?]
  simp [madeCells,hq,Nat.mod_one]
 have hrow:∀ q,q < c->(List.replicate c [a0]).getD q []=[a0]:=fun q hq=>by simp [List.getD_eq_getElem?_getD,List.getElem?_replicate,hq]
 have hm:=hH.made (w':=w.alloc (.cells (madeCells #[z] c) e0)) (H':=H++[⟨0,1,List.replicate c [a0],none⟩]) H.length 1 (List.replicate c [a0]) (madeCells #[z] c) e0 rfl rfl rfl rfl c 0 ye_ (by rw [hsz]; omega)
  (fun q hq=>by rw [hrow q (by simpa using hq)]; rfl) ya_ (fun _=>hnone.2) (fun j hj=>by
   rcases Nat.lt_or_ge j H.length with h' | h'
   · rw [List.getElem?_append_left h']
   · rw [List.getElem?_eq_none yg_,List.getElem?_eq_none ya_]) ye_ ye_ (Nat.le_refl _) fun q j hq hj=>by
     obtain rfl:j=0:=by omega
     have hq':q < c:=by simpa using hq
     rw [Nat.mul_one,Nat.add_zero,hget q hq',hrow q hq']
     exact ⟨hz2,hz3 ..⟩
 refine ⟨.slice (some ⟨w.heap.size,0,none⟩) c c,w.alloc (.cells (madeCells #[z] c) e0),by simp [execOp,hux,huy,hr],G,_,hm.1,hm.2,.osl _ _ _ _ _ _ _ _ (Nat.le_refl _) yi_ fun _=>⟨_,_,Cx.U3 ..,rfl,rfl,by simp,by simp,fun _=>by simp⟩,by simp,fun id hl _ hιd=>?_⟩
 have hne:id≠H.length:=by omega
 exact ⟨by rw [(Cx.L6 _ _ _ _ hne).1]; exact hιd,(Cx.L6 _ _ _ _ hne).2,by rw [List.getElem?_append_left hl]⟩
theorem a0Q {P:Program} {X:Env} {F:Fr} {H H2:Heap} {ar:Nat} {o:Oper} (hT:TOk P X.T) {t e0:TypeId} {ti te:TI} {c:Nat} {kl kc:IntKind} {a0:AV} {els':List (List AV)} (hop:o.op=.makeSlice t (mkN o) (mkC o)) (hsem:dM X o=true)
 (ht:X.T t=some ti) (htd:ti.d=.slice e0) (hte:X.T e0=some te) (hs:te.size=1) (hz:te.zero=[a0]) (ha:te.agg=false)
 (hx:opv F (mkN o)=some (.int kl (c:Int))) (hy:opv F (mkC o)=some (.int kc (c:Int))) (hby:te.bytes * c<=281474976710656) (h63:c<=9223372036854775807) (hels:List.replicate c [a0]=els') (hH:H++[⟨0,1,els',none⟩]=H2) :
 Sat P X F H ar o (.osl H.length 0 1 0 c) H2:=by
 refine Sat.sem hsem ?_
 subst hels hH
 obtain ⟨dst,op,type,pos,after,guard⟩:=o
 simp only at hop
 generalize mkN _=x at hop hx
 generalize mkC _=y at hop hy
 subst hop
 obtain ⟨i,hi,hsz,hbt,z,hzz,hzs,hzl,hza⟩:=(hT _ _ hte).info
 have hna:∀ cs,z≠.agg cs:=fun cs e=>by
  have:=hza.1 ⟨cs,e⟩
  rw [ha] at this; simp at this
 have hc:z.cells = #[z]:=by
  cases z with
  | agg cs=>exact absurd rfl (hna cs)
  | _=>rfl
 rw [hz,hc] at hzs
 have hv:∀ G w C,z.oneCell'=true/\VR G w C a0 z:=fun G w C=>by
  have:=(dB (G:=G) (w:=w) (C:=C) hzs).2 0 ye_
  simpa using this
 exact b5n (dQ hT ht htd) hi hzz (by rw [hsz,hs]) hc (hv (fun _=>True) default Cx.none).1 (fun G w C=>(hv G w C).2) hx hy (by rw [hbt]; exact hby) h63
theorem d9S {α β:Type} (row:α->β) (l:List α) {j:Nat} (hj:j<=l.length):(l.map row).take 0++((l.map row).drop j).take (l.length - j)++(l.map row).drop (0+(l.length - j))=(l.drop j++l.drop (l.length - j)).map row:=by
 rw [List.take_of_length_le (l:=(l.map row).drop j) ye_,Nat.zero_add]
 simp [List.map_drop]
theorem d9R {α β:Type} (row:α->β) (u:β) (l:List α) {j:Nat} (hj:j<=l.length):((l.drop j++l.drop (l.length - j)).map row).take (l.length - j)++List.replicate j u++((l.drop j++l.drop (l.length - j)).map row).drop (l.length - j+j)=(l.drop j).map row++List.replicate j u:=by
 have hl:((l.drop j).map row).length=l.length - j:=by simp
 have h2:((l.drop j++l.drop (l.length - j)).map row).drop (l.length - j+j)=[]:=List.drop_of_length_le (by rw [List.map_append,List.length_append,hl,List.length_map,List.length_drop]; omega)
 rw [h2,List.map_append,List.take_append_of_le_length ya_,List.take_of_length_le ya_]
 simp
theorem e0K {α β:Type} (row:α->β) (u:β) (a:List α) (n:Nat) {q:Nat} (hla:a.length=n) (hq:q<=n):(a.map row).take q++List.replicate (n - q) u++(a.map row).drop (q+(n - q))=(a.take q).map row++List.replicate (n - q) u:=by
 rw [List.drop_of_length_le yg_]
 simp [List.map_take]
def c9L:Ann:={ fin:=some 0 }
theorem c3R (x:Int) :AC 102 [w9,(iI x)] [] ((iI (-1)),[]) :=
 x9 (fn:=Tryz.f102) (ann:=c9L) (Has.o Tryz.func102) (.r (.s (.g (.roll 1 (.r (.g (.n (.qr 0 (iI (-1))))))))))
def c5a:Ann:={ fin:=some 0 }
theorem a5c (x:Int) :AC 50 [w9,(iI x)] [] (bF,[]) :=
 x9 (fn:=Tryz.f50) (ann:=c5a) (Has.o Tryz.func50) (.r (.s (.c 2 ((c3R x).lift kr kr []) (.q 0 bF))))
def a7s:Ann:={ own:=[36],gha:=[(8,.virf 46 0 9)],fin:=some 4 }
abbrev b9r :=[[w9,w9,z_]]
abbrev d3o :Ob:=(o_ 0 3 b9r)
abbrev d1C :Heap:=[d3o]
abbrev b9q :=[[(d9 1 0 1 1),w9,z_]]
abbrev d8d (a:Int):Heap:=[(o_ 0 3 b9q),(o_ 0 1 (List.map y5 [a])),(o_ 0 1 [[w9]])]
abbrev d0P :=(p9 [w9,w9,z_])
@[reducible] def a9s:TI:={ d:=.int .i64,size:=1,bytes:=8,zero:=[.int .i64 0] }
@[reducible] def c7X:TI:={ d:=.slice 50,size:=1,bytes:=24,zero:=[.sl .nil 0 []] }
theorem b6r (p:Int) :AC 25 [(sA 1 [[(iI p)]])] [] ((j3 0),[(o_ 0 3 [[(d9 1 0 1 1),(d9 2 0 1 1),z_]]),(o_ 0 1 (List.map y5 [p])),(o_ 0 1 [[(d9 3 0 9 ([]:l9C).length)]]),(o_ 0 9 (mC ([]:l9C)))]) :=
 x9 (fn:=Tryz.f25) (ann:=a7s) (Has.o Tryz.func25) (.r (.s (.s (.g (.roll 2 (.r (.ru (.s (.u6 (.c 12 ((a5c p).lift kr kr d1C) (.u (.ru (.h' d1C (.ao 7 22 w9 (AV.sl .clip 1 [[(iI p)]]) (d9 1 0 1 1) [(o_ 0 3 b9r),(o_ 0 1 (List.map y5 [p]))] (aI (T:=tt) (e:=3) (te:=a9s) (z:=1) (b:=24) (y:=[.sl .nil 0 []]) (row:=y5) kr kr rfl D8 D8 ye_ Y3 rfl rfl rfl om) (.s (.s (.rn (.t 6 (d9 2 0 1 1) (d8d p) (a0Q (t:=102) (ti:={ d:=.slice 30,size:=1,bytes:=24,zero:=[.sl .nil 0 []] }) (te:=c7X) (kl:=.i64) (kc:=.i64) (c:=1) dV kr kr kr rfl kr rfl rfl rfl kr kr D8 D8 rfl rfl:Sat Tryz.prog (X a7s) (mkF 50 [(0,(sA 1 [[(iI p)]])),(2,AV.nilp),(3,(j3 0)),(5,(iI p)),(6,d0P),(7,(j3 0)),(8,(sA 1 [[(iI p)]])),(9,(iI 1)),(10,(iI 1)),(11,bF),(12,(AV.ref [(iI p)] 0)),(13,(iI p)),(14,(j3 0)),(15,(j3 0)),(16,(j3 0)),(17,w9),(18,z_),(19,bT),(20,bT),(21,(j3 0)),(22,(j3 0)),(23,(j3 0)),(24,w9),(25,(iI p)),(26,bF),(27,bT),(28,bT),(29,(j3 0)),(30,(j3 0)),(31,(j3 0)),(32,(j3 0)),(33,w9),(34,(iI p)),(35,(AV.sl .clip 1 [[(iI p)]])),(36,(d9 1 0 1 1)),(37,(j3 0)),(38,(j3 0)),(39,(iI 1)),(40,(j3 0)),(41,(j3 0)),(42,(j3 0)),(43,(j3 0)),(44,(d9 1 0 1 1)),(45,(iI 1))]) [(o_ 0 3 b9q),(o_ 0 1 (List.map y5 [p]))] 2 (Y4 Tryz.f25 8 6) (d9 2 0 1 1) (d8d p)) (.o (rfl:0=0) (.s (.g (.h' [(o_ 0 3 [[(d9 1 0 1 1),(d9 2 0 1 1),z_]]),(o_ 0 1 (List.map y5 [p])),(o_ 0 1 [[(d9 3 0 9 0)]]),(o_ 0 9 (mC []))] (.q 4 (j3 0))))))))))))))))))))))))
def a7t:Ann:={ fin:=some 2 }
abbrev b1T :Heap:=[(o_ 0 3 [[w9,(d9 1 0 1 0),z_]]),(o_ 0 1 [])]
abbrev d8c :Heap:=[d3o,(o_ 0 1 [])]
theorem b6s  :AC 25 [w9] [] ((j3 0),b1T) :=
 x9 (fn:=Tryz.f25) (ann:=a7t) (Has.o Tryz.func25) (.r (.s (.s (.g (.roll 1 (.r (.rn (.t 6 (d9 1 0 1 0) d8c (a0Q (t:=102) (ti:={ d:=.slice 30,size:=1,bytes:=24,zero:=[.sl .nil 0 []] }) (te:=c7X) (kl:=.i64) (kc:=.i64) (c:=0) dV kr kr kr rfl kr rfl rfl rfl kr kr D8 D8 rfl rfl:Sat Tryz.prog (X a7t) (mkF 50 [(0,w9),(2,AV.nilp),(3,(j3 0)),(6,d0P),(7,(j3 0)),(8,w9),(9,z_),(10,z_),(11,bF),(40,(j3 0)),(41,(j3 0)),(42,(j3 0)),(43,(j3 0)),(44,w9),(45,z_)]) d1C 1 (Y4 Tryz.f25 8 6) (d9 1 0 1 0) d8c) (.s (.g (.h' b1T (.q 2 (j3 0)))))))))))))
def aJ (j:Nat) (l:List j4):List j4:=l.drop j
theorem qP (j:Nat) (l:l9C):(aJ j l).length=l.length - j:=List.length_drop ..
def N8 (l:List j4) (c:j4):List j4:=l.filter (fun x=>!(Key.eqb x.key c.key))
theorem jG (l:l9C) (c:j4):(N8 l c).length<=l.length:=List.length_filter_le ..
def wK:Ann:={ big:=[13,31],base:=1 }
abbrev c0m (a:Nat) (b:l9C) (c:Nat):Heap:=[(o_ a 9 (mC (b.drop c)++List.replicate c (List.replicate 9 AV.unk)))]
abbrev b1S (a:Nat) (b:l9C) (c:Nat):Heap:=[(o_ a 9 (mC (b.drop c++b.drop (b.length - c))))]
abbrev aV (a:Nat) (b:l9C):=(d9 0 a 9 b.length)
abbrev vF (a:Nat) (b:l9C) (c:Nat):=(d9 0 a 9 (b.length - c))
theorem c1H (l:l9C) (g j:Nat) (hj0:0 < j) (hj:j<=l.length) (hl:l.length < 1048576):AC 120 [(aV g l),z_,(iN j)] [(o_ g 9 (mC l))] ((vF g l j),(c0m g l j)) :=
 x9 (fn:=Tryz.f120) (ann:=wK) (Has.o Tryz.func120) (.r (.s (.t 5 AV.unk [(o_ g 9 (mC l))] (zH (o:=(Y4 Tryz.f120 1 5)) (t:=30) (e0:=50) (ti:={ d:=.slice 50,size:=1,bytes:=24,zero:=[.sl .nil 0 []] }) (id:=0) (g:=g) (e:=0) (n:=l.length) (te:=bZ) (k:=9) (l:=0) (h:=j) (c:=l.length) dV kr kr kr rfl kr rfl kr kr kr kr om om om:Sat Tryz.prog (X wK) (mkF 33 [(0,(aV g l)),(1,z_),(2,(iN j)),(6,w9),(8,(aV g l)),(9,z_),(10,(iN j)),(11,(aV g l)),(12,(iN l.length))]) [(o_ g 9 (mC l))] 1 (Y4 Tryz.f120 1 5) AV.unk [(o_ g 9 (mC l))]) (.s (.y 2 (bB (0 == (j:Int))) bF (Yes.b yg_) (.rn (.s (.so 2 0 g 9 0 l.length 0 0 (d9 0 g 9 0) (P7 (l:=0) (h:=0) om om om om om om) (.so 5 0 g 9 0 l.length (j:Int) (l.length:Int) (O4 0 g 9 j (l.length - j)) (P7 (l:=j) (h:=l.length) om om om om om om) (.ap 6 30 (d9 0 g 9 0) (O4 0 g 9 j (l.length - j)) (vF g l j) (b1S g l j) (a0E (els:=(mC l)) (ti:={ d:=.slice 50,size:=1,bytes:=24,zero:=[.sl .nil 0 []] }) (te:=bZ) (e0:=50) kr rfl kr rfl D8 kr om om (d9S j4.row l hj) om rfl) (.s (.t 4 (O4 0 g 9 (l.length - j) j) (b1S g l j) (a4p (o:=(Y4 Tryz.f120 6 4)) (t:=30) (e0:=50) (ti:={ d:=.slice 50,size:=1,bytes:=24,zero:=[.sl .nil 0 []] }) (id:=0) (g:=g) (e:=0) (n:=(l.length - j)) (te:=bZ) (k:=9) (room:=none) (l:=(l.length - j)) (h:=l.length) (els:=(mC (l.drop j++l.drop (l.length - j)))) dV kr kr kr rfl kr rfl kr kr kr kr om om om om:Sat Tryz.prog (X wK) (mkF 33 [(0,(vF g l j)),(1,z_),(2,(iN j)),(6,w9),(7,(iN l.length)),(8,(aV g l)),(9,z_),(10,(iN j)),(11,(aV g l)),(12,(iN l.length)),(13,AV.unk),(14,z_),(15,(iN j)),(16,bF),(18,(aV g l)),(19,(iN l.length)),(20,(aV g l)),(21,z_),(22,(d9 0 g 9 0)),(23,(aV g l)),(24,(iN j)),(25,(O4 0 g 9 j (l.length - j))),(26,(vF g l j)),(27,(vF g l j)),(28,(vF g l j)),(29,(iN ((l.length - j)))),(30,(iN l.length))]) (b1S g l j) 1 (Y4 Tryz.f120 6 4) (O4 0 g 9 (l.length - j) j) (b1S g l j)) (.t 5 AV.unk (c0m g l j) (a0R (o:=(Y4 Tryz.f120 6 5)) (t:=30) (e0:=50) (ti:={ d:=.slice 50,size:=1,bytes:=24,zero:=[.sl .nil 0 []] }) (id:=0) (g:=g) (e:=(l.length - j)) (n:=j) (te:=bZ) (k:=9) (els:=(mC (l.drop j++l.drop (l.length - j)))) (els':=(mC (l.drop j)++List.replicate j (List.replicate 9 AV.unk))) (room:=none) dV kr kr kr rfl kr rfl D8 kr kr om ye_ (d9R j4.row (List.replicate 9 AV.unk) l hj) rfl:Sat Tryz.prog (X wK) (mkF 33 [(0,(vF g l j)),(1,z_),(2,(iN j)),(6,w9),(7,(iN l.length)),(8,(aV g l)),(9,z_),(10,(iN j)),(11,(aV g l)),(12,(iN l.length)),(13,AV.unk),(14,z_),(15,(iN j)),(16,bF),(18,(aV g l)),(19,(iN l.length)),(20,(aV g l)),(21,z_),(22,(d9 0 g 9 0)),(23,(aV g l)),(24,(iN j)),(25,(O4 0 g 9 j (l.length - j))),(26,(vF g l j)),(27,(vF g l j)),(28,(vF g l j)),(29,(iN ((l.length - j)))),(30,(iN l.length)),(31,(O4 0 g 9 (l.length - j) j))]) (b1S g l j) 1 (Y4 Tryz.f120 6 5) AV.unk (c0m g l j)) (.s (.g (.h' (c0m g l j) (.e (vF g l j))))))))))))))))))
def a8n:Ann:={ big:=[13,31],base:=1 }
theorem c1G (l:l9C) (g:Nat) (hl:l.length < 1048576):AC 120 [(aV g l),z_,z_] [(o_ g 9 (mC l))] ((aV g l),[(o_ g 9 (mC l))]) :=
 x9 (fn:=Tryz.f120) (ann:=a8n) (Has.o Tryz.func120) (.r (.s (.t 5 AV.unk [(o_ g 9 (mC l))] (zH (o:=(Y4 Tryz.f120 1 5)) (t:=30) (e0:=50) (ti:={ d:=.slice 50,size:=1,bytes:=24,zero:=[.sl .nil 0 []] }) (id:=0) (g:=g) (e:=0) (n:=l.length) (te:=bZ) (k:=9) (l:=0) (h:=0) (c:=l.length) dV kr kr kr rfl kr rfl kr kr kr kr om om om:Sat Tryz.prog (X a8n) (mkF 33 [(0,(aV g l)),(1,z_),(2,z_),(6,w9),(8,(aV g l)),(9,z_),(10,z_),(11,(aV g l)),(12,(iN l.length))]) [(o_ g 9 (mC l))] 1 (Y4 Tryz.f120 1 5) AV.unk [(o_ g 9 (mC l))]) (.s (.ru (.g (.e (aV g l))))))))
theorem lY (l:l9C) (g j n:Nat) (hn:n=l.length) (hj:j<=l.length) (hl:l.length < 1048576):AC 120 [(d9 0 g 9 n),z_,(iN j)] [(o_ g 9 (mC l))] ((d9 0 g 9 (n - j)),[(o_ g 9 (mC (aJ j l)))]):=by
 subst hn
 unfold aJ
 rcases Nat.eq_zero_or_pos j with rfl | h
 · exact c1G l g hl
 · exact (c1H l g j h hj hl).delete (by rw [List.take_append_of_le_length ye_,List.take_of_length_le ye_])
def c2O:Ann:={ refs:=[2],fin:=some 0 }
theorem b6p (x c:j4) :AC 119 [(p9 (j4.row x)),(AV.ref (j4.row c) 0)] [] ((bB (Key.eqb x.key c.key)),[]) :=
 x9 (fn:=Tryz.f119) (ann:=c2O) (Has.o Tryz.func119) (.r (.g (.qr 0 (bB (Key.eqb x.key c.key)))))
theorem a3o (x c:j4)  (H:Heap):AC 119 [(p9 (j4.row x)),(AV.ref (j4.row c) 0)] H ((bB (Key.eqb x.key c.key)),H):=(b6p x c ).lift kr kr H
def yU:Ann:={ gha:=[(6,.cut 1)],base:=1,live:=[(5,[0,1,5,6])],out:=[(5,[0,5])] }
@[simp] abbrev oM (a:j4):=(A8 119 [(AV.ref (j4.row a) 0)])
@[simp] abbrev d8b (a:Nat) (b:Nat) (c:j4) (d:Nat) (e:Nat):Fr:=(mkF 42 [(0,(d9 0 a 9 b)),(1,(oM c)),(5,(iN d)),(6,(iN e))])
abbrev b1R (a:Nat) (b:l9C):Heap:=[(o_ a 9 (mC b)),(o_ 0 9 [[e_,e_,z_,z_,z_,z_,z_,z_,bF]])]
abbrev d1B (a:Nat) (b:l9C) (c:Nat):Heap:=[(o_ a 9 (mC b)),(o_ 0 9 [(j4.row (nth b c))])]
@[simp] abbrev d0O :=(C8 yU Tryz.f118 0)
theorem b2I (c:j4) (n:Nat) (g:Nat) (a:l9C) (q:Nat) (i:Nat) (hn:n < 1048576) (hk:n=a.length) (hq:q<=i) (hle_:i<=n) {eX:Ex} {FX:Fr} {HX:Heap} (k1:(l9 i n)=true->(!(Key.eqb (nth a i).key c.key))=true->l6 d0O (some [0,1,5,6]) (some [0,5]) (mkF 42 [(0,(d9 0 g 9 n)),(1,(oM c)),(5,(iN (q+1))),(6,(iN (i+1)))]) [(o_ g 9 (mC (a.set q (nth a i))))] eX FX HX) (k2:(l9 i n)=true->(!(Key.eqb (nth a i).key c.key))=false->l6 d0O (some [0,1,5,6]) (some [0,5]) (mkF 42 [(0,(d9 0 g 9 n)),(1,(oM c)),(5,(iN q)),(6,(iN (i+1)))]) [(o_ g 9 (mC a))] eX FX HX) (k3:(l9 i n)=false->((.exit 0:Ex),(mkF 42 [(0,(d9 0 g 9 n)),(5,(iN q))]),[(o_ g 9 (mC a))])=(eX,FX,HX)):l6 d0O (some [0,1,5,6]) (some [0,5]) (d8b g n c q i) [(o_ g 9 (mC a))] eX FX HX :=
 J7 (.r (.g (.two (l9 i n) (fun h1 h1'=>(.r (.h' (b1R g a) (.io 2 0 g 9 9 0 n (i:Int) i (I7.mk _ ow ow) (.t 3 (cp_ a i) (b1R g a) (J6 (F7 (row:=j4.row) (l:=a) (k:=9) (room:=none) kr om) kr:M6 tt 50 0 (b1R g a) (rowAt (b1R g a) 0 g i)=some ((cp_ a i),(b1R g a))) (.s (.c 2 (a3o (nth a i) c  (d1B g a i)) (.g (.two (!(Key.eqb (nth a i).key c.key)) (fun h2 h2'=>(.r (.h' (d1B g a i) (.io 3 0 g 9 9 0 n (q:Int) q (I7.mk _ ow ow) (.st 4 0 g q 9 0 (cp_ a i) [(o_ g 9 (mC (a.set q (nth a i)))),(o_ 0 9 [(j4.row (nth a i))])] (U0 (us:=(j4.row (nth a i))) (F7 (row:=j4.row) (l:=a) (k:=9) (room:=none) kr om) kr wR wQ) (.s (.y 1 (.int .i64 (cb_ q)) (iN (q+1)) Yes.o (.s (.y 1 (.int .i64 (cb_ i)) (iN (i+1)) Yes.o (.h' [(o_ g 9 (mC (a.set q (nth a i))))] (.b 1 (.g (.l (k1 h1 h2)))))))))))))) (fun h2 h2'=>(.r (.h' (d1B g a i) (.y 1 (.int .i64 (cb_ i)) (iN (i+1)) Yes.o (.h' [(o_ g 9 (mC a))] (.b 1 (.g (.l (k2 h1 h2)))))))))))))))))) (fun h1 h1'=>(.l (k3 h1))))))
def gI (c:j4) (n:Nat) (g:Nat) (i:Nat) (s:(List j4) × Nat):(List j4) × Nat:=(if (!(Key.eqb (nth s.1 i).key c.key))=true then (s.1.set s.2 (nth s.1 i),s.2+1) else (s.1,s.2))
theorem d2B (c:j4) (n:Nat) (g:Nat) (hn:n < 1048576)  (r_:Nat):∀ (a:l9C) (q:Nat) (i:Nat) (sF:l9C × Nat),i+r_=n->n=a.length->q<=i->sF=iter (gI c n g) r_ i (a,q) ->
 l6 (C8 yU Tryz.f118 0) (some [0,1,5,6]) (some [0,5]) (d8b g n c q i) [(o_ g 9 (mC a))] (.exit 0) (mkF 42 [(0,(d9 0 g 9 n)),(5,(iN sF.2))]) [(o_ g 9 (mC sF.1))]:=by
 induction r_ with
 | zero =>
  intro a q i sF hi_ hk hq  hF
  obtain rfl:n=i:=by omega
  have e_:sF=(a,q):=hF
  refine b2I c n g a q n hn hk hq J8 (fun h _=>by simp at h <;> omega) (fun h _=>by simp at h <;> omega) (fun _=>?_)
  first | done | rfl | (rw [e_]; done) | (rw [e_]; rfl)
 | succ r_ ih =>
  intro a q i sF hi_ hk hq  hF
  refine b2I c n g a q i hn hk hq ow (fun h1 h2=>?_) (fun h1 h2=>?_) (fun h=>by simp at h <;> omega)
  · exact ih (a.set q (nth a i)) (q+1) (i+1) sF ow X0 X0  (by rw [hF] <;> simp only [iter,gI,h2,if_true,Bool.false_eq_true,if_false])
  · exact ih a q (i+1) sF ow X0 X0  (by rw [hF] <;> simp only [iter,gI,h2,if_true,Bool.false_eq_true,if_false])
theorem c3S (c:j4) (l:l9C) (n:Nat) (hl:l.length < 1099511627776) (hn:ixI (fun x:j4=>Key.eqb x.key c.key) l=(n:Int)):AC 105 [(sA 9 (mC l)),(A8 119 [(AV.ref (j4.row c) 0)])] [] ((iN n),[]):=by
 have e:=a3B (fun x:j4=>Key.eqb x.key c.key) _ _ l (fun x H=>a3o x c H) rfl hl
 rw [hn] at e; exact e
theorem c3T (c:j4) (l:l9C) (hl:l.length < 1099511627776) (hn:ixI (fun x:j4=>Key.eqb x.key c.key) l = -1):AC 105 [(sA 9 (mC l)),(A8 119 [(AV.ref (j4.row c) 0)])] [] ((iI (-1)),[]):=by
 have e:=a3B (fun x:j4=>Key.eqb x.key c.key) _ _ l (fun x H=>a3o x c H) rfl hl
 rw [hn] at e; exact e
theorem c7F (c:j4) (l:l9C) (g:Nat) (hl:l.length < 1048576) (hi:ixI (fun x:j4=>Key.eqb x.key c.key) l = -1):AC 118 [(aV g l),(oM c)] [(o_ g 9 (mC l))] ((aV g l),[(o_ g 9 (mC l))]) :=
 x9 (fn:=Tryz.f118) (ann:=yU) (Has.o Tryz.func118) (.r (.s (.c 2 (j5.borrow (args:=[(sA 9 (mC l)),(oM c)]) (args':=[(aV g l),(oM c)]) (H:=([(o_ g 9 (mC l))]:Heap)) (c3T c l oa hi) rfl (show Brs ([(o_ g 9 (mC l))]:Heap) [(aV g l),(oM c)] [(sA 9 (mC l)),(oM c)] from ⟨Br.osl (G5 (room:=none) kr uG) (j4.z8 _ _),Br.same kr,trivial⟩)) (.s (.ru (.g (.e (aV g l))))))))
abbrev a8P (a:Nat) (b:Nat) (c:l9C) (d:l9C):Heap:=[(o_ a 9 (mC (List.take b c)++List.replicate (d.length - b) (List.replicate 9 AV.unk)))]
abbrev d9Z (a:Nat) (b:l9C) (c:Nat):Fr:=(mkF 42 [(0,(aV a b)),(5,(iN c))])
theorem c7E (c:j4) (l a2:l9C) (g q1 q2:Nat) (hl:l.length < 1048576) (hi:ixI (fun x:j4=>Key.eqb x.key c.key) l=(q1:Int)) (hq1:q1 < l.length) (ha2:(a2,q2)=iter (gI c l.length g) (l.length - (q1+1)) (q1+1) (l,q1)) (hla:a2.length=l.length) (hq2:q2 < l.length):AC 118 [(aV g l),(oM c)] [(o_ g 9 (mC l))] ((d9 0 g 9 q2),(a8P g q2 a2 l)):=by
 have hm:(mC a2).length=l.length:=by rw [List.length_map,hla]
 exact x9 (fn:=Tryz.f118) (ann:=yU) (Has.o Tryz.func118) (.r (.s (.c 2 (j5.borrow (args:=[(sA 9 (mC l)),(oM c)]) (args':=[(aV g l),(oM c)]) (H:=([(o_ g 9 (mC l))]:Heap)) (c3S c l q1 oa hi) rfl (show Brs ([(o_ g 9 (mC l))]:Heap) [(aV g l),(oM c)] [(sA 9 (mC l)),(oM c)] from ⟨Br.osl (G5 (room:=none) kr uG) (j4.z8 _ _),Br.same kr,trivial⟩)) (.s (.y 1 (bB ((q1:Int) == (-1))) bF (Yes.b uF) (.rn (.y 1 (iW ((q1:Int)+1)) (iN (q1+1)) Yes.o (.g (.loop (d9Z g l q2) (d2B c l.length g hl (l.length - (q1+1)) l q1 (q1+1) (a2,q2) ow rfl ow ha2) (.r (.so 2 0 g 9 0 l.length (q2:Int) (l.length:Int) (O4 0 g 9 q2 (l.length - q2)) (P7 (l:=q2) (h:=l.length) om om om om om om) (.t 3 AV.unk (a8P g q2 a2 l) (a0R (o:=(Y4 Tryz.f118 11 3)) (t:=30) (e0:=50) (ti:={ d:=.slice 50,size:=1,bytes:=24,zero:=[.sl .nil 0 []] }) (id:=0) (g:=g) (e:=q2) (n:=(l.length - q2)) (te:=bZ) (k:=9) (els:=(mC a2)) (els':=(mC (List.take q2 a2)++List.replicate (l.length - q2) (List.replicate 9 AV.unk))) (room:=none) dV kr kr kr rfl kr rfl D8 kr kr om ow (e0K j4.row (List.replicate 9 AV.unk) a2 l.length hla (Nat.le_of_lt hq2)) rfl:Sat Tryz.prog (X yU) (mkF 42 [(0,(aV g l)),(5,(iN q2)),(36,(aV g l)),(37,(iN q2)),(38,(O4 0 g 9 q2 (l.length - q2)))]) [(o_ g 9 (mC a2))] 1 (Y4 Tryz.f118 11 3) AV.unk (a8P g q2 a2 l)) (.s (.h' (a8P g q2 a2 l) (.so 2 0 g 9 0 l.length 0 (q2:Int) (d9 0 g 9 q2) (P7 (l:=0) (h:=q2) om om om om om om) (.g (.e (d9 0 g 9 q2))))))))))))))))))
theorem d2C (c:j4) (n g:Nat) (r:Nat):∀ (i q:Nat) (a:l9C),i+r=n->n=a.length->q<=i ->
 (iter (gI c n g) r i (a,q)).1.length=n/\(iter (gI c n g) r i (a,q)).2<=q+r/\(iter (gI c n g) r i (a,q)).1.take (iter (gI c n g) r i (a,q)).2=a.take q++(a.drop i).filter (fun x=>!(Key.eqb x.key c.key)):=by
 induction r with
 | zero =>
  intro i q a hi hn hq
  simp only [iter]
  refine ⟨hn.symm,by omega,?_⟩
  rw [List.drop_of_length_le ow]; simp
 | succ r ih =>
  intro i q a hi hn hq
  have hlt:i < a.length:=by omega
  have e:iter (gI c n g) (r+1) i (a,q)=iter (gI c n g) r (i+1) (gI c n g i (a,q)):=rfl
  rw [e]
  cases hp:Key.eqb (nth a i).key c.key with
  | true =>
   have e2:gI c n g i (a,q)=(a,q):=by unfold gI; simp [hp]
   rw [e2]
   obtain ⟨h1,h2,h3⟩:=ih (i+1) q a ow hn ow
   refine ⟨h1,by omega,?_⟩
   rw [h3,aU hlt,List.filter_cons,if_neg (by simp [hp])]
  | false =>
   have e2:gI c n g i (a,q)=(a.set q (nth a i),q+1):=by unfold gI; simp [hp]
   rw [e2]
   obtain ⟨h1,h2,h3⟩:=ih (i+1) (q+1) (a.set q (nth a i)) ow (by simpa using hn) ow
   refine ⟨h1,by omega,?_⟩
   rw [h3,aU hlt,List.filter_cons,if_pos (by simp [hp]),List.drop_set_of_lt ow]
   have e3:(a.set q (nth a i)).take (q+1)=a.take q++[nth a i]:=by
    rw [List.set_eq_take_append_cons_drop,if_pos ow,List.take_append]
    have e4:(a.take q).length=q:=by simp; omega
    rw [e4,List.take_of_length_le ow]
    simp
   rw [e3]; simp
theorem oW (c:j4) (l:l9C) (g n:Nat) (hn:n=l.length) (hl:l.length < 1048576):AC 118 [(d9 0 g 9 n),(A8 119 [(AV.ref (j4.row c) 0)])] [(o_ g 9 (mC l))] ((d9 0 g 9 (N8 l c).length),[(o_ g 9 (mC (N8 l c)))]):=by
 subst hn
 unfold N8
 cases h:mQ (fun x:j4=>Key.eqb x.key c.key) l 0 with
 | none =>
  have hi:ixI (fun x:j4=>Key.eqb x.key c.key) l = -1:=by with_unfolding_all (unfold ixI; rw [h])
  have e:l.filter (fun x=>!(Key.eqb x.key c.key))=l:=List.filter_eq_self.2 fun x hx=>by
   obtain ⟨j,hj,rfl⟩:=dF hx
   have:=qM l 0 h j hj; change Key.eqb (nth l j).key c.key=false at this; rw [this]; rfl
  rw [e]
  exact c7F c l g hl hi
 | some q1 =>
  obtain ⟨_,h2,h3,h4⟩:=qL l 0 q1 h
  have hi:ixI (fun x:j4=>Key.eqb x.key c.key) l=(q1:Int):=by with_unfolding_all (unfold ixI; rw [h])
  have hq1:q1 < l.length:=by omega
  obtain ⟨k1,k2,k3⟩:=d2C c l.length g (l.length - (q1+1)) (q1+1) q1 l ow rfl ow
  have e:l.filter (fun x=>!(Key.eqb x.key c.key))=l.take q1++(l.drop (q1+1)).filter (fun x=>!(Key.eqb x.key c.key)):=by
   conv=>lhs; rw [<- List.take_append_drop q1 l]
   rw [List.filter_append,aU hq1,List.filter_cons,if_neg (by simpa using h3)]
   congr 1
   refine List.filter_eq_self.2 fun x hx=>?_
   obtain ⟨j,hj,rfl⟩:=dF hx
   have hj':j < q1:=by simp at hj; omega
   have:=h4 j ow; change Key.eqb (nth l j).key c.key=false at this; rw [fK hj',this]; rfl
  have h5:=c7E c l _ g q1 _ hl hi hq1 rfl k1 ow
  have hlen:(l.filter (fun x=>!(Key.eqb x.key c.key))).length=(iter (gI c l.length g) (l.length - (q1+1)) (q1+1) (l,q1)).2:=by
   rw [e,<- k3,List.length_take,k1]; omega
  rw [hlen,e,<- k3]
  exact h5.delete (by rw [List.take_append_of_le_length yg_,List.take_of_length_le yg_])
attribute [local irreducible] Key.eqb
attribute [local irreducible] N8 aJ
def U1 (l:List j4) (c:j4):List j4:=if 16 < (N8 l c).length+1 then aJ 1 (N8 l c++[c]) else N8 l c++[c]
def bU (l:List j4) (c:j4) (n:Int):Int:=if 16 < (N8 l c).length+1 then IntKind.i64.wrap (n+1) else n
theorem uS (l:l9C) (c:j4):(U1 l c).length=if 16 < (N8 l c).length+1 then (N8 l c).length else (N8 l c).length+1:=by
 unfold U1; split <;> simp [qP]
def c2T:Ann:={ refs:=[5],base:=4,fin:=some 4 }
@[simp] abbrev b1t (a:Int):=[[(d9 1 0 1 1),(d9 2 0 1 1),(iI a)]]
@[simp] abbrev wI (a:Int):Ob:=(o_ 0 3 (b1t a))
@[simp] abbrev xM (a:Nat) (b:l9C):=(d9 3 a 9 b.length)
@[simp] abbrev a0s (a:Nat) (b:l9C):Ob:=(o_ 0 1 [[(xM a b)]])
@[simp] abbrev fH (a:Int) (b:Int) (c:Nat) (d:l9C):Heap:=[wI a,(o_ 0 1 (List.map y5 [b])),a0s c d,(o_ c 9 (mC d))]
abbrev a2A (a:Nat) (b:l9C) (c:j4):Ob:=(o_ (a+1) 9 (mC ((N8 b c)++[c])))
abbrev a6M (a:Nat) (b:l9C) (c:j4):=(d9 3 (a+1) 9 ((N8 b c).length+1))
abbrev d3s (a:Int) (b:Int) (c:Nat) (d:l9C) (e:j4):Heap:=[wI a,(o_ 0 1 (List.map y5 [b])),(o_ 0 1 [[(a6M c d e)]]),a2A c d e]
abbrev a8O (a:Int) (b:Int) (c:Nat) (d:l9C) (e:j4):Heap:=[wI a,(o_ 0 1 (List.map y5 [b])),a0s c d,(o_ c 9 (mC (N8 d e)))]
abbrev c0o (a:Int) (b:Int) (c:Nat) (d:l9C) (e:j4):Heap:=[wI a,(o_ 0 1 (List.map y5 [b])),a0s c d,a2A c d e]
abbrev a1w (a:Nat) (b:l9C) (c:j4):=(d9 3 a 9 (N8 b c).length)
abbrev a6L (a:j4):=(AV.sl .clip 9 [(j4.row a)])
abbrev a6K (a:l9C) (b:j4):=(bB (decide ((((N8 a b).length+1:Nat):Int) > 16)))
theorem b6w (p lost:Int) (g:Nat) (l:l9C) (c:j4) (hl:l.length < 1000) (h:¬ 16 < (N8 l c).length+1):AC 65 [(j3 0),z_,(p9 (j4.row c))] (fH lost p g l) (F4,(d3s lost p g l c)):=by
 have hf:=jG l c
 exact x9 (fn:=Tryz.f65) (ann:=c2T) (Has.o Tryz.func65) (.r (.s (.ch 8 (a8O lost p g l c) (j5.put2 [3] (fH lost p g l) (a1w g l c) (a8O lost p g l c) (oW c l g l.length oa oa) (⟨Ob.ren0 (j4.z8 0 _),trivial⟩) (⟨Ob.ren0 (j4.z8 0 _),trivial⟩)) (.s (.ap 3 30 (a1w g l c) (a6L c) (a6M g l c) (c0o lost p g l c) (I4 (row:=j4.row) (l:=(N8 l c)) (x:=c) (T:=tt) (e:=50) (te:=bZ) (z:=1) (b:=24) (y:=[.sl .nil 0 []]) kr kr rfl D8 D8 kr Z0 rfl rfl gV) (.s (.y 2 (a6K l c) bF (Yes.b a9j) (.rn (.g (.h' (d3s lost p g l c) (.q 4 F4)))))))))))
def c2S:Ann:={ refs:=[5],base:=4,fin:=some 4 }
abbrev d3r (a:Int) (b:Int) (c:Nat) (d:l9C) (e:j4):Heap:=[wI a,(o_ 0 1 (List.map y5 [b])),a0s c d,(o_ (c+1) 9 (mC (aJ 1 ((N8 d e)++[e]))))]
abbrev b9p (a:Nat) (b:l9C) (c:j4):=(d9 3 (a+1) 9 (((N8 b c).length+1) - 1))
abbrev a6D (a:Int):=(IntKind.i64.wrap (a+1))
theorem b6u (p lost:Int) (g:Nat) (l:l9C) (c:j4) (hl:l.length < 1000) (h:16 < (N8 l c).length+1):AC 65 [(j3 0),z_,(p9 (j4.row c))] (fH lost p g l) (F4,[(o_ 0 3 [[(d9 1 0 1 1),(d9 2 0 1 1),(iI (a6D lost))]]),(o_ 0 1 (List.map y5 [p])),(o_ 0 1 [[(d9 3 (g+1) 9 ((N8 l c).length+1 - 1))]]),(o_ (g+1) 9 (mC (aJ 1 ((N8 l c)++[c]))))]):=by
 have hf:=jG l c
 exact x9 (fn:=Tryz.f65) (ann:=c2S) (Has.o Tryz.func65) (.r (.s (.ch 8 (a8O lost p g l c) (j5.put2 [3] (fH lost p g l) (a1w g l c) (a8O lost p g l c) (oW c l g l.length oa oa) (⟨Ob.ren0 (j4.z8 0 _),trivial⟩) (⟨Ob.ren0 (j4.z8 0 _),trivial⟩)) (.s (.ap 3 30 (a1w g l c) (a6L c) (a6M g l c) (c0o lost p g l c) (I4 (row:=j4.row) (l:=(N8 l c)) (x:=c) (T:=tt) (e:=50) (te:=bZ) (z:=1) (b:=24) (y:=[.sl .nil 0 []]) kr kr rfl D8 D8 kr Z0 rfl rfl gV) (.s (.y 2 (a6K l c) bT (Yes.b a9k) (.ru (.ch 1 (d3r lost p g l c) (j5.put2 [3] (c0o lost p g l c) (b9p g l c) (d3r lost p g l c) (lY ((N8 l c)++[c]) (g+1) 1 ((N8 l c).length+1) oa oa oa) (⟨Ob.ren0 (j4.z8 0 _),trivial⟩) (⟨Ob.ren0 (j4.z8 0 _),trivial⟩)) (.s (.s (.g (.h' [(o_ 0 3 [[(d9 1 0 1 1),(d9 2 0 1 1),(iI (a6D lost))]]),(o_ 0 1 (List.map y5 [p])),(o_ 0 1 [[(b9p g l c)]]),(o_ (g+1) 9 (mC (aJ 1 ((N8 l c)++[c]))))] (.q 4 F4))))))))))))))
theorem c2R (p lost:Int) (g:Nat) (l:l9C) (c:j4) (hl:l.length < 1000):AC 65 [(j3 0),z_,(p9 (j4.row c))] [(o_ 0 3 [[(d9 1 0 1 1),(d9 2 0 1 1),(iI lost)]]),(o_ 0 1 (List.map y5 [p])),(o_ 0 1 [[(d9 3 g 9 l.length)]]),(o_ g 9 (mC l))] (F4,[(o_ 0 3 [[(d9 1 0 1 1),(d9 2 0 1 1),(iI (bU l c lost))]]),(o_ 0 1 (List.map y5 [p])),(o_ 0 1 [[(d9 3 (g+1) 9 (U1 l c).length)]]),(o_ (g+1) 9 (mC (U1 l c)))]):=by
 rw [show List.length (U1 l c)=_ from uS l c]
 unfold U1 bU
 by_cases h:16 < (N8 l c).length+1
 · rw [if_pos h,if_pos h,if_pos h]; exact b6u p lost g l c hl h
 · rw [if_neg h,if_neg h,if_neg h]; exact b6w p lost g l c hl h
theorem d5P (p lost:Int) (g:Nat) (l:l9C) (c:j4) (hl:l.length < 1000) (H:Heap):AC 65 [(j3 0),z_,(p9 (j4.row c))] ((fH lost p g l)++H) (F4,([(o_ 0 3 [[(d9 1 0 1 1),(d9 2 0 1 1),(iI (bU l c lost))]]),(o_ 0 1 (List.map y5 [p])),(o_ 0 1 [[(d9 3 (g+1) 9 (U1 l c).length)]]),(o_ (g+1) 9 (mC (U1 l c)))]:Heap)++H):=(c2R p lost g l c hl).ext kr kr ob ob kr H
def c3Q:Ann:={ fin:=some 0 }
theorem b7m (p:Int) :AC 102 [(sA 1 [[(iI p)]]),(iI p)] [] (z_,[]) :=
 x9 (fn:=Tryz.f102) (ann:=c3Q) (Has.o Tryz.func102) (.r (.s (.g (.roll 2 (.r (.ru (.s (.y 5 (bB (p == p)) bT (Yes.b ye_) (.g (.u (.qr 0 z_)))))))))))
theorem b7n (p:Int) :AC 102 [(sA 1 (List.map y5 [p])),(iI p)] [] (z_,[]):=b7m p
def E8 (l:List j4):List j4:=l.take (min l.length 4)
def M7 (l:List j4):List j4:=aJ (min l.length 4) l
def b6m:Ann:={ gha:=[(5,.frz 7)],base:=4,fin:=some 4 }
abbrev d3q (a:Int) (b:Int) (c:Nat) (d:l9C):Heap:=[wI a,(o_ 0 1 (List.map y5 [b])),a0s c d,(o_ c 9 (mC d)),(o_ 0 9 (mC (List.take (min d.length 4) d)))]
abbrev c0n (a:Int) (b:Int) (c:Nat) (d:l9C):Heap:=[wI a,(o_ 0 1 (List.map y5 [b])),a0s c d,(o_ c 9 (mC (aJ (min d.length 4) d))),(o_ 1 9 [])]
theorem c7I {p:Prop} (h:p:=by first | omega | (simp; omega)):p:=h
abbrev a1v (a:Int):=(sA 1 (List.map y5 [a]))
abbrev a6J (a:Nat) (b:l9C):=(d9 3 a 9 (min b.length 4))
abbrev a0l (a:l9C):=(sA 9 (mC (List.take (min a.length 4) a)))
abbrev b9o (a:Nat) (b:l9C):=(d9 3 a 9 (b.length - (min b.length 4)))
theorem b3k (p lost:Int) (g:Nat) (l:l9C) (hl:l.length < 1000):AC 79 [(j3 0),(iI p)] (fH lost p g l) ((sA 9 (mC (List.take (min l.length 4) l))),[(o_ 0 3 (b1t lost)),(o_ 0 1 (List.map y5 [p])),(o_ 0 1 [[(d9 3 g 9 (l.length - (min l.length 4)))]]),(o_ g 9 (mC (aJ (min l.length 4) l)))]) :=
 x9 (fn:=Tryz.f79) (ann:=b6m) (Has.o Tryz.func79) (.r (.s (.c 5 (j5.borrow (args:=[(a1v p),(iI p)]) (args':=[(d9 1 0 1 1),(iI p)]) (H:=(fH lost p g l)) (b7n p ) rfl (show Brs (fH lost p g l) [(d9 1 0 1 1),(iI p)] [(a1v p),(iI p)] from ⟨Br.osl (G5 (room:=none) kr uG) (aB _ _),Br.same kr,trivial⟩)) (.s (.rn (.y 8 (.int .i64 (if 4 < ((l.length:Nat):Int) then 4 else ((l.length:Nat):Int))) (iN (min l.length 4)) (Yes.int yv_) (.s (.so 8 3 g 9 0 l.length 0 ((min l.length 4:Nat):Int) (a6J g l) (P7 (l:=0) (h:=min l.length 4) om om om om om om) (.ch 9 (d3q lost p g l) (j5.iC (args:=[(a0l l)]) (args':=[(a6J g l)]) (H:=(fH lost p g l)) (kG (List.take (min l.length 4) l) oa) (gW (fun _=>rfl) _) (show Brs (fH lost p g l) [(a6J g l)] [(a0l l)] from ⟨Br.osl (wX (room:=none) kr c7I) (j4.z8 _ _),trivial⟩)) (.w' 7 (mC (List.take (min l.length 4) l)) (And.intro (G5 (room:=none) kr om) (j4.z8 _ _):I5 (d3q lost p g l) 9 (d9 4 0 9 (List.take (min l.length 4) l).length)=some (mC (List.take (min l.length 4) l))/\AV.F3 0 (mC (List.take (min l.length 4) l))=true) (.s (.ch 13 (c0n lost p g l) (j5.put2 [3] [(o_ 0 3 (b1t lost)),(o_ 0 1 (List.map y5 [p])),(o_ 0 1 [[(xM g l)]]),(o_ g 9 (mC l)),(o_ 1 9 [])] (b9o g l) (c0n lost p g l) (lY l g (min l.length 4) l.length oa oa oa) (⟨Ob.ren0 (j4.z8 0 _),trivial⟩) (⟨Ob.ren0 (j4.z8 0 _),trivial⟩)) (.rd (d9 2 0 1 1) (c0n lost p g l) (.s (.g (.h' [(o_ 0 3 (b1t lost)),(o_ 0 1 (List.map y5 [p])),(o_ 0 1 [[(b9o g l)]]),(o_ g 9 (mC (aJ (min l.length 4) l)))] (.q 4 (a0l l))))))))))))))))))
theorem a4C (p lost:Int) (g:Nat) (l:l9C) (hl:l.length < 1000):AC 79 [(j3 0),(iI p)] [(o_ 0 3 [[(d9 1 0 1 1),(d9 2 0 1 1),(iI lost)]]),(o_ 0 1 (List.map y5 [p])),(o_ 0 1 [[(d9 3 g 9 l.length)]]),(o_ g 9 (mC l))] ((sA 9 (mC (E8 l))),[(o_ 0 3 [[(d9 1 0 1 1),(d9 2 0 1 1),(iI lost)]]),(o_ 0 1 (List.map y5 [p])),(o_ 0 1 [[(d9 3 g 9 (M7 l).length)]]),(o_ g 9 (mC (M7 l)))]):=by
 unfold M7 E8
 rw [show List.length (aJ (min l.length 4) l)=_ from qP _ l]
 exact b3k p lost g l hl
def zM:Ann:={ gha:=[(8,.cut 4)],base:=4,fin:=some 4,live:=[(1,[0,7,8,9])],out:=[(1,[])] }
attribute [local irreducible] U1 bU
theorem lU (l:l9C) (c:j4):(U1 l c).length<=l.length+1:=by
 have:=jG l c
 with_unfolding_all rw [uS]
 split <;> omega
@[simp] abbrev d3p (a:l9C) (b:l9C) (c:Nat) (d:Int) (e:Int) (f:Nat):Heap:=[(o_ 0 3 [[(d9 1 0 1 1),(d9 2 0 1 1),(iI (bU a (nth b c) d))]]),(o_ 0 1 (List.map y5 [e])),(o_ 0 1 [[(d9 3 (f+1) 9 (U1 a (nth b c)).length)]]),(o_ (f+1) 9 (mC (U1 a (nth b c))))]
@[simp] abbrev a8N (a:l9C) (b:Nat):Fr:=(mkF 27 [(0,(j3 0)),(7,(sA 9 (mC a))),(8,(iN a.length)),(9,(iN b))])
theorem a7u (p:Int) (cs:l9C) (l:l9C) (g:Nat) (lost:Int) (i:Nat) (hcs:cs.length < 100) (hl:l.length<=100+i) (hle_:i<=cs.length) {eX:Ex} {FX:Fr} {HX:Heap} (k1:(l9 i cs.length)=true->l6 (C8 zM Tryz.f32 0) (some [0,7,8,9]) (some []) (mkF 27 [(0,(j3 0)),(7,(sA 9 (mC cs))),(8,(iN cs.length)),(9,(iN (i+1)))]) (d3p l cs i lost p g) eX FX HX) (k2:(l9 i cs.length)=false->((.exit 0:Ex),(mkF 27 []),(fH lost p g l))=(eX,FX,HX)):l6 (C8 zM Tryz.f32 0) (some [0,7,8,9]) (some []) (a8N cs i) (fH lost p g l) eX FX HX:=by
 have hq:=lU l (nth cs i)
 exact J7 (.r (.g (.two (l9 i cs.length) (fun h1 h1'=>(.r (.h' [(o_ 0 3 (b1t lost)),(o_ 0 1 (List.map y5 [p])),(o_ 0 1 [[(xM g l)]]),(o_ g 9 (mC l)),(o_ 0 9 [[e_,e_,z_,z_,z_,z_,z_,z_,bF]])] (.is 0 9 9 (mC cs) (i:Int) (j4.row (nth cs i)) (N7.mk _ ow ow) (.s (.g (.roll 2 (.r (.ru (.s (.ch 3 [(o_ 0 3 [[(d9 1 0 1 1),(d9 2 0 1 1),(iI (bU l (nth cs i) lost))]]),(o_ 0 1 (List.map y5 [p])),(o_ 0 1 [[(d9 3 (g+1) 9 (U1 l (nth cs i)).length)]]),(o_ (g+1) 9 (mC (U1 l (nth cs i)))),(o_ 0 9 [(j4.row (nth cs i))])] (d5P p lost g l (nth cs i) oa [(o_ 0 9 [(j4.row (nth cs i))])]) (.s (.s (.rn (.y 0 (.int .i64 (cb_ i)) (iN (i+1)) Yes.o (.h' (d3p l cs i lost p g) (.b 4 (.g (.l (k1 h1)))))))))))))))))))) (fun h1 h1'=>(.l (k2 h1))))))
def a4D (p:Int) (cs:List j4) (i:Nat) (s:(List j4) × Nat × Int):(List j4) × Nat × Int:=(U1 s.1 (nth cs i),(s.2.1+1),(bU s.1 (nth cs i) s.2.2))
theorem c2P (p:Int) (cs:l9C) (hcs:cs.length < 100)  (r_:Nat):∀ (l:l9C) (g:Nat) (lost:Int) (i:Nat) (sF:l9C × Nat × Int),i+r_=cs.length->l.length<=100+i->sF=iter (a4D p cs) r_ i (l,g,lost) ->
 l6 (C8 zM Tryz.f32 0) (some [0,7,8,9]) (some []) (a8N cs i) (fH lost p g l) (.exit 0) (mkF 27 []) [(o_ 0 3 [[(d9 1 0 1 1),(d9 2 0 1 1),(iI sF.2.2)]]),(o_ 0 1 (List.map y5 [p])),(o_ 0 1 [[(d9 3 sF.2.1 9 sF.1.length)]]),(o_ sF.2.1 9 (mC sF.1))]:=by
 induction r_ with
 | zero =>
  intro l g lost i sF hi_ hl  hF
  obtain rfl:cs.length=i:=by omega
  have e_:sF=(l,g,lost):=hF
  refine a7u p cs l g lost cs.length hcs hl J8 (fun h=>by simp at h <;> omega) (fun _=>?_)
  first | done | rfl | (rw [e_]; done) | (rw [e_]; rfl)
 | succ r_ ih =>
  intro l g lost i sF hi_ hl  hF
  refine a7u p cs l g lost i hcs hl ow (fun h1=>?_) (fun h=>by simp at h <;> omega)
  · exact ih (U1 l (nth cs i)) (g+1) (bU l (nth cs i) lost) (i+1) sF ow (by have hq:=lU l (nth cs i); first | omega | assumption | (simp; done) | (simp; omega) | (simp [*]; done) | (simp [*]; omega))  (by rw [hF] <;> simp only [iter,a4D,if_true,Bool.false_eq_true,if_false])
def qA (p:Int) (cs l:List j4) (g:Nat) (lost:Int):List j4 × Nat × Int:=iter (a4D p cs) cs.length 0 (l,g,lost)
theorem a6l {l:l9C} (c:j4) (h:l.length<=16):(U1 l c).length<=16:=by
 have:=jG l c
 with_unfolding_all rw [uS]
 split <;> omega
theorem d6B (p:Int) (cs l:l9C) (g:Nat) (lost:Int) (h:l.length<=16):(qA p cs l g lost).1.length<=16 :=
 oD (a4D p cs) (fun i s=>s.1.length<=16) cs.length (fun i s _ hs=>a6l _ hs) cs.length 0 (l,g,lost) ow h
abbrev d9Y (a:Int) (b:l9C) (c:l9C) (d:Nat) (e:Int):Heap:=[(o_ 0 3 [[(d9 1 0 1 1),(d9 2 0 1 1),(iI (qA a b c d e).2.2)]]),(o_ 0 1 (List.map y5 [a])),(o_ 0 1 [[(d9 3 (qA a b c d e).2.1 9 (List.length (qA a b c d e).1))]]),(o_ ((qA a b c d e).2.1) 9 (mC (qA a b c d e).1))]
theorem b6t (cs:l9C) (p lost:Int) (g:Nat) (l:l9C) (hl:l.length<=16) (hcs:cs.length < 100):AC 32 [(j3 0),(sA 9 (mC cs))] (fH lost p g l) (F4,(d9Y p cs l g lost)) :=
 x9 (fn:=Tryz.f32) (ann:=zM) (Has.o Tryz.func32) (.r (.y 1 (.int .i64 ((List.length (mC cs):Nat):Int)) (iN cs.length) (Yes.len _ _ _) (.g (.loop (mkF 27 []) (c2P p cs hcs cs.length l g lost 0 (qA p cs l g lost) ow ow rfl) (.q 4 F4)))))
end Go.Proofs.YtmghjcbabebanaaGreat.AM
namespace Go.Proofs.YtmghjcbabebanaaGreat.AM
open Go Go.Proofs.YtmghjcbabebanaaGreat
attribute [local irreducible] E9 H6 J4 K5 Q6 R9 dL j5 l6 stR
structure Msg where
 kind:Int
 op:Int
 status:Int
 code:Int
 tag:Int
 n:Int
 seq:Int
 key:Key
 full:Bool
 sum:Int
 cards:List j4
 keys:List Key
 deriving Inhabited
def Msg.row (x:Msg):List AV:=[(iI x.kind),(iI x.op),(iI x.status),(iI x.code),(iI x.tag),(iI x.n),(iI x.seq),(AV.str x.key.app),(AV.str x.key.id),(bB x.full),(AV.int .u32 x.sum),(sA 9 (mC x.cards)),(sA 2 (mK x.keys))]
@[simp] theorem Msg.U9 (n:Nat) (x:Msg):AV.bdds n x.row=true:=by simp [Msg.row,AV.bdds,AV.bdd]
@[simp] theorem Msg.z8 (n:Nat) (l:List Msg):AV.F3 n (l.map Msg.row)=true:=by induction l with | nil=>rfl | cons x l ih=>simp [AV.F3,Msg.U9,ih]
def c4J:Ann:={ fin:=some 0 }
theorem b7R (l:l9C) (h:¬ l.length=0):AC 158 [(sA 9 (mC l)),w9] [] ((bB (decide (l.length=0))),[]) :=
 x9 (fn:=Tryz.f158) (ann:=c4J) (Has.o Tryz.func158) (.r (.s (.y 1 (.int .i64 ((List.length (mC l):Nat):Int)) (iN l.length) (Yes.len _ _ _) (.y 4 (bB ((l.length:Int) != 0)) bT (Yes.b (by simp; intro q; subst q; exact h rfl)) (.g (.u (.qr 0 bF (by simp [h]))))))))
def c4I:Ann:={ fin:=some 0 }
theorem b7Q  :AC 158 [(sA 9 []),w9] [] (bT,[]) :=
 x9 (fn:=Tryz.f158) (ann:=c4I) (Has.o Tryz.func158) (.r (.s (.rn (.g (.roll 1 (.r (.g (.n (.qr 0 bT)))))))))
theorem c4H (l:l9C) :AC 158 [(sA 9 (mC l)),w9] [] ((bB (decide (l.length=0))),[]):=by
 by_cases h:l.length=0
 · obtain rfl:l=[]:=List.eq_nil_of_length_eq_zero h
   exact b7Q
 · exact b7R l h
def c4G:Ann:={ fin:=some 0 }
theorem b7P (l:l9K) (h:¬ l.length=0):AC 159 [(sA 2 (mK l)),w9] [] ((bB (decide (l.length=0))),[]) :=
 x9 (fn:=Tryz.f159) (ann:=c4G) (Has.o Tryz.func159) (.r (.s (.y 1 (.int .i64 ((List.length (mK l):Nat):Int)) (iN l.length) (Yes.len _ _ _) (.y 4 (bB ((l.length:Int) != 0)) bT (Yes.b (by simp; intro q; subst q; exact h rfl)) (.g (.u (.qr 0 bF (by simp [h]))))))))
def c4F:Ann:={ fin:=some 0 }
theorem b7O  :AC 159 [(sA 2 []),w9] [] (bT,[]) :=
 x9 (fn:=Tryz.f159) (ann:=c4F) (Has.o Tryz.func159) (.r (.s (.rn (.g (.roll 1 (.r (.g (.n (.qr 0 bT)))))))))
theorem c4E (l:l9K) :AC 159 [(sA 2 (mK l)),w9] [] ((bB (decide (l.length=0))),[]):=by
 by_cases h:l.length=0
 · obtain rfl:l=[]:=List.eq_nil_of_length_eq_zero h
   exact b7O
 · exact b7P l h
def c3H:Ann:={ refs:=[1],fin:=some 0 }
theorem b6V (c:j4) :AC 58 [(p9 (j4.row c))] [] ((bB (!(Q6 c))),[]) :=
 x9 (fn:=Tryz.f58) (ann:=c3H) (Has.o Tryz.func58) (.r (.s (.c 1 ((a2Y c).lift kr kr []) (.q 0 (bB (!(Q6 c)))))))
theorem b0v (c:j4)  (H:Heap):AC 58 [(p9 (j4.row c))] H ((bB (!(Q6 c))),H):=(b6V c ).lift kr kr H
def a6s:Ann:={ fin:=some 0,live:=[(2,[0,1,7,8])],out:=[(2,[0,1,7,8])] }
@[simp] abbrev c0z (a:l9C) (b:Nat):Fr:=(mkF 19 [(0,(sA 9 (mC a))),(1,(A8 58 [])),(7,(iN a.length)),(8,(iN b))])
@[simp] abbrev d0N :=(C8 a6s Tryz.f105 0)
theorem b0n (l:l9C)  (i:Nat) (hl:l.length < 1099511627776) (hle_:i<=l.length) {eX:Ex} {FX:Fr} {HX:Heap} (k1:(l9 i l.length)=true->(!(Q6 (nth l i)))=true->((.ret:Ex),(c0z l i),[])=(eX,FX,HX)) (k2:(l9 i l.length)=true->(!(Q6 (nth l i)))=false->l6 d0N (some [0,1,7,8]) (some [0,1,7,8]) (mkF 19 [(0,(sA 9 (mC l))),(1,(A8 58 [])),(7,(iN l.length)),(8,(iN (i+1)))]) [] eX FX HX) (k3:(l9 i l.length)=false->((.exit 0:Ex),(c0z l i),[])=(eX,FX,HX)):l6 d0N (some [0,1,7,8]) (some [0,1,7,8]) (c0z l i) [] eX FX HX :=
 J7 (.r (.g (.two (l9 i l.length) (fun h1 h1'=>(.r (.s (.is 3 9 9 (mC l) (i:Int) (j4.row (nth l i)) (N7.mk _ ow ow) (.c 5 (b0v (nth l i)  ([]:Heap)) (.g (.two (!(Q6 (nth l i))) (fun h2 h2'=>(.r (.g (.l (k1 h1 h2))))) (fun h2 h2'=>(.r (.y 0 (.int .i64 (cb_ i)) (iN (i+1)) Yes.o (.g (.l (k2 h1 h2))))))))))))) (fun h1 h1'=>(.l (k3 h1))))))
def a8C (l:List j4) (i:Nat) (s:Unit):Unit:=()
def b4A (l:List j4)  (i:Nat):Prop:=(((decide ((i:Int) < (l.length:Int)))=true)/\((!(Q6 (nth l i)))=true))
@[simp] abbrev d1P (a:l9C):Fr:=(mkF 19 [(0,(sA 9 (mC a))),(1,(A8 58 [])),(7,(iN a.length)),(8,(iN a.length))])
theorem c9h (l:l9C) (hl:l.length < 1099511627776)  (hbad:∀ (i:Nat),i < l.length->¬ b4A l  i) (r_:Nat):∀  (i:Nat) (sF:Unit),i+r_=l.length->()=(iter (a8C l) i 0 ())->sF=iter (a8C l) r_ i () ->
 l6 (C8 a6s Tryz.f105 0) (some [0,1,7,8]) (some [0,1,7,8]) (c0z l i) [] (.exit 0) (d1P l) []:=by
 induction r_ with
 | zero =>
  intro  i sF hi_  hs_ hF
  obtain rfl:l.length=i:=by omega
  have e_:sF=():=hF
  refine b0n l  l.length hl J8 (fun h _=>by simp at h <;> omega) (fun h _=>by simp at h <;> omega) (fun _=>?_)
  first | done | rfl | (rw [e_]; done) | (rw [e_]; rfl)
 | succ r_ ih =>
  intro  i sF hi_  hs_ hF
  refine b0n l  i hl ow (fun h1 h2=>?_) (fun h1 h2=>?_) (fun h=>by simp at h <;> omega)
  · exact False.elim b4U
  · exact ih  (i+1) sF ow  (by rw [qN,<- hs_] <;> simp only [a8C,h2,if_true,Bool.false_eq_true,if_false]) (by rw [hF] <;> simp only [iter,a8C,h2,if_true,Bool.false_eq_true,if_false])
theorem c9g (l:l9C) (hl:l.length < 1099511627776) (hr:∀ c∈l,Q6 c=true):AC 105 [(sA 9 (mC l)),(A8 58 [])] [] ((iI (-1)),[]) :=
 x9 (fn:=Tryz.f105) (ann:=a6s) (Has.o Tryz.func105) (.r (.s (.y 1 (.int .i64 ((List.length (mC l):Nat):Int)) (iN l.length) (Yes.len _ _ _) (.g (.loop (d1P l) (show l6 d0N (some [0,1,7,8]) (some [0,1,7,8]) (mkF 19 [(0,(sA 9 (mC l))),(1,(A8 58 [])),(7,(iN l.length)),(8,z_)]) [] (.exit 0) (d1P l) [] from (c9h l hl (fun i hi=>by simp only [b4A]; rw [hr _ (tX hi)]; simp) l.length 0 () ow rfl rfl)) (.qr 0 (iI (-1))))))))
def c3F:Ann:={ fin:=some 0 }
theorem b6S (l:l9C) (hl:l.length < 1099511627776) (hr:∀ c∈l,Q6 c=true):AC 57 [(sA 9 (mC l)),(A8 58 [])] [] (bF,[]) :=
 x9 (fn:=Tryz.f57) (ann:=c3F) (Has.o Tryz.func57) (.r (.s (.c 2 ((c9g l oa oa).lift kr kr []) (.q 0 bF))))
attribute [local irreducible] ofB
def iY (x:Msg):Bool:=decide (x.cards.length=0)&&(decide (x.keys.length=0)&&((x.kind == 0)&&((x.op == 0)&&((x.status == 0)&&((x.code == 0)&&((x.tag == 0)&&((x.n == 0)&&((x.seq == 0)&&(Key.eqb x.key ⟨⟨#[]⟩,⟨#[]⟩⟩&&((x.full == false)&&(x.sum == 0)))))))))))
def O1 (x:Msg):Bool :=
 if x.kind=1 then iY ⟨0,0,0,x.code,0,0,0,⟨⟨#[]⟩,⟨#[]⟩⟩,x.full,x.sum,x.cards,x.keys⟩
 else if x.kind=2 then iY ⟨0,0,x.status,0,0,x.n,0,⟨⟨#[]⟩,⟨#[]⟩⟩,false,0,[],x.keys⟩
 else if x.kind=3\/x.kind=4 then iY ⟨0,x.op,x.status,x.code,x.tag,x.n,x.seq,x.key,x.full,x.sum,[],x.keys⟩
 else if x.kind=5 then iY ⟨0,x.op,x.status,x.code,x.tag,x.n,x.seq,x.key,x.full,x.sum,x.cards,[]⟩
 else iY ⟨0,x.op,x.status,x.code,x.tag,x.n,x.seq,x.key,x.full,x.sum,x.cards,x.keys⟩
def U2 (k:Key):Bool:=dL k.app&&dL k.id
def opM (x:Msg):Bool:=if x.kind=1\/x.kind=2 then (if x.op=5 then Key.eqb x.key ⟨⟨#[]⟩,⟨#[]⟩⟩ else decide (1<=x.op)&&(decide (x.op < 5)&&U2 x.key)) else true
def K6 (n:Int):Bool:=decide (0<=n)&&decide (n<=255)
def R4 (x:Msg):Bool:=(decide (1<=x.kind)&&decide (x.kind<=5))&&(O1 x&&(opM x&&((K6 x.code&&(K6 x.status&&decide (-1<=x.seq)))&&((decide (x.cards.length<=64)&&decide (x.keys.length<=64))&&(x.cards.all Q6&&x.keys.all U2)))))
def b6Q:Ann:={ refs:=[2,3],fin:=some 0 }
theorem rD {p:Prop} (h:p:=by simp only [iY]; simp_all):p:=h
theorem dS (x:Msg) :AC 103 [(p9 (Msg.row x)),(p9 [z_,z_,z_,z_,z_,z_,z_,e_,e_,bF,H9,w9,w9])] [] ((bB (iY x)),[]) :=
 x9 (fn:=Tryz.f103) (ann:=b6Q) (Has.o Tryz.func103) (.r (.s (.c 4 ((c4H x.cards).lift kr kr []) (.two (!(decide (x.cards.length=0))) (fun h1 h1'=>(.u5 (.g (.u (.qr 0 bF rD))))) (fun h1 h1'=>(.n4 (.c 11 ((c4E x.keys).lift kr kr []) (.n (.g (.two (!(decide (x.keys.length=0))) (fun h2 h2'=>(.qr 0 bF rD)) (fun h2 h2'=>(.r (.two (x.kind == 0) (fun h3 h3'=>(.u4 (.two (x.op == 0) (fun h4 h4'=>(.u4 (.two (x.status == 0) (fun h5 h5'=>(.u4 (.two (x.code == 0) (fun h6 h6'=>(.u4 (.two (x.tag == 0) (fun h7 h7'=>(.u4 (.two (x.n == 0) (fun h8 h8'=>(.u4 (.two (x.seq == 0) (fun h9 h9'=>(.u4 (.two (Key.eqb x.key R8) (fun h10 h10'=>(.u4 (.two (x.full == false) (fun h11 h11'=>(.u4 (.q 0 (bB (x.sum == 0)) rD))) (fun h11 h11'=>(.n4 (.q 0 bF rD)))))) (fun h10 h10'=>(.n6 (.n3 (.q 0 bF rD))))))) (fun h9 h9'=>(.n6 (.n6 (.n2 (.q 0 bF rD)))))))) (fun h8 h8'=>(.n6 (.n6 (.n6 (.n (.q 0 bF rD))))))))) (fun h7 h7'=>(.n6 (.n6 (.n6 (.n6 (.q 0 bF rD))))))))) (fun h6 h6'=>(.n6 (.n6 (.n6 (.n6 (.n5 (.q 0 bF rD)))))))))) (fun h5 h5'=>(.n6 (.n6 (.n6 (.n6 (.n6 (.n4 (.q 0 bF rD))))))))))) (fun h4 h4'=>(.n6 (.n6 (.n6 (.n6 (.n6 (.n6 (.n3 (.q 0 bF rD)))))))))))) (fun h3 h3'=>(.n6 (.n6 (.n6 (.n6 (.n6 (.n6 (.n6 (.n2 (.q 0 bF rD)))))))))))))))))))))))
attribute [local irreducible] iY
def c3p:Ann:={ fin:=some 0 }
@[simp] abbrev d6T (a:Msg):=[z_,(iI a.op),(iI a.status),(iI a.code),(iI a.tag),(iI a.n),(iI a.seq),(AV.str a.key.app),(AV.str a.key.id),(bB a.full),(AV.int .u32 a.sum),w9,(sA 2 (mK a.keys))]
@[simp] abbrev d1O (a:Msg):Heap:=[(o_ 0 13 [(d6T a)])]
@[simp] abbrev d6S (a:Msg):=[z_,(iI a.op),(iI a.status),(iI a.code),(iI a.tag),(iI a.n),(iI a.seq),(AV.str a.key.app),(AV.str a.key.id),(bB a.full),(AV.int .u32 a.sum),(sA 9 (mC a.cards)),w9]
@[simp] abbrev d1N (a:Msg):Heap:=[(o_ 0 13 [(d6S a)])]
@[simp] abbrev d6R (a:Msg):=[z_,(iI a.op),(iI a.status),(iI a.code),(iI a.tag),(iI a.n),(iI a.seq),(AV.str a.key.app),(AV.str a.key.id),(bB a.full),(AV.int .u32 a.sum),(sA 9 (mC a.cards)),(sA 2 (mK a.keys))]
@[simp] abbrev d1M (a:Msg):Heap:=[(o_ 0 13 [(d6R a)])]
theorem a0I {p:Prop} (h:p:=by (try delta d1O d1N d1M); simp only [O1]; simp_all):p:=h
abbrev e0U (a:Msg):=(bB (iY (Msg.mk 0 0 0 a.code 0 0 0 R8 a.full a.sum a.cards a.keys)))
abbrev e0T (a:Msg):=(bB (iY (Msg.mk 0 0 a.status 0 0 a.n 0 R8 false 0 [] a.keys)))
abbrev d7F (a:Msg):=(p9 (Msg.row (Msg.mk 0 a.op a.status a.code a.tag a.n a.seq a.key a.full a.sum [] a.keys)))
abbrev d7E (a:Msg):=(p9 (d6T a))
abbrev d7D (a:Msg):=(bB (iY (Msg.mk 0 a.op a.status a.code a.tag a.n a.seq a.key a.full a.sum [] a.keys)))
abbrev d7C (a:Msg):=(p9 (Msg.row (Msg.mk 0 a.op a.status a.code a.tag a.n a.seq a.key a.full a.sum a.cards [])))
abbrev d7B (a:Msg):=(p9 (d6S a))
abbrev d7A (a:Msg):=(bB (iY (Msg.mk 0 a.op a.status a.code a.tag a.n a.seq a.key a.full a.sum a.cards [])))
abbrev d7z (a:Msg):=(p9 (Msg.row (Msg.mk 0 a.op a.status a.code a.tag a.n a.seq a.key a.full a.sum a.cards a.keys)))
abbrev d7y (a:Msg):=(p9 (d6R a))
abbrev d7x (a:Msg):=(bB (iY (Msg.mk 0 a.op a.status a.code a.tag a.n a.seq a.key a.full a.sum a.cards a.keys)))
theorem b6P (x:Msg) :AC 54 [(p9 (Msg.row x))] [] ((bB (O1 x)),[]) :=
 x9 (fn:=Tryz.f54) (ann:=c3p) (Has.o Tryz.func54) (.r (.s (.s (.g (.two (x.kind == 1) (fun h1 h1'=>(.r (.s (.s (.c 2 (j5.pre (args:=[(p9 (Msg.row (Msg.mk 0 0 0 x.code 0 0 0 R8 x.full x.sum x.cards x.keys))),(p9 [z_,z_,z_,z_,z_,z_,z_,e_,e_,bF,H9,w9,w9])]) (args':=[(p9 [z_,z_,z_,(iI x.code),z_,z_,z_,e_,e_,(bB x.full),(AV.int .u32 x.sum),(sA 9 (mC x.cards)),(sA 2 (mK x.keys))]),(p9 [z_,z_,z_,z_,z_,z_,z_,e_,e_,bF,H9,w9,w9])]) ((dS (Msg.mk 0 0 0 x.code 0 0 0 R8 x.full x.sum x.cards x.keys)).lift kr kr [(o_ 0 13 [[z_,z_,z_,(iI x.code),z_,z_,z_,e_,e_,(bB x.full),(AV.int .u32 x.sum),(sA 9 (mC x.cards)),(sA 2 (mK x.keys))]])]) ⟨⟨AV.l5 _,AV.l5 _,AV.l5 _,AV.l5 _,AV.l5 _,AV.l5 _,AV.l5 _,AV.l5 _,AV.l5 _,AV.l5 _,AV.l5 _,⟨rfl,rfl,.inl rfl⟩,⟨rfl,rfl,.inl rfl⟩,trivial⟩,⟨AV.l5 _,AV.l5 _,AV.l5 _,AV.l5 _,AV.l5 _,AV.l5 _,AV.l5 _,AV.l5 _,AV.l5 _,AV.l5 _,AV.l5 _,⟨rfl,rfl,.inl rfl⟩,⟨rfl,rfl,.inl rfl⟩,trivial⟩,trivial⟩) (.q 0 (e0U x) a0I)))))) (fun h1 h1'=>(.r (.g (.two (x.kind == 2) (fun h2 h2'=>(.r (.s (.s (.c 2 (j5.pre (args:=[(p9 (Msg.row (Msg.mk 0 0 x.status 0 0 x.n 0 R8 false 0 [] x.keys))),(p9 [z_,z_,z_,z_,z_,z_,z_,e_,e_,bF,H9,w9,w9])]) (args':=[(p9 [z_,z_,(iI x.status),z_,z_,(iI x.n),z_,e_,e_,bF,H9,w9,(sA 2 (mK x.keys))]),(p9 [z_,z_,z_,z_,z_,z_,z_,e_,e_,bF,H9,w9,w9])]) ((dS (Msg.mk 0 0 x.status 0 0 x.n 0 R8 false 0 [] x.keys)).lift kr kr [(o_ 0 13 [[z_,z_,(iI x.status),z_,z_,(iI x.n),z_,e_,e_,bF,H9,w9,(sA 2 (mK x.keys))]])]) ⟨⟨AV.l5 _,AV.l5 _,AV.l5 _,AV.l5 _,AV.l5 _,AV.l5 _,AV.l5 _,AV.l5 _,AV.l5 _,AV.l5 _,AV.l5 _,⟨rfl,rfl,.inr rfl⟩,⟨rfl,rfl,.inl rfl⟩,trivial⟩,⟨AV.l5 _,AV.l5 _,AV.l5 _,AV.l5 _,AV.l5 _,AV.l5 _,AV.l5 _,AV.l5 _,AV.l5 _,AV.l5 _,AV.l5 _,⟨rfl,rfl,.inl rfl⟩,⟨rfl,rfl,.inl rfl⟩,trivial⟩,trivial⟩) (.q 0 (e0T x) a0I)))))) (fun h2 h2'=>(.r (.g (.two (x.kind == 3) (fun h3 h3'=>(.two (x.kind == 3) (fun h4 h4'=>(.r (.s (.s (.c 2 (j5.pre (args:=[(d7F x),(p9 [z_,z_,z_,z_,z_,z_,z_,e_,e_,bF,H9,w9,w9])]) (args':=[(d7E x),(p9 [z_,z_,z_,z_,z_,z_,z_,e_,e_,bF,H9,w9,w9])]) ((dS (Msg.mk 0 x.op x.status x.code x.tag x.n x.seq x.key x.full x.sum [] x.keys)).lift kr kr (d1O x)) ⟨⟨AV.l5 _,AV.l5 _,AV.l5 _,AV.l5 _,AV.l5 _,AV.l5 _,AV.l5 _,AV.l5 _,AV.l5 _,AV.l5 _,AV.l5 _,⟨rfl,rfl,.inr rfl⟩,⟨rfl,rfl,.inl rfl⟩,trivial⟩,⟨AV.l5 _,AV.l5 _,AV.l5 _,AV.l5 _,AV.l5 _,AV.l5 _,AV.l5 _,AV.l5 _,AV.l5 _,AV.l5 _,AV.l5 _,⟨rfl,rfl,.inl rfl⟩,⟨rfl,rfl,.inl rfl⟩,trivial⟩,trivial⟩) (.q 0 (d7D x) a0I)))))) (fun h4 h4'=>(.r (.g (.two (x.kind == 5) (fun h5 h5'=>(.r (.s (.s (.c 2 (j5.pre (args:=[(d7C x),(p9 [z_,z_,z_,z_,z_,z_,z_,e_,e_,bF,H9,w9,w9])]) (args':=[(d7B x),(p9 [z_,z_,z_,z_,z_,z_,z_,e_,e_,bF,H9,w9,w9])]) ((dS (Msg.mk 0 x.op x.status x.code x.tag x.n x.seq x.key x.full x.sum x.cards [])).lift kr kr (d1N x)) ⟨⟨AV.l5 _,AV.l5 _,AV.l5 _,AV.l5 _,AV.l5 _,AV.l5 _,AV.l5 _,AV.l5 _,AV.l5 _,AV.l5 _,AV.l5 _,⟨rfl,rfl,.inl rfl⟩,⟨rfl,rfl,.inr rfl⟩,trivial⟩,⟨AV.l5 _,AV.l5 _,AV.l5 _,AV.l5 _,AV.l5 _,AV.l5 _,AV.l5 _,AV.l5 _,AV.l5 _,AV.l5 _,AV.l5 _,⟨rfl,rfl,.inl rfl⟩,⟨rfl,rfl,.inl rfl⟩,trivial⟩,trivial⟩) (.q 0 (d7A x) a0I)))))) (fun h5 h5'=>(.r (.s (.c 2 (j5.pre (args:=[(d7z x),(p9 [z_,z_,z_,z_,z_,z_,z_,e_,e_,bF,H9,w9,w9])]) (args':=[(d7y x),(p9 [z_,z_,z_,z_,z_,z_,z_,e_,e_,bF,H9,w9,w9])]) ((dS (Msg.mk 0 x.op x.status x.code x.tag x.n x.seq x.key x.full x.sum x.cards x.keys)).lift kr kr (d1M x)) ⟨⟨AV.l5 _,AV.l5 _,AV.l5 _,AV.l5 _,AV.l5 _,AV.l5 _,AV.l5 _,AV.l5 _,AV.l5 _,AV.l5 _,AV.l5 _,⟨rfl,rfl,.inl rfl⟩,⟨rfl,rfl,.inl rfl⟩,trivial⟩,⟨AV.l5 _,AV.l5 _,AV.l5 _,AV.l5 _,AV.l5 _,AV.l5 _,AV.l5 _,AV.l5 _,AV.l5 _,AV.l5 _,AV.l5 _,⟨rfl,rfl,.inl rfl⟩,⟨rfl,rfl,.inl rfl⟩,trivial⟩,trivial⟩) (.q 0 (d7x x) a0I))))))))))) (fun h3 h3'=>(.r (.g (.two (x.kind == 4) (fun h4 h4'=>(.r (.s (.s (.c 2 (j5.pre (args:=[(d7F x),(p9 [z_,z_,z_,z_,z_,z_,z_,e_,e_,bF,H9,w9,w9])]) (args':=[(d7E x),(p9 [z_,z_,z_,z_,z_,z_,z_,e_,e_,bF,H9,w9,w9])]) ((dS (Msg.mk 0 x.op x.status x.code x.tag x.n x.seq x.key x.full x.sum [] x.keys)).lift kr kr (d1O x)) ⟨⟨AV.l5 _,AV.l5 _,AV.l5 _,AV.l5 _,AV.l5 _,AV.l5 _,AV.l5 _,AV.l5 _,AV.l5 _,AV.l5 _,AV.l5 _,⟨rfl,rfl,.inr rfl⟩,⟨rfl,rfl,.inl rfl⟩,trivial⟩,⟨AV.l5 _,AV.l5 _,AV.l5 _,AV.l5 _,AV.l5 _,AV.l5 _,AV.l5 _,AV.l5 _,AV.l5 _,AV.l5 _,AV.l5 _,⟨rfl,rfl,.inl rfl⟩,⟨rfl,rfl,.inl rfl⟩,trivial⟩,trivial⟩) (.q 0 (d7D x) a0I)))))) (fun h4 h4'=>(.r (.g (.two (x.kind == 5) (fun h5 h5'=>(.r (.s (.s (.c 2 (j5.pre (args:=[(d7C x),(p9 [z_,z_,z_,z_,z_,z_,z_,e_,e_,bF,H9,w9,w9])]) (args':=[(d7B x),(p9 [z_,z_,z_,z_,z_,z_,z_,e_,e_,bF,H9,w9,w9])]) ((dS (Msg.mk 0 x.op x.status x.code x.tag x.n x.seq x.key x.full x.sum x.cards [])).lift kr kr (d1N x)) ⟨⟨AV.l5 _,AV.l5 _,AV.l5 _,AV.l5 _,AV.l5 _,AV.l5 _,AV.l5 _,AV.l5 _,AV.l5 _,AV.l5 _,AV.l5 _,⟨rfl,rfl,.inl rfl⟩,⟨rfl,rfl,.inr rfl⟩,trivial⟩,⟨AV.l5 _,AV.l5 _,AV.l5 _,AV.l5 _,AV.l5 _,AV.l5 _,AV.l5 _,AV.l5 _,AV.l5 _,AV.l5 _,AV.l5 _,⟨rfl,rfl,.inl rfl⟩,⟨rfl,rfl,.inl rfl⟩,trivial⟩,trivial⟩) (.q 0 (d7A x) a0I)))))) (fun h5 h5'=>(.r (.s (.c 2 (j5.pre (args:=[(d7z x),(p9 [z_,z_,z_,z_,z_,z_,z_,e_,e_,bF,H9,w9,w9])]) (args':=[(d7y x),(p9 [z_,z_,z_,z_,z_,z_,z_,e_,e_,bF,H9,w9,w9])]) ((dS (Msg.mk 0 x.op x.status x.code x.tag x.n x.seq x.key x.full x.sum x.cards x.keys)).lift kr kr (d1M x)) ⟨⟨AV.l5 _,AV.l5 _,AV.l5 _,AV.l5 _,AV.l5 _,AV.l5 _,AV.l5 _,AV.l5 _,AV.l5 _,AV.l5 _,AV.l5 _,⟨rfl,rfl,.inl rfl⟩,⟨rfl,rfl,.inl rfl⟩,trivial⟩,⟨AV.l5 _,AV.l5 _,AV.l5 _,AV.l5 _,AV.l5 _,AV.l5 _,AV.l5 _,AV.l5 _,AV.l5 _,AV.l5 _,AV.l5 _,⟨rfl,rfl,.inl rfl⟩,⟨rfl,rfl,.inl rfl⟩,trivial⟩,trivial⟩) (.q 0 (d7x x) a0I))))))))))))))))))))))))))
theorem bD (x:Msg)  (H:Heap):AC 54 [(p9 (Msg.row x))] H ((bB (O1 x)),H):=(b6P x ).lift kr kr H
def b6W:Ann:={ refs:=[1],fin:=some 0 }
theorem b3w (x:Msg) :AC 104 [(p9 (Msg.row x))] [] ((bB (decide (x.kind=1\/x.kind=2))),[]) :=
 x9 (fn:=Tryz.f104) (ann:=b6W) (Has.o Tryz.func104) (.r (.s (.two (x.kind == 1) (fun h1 h1'=>(.u2 (.q 0 bT (by simp_all; all_goals first | done | rfl | (intros; omega))))) (fun h1 h1'=>(.n2 (.q 0 (bB (x.kind == 2)) (by simp_all; all_goals first | done | rfl | (intros; omega))))))))
def b6R:Ann:={ refs:=[1],fin:=some 0 }
theorem a2Q (k:Key) :AC 62 [(p9 (Key.row k))] [] ((bB (U2 k)),[]) :=
 x9 (fn:=Tryz.f62) (ann:=b6R) (Has.o Tryz.func62) (.r (.s (.c 2 ((vU k.app).lift kr kr []) (.two (dL k.app) (fun h1 h1'=>(.u2 (.c 6 ((vU k.id).lift kr kr []) (.q 0 (bB (dL k.id)) (by simp only [U2]; simp_all))))) (fun h1 h1'=>(.n2 (.q 0 bF (by simp only [U2]; simp_all))))))))
def d6a:Ann:={ refs:=[1],fin:=some 0 }
theorem a9i {p:Prop} (h:p:=by simp only [opM]; simp_all; all_goals first | done | rfl | (intros; omega)):p:=h
theorem c9f (x:Msg) :AC 55 [(p9 (Msg.row x))] [] ((bB (opM x)),[]) :=
 x9 (fn:=Tryz.f55) (ann:=d6a) (Has.o Tryz.func55) (.r (.s (.c 1 ((b3w x).lift kr kr []) (.g (.two (!(decide (x.kind=1\/x.kind=2))) (fun h1 h1'=>(.qr 0 bT a9i)) (fun h1 h1'=>(.r (.g (.two (x.op == 5) (fun h2 h2'=>(.qr 0 (bB (Key.eqb x.key R8)) a9i)) (fun h2 h2'=>(.r (.two (decide (x.op >= 1)) (fun h3 h3'=>(.u2 (.two (decide (x.op < 5)) (fun h4 h4'=>(.u2 (.c 11 ((a2Q x.key).lift kr kr []) (.q 0 (bB (U2 x.key)) a9i)))) (fun h4 h4'=>(.n2 (.q 0 bF a9i)))))) (fun h3 h3'=>(.n5 (.q 0 bF a9i)))))))))))))))
theorem iG (x:Msg)  (H:Heap):AC 55 [(p9 (Msg.row x))] H ((bB (opM x)),H):=(c9f x ).lift kr kr H
def b3t:Ann:={ fin:=some 0 }
theorem b0l (n:Int) :AC 56 [(iI n)] [] ((bB (K6 n)),[]) :=
 x9 (fn:=Tryz.f56) (ann:=b3t) (Has.o Tryz.func56) (.r (.s (.two (decide (n >= 0)) (fun h1 h1'=>(.u (.q 0 (bB (decide (n<=255))) (by simp only [K6]; simp_all; all_goals first | done | rfl | (intros; omega))))) (fun h1 h1'=>(.n (.q 0 bF (by simp only [K6]; simp_all; all_goals first | done | rfl | (intros; omega))))))))
theorem R3 (n:Int)  (H:Heap):AC 56 [(iI n)] H ((bB (K6 n)),H):=(b0l n ).lift kr kr H
attribute [local irreducible] O1 opM K6 U2
def c3G:Ann:={ refs:=[1],fin:=some 0 }
theorem b6U (k:Key) :AC 61 [(p9 (Key.row k))] [] ((bB (!(U2 k))),[]) :=
 x9 (fn:=Tryz.f61) (ann:=c3G) (Has.o Tryz.func61) (.r (.s (.c 1 ((a2Q k).lift kr kr []) (.q 0 (bB (!(U2 k)))))))
theorem b0u (k:Key)  (H:Heap):AC 61 [(p9 (Key.row k))] H ((bB (!(U2 k))),H):=(b6U k ).lift kr kr H
def a3u:Ann:={ fin:=some 0,live:=[(2,[0,1,7,8])],out:=[(2,[0,1,7,8])] }
@[simp] abbrev c0y (a:l9K) (b:Nat):Fr:=(mkF 19 [(0,(sA 2 (mK a))),(1,(A8 61 [])),(7,(iN a.length)),(8,(iN b))])
@[simp] abbrev d0M :=(C8 a3u Tryz.f108 0)
theorem a7C (l:l9K)  (i:Nat) (hl:l.length < 1099511627776) (hle_:i<=l.length) {eX:Ex} {FX:Fr} {HX:Heap} (k1:(l9 i l.length)=true->(!(U2 (nth l i)))=true->((.ret:Ex),(c0y l i),[])=(eX,FX,HX)) (k2:(l9 i l.length)=true->(!(U2 (nth l i)))=false->l6 d0M (some [0,1,7,8]) (some [0,1,7,8]) (mkF 19 [(0,(sA 2 (mK l))),(1,(A8 61 [])),(7,(iN l.length)),(8,(iN (i+1)))]) [] eX FX HX) (k3:(l9 i l.length)=false->((.exit 0:Ex),(c0y l i),[])=(eX,FX,HX)):l6 d0M (some [0,1,7,8]) (some [0,1,7,8]) (c0y l i) [] eX FX HX :=
 J7 (.r (.g (.two (l9 i l.length) (fun h1 h1'=>(.r (.s (.is 3 2 2 (mK l) (i:Int) (Key.row (nth l i)) (N7.mk _ ow ow) (.c 5 (b0u (nth l i)  ([]:Heap)) (.g (.two (!(U2 (nth l i))) (fun h2 h2'=>(.r (.g (.l (k1 h1 h2))))) (fun h2 h2'=>(.r (.y 0 (.int .i64 (cb_ i)) (iN (i+1)) Yes.o (.g (.l (k2 h1 h2))))))))))))) (fun h1 h1'=>(.l (k3 h1))))))
def a4N (l:List Key) (i:Nat) (s:Unit):Unit:=()
def b0p (l:List Key)  (i:Nat):Prop:=(((decide ((i:Int) < (l.length:Int)))=true)/\((!(U2 (nth l i)))=true))
@[simp] abbrev d1L (a:l9K):Fr:=(mkF 19 [(0,(sA 2 (mK a))),(1,(A8 61 [])),(7,(iN a.length)),(8,(iN a.length))])
theorem c3v (l:l9K) (hl:l.length < 1099511627776)  (hbad:∀ (i:Nat),i < l.length->¬ b0p l  i) (r_:Nat):∀  (i:Nat) (sF:Unit),i+r_=l.length->()=(iter (a4N l) i 0 ())->sF=iter (a4N l) r_ i () ->
 l6 (C8 a3u Tryz.f108 0) (some [0,1,7,8]) (some [0,1,7,8]) (c0y l i) [] (.exit 0) (d1L l) []:=by
 induction r_ with
 | zero =>
  intro  i sF hi_  hs_ hF
  obtain rfl:l.length=i:=by omega
  have e_:sF=():=hF
  refine a7C l  l.length hl J8 (fun h _=>by simp at h <;> omega) (fun h _=>by simp at h <;> omega) (fun _=>?_)
  first | done | rfl | (rw [e_]; done) | (rw [e_]; rfl)
 | succ r_ ih =>
  intro  i sF hi_  hs_ hF
  refine a7C l  i hl ow (fun h1 h2=>?_) (fun h1 h2=>?_) (fun h=>by simp at h <;> omega)
  · exact False.elim b4U
  · exact ih  (i+1) sF ow  (by rw [qN,<- hs_] <;> simp only [a4N,h2,if_true,Bool.false_eq_true,if_false]) (by rw [hF] <;> simp only [iter,a4N,h2,if_true,Bool.false_eq_true,if_false])
theorem c3u (l:l9K) (hl:l.length < 1099511627776) (hr:∀ k∈l,U2 k=true):AC 108 [(sA 2 (mK l)),(A8 61 [])] [] ((iI (-1)),[]) :=
 x9 (fn:=Tryz.f108) (ann:=a3u) (Has.o Tryz.func108) (.r (.s (.y 1 (.int .i64 ((List.length (mK l):Nat):Int)) (iN l.length) (Yes.len _ _ _) (.g (.loop (d1L l) (show l6 d0M (some [0,1,7,8]) (some [0,1,7,8]) (mkF 19 [(0,(sA 2 (mK l))),(1,(A8 61 [])),(7,(iN l.length)),(8,z_)]) [] (.exit 0) (d1L l) [] from (c3v l hl (fun i hi=>by simp only [b0p]; rw [hr _ (tX hi)]; simp) l.length 0 () ow rfl rfl)) (.qr 0 (iI (-1))))))))
def b6T:Ann:={ fin:=some 0 }
theorem b3v (l:l9K) (hl:l.length < 1099511627776) (hr:∀ k∈l,U2 k=true):AC 60 [(sA 2 (mK l)),(A8 61 [])] [] (bF,[]) :=
 x9 (fn:=Tryz.f60) (ann:=b6T) (Has.o Tryz.func60) (.r (.s (.c 2 ((c3u l oa oa).lift kr kr []) (.q 0 bF))))
theorem a3t {x:Msg} (h:R4 x=true):(1<=x.kind/\x.kind<=5)/\O1 x=true/\opM x=true/\K6 x.code=true/\K6 x.status=true/\-1<=x.seq/\x.cards.length<=64/\x.keys.length<=64/\(∀ c∈x.cards,Q6 c=true)/\∀ k∈x.keys,U2 k=true:=by
 simp only [R4,Bool.and_eq_true,decide_eq_true_eq,List.all_eq_true] at h
 obtain ⟨⟨a1,a2⟩,a3,a4,⟨a5,a6,a7⟩,⟨a8,a9⟩,a10,a11⟩:=h
 exact ⟨⟨a1,a2⟩,a3,a4,a5,a6,a7,a8,a9,a10,a11⟩
def b3u:Ann:={ refs:=[1],fin:=some 0 }
abbrev jY (a:Msg):=(bB (decide (a.kind < 1)))
abbrev lK (a:Msg):=(bB (decide (a.kind > 5)))
abbrev a3O (a:Msg):=(bB (decide (a.seq < (-1))))
abbrev b1s (a:Msg):=(bB (decide ((a.cards.length:Int) > 64)))
abbrev b9n (a:Msg):=(bB (decide ((a.keys.length:Int) > 64)))
theorem cK (x:Msg) (h:R4 x=true):AC 30 [(p9 (Msg.row x))] [] (AV.nili,[]):=by
 obtain ⟨⟨a1,a2⟩,a3,a4,a5,a6,a7,a8,a9,a10,a11⟩:=a3t h
 exact x9 (fn:=Tryz.f30) (ann:=b3u) (Has.o Tryz.func30) (.r (.s (.y 2 (jY x) bF (Yes.b yg_) (.n3 (.y 6 (lK x) bF (Yes.b yg_) (.rn (.c 1 (bD x  ([]:Heap)) (.y 2 (bB (!(O1 x))) bF (Yes.b (by rw [a3]; rfl)) (.rn (.c 1 (iG x  ([]:Heap)) (.y 2 (bB (!(opM x))) bF (Yes.b (by rw [a4]; rfl)) (.rn (.c 2 (R3 x.code  ([]:Heap)) (.y 3 (bB (!(K6 x.code))) bF (Yes.b (by rw [a5]; rfl)) (.n3 (.c 7 (R3 x.status  ([]:Heap)) (.n (.y 8 (bB (!(K6 x.status))) bF (Yes.b (by rw [a6]; rfl)) (.n3 (.y 13 (a3O x) bF (Yes.b yg_) (.rn (.y 2 (.int .i64 ((List.length (mC x.cards):Nat):Int)) (iN x.cards.length) (Yes.len _ _ _) (.y 3 (b1s x) bF (Yes.b yg_) (.n3 (.y 7 (.int .i64 ((List.length (mK x.keys):Nat):Int)) (iN x.keys.length) (Yes.len _ _ _) (.n (.y 8 (b9n x) bF (Yes.b yg_) (.rn (.c 2 ((b6S x.cards oa oa).lift kr kr []) (.s (.n3 (.c 4 ((b3v x.keys oa oa).lift kr kr []) (.g (.n (.qr 0 AV.nili)))))))))))))))))))))))))))))))))))
def aA (x:Entry) (now:Int):Entry:=⟨x.card,max x.seen now⟩
def J3 (x:Entry) (s:y9) (now:Int):Entry:=⟨{ x.card with gone:=true,stamp:=s },now⟩
def aQ (x:Entry) (o:Int) (s:y9):Entry:=⟨{ x.card with over:=o,stamp:=s },x.seen⟩
def eO (old:Entry) (inn:Bool) (c:j4) (now:Int):Entry:=⟨{ c with over:=if inn=true/\old.card.gone=false then old.card.over else 0,gone:=false },now⟩
def maxS (a b:y9):y9:=if R9 b a < 0 then a else b
def E5 (a:y9) (now nd:Int):y9:=⟨max a.t now,nd,if a.n < 9223372036854775807 then IntKind.i64.wrap (a.n+1) else a.n⟩
def b6X:Ann:={ fin:=some 0 }
abbrev d1K (a:Entry):Heap:=[(o_ 0 10 [[e_,e_,z_,z_,z_,z_,z_,z_,bF,z_]]),(o_ 0 10 [(Entry.row a)])]
abbrev e0S (a:Entry) (b:Int):=(AV.tup [(p9 [(AV.str a.card.key.app),(AV.str a.card.key.id),(iI a.card.status),(iI a.card.over),(iI a.card.lease),(iI a.card.stamp.t),(iI a.card.stamp.node),(iI a.card.stamp.n),(bB a.card.gone),(iI (max a.seen b))]),bT])
theorem b3y (x:Entry) (now:Int) (hg:x.card.gone=false):AC 112 [(p9 (Entry.row x)),(iI now)] [] ((AV.tup [(p9 (Entry.row (aA x now))),bT]),[]) :=
 x9 (fn:=Tryz.f112) (ann:=b6X) (Has.o Tryz.func112) (.r (.s (.h' (d1K x) (.y 2 (bB x.card.gone) bF (Yes.b hg) (.rn (.y 3 (.int .i64 (if now > x.seen then now else x.seen)) (iI (max x.seen now)) (Yes.int yv_) (.s (.g (.h' [] (.q 0 (e0S x now) (by (try delta d1K); unfold aA; rfl)))))))))))
def b3z:Ann:={ refs:=[4],fin:=some 0 }
abbrev e0R (a:Entry) (b:y9) (c:Int):=(AV.tup [(p9 [(AV.str a.card.key.app),(AV.str a.card.key.id),(iI a.card.status),(iI a.card.over),(iI a.card.lease),(iI b.t),(iI b.node),(iI b.n),bT,(iI c)]),bT])
theorem uX (x:Entry) (s:y9) (now:Int) (hg:x.card.gone=false):AC 114 [(p9 (Entry.row x)),(p9 (y9.row s)),(iI now)] [] ((AV.tup [(p9 (Entry.row (J3 x s now))),bT]),[]) :=
 x9 (fn:=Tryz.f114) (ann:=b3z) (Has.o Tryz.func114) (.r (.s (.h' (d1K x) (.y 2 (bB x.card.gone) bF (Yes.b hg) (.rn (.s (.g (.h' [] (.q 0 (e0R x s now))))))))))
def c3K:Ann:={ refs:=[5],fin:=some 0 }
theorem b4M {p:Prop} (h:p:=by first | rfl | (exfalso; simp only [hg,decide_eq_true_eq,Bool.false_eq_true] at * <;> omega)):p:=h
abbrev e0Q (a:Entry) (b:Int) (c:y9):=(AV.tup [(p9 [(AV.str a.card.key.app),(AV.str a.card.key.id),(iI a.card.status),(iI b),(iI a.card.lease),(iI c.t),(iI c.node),(iI c.n),(bB a.card.gone),(iI a.seen)]),bT])
theorem b6Y (x:Entry) (o:Int) (s:y9) (hg:x.card.gone=false) (h0:0<=o) (h3:o<=3):AC 116 [(p9 (Entry.row x)),(iI o),(p9 (y9.row s))] [] ((AV.tup [(p9 (Entry.row (aQ x o s))),bT]),[]) :=
 x9 (fn:=Tryz.f116) (ann:=c3K) (Has.o Tryz.func116) (.r (.s (.two x.card.gone (fun h1 h1'=>(.u3 (.g (.u (.qr 0 (AV.tup [(p9 [e_,e_,z_,z_,z_,z_,z_,z_,bF,z_]),bF]) b4M))))) (fun h1 h1'=>(.n (.two (decide (o < 0)) (fun h2 h2'=>(.u (.g (.u (.qr 0 (AV.tup [(p9 [e_,e_,z_,z_,z_,z_,z_,z_,bF,z_]),bF]) b4M))))) (fun h2 h2'=>(.n (.g (.two (decide (o > 3)) (fun h3 h3'=>(.qr 0 (AV.tup [(p9 [e_,e_,z_,z_,z_,z_,z_,z_,bF,z_]),bF]) b4M)) (fun h3 h3'=>(.r (.g (.qr 0 (e0Q x o s) b4M))))))))))))))
def c9E:Ann:={ refs:=[4],fin:=some 0 }
theorem a7E (old:Entry) (inn:Bool) (c:j4) (now:Int) :AC 163 [(p9 (Entry.row old)),(AV.bool inn),(p9 (j4.row c)),(AV.int .i64 now)] [] ((p9 (Entry.row (eO old inn c now))),[]) :=
 x9 (fn:=Tryz.f163) (ann:=c9E) (Has.o Tryz.func163) (.r (.s (.s (.two inn (fun h1 h1'=>(.u3 (.g (.two (!old.card.gone) (fun h2 h2'=>(.r (.g (.qr 0 (p9 [(AV.str c.key.app),(AV.str c.key.id),(AV.int .i64 c.status),(AV.int .i64 old.card.over),(AV.int .i64 c.lease),(AV.int .i64 c.stamp.t),(AV.int .i64 c.stamp.node),(AV.int .i64 c.stamp.n),(AV.bool false),(AV.int .i64 now)]) (by unfold eO; (rw [if_pos ⟨h1,by simpa using h2⟩]); rfl))))) (fun h2 h2'=>(.qr 0 (p9 [(AV.str c.key.app),(AV.str c.key.id),(AV.int .i64 c.status),(AV.int .i64 0),(AV.int .i64 c.lease),(AV.int .i64 c.stamp.t),(AV.int .i64 c.stamp.node),(AV.int .i64 c.stamp.n),(AV.bool false),(AV.int .i64 now)]) (by unfold eO; (rw [if_neg (fun q=>by rw [q.2] at h2; simp at h2)]); rfl))))))) (fun h1 h1'=>(.n3 (.g (.n (.qr 0 (p9 [(AV.str c.key.app),(AV.str c.key.id),(AV.int .i64 c.status),(AV.int .i64 0),(AV.int .i64 c.lease),(AV.int .i64 c.stamp.t),(AV.int .i64 c.stamp.node),(AV.int .i64 c.stamp.n),(AV.bool false),(AV.int .i64 now)]) (by unfold eO; (rw [if_neg (fun q=>by rw [q.1] at h1; simp at h1)]); rfl))))))))))
def c2i:Ann:={ refs:=[3],fin:=some 0 }
abbrev a1K :Heap:=[(o_ 0 3 [[z_,z_,z_]])]
theorem b5u (a:y9) (now nd:Int) :AC 164 [(p9 (y9.row a)),(AV.int .i64 now),(AV.int .i64 nd)] [] ((p9 (y9.row (E5 a now nd))),[]) :=
 x9 (fn:=Tryz.f164) (ann:=c2i) (Has.o Tryz.func164) (.r (.s (.s (.g (.two (decide (a.n < 9223372036854775807)) (fun h1 h1'=>(.r (.s (.h' a1K (.y 3 (.int .i64 (if now > a.t then now else a.t)) (AV.int .i64 (max a.t now)) (Yes.int yv_) (.g (.h' [] (.q 0 (p9 [(AV.int .i64 (max a.t now)),(AV.int .i64 nd),(iW (a.n+1))]) (by (try delta a1K); unfold E5; rw [if_pos (of_decide_eq_true h1)]; first | done | rfl))))))))) (fun h1 h1'=>(.r (.h' a1K (.y 3 (.int .i64 (if now > a.t then now else a.t)) (AV.int .i64 (max a.t now)) (Yes.int yv_) (.g (.h' [] (.q 0 (p9 [(AV.int .i64 (max a.t now)),(AV.int .i64 nd),(AV.int .i64 a.n)]) (by (try delta a1K); unfold E5; rw [if_neg (of_decide_eq_false h1)]; first | done | rfl)))))))))))))
theorem a4b {a b:y9} (h:y9.eqb a b=true):a=b:=by
 cases a; cases b
 simp [y9.eqb] at h
 simp [h]
def c8i:Ann:={ refs:=[2,3],fin:=some 0 }
theorem c2o (a b:y9) :AC 165 [(p9 (y9.row a)),(p9 (y9.row b))] [] ((p9 (y9.row (maxS a b))),[]) :=
 x9 (fn:=Tryz.f165) (ann:=c8i) (Has.o Tryz.func165) (.r (.s (.c 2 ((wV b a).lift kr kr a1K) (.g (.two (decide (R9 b a < 0)) (fun h1 h1'=>(.qr 0 (p9 (y9.row a)) (by (try delta a1K); unfold maxS; rw [if_pos (of_decide_eq_true h1)]))) (fun h1 h1'=>(.r (.g (.two (y9.eqb a b) (fun h2 h2'=>(.qr 0 (p9 (y9.row a)) (by (try delta a1K); unfold maxS; rw [if_neg (of_decide_eq_false h1)]; (obtain rfl:=a4b h2); first | done | rfl))) (fun h2 h2'=>(.qr 0 (p9 (y9.row b)) (by (try delta a1K); unfold maxS; rw [if_neg (of_decide_eq_false h1)]; first | done | rfl))))))))))))
def b7z:Ann:={ base:=1,fin:=some 1 }
abbrev d8x (a:Int) (b:Int) (c:Int):Heap:=[(o_ 0 3 (sD a b c))]
abbrev d1J (a:Int) (b:Int) (c:Int):Heap:=[(o_ 0 3 [[(iI a),(iI b),(iI (min (c+1) 1048576))]])]
theorem b3H (a b c:Int) (h1:0<=c) (h2:c < 4611686018427387904):AC 113 [(j3 0)] (d8x a b c) (F4,(d1J a b c)) :=
 x9 (fn:=Tryz.f113) (ann:=b7z) (Has.o Tryz.func113) (.r (.y 5 (.int .i64 (a6D c)) (iI (c+1)) Yes.o (.y 6 (.int .i64 (if 1048576 < (c+1) then 1048576 else (c+1))) (iI (min (c+1) 1048576)) (Yes.int yv_) (.g (.h' (d1J a b c) (.q 1 F4 (by (try delta d8x d1J); first | rfl | (simp [Int.min_comm]; done))))))))
attribute [local irreducible] E5 J2 J9 K3 K9 Q9 maxS
def c4S:Ann:={ refs:=[4],base:=6,fin:=some 6 }
@[simp] abbrev a1u (a:Int) (b:y9):=[[(iI a),(iI b.t),(iI b.node),(iI b.n),(j3 0),(j3 2),(j3 3)]]
@[simp] abbrev V4 (a:Int) (b:y9):Ob:=(o_ 0 7 (a1u a b))
@[simp] abbrev M9 (a:Nat) (b:l9E) (c:Int) (d:Int) (e:Int) (f:l9K) (g:Nat) (h:Int) (i:y9):Heap:=[W9 a b,(o_ a 10 (mE b)),M0 c d e,Q8 f g,(o_ g 2 (mK (l7 f))),V4 h i]
abbrev d1I (a:Nat) (b:l9E) (c:Int) (d:Int) (e:Int) (f:l9K) (g:Nat) (h:Int) (i:y9):Heap:=[W9 a b,(o_ a 10 (mE b)),M0 c d e,Q8 f g,(o_ g 2 (mK (l7 f))),V4 h i,(o_ 0 3 [[z_,z_,z_]])]
theorem jV (l:l9E) (g:Nat) (al:l9K) (ga:Nat) (gf gl gt nd:Int) (st:y9) (c:j4) (now:Int) :AC 115 [(j3 5),(p9 (j4.row c)),(iI now)] (M9 g l gf gl gt al ga nd st) ((p9 (y9.row (E5 (maxS st c.stamp) now nd))),(M9 g l gf gl gt al ga nd st)) :=
 x9 (fn:=Tryz.f115) (ann:=c4S) (Has.o Tryz.func115) (.r (.s (.c 6 ((c2o st c.stamp).lift kr kr (d1I g l gf gl gt al ga nd st)) (.c 12 ((b5u (maxS st c.stamp) now nd).lift kr kr (d1I g l gf gl gt al ga nd st)) (.rd (iI nd) (d1I g l gf gl gt al ga nd st) (.q 6 (p9 (y9.row (E5 (maxS st c.stamp) now nd)))))))))
def oG (l:List Entry) (x:Entry):List j4:=if (K3 (r9 32) l x == 0)=true then [x.card] else []
def dN (l:List Entry) (x:Entry) (st:y9):y9:=if (K3 (r9 32) l x == 0)=true then x.card.stamp else st
def b8d:Ann:={ refs:=[3],gha:=[(3,.any 4 9),(5,.any 4 9)],base:=6,fin:=some 6 }
abbrev d0L (a:l9E) (b:Entry) (c:l9K) (d:Nat):=[[(iN ((K9 a b c).length)),(d9 4 (Q9 a b d) 2 (l7 (K9 a b c)).length)]]
abbrev d3U (a:l9E) (b:Entry) (c:l9K) (d:Nat):Ob:=(o_ 0 2 (d0L a b c d))
abbrev d3T (a:l9E) (b:Entry) (c:Nat) (d:l9K):Ob:=(o_ (Q9 a b c) 2 (mK (l7 (K9 a b d))))
abbrev d7w (a:Int) (b:Entry):=[[(iI a),(iI b.card.stamp.t),(iI b.card.stamp.node),(iI b.card.stamp.n),(j3 0),(j3 2),(j3 3)]]
abbrev d8w (a:l9E) (b:Entry) (c:Nat) (d:Int) (e:Int) (f:Int) (g:l9K) (h:Nat) (i:Int):Heap:=[a8Z a b c,a8Y a b c,M0 d e f,d3U a b g h,d3T a b h g,(o_ 0 7 (d7w i b))]
abbrev d1H (a:l9E) (b:Entry) (c:Nat) (d:Int) (e:Int) (f:Int) (g:l9K) (h:Nat) (i:Int) (j:y9):Heap:=[a8Z a b c,a8Y a b c,M0 d e f,d3U a b g h,d3T a b h g,V4 i j]
theorem b3S (l:l9E) (g:Nat) (al:l9K) (ga:Nat) (gf gl gt nd:Int) (st:y9) (x:Entry) (hl:l.length < 1000) (ha:al.length < 100000) (h:((K3 (r9 32) l x) == 0)=true):AC 117 [(j3 5),(p9 (Entry.row x))] (M9 g l gf gl gt al ga nd st) ((AV.tup [(sA 9 (mC [x.card])),z_]),(d8w l x g gf gl gt al ga nd)) :=
 x9 (fn:=Tryz.f117) (ann:=b8d) (Has.o Tryz.func117) (.r (.s (.ch 2 (d1H l x g gf gl gt al ga nd st) (a6A l g al ga gf gl gt nd st.t st.node st.n x oa oa []) (.s (.y 1 (bB ((K3 (r9 32) l x) != 0)) bF (Yes.b (by have q:=eq_of_beq h; rw [q]; rfl)) (.rn (.s (.g (.h' (d8w l x g gf gl gt al ga nd) (.q 6 (AV.tup [(sA 9 [(j4.row x.card)]),z_])))))))))))
def b8e:Ann:={ refs:=[3],gha:=[(3,.any 4 9),(5,.any 4 9)],base:=6,fin:=some 6 }
theorem b3T (l:l9E) (g:Nat) (al:l9K) (ga:Nat) (gf gl gt nd:Int) (st:y9) (x:Entry) (hl:l.length < 1000) (ha:al.length < 100000) (h:((K3 (r9 32) l x) == 0)=false):AC 117 [(j3 5),(p9 (Entry.row x))] (M9 g l gf gl gt al ga nd st) ((AV.tup [(sA 9 (mC ([]:l9C))),(a1y l x)]),(d1H l x g gf gl gt al ga nd st)) :=
 x9 (fn:=Tryz.f117) (ann:=b8e) (Has.o Tryz.func117) (.r (.s (.ch 2 (d1H l x g gf gl gt al ga nd st) (a6A l g al ga gf gl gt nd st.t st.node st.n x oa oa []) (.s (.y 1 (bB ((K3 (r9 32) l x) != 0)) bT (Yes.b (by rw [bne,h]; rfl)) (.g (.u (.qr 6 (AV.tup [(sA 9 []),(a1y l x)])))))))))
theorem b8b (l:l9E) (g:Nat) (al:l9K) (ga:Nat) (gf gl gt nd:Int) (st:y9) (x:Entry) (hl:l.length < 1000) (ha:al.length < 100000):AC 117 [(j3 5),(p9 (Entry.row x))] [(o_ 0 2 [[(iI (r9 32)),(d9 1 g 10 l.length)]]),(o_ g 10 (mE l)),(o_ 0 3 [[(iI gf),(iI gl),(iI gt)]]),(o_ 0 2 [[(iN (al.length)),(d9 4 ga 2 (l7 al).length)]]),(o_ ga 2 (mK (l7 al))),(o_ 0 7 [[(iI nd),(iI st.t),(iI st.node),(iI st.n),(j3 0),(j3 2),(j3 3)]])] ((AV.tup [(sA 9 (mC (oG l x))),(iI (K3 (r9 32) l x))]),[(o_ 0 2 [[(iI (r9 32)),(d9 1 (J9 (r9 32) l x g) 10 (J2 (r9 32) l x).length)]]),(o_ (J9 (r9 32) l x g) 10 (mE (J2 (r9 32) l x))),(o_ 0 3 [[(iI gf),(iI gl),(iI gt)]]),(o_ 0 2 [[(iN ((K9 l x al).length)),(d9 4 (Q9 l x ga) 2 (l7 (K9 l x al)).length)]]),(o_ (Q9 l x ga) 2 (mK (l7 (K9 l x al)))),(o_ 0 7 [[(iI nd),(iI (dN l x st).t),(iI (dN l x st).node),(iI (dN l x st).n),(j3 0),(j3 2),(j3 3)]])]):=by
 unfold oG dN
 cases h:(K3 (r9 32) l x == 0) with
 | true=>rw [if_pos rfl,if_pos rfl,eq_of_beq h]; exact b3S l g al ga gf gl gt nd st x hl ha h
 | false=>rw [if_neg ye_,if_neg ye_]; exact b3T l g al ga gf gl gt nd st x hl ha h
theorem a0f (l:l9E) (g:Nat) (al:l9K) (ga:Nat) (gf gl gt nd:Int) (st:y9) (x:Entry) (hl:l.length < 1000) (ha:al.length < 100000) (H:Heap):AC 117 [(j3 5),(p9 (Entry.row x))] ((M9 g l gf gl gt al ga nd st)++H) ((AV.tup [(sA 9 (mC (oG l x))),(iI (K3 (r9 32) l x))]),([(o_ 0 2 [[(iI (r9 32)),(d9 1 (J9 (r9 32) l x g) 10 (J2 (r9 32) l x).length)]]),(o_ (J9 (r9 32) l x g) 10 (mE (J2 (r9 32) l x))),(o_ 0 3 [[(iI gf),(iI gl),(iI gt)]]),(o_ 0 2 [[(iN ((K9 l x al).length)),(d9 4 (Q9 l x ga) 2 (l7 (K9 l x al)).length)]]),(o_ (Q9 l x ga) 2 (mK (l7 (K9 l x al)))),(o_ 0 7 [[(iI nd),(iI (dN l x st).t),(iI (dN l x st).node),(iI (dN l x st).n),(j3 0),(j3 2),(j3 3)]])]:Heap)++H):=(b8b l g al ga gf gl gt nd st x hl ha).ext kr kr ob ob kr H
def L9 (q:Msg) (old:Entry) (inn:Bool) (st:y9) (now nd:Int):Entry:=eO old inn ⟨q.key,q.status,0,q.n,E5 (maxS st old.card.stamp) now nd,false⟩ now
def mG (q:Msg):Prop:=1<=q.n/\q.n<=1048576/\(q.status=1\/q.status=2)
instance (q:Msg):Decidable (mG q):=by unfold mG; infer_instance
def c4Q:Ann:={ refs:=[6,7],gha:=[(2,.any 10 9)],base:=6,fin:=some 6 }
abbrev b1r :=(AV.tup [(sA 9 []),(iI 1)])
theorem b7Y (l:l9E) (g:Nat) (al:l9K) (ga:Nat) (gf gl gt nd:Int) (st:y9) (q:Msg) (old:Entry) (inn:Bool) (now:Int) (r:¬ mG q):AC 111 [(j3 5),(p9 (Msg.row q)),(p9 (Entry.row old)),(bB inn),(iI now)] (M9 g l gf gl gt al ga nd st) ((AV.tup [(sA 9 (mC ([]:l9C))),(iI 1)]),(M9 g l gf gl gt al ga nd st)) :=
 x9 (fn:=Tryz.f111) (ann:=c4Q) (Has.o Tryz.func111) (.r (.s (.two (decide (q.n < 1)) (fun h1 h1'=>(.u6 (.u (.g (.u (.qr 6 b1r)))))) (fun h1 h1'=>(.n2 (.two (decide (q.n > 1048576)) (fun h2 h2'=>(.u4 (.g (.u (.qr 6 b1r))))) (fun h2 h2'=>(.n2 (.y 11 (bB (q.status != 1)) bT (Yes.b (bne_iff_ne.2 (fun z=>r ⟨by have a:=of_decide_eq_false h1; omega,by have a:=of_decide_eq_false h2; omega,.inl z⟩))) (.n (.u3 (.y 15 (bB (q.status != 2)) bT (Yes.b (bne_iff_ne.2 (fun z=>r ⟨by have a:=of_decide_eq_false h1; omega,by have a:=of_decide_eq_false h2; omega,.inr z⟩))) (.n (.g (.u (.qr 6 b1r))))))))))))))))
def c4P:Ann:={ refs:=[6,7],base:=6,fin:=some 6 }
abbrev c0x (a:Nat) (b:l9E) (c:Int) (d:Int) (e:Int) (f:l9K) (g:Nat) (h:Int) (i:y9):Heap:=[W9 a b,(o_ a 10 (mE b)),M0 c d e,Q8 f g,(o_ g 2 (mK (l7 f))),V4 h i,(o_ 0 9 [[e_,e_,z_,z_,z_,z_,z_,z_,bF]])]
abbrev c0w (a:Msg) (b:y9) (c:Entry) (d:Int) (e:Int):Ob:=(o_ 0 9 [[(AV.str a.key.app),(AV.str a.key.id),(iI a.status),z_,(iI a.n),(iI (E5 (maxS b c.card.stamp) d e).t),(iI (E5 (maxS b c.card.stamp) d e).node),(iI (E5 (maxS b c.card.stamp) d e).n),bF]])
abbrev d8v (a:Nat) (b:l9E) (c:Int) (d:Int) (e:Int) (f:l9K) (g:Nat) (h:Int) (i:y9) (j:Msg) (k:Entry) (l:Int):Heap:=[W9 a b,(o_ a 10 (mE b)),M0 c d e,Q8 f g,(o_ g 2 (mK (l7 f))),V4 h i,c0w j i k l h]
abbrev c6v (a:l9E) (b:Entry) (c:Bool) (d:Msg) (e:y9) (f:Int) (g:Int) (h:Nat):Ob:=(o_ 0 2 [[(iI (r9 32)),(d9 1 (J9 (r9 32) a (eO b c (j4.mk d.key d.status 0 d.n (E5 (maxS e b.card.stamp) f g) false) f) h) 10 (J2 (r9 32) a (eO b c (j4.mk d.key d.status 0 d.n (E5 (maxS e b.card.stamp) f g) false) f)).length)]])
abbrev c6u (a:l9E) (b:Entry) (c:Bool) (d:Msg) (e:y9) (f:Int) (g:Int) (h:Nat):Ob:=(o_ (J9 (r9 32) a (eO b c (j4.mk d.key d.status 0 d.n (E5 (maxS e b.card.stamp) f g) false) f) h) 10 (mE (J2 (r9 32) a (eO b c (j4.mk d.key d.status 0 d.n (E5 (maxS e b.card.stamp) f g) false) f))))
abbrev c6t (a:l9E) (b:Entry) (c:Bool) (d:Msg) (e:y9) (f:Int) (g:Int) (h:l9K) (i:Nat):Ob:=(o_ 0 2 [[(iN ((K9 a (eO b c (j4.mk d.key d.status 0 d.n (E5 (maxS e b.card.stamp) f g) false) f) h).length)),(d9 4 (Q9 a (eO b c (j4.mk d.key d.status 0 d.n (E5 (maxS e b.card.stamp) f g) false) f) i) 2 (l7 (K9 a (eO b c (j4.mk d.key d.status 0 d.n (E5 (maxS e b.card.stamp) f g) false) f) h)).length)]])
abbrev c6s (a:l9E) (b:Entry) (c:Bool) (d:Msg) (e:y9) (f:Int) (g:Int) (h:Nat) (i:l9K):Ob:=(o_ (Q9 a (eO b c (j4.mk d.key d.status 0 d.n (E5 (maxS e b.card.stamp) f g) false) f) h) 2 (mK (l7 (K9 a (eO b c (j4.mk d.key d.status 0 d.n (E5 (maxS e b.card.stamp) f g) false) f) i))))
abbrev c6r (a:Int) (b:l9E) (c:Entry) (d:Bool) (e:Msg) (f:y9) (g:Int):Ob:=(o_ 0 7 [[(iI a),(iI (dN b (eO c d (j4.mk e.key e.status 0 e.n (E5 (maxS f c.card.stamp) g a) false) g) f).t),(iI (dN b (eO c d (j4.mk e.key e.status 0 e.n (E5 (maxS f c.card.stamp) g a) false) g) f).node),(iI (dN b (eO c d (j4.mk e.key e.status 0 e.n (E5 (maxS f c.card.stamp) g a) false) g) f).n),(j3 0),(j3 2),(j3 3)]])
abbrev d8u (a:l9E) (b:Entry) (c:Bool) (d:Msg) (e:y9) (f:Int) (g:Int) (h:Nat) (i:Int) (j:Int) (k:Int) (l:l9K) (m:Nat):Heap:=[c6v a b c d e f g h,c6u a b c d e f g h,M0 i j k,c6t a b c d e f g l m,c6s a b c d e f g m l,c6r g a b c d e f,c0w d e b f g]
abbrev d8t (a:Msg) (b:y9) (c:Entry) (d:Int) (e:Int):Heap:=[c0w a b c d e]
abbrev d8s (a:l9E) (b:Entry) (c:Bool) (d:Msg) (e:y9) (f:Int) (g:Int) (h:Nat) (i:Int) (j:Int) (k:Int) (l:l9K) (m:Nat):Heap:=[c6v a b c d e f g h,c6u a b c d e f g h,M0 i j k,c6t a b c d e f g l m,c6s a b c d e f g m l,c6r g a b c d e f]
abbrev d7v (a:l9E) (b:Entry) (c:Bool) (d:Msg) (e:y9) (f g:Int):=(AV.tup [(sA 9 (mC (oG a (eO b c (j4.mk d.key d.status 0 d.n (E5 (maxS e b.card.stamp) f g) false) f)))),(iI (K3 (r9 32) a (eO b c (j4.mk d.key d.status 0 d.n (E5 (maxS e b.card.stamp) f g) false) f)))])
theorem b7X (l:l9E) (g:Nat) (al:l9K) (ga:Nat) (gf gl gt nd:Int) (st:y9) (q:Msg) (old:Entry) (inn:Bool) (now:Int) (hl:l.length < 1000) (ha:al.length < 100000) (r:mG q):AC 111 [(j3 5),(p9 (Msg.row q)),(p9 (Entry.row old)),(bB inn),(iI now)] (M9 g l gf gl gt al ga nd st) ((AV.tup [(sA 9 (mC (oG l (L9 q old inn st now nd)))),(iI (K3 (r9 32) l (L9 q old inn st now nd)))]),[(o_ 0 2 [[(iI (r9 32)),(d9 1 (J9 (r9 32) l (L9 q old inn st now nd) g) 10 (J2 (r9 32) l (L9 q old inn st now nd)).length)]]),(o_ (J9 (r9 32) l (L9 q old inn st now nd) g) 10 (mE (J2 (r9 32) l (L9 q old inn st now nd)))),(o_ 0 3 (sD gf gl gt)),(o_ 0 2 [[(iN ((K9 l (L9 q old inn st now nd) al).length)),(d9 4 (Q9 l (L9 q old inn st now nd) ga) 2 (l7 (K9 l (L9 q old inn st now nd) al)).length)]]),(o_ (Q9 l (L9 q old inn st now nd) ga) 2 (mK (l7 (K9 l (L9 q old inn st now nd) al)))),(o_ 0 7 [[(iI nd),(iI (dN l (L9 q old inn st now nd) st).t),(iI (dN l (L9 q old inn st now nd) st).node),(iI (dN l (L9 q old inn st now nd) st).n),(j3 0),(j3 2),(j3 3)]])]):=by
 obtain ⟨r1,r2,r3⟩:=r
 exact x9 (fn:=Tryz.f111) (ann:=c4P) (Has.o Tryz.func111) (.r (.s (.y 2 (bB (decide (q.n < 1))) bF (Yes.b (decide_eq_false ow)) (.n3 (.y 6 (bB (decide (q.n > 1048576))) bF (Yes.b (decide_eq_false ow)) (.n4 (.two (q.status != 1) (fun h1 h1'=>(.u2 (.y 15 (bB (q.status != 2)) bF (Yes.b (by rcases r3 with r | r; (rw [r] at h1; simp at h1); (rw [r]; rfl))) (.n (.rn (.c 10 (j5.put2 [0,1,2,3,4,5] (c0x g l gf gl gt al ga nd st) (p9 (y9.row (E5 (maxS st old.card.stamp) now nd))) (c0x g l gf gl gt al ga nd st) (jV l g al ga gf gl gt nd st old.card now ) rlA rlA) (.s (.c 5 ((a7E old inn (j4.mk q.key q.status 0 q.n (E5 (maxS st old.card.stamp) now nd) false) now).lift kr kr (d8v g l gf gl gt al ga nd st q old now)) (.ch 6 (d8u l old inn q st now nd g gf gl gt al ga) (a0f l g al ga gf gl gt nd st (eO old inn (j4.mk q.key q.status 0 q.n (E5 (maxS st old.card.stamp) now nd) false) now) oa oa (d8t q st old now nd)) (.g (.h' (d8s l old inn q st now nd g gf gl gt al ga) (.q 6 (d7v l old inn q st now nd))))))))))))) (fun h1 h1'=>(.n3 (.rn (.c 10 (j5.put2 [0,1,2,3,4,5] (c0x g l gf gl gt al ga nd st) (p9 (y9.row (E5 (maxS st old.card.stamp) now nd))) (c0x g l gf gl gt al ga nd st) (jV l g al ga gf gl gt nd st old.card now ) rlA rlA) (.s (.c 5 ((a7E old inn (j4.mk q.key q.status 0 q.n (E5 (maxS st old.card.stamp) now nd) false) now).lift kr kr (d8v g l gf gl gt al ga nd st q old now)) (.ch 6 (d8u l old inn q st now nd g gf gl gt al ga) (a0f l g al ga gf gl gt nd st (eO old inn (j4.mk q.key q.status 0 q.n (E5 (maxS st old.card.stamp) now nd) false) now) oa oa (d8t q st old now nd)) (.g (.h' (d8s l old inn q st now nd g gf gl gt al ga) (.q 6 (d7v l old inn q st now nd))))))))))))))))))
def a0V (l:List Entry) (q:Msg) (x:Entry):List j4:=if mG q then oG l x else []
def a0T (l:List Entry) (q:Msg) (x:Entry):Int:=if mG q then K3 (r9 32) l x else 1
def uP (l:List Entry) (q:Msg) (x:Entry):List Entry:=if mG q then J2 (r9 32) l x else l
def uQ (l:List Entry) (q:Msg) (x:Entry) (g:Nat):Nat:=if mG q then J9 (r9 32) l x g else g
def mJ (l:List Entry) (q:Msg) (x:Entry) (al:List Key):List Key:=if mG q then K9 l x al else al
def mI (l:List Entry) (q:Msg) (x:Entry) (ga:Nat):Nat:=if mG q then Q9 l x ga else ga
def mD (l:List Entry) (q:Msg) (x:Entry) (st:y9):y9:=if mG q then dN l x st else st
theorem c4O (l:l9E) (g:Nat) (al:l9K) (ga:Nat) (gf gl gt nd:Int) (st:y9) (q:Msg) (old:Entry) (inn:Bool) (now:Int) (hl:l.length < 1000) (ha:al.length < 100000):AC 111 [(j3 5),(p9 (Msg.row q)),(p9 (Entry.row old)),(bB inn),(iI now)] [(o_ 0 2 [[(iI (r9 32)),(d9 1 g 10 l.length)]]),(o_ g 10 (mE l)),(o_ 0 3 [[(iI gf),(iI gl),(iI gt)]]),(o_ 0 2 [[(iN (al.length)),(d9 4 ga 2 (l7 al).length)]]),(o_ ga 2 (mK (l7 al))),(o_ 0 7 [[(iI nd),(iI st.t),(iI st.node),(iI st.n),(j3 0),(j3 2),(j3 3)]])] ((AV.tup [(sA 9 (mC (a0V l q (L9 q old inn st now nd)))),(iI (a0T l q (L9 q old inn st now nd)))]),[(o_ 0 2 [[(iI (r9 32)),(d9 1 (uQ l q (L9 q old inn st now nd) g) 10 (uP l q (L9 q old inn st now nd)).length)]]),(o_ (uQ l q (L9 q old inn st now nd) g) 10 (mE (uP l q (L9 q old inn st now nd)))),(o_ 0 3 [[(iI gf),(iI gl),(iI gt)]]),(o_ 0 2 [[(iN ((mJ l q (L9 q old inn st now nd) al).length)),(d9 4 (mI l q (L9 q old inn st now nd) ga) 2 (l7 (mJ l q (L9 q old inn st now nd) al)).length)]]),(o_ (mI l q (L9 q old inn st now nd) ga) 2 (mK (l7 (mJ l q (L9 q old inn st now nd) al)))),(o_ 0 7 [[(iI nd),(iI (mD l q (L9 q old inn st now nd) st).t),(iI (mD l q (L9 q old inn st now nd) st).node),(iI (mD l q (L9 q old inn st now nd) st).n),(j3 0),(j3 2),(j3 3)]])]):=by
 unfold a0V a0T uP uQ mJ mI mD
 by_cases r:mG q
 · rw [if_pos r,if_pos r,if_pos r,if_pos r,if_pos r,if_pos r,if_pos r]
   exact b7X l g al ga gf gl gt nd st q old inn now hl ha r
 · rw [if_neg r,if_neg r,if_neg r,if_neg r,if_neg r,if_neg r,if_neg r]
   exact b7Y l g al ga gf gl gt nd st q old inn now r
theorem b4G (l:l9E) (g:Nat) (al:l9K) (ga:Nat) (gf gl gt nd:Int) (st:y9) (q:Msg) (old:Entry) (inn:Bool) (now:Int) (hl:l.length < 1000) (ha:al.length < 100000) (H:Heap):AC 111 [(j3 5),(p9 (Msg.row q)),(p9 (Entry.row old)),(bB inn),(iI now)] ((M9 g l gf gl gt al ga nd st)++H) ((AV.tup [(sA 9 (mC (a0V l q (L9 q old inn st now nd)))),(iI (a0T l q (L9 q old inn st now nd)))]),([(o_ 0 2 [[(iI (r9 32)),(d9 1 (uQ l q (L9 q old inn st now nd) g) 10 (uP l q (L9 q old inn st now nd)).length)]]),(o_ (uQ l q (L9 q old inn st now nd) g) 10 (mE (uP l q (L9 q old inn st now nd)))),(o_ 0 3 [[(iI gf),(iI gl),(iI gt)]]),(o_ 0 2 [[(iN ((mJ l q (L9 q old inn st now nd) al).length)),(d9 4 (mI l q (L9 q old inn st now nd) ga) 2 (l7 (mJ l q (L9 q old inn st now nd) al)).length)]]),(o_ (mI l q (L9 q old inn st now nd) ga) 2 (mK (l7 (mJ l q (L9 q old inn st now nd) al)))),(o_ 0 7 [[(iI nd),(iI (mD l q (L9 q old inn st now nd) st).t),(iI (mD l q (L9 q old inn st now nd) st).node),(iI (mD l q (L9 q old inn st now nd) st).n),(j3 0),(j3 2),(j3 3)]])]:Heap)++H):=(c4O l g al ga gf gl gt nd st q old inn now hl ha).ext kr kr ob ob kr H
attribute [local irreducible] D7 J3 a0T a0V aA aQ dN eO mD mG mI mJ oG q9 uP uQ
def c7P:Ann:={ refs:=[4],gha:=[(6,.any 6 9),(8,.any 6 9),(12,.any 6 9)],base:=6,fin:=some 6 }
abbrev a3V (a:Int) (b:Int) (c:Int) (d:l9K) (e:Nat) (f:Int) (g:y9):Heap:=[M0 a b c,Q8 d e,(o_ e 2 (mK (l7 d))),V4 f g,a0z]
abbrev a0w (a:Nat) (b:l9E) (c:Int) (d:Int) (e:Int) (f:l9K) (g:Nat) (h:Int) (i:y9) (j:Msg):Heap:=[W9 a b,(o_ a 10 (mE b)),M0 c d e,Q8 f g,(o_ g 2 (mK (l7 f))),V4 h i,(o_ 0 10 [(Entry.row (q9 b j.key))])]
theorem aZ {p:Prop} (h:p:=by rw [ho]; rfl):p:=h
abbrev b1q (a:Msg):=(bB (decide (a.status > 3)))
theorem c1K (l:l9E) (g:Nat) (al:l9K) (ga:Nat) (gf gl gt nd:Int) (st:y9) (q:Msg) (now:Int) (hl:l.length < 1000) (ha:al.length < 100000) (hgt:0<=gt/\gt < 4611686018427387904) (ho:q.op=4) (hs:3 < q.status):AC 64 [(j3 5),(p9 (Msg.row q)),(iI now)] (M9 g l gf gl gt al ga nd st) ((AV.tup [(sA 9 (mC ([]:l9C))),(iI 1)]),(M9 g l gf gl gt al ga nd st)) :=
 x9 (fn:=Tryz.f64) (ann:=c7P) (Has.o Tryz.func64) (.r (.s (.c 6 (get_at (r9 32) l q.key g l.length oa oa (a3V gf gl gt al ga nd st)) (.s (.two (D7 l q.key) (fun h1 h1'=>(.u3 (.s (.h' (a0w g l gf gl gt al ga nd st q) (.y 2 (bB (q.op == 1)) bF (Yes.b aZ) (.rn (.y 2 (bB (q.op == 4)) bT (Yes.b aZ) (.u3 (.y 6 (b1q q) bT (Yes.b (decide_eq_true ow)) (.ru (.g (.h' (M9 g l gf gl gt al ga nd st) (.q 6 b1r))))))))))))) (fun h1 h1'=>(.n3 (.s (.h' (a0w g l gf gl gt al ga nd st q) (.y 2 (bB (q.op == 1)) bF (Yes.b aZ) (.rn (.y 2 (bB (q.op == 4)) bT (Yes.b aZ) (.u3 (.y 6 (b1q q) bT (Yes.b (decide_eq_true ow)) (.ru (.g (.h' (M9 g l gf gl gt al ga nd st) (.q 6 b1r))))))))))))))))))
def d5x:Ann:={ refs:=[4],gha:=[(6,.any 6 9),(8,.any 6 9),(12,.any 6 9)],base:=6,fin:=some 6 }
abbrev d7u (a:l9E) (b:Msg) (c:y9) (d e:Int) (f:Nat):=[[(iI (r9 32)),(d9 1 (J9 (r9 32) a (J3 (q9 a b.key) (E5 (maxS c (q9 a b.key).card.stamp) d e) d) f) 10 (J2 (r9 32) a (J3 (q9 a b.key) (E5 (maxS c (q9 a b.key).card.stamp) d e) d)).length)]]
abbrev d7t (a:l9E) (b:Msg) (c:y9) (d e:Int) (f:l9K) (g:Nat):=[[(iN ((K9 a (J3 (q9 a b.key) (E5 (maxS c (q9 a b.key).card.stamp) d e) d) f).length)),(d9 4 (Q9 a (J3 (q9 a b.key) (E5 (maxS c (q9 a b.key).card.stamp) d e) d) g) 2 (l7 (K9 a (J3 (q9 a b.key) (E5 (maxS c (q9 a b.key).card.stamp) d e) d) f)).length)]]
abbrev d7s (a:Int) (b:l9E) (c:Msg) (d:y9) (e:Int):=[[(iI a),(iI (dN b (J3 (q9 b c.key) (E5 (maxS d (q9 b c.key).card.stamp) e a) e) d).t),(iI (dN b (J3 (q9 b c.key) (E5 (maxS d (q9 b c.key).card.stamp) e a) e) d).node),(iI (dN b (J3 (q9 b c.key) (E5 (maxS d (q9 b c.key).card.stamp) e a) e) d).n),(j3 0),(j3 2),(j3 3)]]
abbrev d8r (a:l9E) (b:Msg) (c:y9) (d:Int) (e:Int) (f:Nat) (g:Int) (h:Int) (i:Int) (j:l9K) (k:Nat):Heap:=[(o_ 0 2 (d7u a b c d e f)),(o_ (J9 (r9 32) a (J3 (q9 a b.key) (E5 (maxS c (q9 a b.key).card.stamp) d e) d) f) 10 (mE (J2 (r9 32) a (J3 (q9 a b.key) (E5 (maxS c (q9 a b.key).card.stamp) d e) d)))),M0 g h i,(o_ 0 2 (d7t a b c d e j k)),(o_ (Q9 a (J3 (q9 a b.key) (E5 (maxS c (q9 a b.key).card.stamp) d e) d) k) 2 (mK (l7 (K9 a (J3 (q9 a b.key) (E5 (maxS c (q9 a b.key).card.stamp) d e) d) j)))),(o_ 0 7 (d7s e a b c d))]
abbrev a0v (a:Nat) (b:l9E) (c:Int) (d:Int) (e:Int) (f:l9K) (g:Nat) (h:Int) (i:y9) (j:Msg):Heap:=[W9 a b,(o_ a 10 (mE b)),M0 c d e,Q8 f g,(o_ g 2 (mK (l7 f))),V4 h i,(o_ 0 10 [(Entry.row (q9 b j.key))]),a0z]
abbrev a6W (a:Nat) (b:l9E) (c:Int) (d:Int) (e:Int) (f:l9K) (g:Nat) (h:Int) (i:y9) (j:Msg) (k:Int):Heap:=[W9 a b,(o_ a 10 (mE b)),M0 c d e,Q8 f g,(o_ g 2 (mK (l7 f))),V4 h i,(o_ 0 10 [(Entry.row (q9 b j.key))]),(o_ 0 10 [(Entry.row (J3 (q9 b j.key) (E5 (maxS i (q9 b j.key).card.stamp) k h) k))])]
abbrev d7r (a:l9E) (b:Msg) (c:y9) (d e:Int):=(AV.tup [(sA 9 (mC (oG a (J3 (q9 a b.key) (E5 (maxS c (q9 a b.key).card.stamp) d e) d)))),(iI (K3 (r9 32) a (J3 (q9 a b.key) (E5 (maxS c (q9 a b.key).card.stamp) d e) d)))])
theorem c7Q (l:l9E) (g:Nat) (al:l9K) (ga:Nat) (gf gl gt nd:Int) (st:y9) (q:Msg) (now:Int) (hl:l.length < 1000) (ha:al.length < 100000) (hgt:0<=gt/\gt < 4611686018427387904) (ho:q.op=3) (hf:D7 l q.key=true) (hg:(q9 l q.key).card.gone=false):AC 64 [(j3 5),(p9 (Msg.row q)),(iI now)] (M9 g l gf gl gt al ga nd st) ((d7r l q st now nd),(d8r l q st now nd g gf gl gt al ga)) :=
 x9 (fn:=Tryz.f64) (ann:=d5x) (Has.o Tryz.func64) (.r (.s (.c 6 (get_at (r9 32) l q.key g l.length oa oa (a3V gf gl gt al ga nd st)) (.s (.h' (a0w g l gf gl gt al ga nd st q) (.y 0 (bB (D7 l q.key)) bT (Yes.b hf) (.u3 (.y 4 (bB (q9 l q.key).card.gone) bF (Yes.b hg) (.u (.s (.y 2 (bB (q.op == 1)) bF (Yes.b aZ) (.rn (.y 2 (bB (q.op == 4)) bF (Yes.b aZ) (.n3 (.rn (.rn (.y 2 (bB (q.op == 2)) bF (Yes.b aZ) (.rn (.c 5 (j5.put2 [0,1,2,3,4,5] (a0v g l gf gl gt al ga nd st q) (p9 (y9.row (E5 (maxS st (q9 l q.key).card.stamp) now nd))) (a0v g l gf gl gt al ga nd st q) (jV l g al ga gf gl gt nd st (q9 l q.key).card now ) rlA rlA) (.c 7 ((uX (q9 l q.key) (E5 (maxS st (q9 l q.key).card.stamp) now nd) now oa).lift kr kr (a0v g l gf gl gt al ga nd st q)) (.rd (p9 (Entry.row (q9 l q.key))) (a0v g l gf gl gt al ga nd st q) (.s (.h' (a6W g l gf gl gt al ga nd st q now) (.y 2 (bB (q.op == 4)) bF (Yes.b aZ) (.rn (.ch 2 [(o_ 0 2 (d7u l q st now nd g)),(o_ (J9 (r9 32) l (J3 (q9 l q.key) (E5 (maxS st (q9 l q.key).card.stamp) now nd) now) g) 10 (mE (J2 (r9 32) l (J3 (q9 l q.key) (E5 (maxS st (q9 l q.key).card.stamp) now nd) now)))),(o_ 0 3 (sD gf gl gt)),(o_ 0 2 (d7t l q st now nd al ga)),(o_ (Q9 l (J3 (q9 l q.key) (E5 (maxS st (q9 l q.key).card.stamp) now nd) now) ga) 2 (mK (l7 (K9 l (J3 (q9 l q.key) (E5 (maxS st (q9 l q.key).card.stamp) now nd) now) al)))),(o_ 0 7 (d7s nd l q st now)),(o_ 0 10 [(Entry.row (q9 l q.key))]),(o_ 0 10 [(Entry.row (J3 (q9 l q.key) (E5 (maxS st (q9 l q.key).card.stamp) now nd) now))])] (a0f l g al ga gf gl gt nd st (J3 (q9 l q.key) (E5 (maxS st (q9 l q.key).card.stamp) now nd) now) oa oa [(o_ 0 10 [(Entry.row (q9 l q.key))]),(o_ 0 10 [(Entry.row (J3 (q9 l q.key) (E5 (maxS st (q9 l q.key).card.stamp) now nd) now))])]) (.g (.h' (d8r l q st now nd g gf gl gt al ga) (.q 6 (d7r l q st now nd))))))))))))))))))))))))))))))
def d5w:Ann:={ refs:=[4],gha:=[(6,.any 6 9),(8,.any 6 9),(12,.any 6 9)],base:=6,fin:=some 6 }
abbrev d7q (a:l9E) (b:Msg) (c:y9) (d e:Int) (f:Nat):=[[(iI (r9 32)),(d9 1 (J9 (r9 32) a (aQ (q9 a b.key) b.status (E5 (maxS c (q9 a b.key).card.stamp) d e)) f) 10 (J2 (r9 32) a (aQ (q9 a b.key) b.status (E5 (maxS c (q9 a b.key).card.stamp) d e))).length)]]
abbrev d7p (a:l9E) (b:Msg) (c:y9) (d e:Int) (f:l9K) (g:Nat):=[[(iN ((K9 a (aQ (q9 a b.key) b.status (E5 (maxS c (q9 a b.key).card.stamp) d e)) f).length)),(d9 4 (Q9 a (aQ (q9 a b.key) b.status (E5 (maxS c (q9 a b.key).card.stamp) d e)) g) 2 (l7 (K9 a (aQ (q9 a b.key) b.status (E5 (maxS c (q9 a b.key).card.stamp) d e)) f)).length)]]
abbrev d7o (a:Int) (b:l9E) (c:Msg) (d:y9) (e:Int):=[[(iI a),(iI (dN b (aQ (q9 b c.key) c.status (E5 (maxS d (q9 b c.key).card.stamp) e a)) d).t),(iI (dN b (aQ (q9 b c.key) c.status (E5 (maxS d (q9 b c.key).card.stamp) e a)) d).node),(iI (dN b (aQ (q9 b c.key) c.status (E5 (maxS d (q9 b c.key).card.stamp) e a)) d).n),(j3 0),(j3 2),(j3 3)]]
abbrev d8q (a:l9E) (b:Msg) (c:y9) (d:Int) (e:Int) (f:Nat) (g:Int) (h:Int) (i:Int) (j:l9K) (k:Nat):Heap:=[(o_ 0 2 (d7q a b c d e f)),(o_ (J9 (r9 32) a (aQ (q9 a b.key) b.status (E5 (maxS c (q9 a b.key).card.stamp) d e)) f) 10 (mE (J2 (r9 32) a (aQ (q9 a b.key) b.status (E5 (maxS c (q9 a b.key).card.stamp) d e))))),M0 g h i,(o_ 0 2 (d7p a b c d e j k)),(o_ (Q9 a (aQ (q9 a b.key) b.status (E5 (maxS c (q9 a b.key).card.stamp) d e)) k) 2 (mK (l7 (K9 a (aQ (q9 a b.key) b.status (E5 (maxS c (q9 a b.key).card.stamp) d e)) j)))),(o_ 0 7 (d7o e a b c d))]
abbrev d7n (a:l9E) (b:Msg) (c:y9) (d e:Int):=(AV.tup [(sA 9 (mC (oG a (aQ (q9 a b.key) b.status (E5 (maxS c (q9 a b.key).card.stamp) d e))))),(iI (K3 (r9 32) a (aQ (q9 a b.key) b.status (E5 (maxS c (q9 a b.key).card.stamp) d e))))])
theorem c7O (l:l9E) (g:Nat) (al:l9K) (ga:Nat) (gf gl gt nd:Int) (st:y9) (q:Msg) (now:Int) (hl:l.length < 1000) (ha:al.length < 100000) (hgt:0<=gt/\gt < 4611686018427387904) (ho:q.op=4) (hs:q.status<=3) (hs0:0<=q.status) (hf:D7 l q.key=true) (hg:(q9 l q.key).card.gone=false):AC 64 [(j3 5),(p9 (Msg.row q)),(iI now)] (M9 g l gf gl gt al ga nd st) ((d7n l q st now nd),(d8q l q st now nd g gf gl gt al ga)) :=
 x9 (fn:=Tryz.f64) (ann:=d5w) (Has.o Tryz.func64) (.r (.s (.c 6 (get_at (r9 32) l q.key g l.length oa oa (a3V gf gl gt al ga nd st)) (.s (.h' (a0w g l gf gl gt al ga nd st q) (.y 0 (bB (D7 l q.key)) bT (Yes.b hf) (.u3 (.y 4 (bB (q9 l q.key).card.gone) bF (Yes.b hg) (.u (.s (.y 2 (bB (q.op == 1)) bF (Yes.b aZ) (.rn (.y 2 (bB (q.op == 4)) bT (Yes.b aZ) (.u3 (.y 6 (b1q q) bF (Yes.b (decide_eq_false ow)) (.rn (.rn (.y 2 (bB (q.op == 2)) bF (Yes.b aZ) (.rn (.c 5 (j5.put2 [0,1,2,3,4,5] (a0v g l gf gl gt al ga nd st q) (p9 (y9.row (E5 (maxS st (q9 l q.key).card.stamp) now nd))) (a0v g l gf gl gt al ga nd st q) (jV l g al ga gf gl gt nd st (q9 l q.key).card now ) rlA rlA) (.c 7 ((uX (q9 l q.key) (E5 (maxS st (q9 l q.key).card.stamp) now nd) now oa).lift kr kr (a0v g l gf gl gt al ga nd st q)) (.rd (p9 (Entry.row (q9 l q.key))) (a0v g l gf gl gt al ga nd st q) (.s (.h' (a6W g l gf gl gt al ga nd st q now) (.y 2 (bB (q.op == 4)) bT (Yes.b aZ) (.ru (.c 7 (j5.put2 [0,1,2,3,4,5] (a6W g l gf gl gt al ga nd st q now) (p9 (y9.row (E5 (maxS st (q9 l q.key).card.stamp) now nd))) (a6W g l gf gl gt al ga nd st q now) (jV l g al ga gf gl gt nd st (q9 l q.key).card now ) rlA rlA) (.c 8 ((b6Y (q9 l q.key) q.status (E5 (maxS st (q9 l q.key).card.stamp) now nd) oa oa oa).lift kr kr (a6W g l gf gl gt al ga nd st q now)) (.rd (p9 (Entry.row (q9 l q.key))) (a6W g l gf gl gt al ga nd st q now) (.s (.ch 2 [(o_ 0 2 (d7q l q st now nd g)),(o_ (J9 (r9 32) l (aQ (q9 l q.key) q.status (E5 (maxS st (q9 l q.key).card.stamp) now nd)) g) 10 (mE (J2 (r9 32) l (aQ (q9 l q.key) q.status (E5 (maxS st (q9 l q.key).card.stamp) now nd))))),(o_ 0 3 (sD gf gl gt)),(o_ 0 2 (d7p l q st now nd al ga)),(o_ (Q9 l (aQ (q9 l q.key) q.status (E5 (maxS st (q9 l q.key).card.stamp) now nd)) ga) 2 (mK (l7 (K9 l (aQ (q9 l q.key) q.status (E5 (maxS st (q9 l q.key).card.stamp) now nd)) al)))),(o_ 0 7 (d7o nd l q st now)),(o_ 0 10 [(Entry.row (q9 l q.key))]),(o_ 0 10 [(Entry.row (aQ (q9 l q.key) q.status (E5 (maxS st (q9 l q.key).card.stamp) now nd)))])] (a0f l g al ga gf gl gt nd st (aQ (q9 l q.key) q.status (E5 (maxS st (q9 l q.key).card.stamp) now nd)) oa oa [(o_ 0 10 [(Entry.row (q9 l q.key))]),(o_ 0 10 [(Entry.row (aQ (q9 l q.key) q.status (E5 (maxS st (q9 l q.key).card.stamp) now nd)))])]) (.g (.h' (d8q l q st now nd g gf gl gt al ga) (.q 6 (d7n l q st now nd)))))))))))))))))))))))))))))))))))
def d5y:Ann:={ refs:=[4],gha:=[(6,.any 6 9),(8,.any 6 9),(12,.any 6 9)],base:=6,fin:=some 6 }
abbrev d3R (a:Int) (b:Int) (c:Int):Ob:=(o_ 0 3 [[(iI a),(iI b),(iI (min (c+1) 1048576))]])
abbrev d8p (a:l9E) (b:Msg) (c:Int) (d:Nat) (e:Int) (f:Int) (g:Int) (h:l9K) (i:Nat) (j:Int) (k:y9):Heap:=[(o_ 0 2 [[(iI (r9 32)),(d9 1 (J9 (r9 32) a (aA (q9 a b.key) c) d) 10 (J2 (r9 32) a (aA (q9 a b.key) c)).length)]]),(o_ (J9 (r9 32) a (aA (q9 a b.key) c) d) 10 (mE (J2 (r9 32) a (aA (q9 a b.key) c)))),d3R e f g,Q8 h i,(o_ i 2 (mK (l7 h))),V4 j k]
abbrev d8o (a:Nat) (b:l9E) (c:Int) (d:Int) (e:Int) (f:l9K) (g:Nat) (h:Int) (i:y9) (j:Msg) (k:Int):Heap:=[W9 a b,(o_ a 10 (mE b)),d3R c d e,Q8 f g,(o_ g 2 (mK (l7 f))),V4 h i,(o_ 0 10 [(Entry.row (q9 b j.key))]),(o_ 0 10 [(Entry.row (aA (q9 b j.key) k))])]
theorem c7R (l:l9E) (g:Nat) (al:l9K) (ga:Nat) (gf gl gt nd:Int) (st:y9) (q:Msg) (now:Int) (hl:l.length < 1000) (ha:al.length < 100000) (hgt:0<=gt/\gt < 4611686018427387904) (ho:q.op=2) (hf:D7 l q.key=true) (hg:(q9 l q.key).card.gone=false):AC 64 [(j3 5),(p9 (Msg.row q)),(iI now)] (M9 g l gf gl gt al ga nd st) ((AV.tup [(sA 9 (mC ([]:l9C))),(iI (K3 (r9 32) l (aA (q9 l q.key) now)))]),(d8p l q now g gf gl gt al ga nd st)) :=
 x9 (fn:=Tryz.f64) (ann:=d5y) (Has.o Tryz.func64) (.r (.s (.c 6 (get_at (r9 32) l q.key g l.length oa oa (a3V gf gl gt al ga nd st)) (.s (.h' (a0w g l gf gl gt al ga nd st q) (.y 0 (bB (D7 l q.key)) bT (Yes.b hf) (.u3 (.y 4 (bB (q9 l q.key).card.gone) bF (Yes.b hg) (.u (.s (.y 2 (bB (q.op == 1)) bF (Yes.b aZ) (.rn (.y 2 (bB (q.op == 4)) bF (Yes.b aZ) (.n3 (.rn (.rn (.y 2 (bB (q.op == 2)) bT (Yes.b aZ) (.ru (.c 2 ((b3y (q9 l q.key) now oa).lift kr kr (a0v g l gf gl gt al ga nd st q)) (.s (.ch 4 (d8o g l gf gl gt al ga nd st q now) (j5.put2 [2] [(o_ 0 2 (a1A g l)),(o_ g 10 (mE l)),(o_ 0 3 (sD gf gl gt)),(o_ 0 2 (a0m al ga)),(o_ ga 2 (mK (l7 al))),(o_ 0 7 (a1u nd st)),(o_ 0 10 [(Entry.row (q9 l q.key))]),(o_ 0 10 [(Entry.row (aA (q9 l q.key) now))])] F4 (d8o g l gf gl gt al ga nd st q now) (b3H gf gl gt oa oa) D5 D5) (.s (.ch 5 [(o_ 0 2 [[(iI (r9 32)),(d9 1 (J9 (r9 32) l (aA (q9 l q.key) now) g) 10 (J2 (r9 32) l (aA (q9 l q.key) now)).length)]]),(o_ (J9 (r9 32) l (aA (q9 l q.key) now) g) 10 (mE (J2 (r9 32) l (aA (q9 l q.key) now)))),(o_ 0 3 [[(iI gf),(iI gl),(iI (min (gt+1) 1048576))]]),(o_ 0 2 (a0m al ga)),(o_ ga 2 (mK (l7 al))),(o_ 0 7 (a1u nd st)),(o_ 0 10 [(Entry.row (q9 l q.key))]),(o_ 0 10 [(Entry.row (aA (q9 l q.key) now))])] (d6D (r9 32) l (aA (q9 l q.key) now) g l.length oa oa [(o_ 0 3 [[(iI gf),(iI gl),(iI (min (gt+1) 1048576))]]),(o_ 0 2 (a0m al ga)),(o_ ga 2 (mK (l7 al))),(o_ 0 7 (a1u nd st)),(o_ 0 10 [(Entry.row (q9 l q.key))]),(o_ 0 10 [(Entry.row (aA (q9 l q.key) now))])]) (.g (.h' (d8p l q now g gf gl gt al ga nd st) (.q 6 (AV.tup [(sA 9 []),(iI (K3 (r9 32) l (aA (q9 l q.key) now)))])))))))))))))))))))))))))))
def d5z:Ann:={ refs:=[4],gha:=[(6,.any 6 9),(8,.any 6 9),(12,.any 6 9)],base:=6,fin:=some 6 }
abbrev d3Q (a:l9E) (b:Msg) (c:y9) (d:Int) (e:Int) (f:Nat):Ob:=(o_ 0 2 [[(iI (r9 32)),(d9 1 (uQ a b (L9 b (q9 a b.key) (D7 a b.key) c d e) f) 10 (uP a b (L9 b (q9 a b.key) (D7 a b.key) c d e)).length)]])
abbrev d3P (a:l9E) (b:Msg) (c:y9) (d:Int) (e:Int) (f:Nat):Ob:=(o_ (uQ a b (L9 b (q9 a b.key) (D7 a b.key) c d e) f) 10 (mE (uP a b (L9 b (q9 a b.key) (D7 a b.key) c d e))))
abbrev d3O (a:l9E) (b:Msg) (c:y9) (d:Int) (e:Int) (f:l9K) (g:Nat):Ob:=(o_ 0 2 [[(iN ((mJ a b (L9 b (q9 a b.key) (D7 a b.key) c d e) f).length)),(d9 4 (mI a b (L9 b (q9 a b.key) (D7 a b.key) c d e) g) 2 (l7 (mJ a b (L9 b (q9 a b.key) (D7 a b.key) c d e) f)).length)]])
abbrev c6q (a:l9E) (b:Msg) (c:y9) (d:Int) (e:Int) (f:Nat) (g:l9K):Ob:=(o_ (mI a b (L9 b (q9 a b.key) (D7 a b.key) c d e) f) 2 (mK (l7 (mJ a b (L9 b (q9 a b.key) (D7 a b.key) c d e) g))))
abbrev c6p (a:Int) (b:l9E) (c:Msg) (d:y9) (e:Int):Ob:=(o_ 0 7 [[(iI a),(iI (mD b c (L9 c (q9 b c.key) (D7 b c.key) d e a) d).t),(iI (mD b c (L9 c (q9 b c.key) (D7 b c.key) d e a) d).node),(iI (mD b c (L9 c (q9 b c.key) (D7 b c.key) d e a) d).n),(j3 0),(j3 2),(j3 3)]])
abbrev c0v (a:l9E) (b:Msg) (c:y9) (d:Int) (e:Int) (f:Nat) (g:Int) (h:Int) (i:Int) (j:l9K) (k:Nat):Heap:=[d3Q a b c d e f,d3P a b c d e f,M0 g h i,d3O a b c d e j k,c6q a b c d e k j,c6p e a b c d]
abbrev d3S (a:l9E) (b:Msg) (c:y9) (d:Int) (e:Int) (f:Nat) (g:Int) (h:Int) (i:Int) (j:l9K) (k:Nat):Heap:=[d3Q a b c d e f,d3P a b c d e f,M0 g h i,d3O a b c d e j k,c6q a b c d e k j,c6p e a b c d,(o_ 0 10 [(Entry.row (q9 a b.key))])]
abbrev d0J (a:l9E) (b:Msg) (c:y9) (d e:Int):=(AV.tup [(sA 9 (mC (a0V a b (L9 b (q9 a b.key) (D7 a b.key) c d e)))),(iI (a0T a b (L9 b (q9 a b.key) (D7 a b.key) c d e)))])
theorem c7S (l:l9E) (g:Nat) (al:l9K) (ga:Nat) (gf gl gt nd:Int) (st:y9) (q:Msg) (now:Int) (hl:l.length < 1000) (ha:al.length < 100000) (hgt:0<=gt/\gt < 4611686018427387904) (ho:q.op=1):AC 64 [(j3 5),(p9 (Msg.row q)),(iI now)] (M9 g l gf gl gt al ga nd st) ((d0J l q st now nd),(c0v l q st now nd g gf gl gt al ga)) :=
 x9 (fn:=Tryz.f64) (ann:=d5z) (Has.o Tryz.func64) (.r (.s (.c 6 (get_at (r9 32) l q.key g l.length oa oa (a3V gf gl gt al ga nd st)) (.s (.two (D7 l q.key) (fun h1 h1'=>(.u3 (.s (.h' (a0w g l gf gl gt al ga nd st q) (.y 2 (bB (q.op == 1)) bT (Yes.b aZ) (.ru (.ch 5 (d3S l q st now nd g gf gl gt al ga) (b4G l g al ga gf gl gt nd st q (q9 l q.key) (D7 l q.key) now oa oa [(o_ 0 10 [(Entry.row (q9 l q.key))])]) (.g (.h' (c0v l q st now nd g gf gl gt al ga) (.q 6 (d0J l q st now nd))))))))))) (fun h1 h1'=>(.n3 (.s (.h' (a0w g l gf gl gt al ga nd st q) (.y 2 (bB (q.op == 1)) bT (Yes.b aZ) (.ru (.ch 5 (d3S l q st now nd g gf gl gt al ga) (b4G l g al ga gf gl gt nd st q (q9 l q.key) (D7 l q.key) now oa oa [(o_ 0 10 [(Entry.row (q9 l q.key))])]) (.g (.h' (c0v l q st now nd g gf gl gt al ga) (.q 6 (d0J l q st now nd))))))))))))))))
def d5u:Ann:={ refs:=[4],gha:=[(6,.any 6 9),(8,.any 6 9),(12,.any 6 9)],base:=6,fin:=some 6 }
abbrev b9m :=(AV.tup [(sA 9 []),(iI 22)])
theorem c7M (l:l9E) (g:Nat) (al:l9K) (ga:Nat) (gf gl gt nd:Int) (st:y9) (q:Msg) (now:Int) (hl:l.length < 1000) (ha:al.length < 100000) (hgt:0<=gt/\gt < 4611686018427387904) (h1:¬ q.op=1) (h4:¬ (q.op=4/\3 < q.status)) (hf:D7 l q.key=false):AC 64 [(j3 5),(p9 (Msg.row q)),(iI now)] (M9 g l gf gl gt al ga nd st) ((AV.tup [(sA 9 (mC ([]:l9C))),(iI 22)]),(M9 g l gf gl gt al ga nd st)) :=
 x9 (fn:=Tryz.f64) (ann:=d5u) (Has.o Tryz.func64) (.r (.s (.c 6 (get_at (r9 32) l q.key g l.length oa oa (a3V gf gl gt al ga nd st)) (.s (.h' (a0w g l gf gl gt al ga nd st q) (.y 0 (bB (D7 l q.key)) bF (Yes.b hf) (.n4 (.s (.y 2 (bB (q.op == 1)) bF (Yes.b yf_) (.rn (.two (q.op == 4) (fun h1 h1'=>(.u2 (.y 6 (b1q q) bF (Yes.b (decide_eq_false (fun z=>h4 ⟨eq_of_beq (by assumption),z⟩))) (.rn (.ru (.g (.h' (M9 g l gf gl gt al ga nd st) (.q 6 b9m)))))))) (fun h1 h1'=>(.n2 (.rn (.ru (.g (.h' (M9 g l gf gl gt al ga nd st) (.q 6 b9m))))))))))))))))))
def d5v:Ann:={ refs:=[4],gha:=[(6,.any 6 9),(8,.any 6 9),(12,.any 6 9)],base:=6,fin:=some 6 }
theorem c7N (l:l9E) (g:Nat) (al:l9K) (ga:Nat) (gf gl gt nd:Int) (st:y9) (q:Msg) (now:Int) (hl:l.length < 1000) (ha:al.length < 100000) (hgt:0<=gt/\gt < 4611686018427387904) (h1:¬ q.op=1) (h4:¬ (q.op=4/\3 < q.status)) (hf:D7 l q.key=true) (hg:(q9 l q.key).card.gone=true):AC 64 [(j3 5),(p9 (Msg.row q)),(iI now)] (M9 g l gf gl gt al ga nd st) ((AV.tup [(sA 9 (mC ([]:l9C))),(iI 22)]),(M9 g l gf gl gt al ga nd st)) :=
 x9 (fn:=Tryz.f64) (ann:=d5v) (Has.o Tryz.func64) (.r (.s (.c 6 (get_at (r9 32) l q.key g l.length oa oa (a3V gf gl gt al ga nd st)) (.s (.h' (a0w g l gf gl gt al ga nd st q) (.y 0 (bB (D7 l q.key)) bT (Yes.b hf) (.u3 (.y 4 (bB (q9 l q.key).card.gone) bT (Yes.b hg) (.u (.s (.y 2 (bB (q.op == 1)) bF (Yes.b yf_) (.rn (.two (q.op == 4) (fun h1 h1'=>(.u2 (.y 6 (b1q q) bF (Yes.b (decide_eq_false (fun z=>h4 ⟨eq_of_beq (by assumption),z⟩))) (.rn (.ru (.g (.h' (M9 g l gf gl gt al ga nd st) (.q 6 b9m)))))))) (fun h1 h1'=>(.n2 (.rn (.ru (.g (.h' (M9 g l gf gl gt al ga nd st) (.q 6 b9m))))))))))))))))))))
structure TuR where
 c:List j4
 code:Int
 l:List Entry
 g:Nat
 al:List Key
 ga:Nat
 st:y9
 gt:Int
def a3X (l:List Entry) (g:Nat) (al:List Key) (ga:Nat) (gt:Int) (st:y9) (x:Entry):TuR:=⟨oG l x,K3 (r9 32) l x,J2 (r9 32) l x,J9 (r9 32) l x g,K9 l x al,Q9 l x ga,dN l x st,gt⟩
def tuR (l:List Entry) (g:Nat) (al:List Key) (ga:Nat) (gt nd:Int) (st:y9) (q:Msg) (now:Int):TuR :=
 if q.op=1 then ⟨a0V l q (L9 q (q9 l q.key) (D7 l q.key) st now nd),a0T l q (L9 q (q9 l q.key) (D7 l q.key) st now nd),uP l q (L9 q (q9 l q.key) (D7 l q.key) st now nd),uQ l q (L9 q (q9 l q.key) (D7 l q.key) st now nd) g,mJ l q (L9 q (q9 l q.key) (D7 l q.key) st now nd) al,mI l q (L9 q (q9 l q.key) (D7 l q.key) st now nd) ga,mD l q (L9 q (q9 l q.key) (D7 l q.key) st now nd) st,gt⟩
 else if q.op=4/\3 < q.status then ⟨[],1,l,g,al,ga,st,gt⟩
 else if D7 l q.key=true/\(q9 l q.key).card.gone=false then
  (if q.op=2 then ⟨[],K3 (r9 32) l (aA (q9 l q.key) now),J2 (r9 32) l (aA (q9 l q.key) now),J9 (r9 32) l (aA (q9 l q.key) now) g,al,ga,st,min (gt+1) 1048576⟩
   else if q.op=4 then a3X l g al ga gt st (aQ (q9 l q.key) q.status (E5 (maxS st (q9 l q.key).card.stamp) now nd)) else a3X l g al ga gt st (J3 (q9 l q.key) (E5 (maxS st (q9 l q.key).card.stamp) now nd) now))
 else ⟨[],22,l,g,al,ga,st,gt⟩
theorem c1I (l:l9E) (g:Nat) (al:l9K) (ga:Nat) (gf gl gt nd:Int) (st:y9) (q:Msg) (now:Int) (hl:l.length < 1000) (ha:al.length < 100000) (hgt:0<=gt/\gt < 4611686018427387904) (ho1:1<=q.op) (ho5:q.op < 5) (hs0:0<=q.status):AC 64 [(j3 5),(p9 (Msg.row q)),(iI now)] [(o_ 0 2 [[(iI (r9 32)),(d9 1 g 10 l.length)]]),(o_ g 10 (mE l)),(o_ 0 3 [[(iI gf),(iI gl),(iI gt)]]),(o_ 0 2 [[(iN (al.length)),(d9 4 ga 2 (l7 al).length)]]),(o_ ga 2 (mK (l7 al))),(o_ 0 7 [[(iI nd),(iI st.t),(iI st.node),(iI st.n),(j3 0),(j3 2),(j3 3)]])] ((AV.tup [(sA 9 (mC (tuR l g al ga gt nd st q now).c)),(iI (tuR l g al ga gt nd st q now).code)]),[(o_ 0 2 [[(iI (r9 32)),(d9 1 (tuR l g al ga gt nd st q now).g 10 (List.length (tuR l g al ga gt nd st q now).l))]]),(o_ ((tuR l g al ga gt nd st q now).g) 10 (mE (tuR l g al ga gt nd st q now).l)),(o_ 0 3 [[(iI gf),(iI gl),(iI (tuR l g al ga gt nd st q now).gt)]]),(o_ 0 2 [[(iN ((List.length (tuR l g al ga gt nd st q now).al))),(d9 4 (tuR l g al ga gt nd st q now).ga 2 (l7 (tuR l g al ga gt nd st q now).al).length)]]),(o_ ((tuR l g al ga gt nd st q now).ga) 2 (mK (l7 (tuR l g al ga gt nd st q now).al))),(o_ 0 7 [[(iI nd),(iI (tuR l g al ga gt nd st q now).st.t),(iI (tuR l g al ga gt nd st q now).st.node),(iI (tuR l g al ga gt nd st q now).st.n),(j3 0),(j3 2),(j3 3)]])]):=by
 unfold tuR a3X
 by_cases o1:q.op=1
 · rw [if_pos o1]
   exact c7S l g al ga gf gl gt nd st q now hl ha hgt o1
 rw [if_neg o1]
 by_cases o4:q.op=4/\3 < q.status
 · rw [if_pos o4]
   exact c1K l g al ga gf gl gt nd st q now hl ha hgt o4.1 o4.2
 rw [if_neg o4]
 by_cases lv:D7 l q.key=true/\(q9 l q.key).card.gone=false
 · rw [if_pos lv]
   by_cases o2:q.op=2
   · rw [if_pos o2]
     exact c7R l g al ga gf gl gt nd st q now hl ha hgt o2 lv.1 lv.2
   rw [if_neg o2]
   by_cases o3:q.op=4
   · rw [if_pos o3]
     exact c7O l g al ga gf gl gt nd st q now hl ha hgt o3 (Int.not_lt.1 fun z=>o4 ⟨o3,z⟩) hs0 lv.1 lv.2
   · rw [if_neg o3]
     exact c7Q l g al ga gf gl gt nd st q now hl ha hgt ow lv.1 lv.2
 · rw [if_neg lv]
   cases hf:D7 l q.key with
   | false=>exact c7M l g al ga gf gl gt nd st q now hl ha hgt o1 o4 hf
   | true=>exact c7N l g al ga gf gl gt nd st q now hl ha hgt o1 o4 hf (by
    rcases Bool.eq_false_or_eq_true (q9 l q.key).card.gone with z | z
    · exact z
    · exact absurd ⟨hf,z⟩ lv)
end Go.Proofs.YtmghjcbabebanaaGreat.AM
