/-
  Texts of this claim, part 4 of 8: an abstract machine over the model; what functions come to; plain laws.
-/
import Derived.Test.YtfjedpipdnlkfaaGreatMZ43
set_option linter.unusedVariables false
set_option linter.unusedSimpArgs false
namespace Go.Proofs.YtfjedpipdnlkfaaGreat.AM
open Go
def qD:Code->Nat->Option (Array Oper)
 | .region id ops _,r=>bif Nat.beq id r then some ops else none
 | .seq a b,r=>match qD a r with
  | some x=>some x
  | none=>qD b r
 | .cond _ a b,r=>match qD a r with
  | some x=>some x
  | none=>qD b r
 | .block _ c,r=>qD c r
 | .loop c,r=>qD c r
 | _,_=>none
def Y6 (fn:Func) (r i:Nat):Oper:=match (fn.body.bind (qD · r)).bind (·[i]?) with
 | some o=>o
 | none => ⟨none, .move (.tmp 0), 0, "", #[], none⟩
def X5 (o:Oper) (i:Nat):Operand:=match o.op with
 | .call c=>c.args.getD i (.tmp 0)
 | .slice _ x _ _ _=>x
 | _=>.tmp 0
def loO (o:Oper):Option Operand:=match o.op with
 | .slice _ _ lo _ _=>lo
 | _=>none
def hiO (o:Oper):Operand:=match o.op with
 | .slice _ _ _ (some hi) _=>hi
 | _=>.tmp 0
def mxO (o:Oper):Operand:=match o.op with
 | .slice _ _ _ _ (some m)=>m
 | _=>.tmp 0
section
variable {P:Program} {X:Env} {F:Fr} {H H2:Heap} {ar:Nat} {o:Oper} {a:AV}
theorem Sat.sem (hs:bH X o=true) (h:kP P F H o (a,H2)):Sat P X F H ar o a H2:=by
 unfold Sat
 rw [hs]
 exact .inl h
theorem dL {T:TT} (hT:TOk P T) {t e:TypeId} {ti:TI} (ht:T t=some ti) (hd:ti.d=.slice e):P.underlying t=some (.slice e):=by
 have:=(hT t ti ht).und
 rw [hd] at this
 exact this
theorem b1n {T:TT} (hT:TOk P T) {t:TypeId} {ti:TI} {k:IntKind} (ht:T t=some ti) (hd:ti.d=.int k):P.underlying t=some (.int k):=by
 have:=(hT t ti ht).und
 rw [hd] at this
 exact this
theorem a5j {v:Value} {a:AV} (h:iA v=some a):v.oneCell'=true:=by
 unfold iA at h
 split at h <;> first | rfl | simp at h
theorem lD:∀ {vs:List Value} {as_:List AV},Z0 vs=some as_->∀ v∈vs,v.oneCell'=true
 | [],_,_,v,hv=>by simp at hv
 | x :: xs,as_,h,v,hv=>by
  simp only [Z0] at h
  split at h
  · rename_i a l h1 h2
    simp only [List.mem_cons] at hv
    rcases hv with rfl | hv
    · exact a5j h1
    · exact lD h2 v hv
  · simp at h
theorem sG:∀ {vs:List Value} {as_:List AV},Z0 vs=some as_->vs.length=as_.length
 | [],as_,h=>by simp [Z0] at h; subst h; rfl
 | x :: xs,as_,h=>by
  simp only [Z0] at h
  split at h
  · rename_i a l h1 h2
    simp only [Option.some.injEq] at h
    subst h
    simp [sG h2]
  · simp at h
theorem a0N (hT:TOk P X.T) {t t' e0:TypeId} {ti te:TI} (hop:o.op=.call { callee:=.builtin .copy,args:=#[X5 o 0,X5 o 1],argTypes:=#[t,t'] }) (hsem:bH X o=true) (ht:X.T t=some ti) (htd:ti.d=.slice e0) (hte:X.T e0=some te)
 {id g k e n:Nat} {els new els':List (List AV)} {room:Option Nat} {s:AV} {c:Int} (hk:te.size=k) (hx:opv F (X5 o 0)=some (.osl id g k e n)) (ho:H[id]?=some ⟨g,k,els,room⟩) (hy:opv F (X5 o 1)=some s) (hs:F5 H k s=some new)
 (h0:0 < new.length) (hn:new.length<=n) (he:e<=els.length) (hels:els.take e++new++els.drop (e+new.length)=els') (hc:c=(new.length:Int)) (hH:H.set id ⟨g,k,els',room⟩=H2):Sat P X F H ar o (.int .i64 c) H2:=by
 refine Sat.sem hsem ?_
 subst hH hels hc hk
 obtain ⟨dst,op,type,pos,after,guard⟩:=o
 simp only at hop
 generalize X5 _ 0=x at hop hx
 generalize X5 _ 1=y at hop hy
 subst hop
 exact b7M (dL hT ht htd) (fun w=>(hT _ _ hte).sizeOf w) hx ho hy hs h0 hn he
theorem b7Y (hT:TOk P X.T) {t t' e0:TypeId} {ti te:TI} (hop:o.op=.call { callee:=.builtin .copy,args:=#[X5 o 0,X5 o 1],argTypes:=#[t,t'] }) (hsem:bH X o=true) (ht:X.T t=some ti) (htd:ti.d=.slice e0) (hte:X.T e0=some te)
 {id g k e n id2 g2 e2 n2:Nat} {els els2 els':List (List AV)} {room room2:Option Nat} {c:Int} (hk:te.size=k) (hx:opv F (X5 o 0)=some (.osl id g k e n)) (ho:H[id]?=some ⟨g,k,els,room⟩) (hy:opv F (X5 o 1)=some (.osl id2 g2 k e2 n2)) (ho2:H[id2]?=some ⟨g2,k,els2,room2⟩)
 (h0:0 < n) (hn:n<=n2) (he:e<=els.length) (he2:e2+n<=els2.length) (hels:els.take e++(els2.drop e2).take n++els.drop (e+n)=els') (hc:c=(n:Int)) (hH:H.set id ⟨g,k,els',room⟩=H2):Sat P X F H ar o (.int .i64 c) H2:=by
 refine Sat.sem hsem ?_
 subst hH hels hc hk
 obtain ⟨dst,op,type,pos,after,guard⟩:=o
 simp only at hop
 generalize X5 _ 0=x at hop hx
 generalize X5 _ 1=y at hop hy
 subst hop
 exact b2o (dL hT ht htd) (fun w=>(hT _ _ hte).sizeOf w) hx ho hy ho2 h0 hn he he2
theorem b1u (hT:TOk P X.T) {t e0:TypeId} {ti:TI} (hop:o.op=.call { callee:=.builtin .cap,args:=#[X5 o 0],argTypes:=#[t] }) (hsem:bH X o=true) (ht:X.T t=some ti) (htd:ti.d=.slice e0)
 {id g k e n r:Nat} {els:List (List AV)} {c:Int} (hx:opv F (X5 o 0)=some (.osl id g k e n)) (ho:H[id]?=some ⟨g,k,els,some r⟩) (hc:c=((r - e:Nat):Int)):Sat P X F H ar o (.int .i64 c) H:=by
 refine Sat.sem hsem ?_
 subst hc
 obtain ⟨dst,op,type,pos,after,guard⟩:=o
 simp only at hop
 generalize X5 _ 0=x at hop hx
 subst hop
 exact c1H (dL hT ht htd) hx ho
theorem b7Z (hT:TOk P X.T) {t e0:TypeId} {ti te:TI} (hop:o.op=.call { callee:=.builtin .clear,args:=#[X5 o 0],argTypes:=#[t] }) (hsem:bH X o=true) (ht:X.T t=some ti) (htd:ti.d=.slice e0) (hte:X.T e0=some te)
 {id g k e n:Nat} {els els':List (List AV)} {room:Option Nat} (hk:te.size=k) (hk0:0 < k) (hx:opv F (X5 o 0)=some (.osl id g k e n)) (ho:H[id]?=some ⟨g,k,els,room⟩)
 (h0:0 < n) (he:e<=els.length) (hels:els.take e++List.replicate n (List.replicate k .unk)++els.drop (e+n)=els') (hH:H.set id ⟨g,k,els',room⟩=H2):Sat P X F H ar o .unk H2:=by
 refine Sat.sem hsem ?_
 subst hH hels hk
 obtain ⟨dst,op,type,pos,after,guard⟩:=o
 simp only at hop
 generalize X5 _ 0=x at hop hx
 subst hop
 obtain ⟨i,hi,hsz,hby,z,hz,hzs,hzl,hza⟩:=(hT _ _ hte).info
 refine b2p (dL hT ht htd) (z:=z) (fun w=>by simp [zeroValue,typeInfo,hi,hz]) (by have:=sG hzs; simp at this; omega) (lD hzs) hk0 hx ho h0 he
theorem b7X (hT:TOk P X.T) {t e0:TypeId} {ti te:TI} (hop:o.op=.slice t (X5 o 0) (loO o) (some (hiO o)) none) (hsem:bH X o=true) (ht:X.T t=some ti) (htd:ti.d=.slice e0) (hte:X.T e0=some te)
 {id g k e n r l h e' n':Nat} {els:List (List AV)} (hk:te.size=k) (hx:opv F (X5 o 0)=some (.osl id g k e n)) (ho:H[id]?=some ⟨g,k,els,some r⟩) (hlo:J5 F (loO o) 0=some (l:Int)) (hhi:J5 F (some (hiO o)) 0=some (h:Int)) (h1:l<=h) (h2:e+h<=r) (he':e'=e+l) (hn':n'=h - l) :
 Sat P X F H ar o (.osl id g k e' n') H:=by
 refine Sat.sem hsem ?_
 subst hk he' hn'
 obtain ⟨dst,op,type,pos,after,guard⟩:=o
 simp only at hop
 generalize X5 _ 0=x at hop hx
 generalize loO _=lo at hop hlo
 generalize hiO _=hi at hop hhi
 subst hop
 exact b2n (dL hT ht htd) (fun w=>(hT _ _ hte).sizeOf w) hx ho hlo hhi h1 h2
theorem b2E (hT:TOk P X.T) {t e0:TypeId} {ti te:TI} (hop:o.op=.slice t (X5 o 0) (loO o) (some (hiO o)) none) (hsem:bH X o=true) (ht:X.T t=some ti) (htd:ti.d=.slice e0) (hte:X.T e0=some te)
 {id g k e n l h e' n':Nat} {els:List (List AV)} {room:Option Nat} (hk:te.size=k) (hx:opv F (X5 o 0)=some (.osl id g k e n)) (ho:H[id]?=some ⟨g,k,els,room⟩) (hlo:J5 F (loO o) 0=some (l:Int)) (hhi:J5 F (some (hiO o)) 0=some (h:Int)) (h1:l<=h) (h2:e+h<=els.length) (he':e'=e+l) (hn':n'=h - l) :
 Sat P X F H ar o (.osl id g k e' n') H:=by
 refine Sat.sem hsem ?_
 subst hk he' hn'
 obtain ⟨dst,op,type,pos,after,guard⟩:=o
 simp only at hop
 generalize X5 _ 0=x at hop hx
 generalize loO _=lo at hop hlo
 generalize hiO _=hi at hop hhi
 subst hop
 exact a9B (dL hT ht htd) (fun w=>(hT _ _ hte).sizeOf w) hx ho hlo hhi h1 h2
theorem b2F (hT:TOk P X.T) {t e0:TypeId} {ti te:TI} (hop:o.op=.slice t (X5 o 0) (loO o) (some (hiO o)) (some (mxO o))) (hsem:bH X o=true) (ht:X.T t=some ti) (htd:ti.d=.slice e0) (hte:X.T e0=some te)
 {id g k e n l h c:Nat} (hk:te.size=k) (hx:opv F (X5 o 0)=some (.osl id g k e n)) (hlo:J5 F (loO o) 0=some (l:Int)) (hhi:J5 F (some (hiO o)) 0=some (h:Int)) (hmx:J5 F (some (mxO o)) 0=some (c:Int)) (h1:l<=h) (h2:h<=c) (h3:c<=n) :
 Sat P X F H ar o .unk H:=by
 refine Sat.sem hsem ?_
 subst hk
 obtain ⟨dst,op,type,pos,after,guard⟩:=o
 simp only at hop
 generalize X5 _ 0=x at hop hx
 generalize loO _=lo at hop hlo
 generalize hiO _=hi at hop hhi
 generalize mxO _=mx at hop hmx
 subst hop
 exact a9C (dL hT ht htd) (fun w=>(hT _ _ hte).sizeOf w) hx hlo hhi hmx h1 h2 h3
theorem c1M (hT:TOk P X.T) {t t' e0:TypeId} {ti ti' te:TI} {kk kx:IntKind} (hop:o.op=.call { callee:=.builtin .append,args:=#[X5 o 0,X5 o 1],argTypes:=#[t,t'] }) (hsem:bH X o=true) (ht:X.T t=some ti) (htd:ti.d=.slice e0) (hte:X.T e0=some te) (ht':X.T t'=some ti') (htd':ti'.d=.int kk)
 {id g k e n n' r c:Nat} {els ys els':List (List AV)} (hk:te.size=k) (hx:opv F (X5 o 0)=some (.osl id g k e n)) (ho:H[id]?=some ⟨g,k,els,some r⟩) (hrows:F5 H k (.osl id g k e n)=some ys) (hlen:ys.length=n) (hy:opv F (X5 o 1)=some (.int kx (c:Int)))
 (hg:r - e < n+c) (hb:0 < te.bytes) (hs:0 < k) (hc:0 < c) (hby:(n+c) * te.bytes<=140737488355328) (hels:ys++List.replicate c (List.replicate k .unk)=els') (hn':n'=n+c) (hH:H++[⟨0,k,els',none⟩]=H2) :
 Sat P X F H ar o (.osl H.length 0 k 0 n') H2:=by
 refine Sat.sem hsem ?_
 subst hk hels hH hn'
 obtain ⟨dst,op,type,pos,after,guard⟩:=o
 simp only at hop
 generalize X5 _ 0=x at hop hx
 generalize X5 _ 1=y at hop hy
 subst hop
 obtain ⟨i,hi,hsz,hbt,z,hz,hzs,hzl,hza⟩:=(hT _ _ hte).info
 rw [<- hsz] at hx ho hrows hs ⊢
 rw [<- hbt] at hb hby
 exact b7L (dL hT ht htd) (b1n hT ht' htd') hi hz (by have:=sG hzs; simp at this; omega) (lD hzs) hx ho hrows hlen hy hg hb hs hc hby
end
theorem a5r {T:TT} {H H2:Heap} {t e0:TypeId} {ti te:TI} {id g k i j m n':Nat} {els els':List (List AV)} (ht:T t=some ti) (htd:ti.d=.slice e0) (hte:T e0=some te) (hk:te.size=k) (hk0:0 < k) (ho:H[id]?=some ⟨g,k,els,none⟩) (hij:i < j) (hj:j+m<=els.length)
 (hels:els.take i++(els.drop j).take m++els.drop (i+m)=els') (hn:n'=i+m) (hH:H.set id ⟨g,k,els',none⟩=H2):aN T H t (.osl id g k 0 i) (.osl id g k j m)=some (.osl id g k 0 n',H2):=by
 obtain ⟨d,sz,bt,z⟩:=ti
 simp only at htd
 subst htd hk hn hels hH
 have hlt:id < H.length:=pV ho
 have hnl:((els.drop j).take m).length=m:=by simp; omega
 unfold aN
 simp only [ht,hte,F5,ho,true_and,if_pos hj]
 cases hnew:(els.drop j).take m with
 | nil =>
  simp only
  have hm:m=0:=by rw [hnew] at hnl; simpa using hnl.symm
  subst hm
  have hs:H.set id ⟨g,te.size,els,none⟩=H:=by
   apply List.ext_getElem?
   intro q
   by_cases hq:id=q
   · subst hq; rw [List.getElem?_set_self hlt,ho]
   · rw [List.getElem?_set_ne hq]
  simp [hs]
 | cons x xs =>
  rw [hnew] at hnl
  have h1:¬ (0+i=els.length):=by omega
  have h2:0+i+(x :: xs).length<=els.length:=by omega
  simp only [hk0,and_self,if_true,if_neg h1,if_pos h2,hnl,Nat.zero_add]
  simp only [Nat.zero_add] at h1 h2
  rw [hnl] at h2
  simp [h1,h2]
section
variable {α:Type} (row:α->List AV) (x:α) (u:List AV)
theorem d2F (l:List α) {i c:Nat} (hi:i<=l.length) (hc:0 < c):((l.take i).map row++List.replicate c u).take i++[row x]++((l.take i).map row++List.replicate c u).drop (i+1)=(l.take i++[x]).map row++List.replicate (c - 1) u:=by
 have hl:((l.take i).map row).length=i:=by simp; omega
 rw [List.take_append_of_le_length ya_,List.take_of_length_le ya_,List.drop_append,hl,List.drop_of_length_le ya_]
 simp
theorem d2E (l:List α) {i c:Nat} (hi:i<=l.length) (hc:c=l.length - i):((l.take i++[x]).map row++List.replicate c u).take (i+1)++(l.drop i).map row++((l.take i++[x]).map row++List.replicate c u).drop (i+1+((l.drop i).map row).length)=(l.take i++x :: l.drop i).map row:=by
 have hl:((l.take i++[x]).map row).length=i+1:=by simp; omega
 have h2:((l.take i++[x]).map row++List.replicate c u).drop (i+1+((l.drop i).map row).length)=[]:=List.drop_of_length_le (by rw [List.length_append,hl,List.length_replicate,List.length_map,List.length_drop]; omega)
 rw [h2,List.take_append_of_le_length ya_,List.take_of_length_le ya_]
 simp
theorem d2D (l:List α) {i:Nat} (hi:i < l.length):(l.map row).take (i+1)++((l.map row).drop i).take (l.length - i)++(l.map row).drop (i+1+(l.length - i))=(l.take (i+1)++l.drop i).map row:=by
 rw [List.take_of_length_le (l:=(l.map row).drop i) yf_,List.drop_of_length_le (i:=i+1+(l.length - i)) yh_]
 simp [List.map_take,List.map_drop]
theorem d2C (l:List α) {i:Nat} (hi:i < l.length):((l.take (i+1)++l.drop i).map row).take i++[row x]++((l.take (i+1)++l.drop i).map row).drop (i+1)=(l.take i++x :: l.drop i).map row:=by
 have hl:(l.take (i+1)).length=i+1:=by simp; omega
 rw [<- List.map_take,<- List.map_drop,List.take_append_of_le_length ya_,List.take_take,List.drop_append,hl,List.drop_of_length_le ya_]
 simp
theorem d2P (l:List α) {i:Nat} (hi:i < l.length):(l.map row).take i++((l.map row).drop (i+1)).take (l.length - (i+1))++(l.map row).drop (i+(l.length - (i+1)))=(l.take i++l.drop (i+1)++l.drop (l.length - 1)).map row:=by
 rw [List.take_of_length_le (l:=(l.map row).drop (i+1)) yf_,show i+(l.length - (i+1))=l.length - 1 by omega]
 simp [List.map_take,List.map_drop]
theorem d2O (l:List α) {i:Nat} (hi:i < l.length):((l.take i++l.drop (i+1)++l.drop (l.length - 1)).map row).take (l.length - 1)++List.replicate 1 u++((l.take i++l.drop (i+1)++l.drop (l.length - 1)).map row).drop (l.length - 1+1)=(l.take i++l.drop (i+1)).map row++[u]:=by
 have hl:((l.take i++l.drop (i+1)).map row).length=l.length - 1:=by simp; omega
 have h2:((l.take i++l.drop (i+1)++l.drop (l.length - 1)).map row).drop (l.length - 1+1)=[]:=List.drop_of_length_le (by rw [List.map_append,List.length_append,hl,List.length_map,List.length_drop]; omega)
 rw [h2,List.map_append,List.take_append_of_le_length ya_,List.take_of_length_le ya_]
 simp [List.replicate]
end
theorem l6.insert {P:Program} {f:FuncId} {α:Type} {row:α->List AV} {k:Nat} (hrow:∀ (n:Nat) (l:List α),AV.D5 n (l.map row)=true) {l:List α} {x:α} {g i:Nat} (hi:i<=l.length)
 (hE:l6 P f [.osl 0 g k 0 l.length,.int .i64 (l.length:Int),.sl .clip k [row x]] [⟨g,k,l.map row,none⟩] (.osl 0 (g+1) k 0 (l.length+1),[⟨g+1,k,(l++[x]).map row,none⟩]))
 (hG:i < l.length->∀ r,r < l.length+1->l6 P f [.osl 0 g k 0 l.length,.int .i64 (i:Int),.sl .clip k [row x]] [⟨g,k,l.map row,some r⟩] (.osl 1 0 k 0 (l.length+1),[⟨g,k,l.map row,some r⟩,⟨0,k,(l.take i++x :: l.drop i).map row,none⟩]))
 (hR:i < l.length->∀ r,l.length+1<=r->l6 P f [.osl 0 g k 0 l.length,.int .i64 (i:Int),.sl .clip k [row x]] [⟨g,k,l.map row,some r⟩] (.osl 0 g k 0 (l.length+1),[⟨g,k,(l.take i++x :: l.drop i).map row,some r⟩])) :
 l6 P f [.osl 0 g k 0 l.length,.int .i64 (i:Int),.sl .clip k [row x]] [⟨g,k,l.map row,none⟩] (.osl 0 (g+1) k 0 (l.length+1),[⟨g+1,k,(l.take i++x :: l.drop i).map row,none⟩]):=by
 by_cases hil:i=l.length
 · subst hil
   rw [List.take_length,List.drop_length]
   exact hE
 have hlt:i < l.length:=by omega
 refine l6.room (id:=0) (i:=0) (g:=g) (k:=k) (e:=0) (n:=l.length) (els:=l.map row) rfl rfl fun r hr=>?_
 show l6 P f _ [⟨g,k,l.map row,some r⟩] _
 have hlen:(l.take i++x :: l.drop i).length=l.length+1:=by simp; omega
 rcases Nat.lt_or_ge r (l.length+1) with h | h
 · have h1:=(hG hlt r h).ghost (i:=0) (id:=0) (g:=g) (x:=.osl 0 g k 0 l.length) (a':=.osl 0 (g+1) k 0 (l.length+1)) (H2:=[⟨g+1,k,(l.take i++x :: l.drop i).map row,none⟩]++[⟨1,k,[],none⟩]) rfl (.inr ⟨_,_,_,rfl⟩) rfl rfl rfl rfl
    fun G w C v hH hv hl=>a0r (id:=0) (j:=1) (g:=g) (gj:=0) hH z8 rfl rfl rfl rfl hv hl
   refine h1.forget rfl rfl fun id o ho=>.inr ?_
   cases id with
   | zero =>
    simp only [List.getElem?_cons_zero,Option.some.injEq] at ho
    subst ho
    exact hrow _ _
   | succ id=>simp at ho
 · have h1:=(hR hlt r h).a7F (a':=.osl 0 (g+1) k 0 (l.length+1)) (H2:=[⟨g+1,k,(l.take i++x :: l.drop i).map row,some r⟩]) fun G w C v hH hv=>by
    obtain ⟨C',q⟩:=a4G hH hv (o:=⟨g,k,(l.take i++x :: l.drop i).map row,some r⟩) rfl rfl (Nat.le_succ g)
    exact ⟨G,C',q⟩
   have h2:=h1.shrink (m:=l.length+1) rfl
   have e:((l.take i++x :: l.drop i).map row).take (l.length+1)=(l.take i++x :: l.drop i).map row:=List.take_of_length_le (by rw [List.length_map]; omega)
   rw [e] at h2
   exact h2
theorem l6.delete {P:Program} {f:FuncId} {args:List AV} {H:Heap} {g k n:Nat} {els els':List (List AV)} (h:l6 P f args H (.osl 0 g k 0 n,[⟨g,k,els,none⟩])) (he:els.take n=els'):l6 P f args H (.osl 0 g k 0 n,[⟨g,k,els',none⟩]):=by
 have:=h.shrink (m:=n) rfl
 rw [he] at this
 exact this
def AV.xP (els:List (List AV)):Bool:=els.all fun r=>r.all AV.scal
theorem b2D {els:List (List AV)} (h:AV.xP els=true) {i j:Nat} (hi:i < els.length) (hj:j < (els.getD i []).length):((els.getD i []).getD j .skip).scal=true:=by
 have h1:els.getD i []∈els:=by
  rw [List.getD_eq_getElem?_getD,List.getElem?_eq_getElem hi]; exact List.getElem_mem _
 have h3:=List.all_eq_true.1 h _ h1
 generalize els.getD i []=r at hj h3 ⊢
 have h2:r.getD j .skip∈r:=by
  rw [List.getD_eq_getElem?_getD,List.getElem?_eq_getElem hj]; exact List.getElem_mem _
 exact List.all_eq_true.1 h3 _ h2
theorem a1M {α:Type} {row:α->List AV} (h:∀ x,(row x).all AV.scal=true) (l:List α):AV.xP (l.map row)=true:=by
 unfold AV.xP
 rw [List.all_eq_true]
 intro r hr
 obtain ⟨x,_,rfl⟩:=List.mem_map.1 hr
 exact h x
theorem l6.a2z {P:Program} {f:FuncId} {args args':List AV} {g k n:Nat} {o:Ob} (h:l6 P f args [] (.osl 0 g k 0 n,[o])) (ho:AV.xP o.els=true) {H:Heap} (hb:Brs H args' args):l6 P f args' H (.osl H.length g k 0 n,H++[o]):=by
 intro G w C vs hsz hargs hH
 obtain ⟨hlen,hbr⟩:=Brs.get hb
 have key:∀ i,i < args.length->VR (fun b=>G b\/∃ id l,C.ι id=some l/\l.b=some b) w Cx.none (args.getD i .skip) (vs.getD i undef):=by
  intro i hi
  have hv:=hargs i ya_
  rcases hbr i hi with ⟨e,h0⟩ | ⟨id,g,k,e,n,rows,h1,h2,h3,h4⟩
  · rw [e] at hv
    have:=hv.cut 0 h0
    rw [qL] at this
    exact this.mono (fun b hb=>.inl hb) (fun _ _=>rfl) (V3.refl _)
  · rw [h1] at hv
    rw [h2]
    obtain ⟨G',C',e1,e2,e3,_⟩:=eZ hH hv h3 h4
    have:=e3.cut 0 rfl
    rw [qL] at this
    refine this.mono (fun b hb=>?_) (fun _ _=>rfl) (V3.refl _)
    rcases e1.grow b hb with h5 | h5 | h5
    · exact .inl h5
    · exact .inr h5
    · have:=e2.gsz b hb; omega
 refine (h _ w Cx.none vs ya_ key
  ⟨fun id o ho=>by simp at ho,fun id _=>⟨rfl,rfl⟩,fun id l b hl=>by simp [Cx.none] at hl,fun i j l l' b hl=>by simp [Cx.none] at hl,fun id o l ho=>by simp at ho,
   fun b hb=>hb.elim (hH.gsz b) fun ⟨id,l,h1,h2⟩=>(hH.own id l b h1 h2).1⟩).mono fun v w' ⟨G2,C2,he,hh,hv,hp⟩=>?_
 have hall:∀ b,b < w.heap.size->w'.heap[b]?=w.heap[b]?:=fun b hb=>he.rest b hb fun id l hl=>by simp [Cx.none] at hl
 obtain ⟨hγn,hιn⟩:=hH.out H.length (Nat.le_refl _)
 have hnew:∀ l b,C2.ι 0=some l->l.b=some b->w.heap.size<=b:=fun l b hl hb=>by
  rcases he.own 0 l b hl hb with ⟨j,m,hm,_⟩ | h1
  · simp [Cx.none] at hm
  · exact h1
 have hC1:(C.lay H.length (C2.ι 0) (C2.γ 0)).ι H.length=C2.ι 0:=Cx.P8 ..
 have hC2:(C.lay H.length (C2.ι 0) (C2.γ 0)).γ H.length=C2.γ 0:=Cx.aB ..
 have hC3:∀ j,j≠H.length->(C.lay H.length (C2.ι 0) (C2.γ 0)).ι j=C.ι j/\(C.lay H.length (C2.ι 0) (C2.γ 0)).γ j=C.γ j:=fun j hj=>Cx.J9 _ _ _ _ hj
 generalize C.lay H.length (C2.ι 0) (C2.γ 0)=C' at hC1 hC2 hC3
 have hcx:V3 C C':=fun j=>by
  by_cases hj:j=H.length
  · subst hj; rw [hC2,hγn,hC1,hιn]; exact ⟨Nat.zero_le _,fun _ l hl=>by simp at hl⟩
  · rw [(hC3 j hj).1,(hC3 j hj).2]; exact ⟨Nat.le_refl _,fun _ l hl=>hl⟩
 have hev:Ev G w C G w' C':=⟨he.os,he.tape,he.output,he.size,fun _ h=>h,fun b hb=>hall b (hH.gsz b hb),hcx,fun b hb _=>hall b hb,fun _ h=>.inl h,fun id l b h1 h2=>by
  by_cases hj:id=H.length
  · subst hj; rw [hC1] at h1; exact .inr (hnew l b h1 h2)
  · rw [(hC3 id hj).1] at h1; exact .inl ⟨id,l,h1,h2⟩,he.frz⟩
 have hget:∀ (j:Nat) (oj:Ob),(H++[o])[j]?=some oj->(j < H.length/\H[j]?=some oj)\/(j=H.length/\oj=o):=fun j oj hj=>by
  rcases Nat.lt_or_ge j H.length with h' | h'
  · rw [List.getElem?_append_left h'] at hj; exact .inl ⟨h',hj⟩
  · have:=pV hj
    simp at this
    obtain rfl:j=H.length:=by omega
    simp at hj
    exact .inr ⟨rfl,hj.symm⟩
 refine ⟨G,C',hev,⟨fun j oj hj=>?_,fun j hj=>?_,fun j l b hl hlb=>?_,fun i j l l' b hi hj hb hb'=>?_,fun j oj l hj hl=>?_,fun b hb=>Nat.lt_of_lt_of_le (hH.gsz b hb) he.size⟩,?_,by simp,fun j hj _ hιj=>?_⟩
 · rcases hget j oj hj with ⟨h1,h2⟩ | ⟨rfl,rfl⟩
   · rw [(hC3 j ya_).2]; exact hH.gen j oj h2
   · rw [hC2]; exact hh.gen 0 oj rfl
 · simp only [List.length_append,List.length_singleton] at hj
   rw [(hC3 j ya_).1,(hC3 j ya_).2]; exact hH.out j ya_
 · by_cases hj:j=H.length
   · subst hj; rw [hC1] at hl
     obtain ⟨q1,q2⟩:=hh.own 0 l b hl hlb
     exact ⟨q1,fun hg=>q2 (he.lock b (.inl hg))⟩
   · rw [(hC3 j hj).1] at hl
     obtain ⟨q1,q2⟩:=hH.own j l b hl hlb
     exact ⟨Nat.lt_of_lt_of_le q1 he.size,q2⟩
 · by_cases h1:i=H.length <;> by_cases h2:j=H.length
   · omega
   · subst h1; rw [hC1] at hi; rw [(hC3 j h2).1] at hj
     have:=hnew l b hi hb; have:=(hH.own j l' b hj hb').1; omega
   · subst h2; rw [hC1] at hj; rw [(hC3 i h1).1] at hi
     have:=hnew l' b hj hb'; have:=(hH.own i l b hi hb).1; omega
   · rw [(hC3 i h1).1] at hi; rw [(hC3 j h2).1] at hj
     exact hH.inj i j l l' b hi hj hb hb'
 · rcases hget j oj hj with ⟨h1,h2⟩ | ⟨rfl,rfl⟩
   · rw [(hC3 j ya_).1] at hl
     exact (hH.ob j oj l h2 hl).ev hev fun b hb=>hall b (hH.own j l b hl hb).1
   · rw [hC1] at hl
     have hob:=hh.ob 0 oj l rfl hl
     refine ⟨hob.k,hob.rm,hob.no,hob.len,hob.row,fun b hb=>?_⟩
     obtain ⟨cs,et,q1,q2,q3⟩:=hob.cells b hb
     exact ⟨cs,et,q1,q2,fun i j hi hj=>⟨(q3 i j hi hj).1,(q3 i j hi hj).2.scal (b2D ho hi (by rw [hob.row i hi]; exact hj))⟩⟩
 · cases hv with
   | osl _ _ _ _ _ _ ad cap hnc hle hl =>
    refine .osl _ _ _ _ _ _ _ _ hnc (by rw [hC2]; exact hle) fun hg=>?_
    rw [hC2] at hg
    rw [hC1]
    exact hl hg
   | osl0 _ _ _ _ _ base hle hl =>
    refine .osl0 _ _ _ _ _ _ (by rw [hC2]; exact hle) fun hg=>?_
    rw [hC2] at hg
    rw [hC1]
    exact hl hg
 · rw [(hC3 j ya_).1,(hC3 j ya_).2,List.getElem?_append_left hj]
   exact ⟨hιj,rfl,rfl⟩
theorem l6.a1e {P:Program} {f:FuncId} {args:List AV} {r a:AV} {o0:Ob} {k g2 n:Nat} {els els':List (List AV)} (h:l6 P f args [o0] (r,[⟨0,2,[[a,.osl 1 g2 k 0 n]],none⟩,⟨g2,k,els,none⟩])) (h0:args[0]?=some (.obj 0 0 0 0)) (hg0:o0.gen=0)
 (hn:n=els.length) (hb:AV.D5 0 els=true) (ha:AV.bdd 1 a=true) (hr:r.bdd 1=true) (he:els=els'):l6 P f args [o0] (r,[⟨0,2,[[a,.sl .any k els']],none⟩]):=by
 subst he
 have h1:=h.ghost (i:=0) (id:=0) (g:=0) (x:=.obj 0 0 0 0) (o:=o0) (a':=r) (H2:=[⟨0,2,[[a,.sl .any k els]],none⟩]++[⟨g2+1,k,[],none⟩]) h0 (.inl ⟨_,_,rfl⟩) rfl hg0 rfl rfl
  fun G w C v hH hv hl=>uK (id:=0) (e:=0) (c:=1) (id2:=1) (g2:=g2) (k:=k) (e2:=0) (n2:=n) (xs:=els) (o:=⟨0,2,[[a,.osl 1 g2 k 0 n]],none⟩) hH rfl z8 yf_ yf_ rfl (by simp [F5,hn]) hb hv hl
 refine h1.forget rfl hr fun id o ho=>.inr ?_
 cases id with
 | zero =>
  simp only [List.getElem?_cons_zero,Option.some.injEq] at ho
  subst ho
  simp [AV.D5,AV.bdds,ha,AV.bdd]
 | succ id=>simp at ho
theorem l6.a6c {P:Program} {f:FuncId} {args:List AV} {a:AV} {k k0:Nat} (h:l6 P f args [] (.obj 0 0 0 0,[⟨0,2,[[a,.sl .nil k0 []]],none⟩])):l6 P f args [] (.obj 0 0 0 0,[⟨0,2,[[a,.osl 1 0 k 0 0]],none⟩,⟨0,k,[],none⟩]) :=
 h.a7F fun G w C v hH hv=>kU (id:=0) (e:=0) (c:=1) (k0:=k0) (o:=⟨0,2,[[a,.sl .nil k0 []]],none⟩) hH k rfl yf_ yf_ rfl hv (VR.shows hv (id:=0) (g:=0) (.inl ⟨_,_,rfl⟩) (by simpa using hH.gen 0 _ rfl))
theorem l6.c7I {P:Program} {f:FuncId} {args:List AV} {a x y:AV} (h:l6 P f args [] (.obj 0 0 0 0,[⟨0,2,[[a,x]],none⟩])) (hw:AV.wk x y):l6 P f args [] (.obj 0 0 0 0,[⟨0,2,[[a,y]],none⟩]) :=
 h.a7F fun G w C v hH hv=>nR (id:=0) (e:=0) (c:=1) (o:=⟨0,2,[[a,x]],none⟩) hH rfl yf_ yf_ hw hv (VR.shows hv (id:=0) (g:=0) (.inl ⟨_,_,rfl⟩) (by simpa using hH.gen 0 _ rfl))
def b5v (o:Oper):Operand:=match o.op with
 | .convert _ _ x=>x
 | _=>.tmp 0
theorem a6y {P:Program} {X:Env} {F:Fr} {H:Heap} {ar:Nat} {o:Oper} (hT:TOk P X.T) {src dst':TypeId} {ts td:TI} {k:IntKind} {n:Int} (hop:o.op=.convert src dst' (b5v o)) (hsem:bH X o=true) (hs:X.T src=some ts) (hsd:ts.d=.int k) (hd:X.T dst'=some td) (hdd:td.d=.string)
 (hx:opv F (b5v o)=some (.int k n)):Sat P X F H ar o (.str (Utf8.encode n)) H:=by
 refine Sat.sem hsem ?_
 obtain ⟨dst,op,type,pos,after,guard⟩:=o
 simp only at hop
 generalize b5v _=x at hop hx
 subst hop
 intro G w C f hf hH
 have hv:=hf x yp_ _ hx
 generalize hu:f x=u at hv
 cases hv
 have h1:=b1n hT hs hsd
 have h2:P.underlying dst'=some .string:=by
  have:=(hT _ _ hd).und
  rw [hdd] at this
  exact this
 have hr:(Go.convert src dst' (f x)).run P w=.ok (.string (Utf8.encode n)) w:=by
  rw [hu]
  simp [Go.convert,run_underlying h1,run_underlying h2,Conv.intToString]
 exact ⟨_,w,by simp [execOp,hr],G,C,Ev.refl ..,hH,.str ..,Pd.refl⟩
section
variable {G:Nat->Prop} {w:World} {C:Cx} {H:Heap}
end
theorem l6.c8m {P:Program} {f:FuncId} {k n e g m:Nat} {els ys:List (List AV)} (h:l6 P f [.sl .any k ys] [] (.osl 0 0 k 0 m,[⟨0,k,ys,none⟩])) (hs:AV.xP ys=true) (hy:AV.D5 1 ys=true)
 (hb:Brs [⟨g,k,els,none⟩] [.osl 0 g k e n] [.sl .any k ys]):l6 P f [.osl 0 g k e n] [⟨g,k,els,none⟩] (.osl 0 (g+1) k 0 m,[⟨g+1,k,ys,none⟩]):=by
 have h0:=h.a2z hs hb
 have h1:=h0.ghost (i:=0) (id:=0) (g:=g) (x:=.osl 0 g k e n) (a':=.osl 0 (g+1) k 0 m) (H2:=[⟨g+1,k,ys,none⟩]++[⟨1,k,[],none⟩]) rfl (.inr ⟨_,_,_,rfl⟩) rfl rfl rfl rfl
  fun G w C v hH hv hl=>a0r (id:=0) (j:=1) (g:=g) (gj:=0) hH z8 rfl rfl rfl rfl hv hl
 refine h1.forget rfl rfl fun id o ho=>.inr ?_
 cases id with
 | zero =>
  simp only [List.getElem?_cons_zero,Option.some.injEq] at ho
  subst ho
  exact hy
 | succ id=>simp at ho
theorem E9.mko {id g k n e0:Nat} {i:Int} {j:Nat} (m:Nat) (H:Heap) (hi:i=(m:Int)) (hj:m < n) (he:j=e0+m):E9 id g k k e0 n i H j:=by
 subst hi he
 have:(m:Int) < (n:Int):=by omega
 simp [E9,this]
def ixX (o:Oper):Operand:=match o.op with
 | .index _ x _=>x
 | _=>.tmp 0
def ixN (o:Oper):Operand:=match o.op with
 | .index _ _ i=>i
 | _=>.tmp 0
theorem c7X {s:ByteArray} {i:Nat} (h:i < s.size):∃ b:UInt8,s[i]?=some b/\nth (D9 s) i=(b.toNat:Int):=by
 refine ⟨s[i],by simp [h],?_⟩
 have h2:i < s.data.toList.length:=by simpa using h
 unfold D9 nth
 rw [List.getD_eq_getElem?_getD,List.getElem?_map,List.getElem?_eq_getElem h2]
 rfl
theorem gY {P:Program} {X:Env} {F:Fr} {H:Heap} {ar:Nat} {o:Oper} (hT:TOk P X.T) {xt:TypeId} {ts:TI} {s:ByteArray} {i:Int} {n:Nat} (hop:o.op=.index xt (ixX o) (ixN o)) (hsem:bH X o=true) (hs:X.T xt=some ts) (hsd:ts.d=.string)
 (hx:opv F (ixX o)=some (.str s)) (hi:opv F (ixN o)=some (.int .i64 i)) (hn:i=(n:Int)) (hlt:n < s.size):Sat P X F H ar o (.int .u8 (nth (D9 s) n)) H:=by
 refine Sat.sem hsem ?_
 obtain ⟨dst,op,type,pos,after,guard⟩:=o
 simp only at hop
 generalize ixX _=x at hop hx
 generalize ixN _=y at hop hi
 subst hop hn
 intro G w C f hf hH
 have hv:=hf x yp_ _ hx
 have hv2:=hf y yp_ _ hi
 generalize hu:f x=u at hv
 generalize hu2:f y=u2 at hv2
 cases hv
 cases hv2
 have h2:P.underlying xt=some .string:=by
  have:=(hT _ _ hs).und
  rw [hsd] at this
  exact this
 obtain ⟨b,hb,hnb⟩:=c7X hlt
 have hr:(Instr.index xt (f x) (f y)).run P w=.ok (.int .u8 b.toNat) w:=by
  rw [hu,hu2]
  simp [Instr.index,asIntOf,run_underlying h2,hb]
 rw [hnb]
 exact ⟨_,w,by simp [execOp,hr],G,C,Ev.refl ..,hH,.int ..,Pd.refl⟩
set_option maxRecDepth 100000
open Go.Proofs.YtfjedpipdnlkfaaGreat
attribute [local irreducible] E8 J4 j6 l6 l9
def stR (s:l8):Bool:=decide (0<=s.t)&&(decide (0<=s.n)&&(decide (0<=s.node)&&decide (s.node < 6)))
def a9z:Ann:={ refs:=[1],fin:=some 0 }
theorem b2c {p:Prop} (h:p:=by simp only [stR]; simp_all <;> omega):p:=h
theorem xJ (s:l8) :AC 170 [(AV.agg (l8.row s))] [] ((bB (stR s)),[]) :=
 o9 (fn:=Tryz.f170) (ann:=a9z) (Has.o Tryz.func170) (.r (.s (.two (decide (s.t >= 0)) (fun h1 h1'=>(.u2 (.two (decide (s.n >= 0)) (fun h2 h2'=>(.u2 (.two (decide (s.node >= 0)) (fun h3 h3'=>(.u2 (.q 0 (bB (decide (s.node < 6))) b2c))) (fun h3 h3'=>(.n2 (.q 0 bF b2c)))))) (fun h2 h2'=>(.n5 (.q 0 bF b2c)))))) (fun h1 h1'=>(.n6 (.n2 (.q 0 bF b2c)))))))
def a9S:Ann:={ refs:=[2,3],fin:=some 0 }
theorem c1n {p:Prop} (h:p:=by simp only [P9,Q0]; simp_all <;> (try (split <;> simp_all <;> omega)) <;> (try omega)):p:=h
theorem a6M (a b:l8) :AC 19 [(AV.agg (l8.row a)),(AV.agg (l8.row b))] [] ((bB (decide (P9 a b < 0))),[]) :=
 o9 (fn:=Tryz.f19) (ann:=a9S) (Has.o Tryz.func19) (.r (.s (.g (.two (a.t != b.t) (fun h1 h1'=>(.qr 0 (bB (decide (a.t < b.t))) c1n)) (fun h1 h1'=>(.r (.g (.two (a.n != b.n) (fun h2 h2'=>(.qr 0 (bB (decide (a.n < b.n))) c1n)) (fun h2 h2'=>(.qr 0 (bB (decide (a.node < b.node))) c1n))))))))))
def N8 (c:Int):Bool:=(decide (97<=c)&&decide (c<=122)) || (decide (48<=c)&&decide (c<=57))
def T9 (tx:ByteArray):Bool:=decide (0 < tx.size)&&(decide (tx.size<=16)&&(D9 tx).all N8)
theorem b1N {l:List Int} {f:Int->Bool} (h:l.all f=true) {j:Nat} (hj:j < l.length):f (nth l j)=true:=by
 rw [List.all_eq_true] at h
 have:=uE hj
 exact h _ (List.mem_of_getElem? this)
theorem c0O {l:List Int} {f:Int->Bool} (h:l.all f=false):∃ j,j < l.length/\f (nth l j)=false:=by
 rw [List.all_eq_false] at h
 obtain ⟨x,hx,h2⟩:=h
 obtain ⟨j,hj,e⟩:=List.getElem_of_mem hx
 exact ⟨j,hj,by rw [c8X (by rw [List.getElem?_eq_getElem hj,e]) ]; simpa using h2⟩
def uF:Ann:={ big:=[20],fin:=some 0,live:=[(4,[0,2,13,14,15])],out:=[(4,[0,2])] }
@[simp] abbrev c5J (a:ByteArray) (b:Nat):Fr:=(mkF 36 [(0,(AV.str a)),(2,bF),(13,(AV.str a)),(14,(iN a.size)),(15,(iN (b+1)))])
@[simp] abbrev yX (a:ByteArray):=(mkF 36 [(0,(AV.str a)),(2,bF)])
@[simp] abbrev a8B :=(l9 Tryz.prog (X uF) (p9 Tryz.f169 0))
@[simp] abbrev bY (a:ByteArray) (b:Nat):=(AV.int .u8 (nth (D9 a) b))
@[simp] abbrev a1o (a:Nat) (b:ByteArray):=(bB (decide ((a:Int) < (b.size:Int))))
theorem a3c (tx:ByteArray) (i:Nat) (hs:tx.size < 100) (hi:i<=tx.size) {eX:Ex} {FX:Fr} {HX:Heap} (k1:(decide ((i:Int) < (tx.size:Int)))=true->(decide ((nth (D9 tx) i) < 97))=true->(decide ((nth (D9 tx) i) < 48))=true->((.ret:Ex),(yX tx),[])=(eX,FX,HX)) (k2:(decide ((i:Int) < (tx.size:Int)))=true->(decide ((nth (D9 tx) i) < 97))=true->(decide ((nth (D9 tx) i) < 48))=false->(decide ((nth (D9 tx) i) > 57))=true->((.ret:Ex),(yX tx),[])=(eX,FX,HX)) (k3:(decide ((i:Int) < (tx.size:Int)))=true->(decide ((nth (D9 tx) i) < 97))=true->(decide ((nth (D9 tx) i) < 48))=false->(decide ((nth (D9 tx) i) > 57))=false->j6 a8B (some [0,2,13,14,15]) (some [0,2]) (c5J tx i) [] eX FX HX) (k4:(decide ((i:Int) < (tx.size:Int)))=true->(decide ((nth (D9 tx) i) < 97))=false->(decide ((nth (D9 tx) i) > 122))=true->(decide ((nth (D9 tx) i) < 48))=true->((.ret:Ex),(yX tx),[])=(eX,FX,HX)) (k5:(decide ((i:Int) < (tx.size:Int)))=true->(decide ((nth (D9 tx) i) < 97))=false->(decide ((nth (D9 tx) i) > 122))=true->(decide ((nth (D9 tx) i) < 48))=false->(decide ((nth (D9 tx) i) > 57))=true->((.ret:Ex),(yX tx),[])=(eX,FX,HX)) (k6:(decide ((i:Int) < (tx.size:Int)))=true->(decide ((nth (D9 tx) i) < 97))=false->(decide ((nth (D9 tx) i) > 122))=true->(decide ((nth (D9 tx) i) < 48))=false->(decide ((nth (D9 tx) i) > 57))=false->j6 a8B (some [0,2,13,14,15]) (some [0,2]) (c5J tx i) [] eX FX HX) (k7:(decide ((i:Int) < (tx.size:Int)))=true->(decide ((nth (D9 tx) i) < 97))=false->(decide ((nth (D9 tx) i) > 122))=false->j6 a8B (some [0,2,13,14,15]) (some [0,2]) (c5J tx i) [] eX FX HX) (k8:(decide ((i:Int) < (tx.size:Int)))=false->((.exit 0:Ex),(yX tx),[])=(eX,FX,HX)):j6 a8B (some [0,2,13,14,15]) (some [0,2]) (mkF 36 [(0,(AV.str tx)),(2,bF),(13,(AV.str tx)),(14,(iN tx.size)),(15,(iN i))]) [] eX FX HX :=
 F7 (.r (.g (.two (decide ((i:Int) < (tx.size:Int))) (fun h1 h1'=>(.r (.s (.t 2 (bY tx i) [] (gY (xt:=9) (ts:={ d:=.string,size:=1,bytes:=16,zero:=[.str ⟨#[]⟩] }) (i:=(i:Int)) (n:=i) bS kr kr kr rfl kr kr ow ow:Sat Tryz.prog (X uF) (mkF 36 [(0,(AV.str tx)),(2,bF),(3,(iN i)),(13,(AV.str tx)),(14,(iN tx.size)),(15,(iN i)),(16,(a1o i tx)),(17,(iN i)),(18,(AV.str tx)),(19,(iN i))]) [] 0 (Y6 Tryz.f169 6 2) (bY tx i) []) (.s (.two (decide ((nth (D9 tx) i) < 97)) (fun h2 h2'=>(.u4 (.two (decide ((nth (D9 tx) i) < 48)) (fun h3 h3'=>(.u2 (.ru (.g (.l (k1 h1 h2 h3)))))) (fun h3 h3'=>(.n (.u (.g (.two (decide ((nth (D9 tx) i) > 57)) (fun h4 h4'=>(.r (.g (.l (k2 h1 h2 h3 h4))))) (fun h4 h4'=>(.r (.y 0 (.int .i64 (cb_ i)) (iN (i+1)) Yes.o (.g (.l (k3 h1 h2 h3 h4)))))))))))))) (fun h2 h2'=>(.n (.two (decide ((nth (D9 tx) i) > 122)) (fun h3 h3'=>(.u2 (.two (decide ((nth (D9 tx) i) < 48)) (fun h4 h4'=>(.u2 (.ru (.g (.l (k4 h1 h2 h3 h4)))))) (fun h4 h4'=>(.n (.u (.g (.two (decide ((nth (D9 tx) i) > 57)) (fun h5 h5'=>(.r (.g (.l (k5 h1 h2 h3 h4 h5))))) (fun h5 h5'=>(.r (.y 0 (.int .i64 (cb_ i)) (iN (i+1)) Yes.o (.g (.l (k6 h1 h2 h3 h4 h5)))))))))))))) (fun h3 h3'=>(.n3 (.rn (.y 0 (.int .i64 (cb_ i)) (iN (i+1)) Yes.o (.g (.l (k7 h1 h2 h3)))))))))))))))) (fun h1 h1'=>(.l (k8 h1))))))
theorem b2b {p:Prop} (h:p:=by rw [(show N8 (nth (D9 tx) i)=false by simp only [decide_eq_true_eq,decide_eq_false_iff_not] at h1 h2 h3 h4; simp [N8]; omega)]; simp):p:=h
theorem c8t (tx:ByteArray) (hs:tx.size < 100) (r:Nat):∀ (i:Nat),i+r=tx.size->(∀ j,i<=j->j < tx.size->N8 (nth (D9 tx) j)=true) ->
 j6 (l9 Tryz.prog (X uF) (p9 Tryz.f169 0)) (some [0,2,13,14,15]) (some [0,2]) (mkF 36 [(0,(AV.str tx)),(2,bF),(13,(AV.str tx)),(14,(iN tx.size)),(15,(iN i))]) [] (.exit 0) (mkF 36 [(0,(AV.str tx)),(2,bF)]) []:=by
 induction r with
 | zero =>
  intro i hi hall
  refine a3c tx i hs ow (fun h1 h2 h3=>absurd h1 yh_) (fun h1 h2 h3 h4=>absurd h1 yh_) (fun h1 h2 h3 h4=>absurd h1 yh_) (fun h1 h2 h3 h4=>absurd h1 yh_) (fun h1 h2 h3 h4 h5=>absurd h1 yh_) (fun h1 h2 h3 h4 h5=>absurd h1 yh_) (fun h1 h2 h3=>absurd h1 yh_) (fun h1=>rfl)
 | succ r ih =>
  intro i hi hall
  refine a3c tx i hs ow (fun h1 h2 h3=>absurd (hall i (Nat.le_refl _) ow) (by rw [(show N8 (nth (D9 tx) i)=false by simp only [decide_eq_true_eq,decide_eq_false_iff_not] at h1 h2 h3; simp [N8]; omega)]; simp)) (fun h1 h2 h3 h4=>absurd (hall i (Nat.le_refl _) ow) b2b) (fun h1 h2 h3 h4=>ih (i+1) ow (fun j hj hj2=>hall j ow hj2)) (fun h1 h2 h3 h4=>absurd (hall i (Nat.le_refl _) ow) b2b) (fun h1 h2 h3 h4 h5=>absurd (hall i (Nat.le_refl _) ow) (by rw [(show N8 (nth (D9 tx) i)=false by simp only [decide_eq_true_eq,decide_eq_false_iff_not] at h1 h2 h3 h4 h5; simp [N8]; omega)]; simp)) (fun h1 h2 h3 h4 h5=>ih (i+1) ow (fun j hj hj2=>hall j ow hj2)) (fun h1 h2 h3=>ih (i+1) ow (fun j hj hj2=>hall j ow hj2)) (fun h1=>absurd h1 yh_)
theorem c8Y (tx:ByteArray) (hs:tx.size < 100) (r:Nat):∀ (i:Nat),i+r=tx.size->(∃ j,i<=j/\j < tx.size/\N8 (nth (D9 tx) j)=false) ->
 j6 (l9 Tryz.prog (X uF) (p9 Tryz.f169 0)) (some [0,2,13,14,15]) (some [0,2]) (mkF 36 [(0,(AV.str tx)),(2,(bB false)),(13,(AV.str tx)),(14,(iN tx.size)),(15,(iN i))]) [] (.ret) (mkF 36 [(0,(AV.str tx)),(2,(bB false))]) []:=by
 induction r with
 | zero =>
  intro i hi hex
  obtain ⟨j,hj1,hj2,_⟩:=hex
  omega
 | succ r ih =>
  intro i hi hex
  refine a3c tx i hs ow (fun h1 h2 h3=>rfl) (fun h1 h2 h3 h4=>rfl) (fun h1 h2 h3 h4=>(by (obtain ⟨j,hj1,hj2,hj3⟩:=hex); (have hne:j≠i:=fun e=>by rw [e,(show N8 (nth (D9 tx) i)=true by simp only [decide_eq_true_eq,decide_eq_false_iff_not] at h1 h2 h3 h4; simp [N8]; omega)] at hj3; simp at hj3); exact ih (i+1) ow ⟨j,by omega,hj2,hj3⟩)) (fun h1 h2 h3 h4=>rfl) (fun h1 h2 h3 h4 h5=>rfl) (fun h1 h2 h3 h4 h5=>(by (obtain ⟨j,hj1,hj2,hj3⟩:=hex); (have hne:j≠i:=fun e=>by rw [e,(show N8 (nth (D9 tx) i)=true by simp only [decide_eq_true_eq,decide_eq_false_iff_not] at h1 h2 h3 h4 h5; simp [N8]; omega)] at hj3; simp at hj3); exact ih (i+1) ow ⟨j,by omega,hj2,hj3⟩)) (fun h1 h2 h3=>(by (obtain ⟨j,hj1,hj2,hj3⟩:=hex); (have hne:j≠i:=fun e=>by rw [e,(show N8 (nth (D9 tx) i)=true by simp only [decide_eq_true_eq,decide_eq_false_iff_not] at h1 h2 h3; simp [N8]; omega)] at hj3; simp at hj3); exact ih (i+1) ow ⟨j,by omega,hj2,hj3⟩)) (fun h1=>absurd h1 yh_)
@[simp] abbrev d3d (a:ByteArray):Fr:=(mkF 36 [(0,(AV.str a)),(2,bF),(13,(AV.str a)),(14,(iN a.size)),(15,z_)])
theorem b4b (tx:ByteArray) (hb:T9 tx=true):AC 169 [(AV.str tx)] [] (bT,[]):=by
 have hB:=hb
 simp only [T9,Bool.and_eq_true,decide_eq_true_eq] at hB
 obtain ⟨q1,q2,q3⟩:=hB
 have hs:tx.size < 100:=by omega
 exact o9 (fn:=Tryz.f169) (ann:=uF) (Has.o Tryz.func169) (.r (.s (.y 2 (bB ((tx.size:Int) == 0)) bF (Yes.b (beq_eq_false_iff_ne.2 ow)) (.n3 (.y 6 (bB (decide ((tx.size:Int) > 16))) bF (Yes.b yh_) (.rn (.g (.loop (yX tx) (c8t tx hs tx.size 0 ow (fun j hj hj2=>b1N q3 (by rw [fJ]; exact hj2))) (.qr 0 bT)))))))))
theorem b4c (tx : ByteArray) (hb : T9 tx = false) : AC 169 [(AV.str tx)] [] (bF, []) :=
  o9 (fn := Tryz.f169) (ann := uF) (Has.o Tryz.func169) (.r (.s (.two ((tx.size : Int) == 0) (fun h1 h1' => (.u2 (.g (.u (.qr 0 bF))))) (fun h1 h1' => (.n2 (.g (.two (decide ((tx.size : Int) > 16)) (fun h2 h2' => (.qr 0 bF)) (fun h2 h2' => (.r (.g (.loop (yX tx) (show j6 a8B (some [0, 2, 13, 14, 15]) (some [0, 2]) (d3d tx) [] (.ret) (yX tx) [] from (c8Y tx (by have q := h1'; have q2 := h2'; omega) tx.size 0 ow (by
        have q := h1'; have q2 := h2'
        have h3 : (D9 tx).all N8 = false := by
          cases h4 : (D9 tx).all N8 with
          | false => rfl
          | true =>
            have h5 : T9 tx = true := by simp only [T9, Bool.and_eq_true, decide_eq_true_eq]; exact ⟨by omega, by omega, h4⟩
            rw [h5] at hb; simp at hb
        obtain ⟨j, hj, hj2⟩ := c0O h3
        exact ⟨j, Nat.zero_le _, by rw [fJ] at hj; exact hj, hj2⟩))) (.q 0 bF))))))))))))
theorem rJ (tx:ByteArray) :AC 169 [(AV.str tx)] [] ((bB (T9 tx)),[]):=by
 cases hb:T9 tx with
 | true=>exact b4b tx hb
 | false=>exact b4c tx hb
def dG:Ann:={ big:=[12,17,23,28],fin:=some 0,live:=[(2,[0,2,3])],out:=[(2,[0,2])] }
@[simp] abbrev c5I (a:ByteArray) (b:Nat):Fr:=(mkF 40 [(0,(AV.str a)),(2,bF),(3,(iN (b+1)))])
@[simp] abbrev a8A (a:ByteArray):=(mkF 40 [(0,(AV.str a)),(2,bF)])
@[simp] abbrev b5V :=(l9 Tryz.prog (X dG) (p9 Tryz.f223 0))
@[simp] abbrev a8z (a:ByteArray) (b:Nat):=(bB (decide ((nth (D9 a) b) < 97)))
theorem a0Q (tx:ByteArray) (i:Nat) (hs:tx.size < 9223372036854775808) (hi:i<=tx.size) {eX:Ex} {FX:Fr} {HX:Heap} (k1:(decide ((i:Int) < (tx.size:Int)))=true->(decide ((nth (D9 tx) i) < 97))=true->(decide ((nth (D9 tx) i) < 48))=true->((.ret:Ex),(a8A tx),[])=(eX,FX,HX)) (k2:(decide ((i:Int) < (tx.size:Int)))=true->(decide ((nth (D9 tx) i) < 97))=true->(decide ((nth (D9 tx) i) < 48))=false->(decide ((nth (D9 tx) i) > 57))=true->((.ret:Ex),(a8A tx),[])=(eX,FX,HX)) (k3:(decide ((i:Int) < (tx.size:Int)))=true->(decide ((nth (D9 tx) i) < 97))=true->(decide ((nth (D9 tx) i) < 48))=false->(decide ((nth (D9 tx) i) > 57))=false->j6 b5V (some [0,2,3]) (some [0,2]) (c5I tx i) [] eX FX HX) (k4:(decide ((i:Int) < (tx.size:Int)))=true->(decide ((nth (D9 tx) i) < 97))=false->(decide ((nth (D9 tx) i) > 122))=true->(decide ((nth (D9 tx) i) < 48))=true->((.ret:Ex),(a8A tx),[])=(eX,FX,HX)) (k5:(decide ((i:Int) < (tx.size:Int)))=true->(decide ((nth (D9 tx) i) < 97))=false->(decide ((nth (D9 tx) i) > 122))=true->(decide ((nth (D9 tx) i) < 48))=false->(decide ((nth (D9 tx) i) > 57))=true->((.ret:Ex),(a8A tx),[])=(eX,FX,HX)) (k6:(decide ((i:Int) < (tx.size:Int)))=true->(decide ((nth (D9 tx) i) < 97))=false->(decide ((nth (D9 tx) i) > 122))=true->(decide ((nth (D9 tx) i) < 48))=false->(decide ((nth (D9 tx) i) > 57))=false->j6 b5V (some [0,2,3]) (some [0,2]) (c5I tx i) [] eX FX HX) (k7:(decide ((i:Int) < (tx.size:Int)))=true->(decide ((nth (D9 tx) i) < 97))=false->(decide ((nth (D9 tx) i) > 122))=false->j6 b5V (some [0,2,3]) (some [0,2]) (c5I tx i) [] eX FX HX) (k8:(decide ((i:Int) < (tx.size:Int)))=false->((.exit 0:Ex),(a8A tx),[])=(eX,FX,HX)):j6 b5V (some [0,2,3]) (some [0,2]) (mkF 40 [(0,(AV.str tx)),(2,bF),(3,(iN i))]) [] eX FX HX :=
 F7 (.r (.g (.two (decide ((i:Int) < (tx.size:Int))) (fun h1 h1'=>(.r (.t 2 (bY tx i) [] (gY (xt:=9) (ts:={ d:=.string,size:=1,bytes:=16,zero:=[.str ⟨#[]⟩] }) (i:=(i:Int)) (n:=i) bS kr kr kr rfl kr kr ow ow:Sat Tryz.prog (X dG) (mkF 40 [(0,(AV.str tx)),(2,bF),(3,(iN i)),(4,(iN i)),(5,(AV.str tx)),(6,(iN tx.size)),(7,(a1o i tx)),(10,(AV.str tx)),(11,(iN i))]) [] 0 (Y6 Tryz.f223 4 2) (bY tx i) []) (.two (decide ((nth (D9 tx) i) < 97)) (fun h2 h2'=>(.u6 (.t 13 (bY tx i) [] (gY (xt:=9) (ts:={ d:=.string,size:=1,bytes:=16,zero:=[.str ⟨#[]⟩] }) (i:=(i:Int)) (n:=i) bS kr kr kr rfl kr kr ow ow:Sat Tryz.prog (X dG) (mkF 40 [(0,(AV.str tx)),(2,bF),(3,(iN i)),(4,(iN i)),(5,(AV.str tx)),(6,(iN tx.size)),(7,(a1o i tx)),(10,(AV.str tx)),(11,(iN i)),(12,(bY tx i)),(13,(a8z tx i)),(14,bT),(15,AV.skip),(16,AV.skip),(17,AV.skip),(18,AV.skip),(19,bT),(20,bT),(21,(AV.str tx)),(22,(iN i))]) [] 0 (Y6 Tryz.f223 4 13) (bY tx i) []) (.u2 (.two (decide ((nth (D9 tx) i) < 48)) (fun h3 h3'=>(.u4 (.ru (.g (.l (k1 h1 h2 h3)))))) (fun h3 h3'=>(.n2 (.t 18 (bY tx i) [] (gY (xt:=9) (ts:={ d:=.string,size:=1,bytes:=16,zero:=[.str ⟨#[]⟩] }) (i:=(i:Int)) (n:=i) bS kr kr kr rfl kr kr ow ow:Sat Tryz.prog (X dG) (mkF 40 [(0,(AV.str tx)),(2,bF),(3,(iN i)),(4,(iN i)),(5,(AV.str tx)),(6,(iN tx.size)),(7,(a1o i tx)),(10,(AV.str tx)),(11,(iN i)),(12,(bY tx i)),(13,(a8z tx i)),(14,bT),(15,AV.skip),(16,AV.skip),(17,AV.skip),(18,AV.skip),(19,bT),(20,bT),(21,(AV.str tx)),(22,(iN i)),(23,(bY tx i)),(24,(bB (decide ((nth (D9 tx) i) < 48)))),(25,bF),(26,(AV.str tx)),(27,(iN i))]) [] 0 (Y6 Tryz.f223 4 18) (bY tx i) []) (.n (.u (.g (.two (decide ((nth (D9 tx) i) > 57)) (fun h4 h4'=>(.r (.g (.l (k2 h1 h2 h3 h4))))) (fun h4 h4'=>(.r (.y 1 (.int .i64 (cb_ i)) (iN (i+1)) Yes.o (.g (.l (k3 h1 h2 h3 h4)))))))))))))))))) (fun h2 h2'=>(.n2 (.t 7 (bY tx i) [] (gY (xt:=9) (ts:={ d:=.string,size:=1,bytes:=16,zero:=[.str ⟨#[]⟩] }) (i:=(i:Int)) (n:=i) bS kr kr kr rfl kr kr ow ow:Sat Tryz.prog (X dG) (mkF 40 [(0,(AV.str tx)),(2,bF),(3,(iN i)),(4,(iN i)),(5,(AV.str tx)),(6,(iN tx.size)),(7,(a1o i tx)),(10,(AV.str tx)),(11,(iN i)),(12,(bY tx i)),(13,(a8z tx i)),(14,bF),(15,(AV.str tx)),(16,(iN i))]) [] 0 (Y6 Tryz.f223 4 7) (bY tx i) []) (.n (.two (decide ((nth (D9 tx) i) > 122)) (fun h3 h3'=>(.u2 (.t 13 (bY tx i) [] (gY (xt:=9) (ts:={ d:=.string,size:=1,bytes:=16,zero:=[.str ⟨#[]⟩] }) (i:=(i:Int)) (n:=i) bS kr kr kr rfl kr kr ow ow:Sat Tryz.prog (X dG) (mkF 40 [(0,(AV.str tx)),(2,bF),(3,(iN i)),(4,(iN i)),(5,(AV.str tx)),(6,(iN tx.size)),(7,(a1o i tx)),(10,(AV.str tx)),(11,(iN i)),(12,(bY tx i)),(13,(a8z tx i)),(14,bF),(15,(AV.str tx)),(16,(iN i)),(17,(bY tx i)),(18,(bB (decide ((nth (D9 tx) i) > 122)))),(19,(bB (decide ((nth (D9 tx) i) > 122)))),(20,bT),(21,(AV.str tx)),(22,(iN i))]) [] 0 (Y6 Tryz.f223 4 13) (bY tx i) []) (.u2 (.two (decide ((nth (D9 tx) i) < 48)) (fun h4 h4'=>(.u4 (.ru (.g (.l (k4 h1 h2 h3 h4)))))) (fun h4 h4'=>(.n2 (.t 18 (bY tx i) [] (gY (xt:=9) (ts:={ d:=.string,size:=1,bytes:=16,zero:=[.str ⟨#[]⟩] }) (i:=(i:Int)) (n:=i) bS kr kr kr rfl kr kr ow ow:Sat Tryz.prog (X dG) (mkF 40 [(0,(AV.str tx)),(2,bF),(3,(iN i)),(4,(iN i)),(5,(AV.str tx)),(6,(iN tx.size)),(7,(a1o i tx)),(10,(AV.str tx)),(11,(iN i)),(12,(bY tx i)),(13,(a8z tx i)),(14,bF),(15,(AV.str tx)),(16,(iN i)),(17,(bY tx i)),(18,(bB (decide ((nth (D9 tx) i) > 122)))),(19,(bB (decide ((nth (D9 tx) i) > 122)))),(20,bT),(21,(AV.str tx)),(22,(iN i)),(23,(bY tx i)),(24,(bB (decide ((nth (D9 tx) i) < 48)))),(25,bF),(26,(AV.str tx)),(27,(iN i))]) [] 0 (Y6 Tryz.f223 4 18) (bY tx i) []) (.n (.u (.g (.two (decide ((nth (D9 tx) i) > 57)) (fun h5 h5'=>(.r (.g (.l (k5 h1 h2 h3 h4 h5))))) (fun h5 h5'=>(.r (.y 1 (.int .i64 (cb_ i)) (iN (i+1)) Yes.o (.g (.l (k6 h1 h2 h3 h4 h5)))))))))))))))))) (fun h3 h3'=>(.n5 (.rn (.y 1 (.int .i64 (cb_ i)) (iN (i+1)) Yes.o (.g (.l (k7 h1 h2 h3)))))))))))))))) (fun h1 h1'=>(.l (k8 h1))))))
theorem c2D (tx:ByteArray) (hs:tx.size < 9223372036854775808) (r:Nat):∀ (i:Nat),i+r=tx.size->(∀ j,i<=j->j < tx.size->N8 (nth (D9 tx) j)=true) ->
 j6 (l9 Tryz.prog (X dG) (p9 Tryz.f223 0)) (some [0,2,3]) (some [0,2]) (mkF 40 [(0,(AV.str tx)),(2,bF),(3,(iN i))]) [] (.exit 0) (mkF 40 [(0,(AV.str tx)),(2,bF)]) []:=by
 induction r with
 | zero =>
  intro i hi hall
  refine a0Q tx i hs ow (fun h1 h2 h3=>absurd h1 yh_) (fun h1 h2 h3 h4=>absurd h1 yh_) (fun h1 h2 h3 h4=>absurd h1 yh_) (fun h1 h2 h3 h4=>absurd h1 yh_) (fun h1 h2 h3 h4 h5=>absurd h1 yh_) (fun h1 h2 h3 h4 h5=>absurd h1 yh_) (fun h1 h2 h3=>absurd h1 yh_) (fun h1=>rfl)
 | succ r ih =>
  intro i hi hall
  refine a0Q tx i hs ow (fun h1 h2 h3=>absurd (hall i (Nat.le_refl _) ow) (by rw [(show N8 (nth (D9 tx) i)=false by simp only [decide_eq_true_eq,decide_eq_false_iff_not] at h1 h2 h3; simp [N8]; omega)]; simp)) (fun h1 h2 h3 h4=>absurd (hall i (Nat.le_refl _) ow) b2b) (fun h1 h2 h3 h4=>ih (i+1) ow (fun j hj hj2=>hall j ow hj2)) (fun h1 h2 h3 h4=>absurd (hall i (Nat.le_refl _) ow) b2b) (fun h1 h2 h3 h4 h5=>absurd (hall i (Nat.le_refl _) ow) (by rw [(show N8 (nth (D9 tx) i)=false by simp only [decide_eq_true_eq,decide_eq_false_iff_not] at h1 h2 h3 h4 h5; simp [N8]; omega)]; simp)) (fun h1 h2 h3 h4 h5=>ih (i+1) ow (fun j hj hj2=>hall j ow hj2)) (fun h1 h2 h3=>ih (i+1) ow (fun j hj hj2=>hall j ow hj2)) (fun h1=>absurd h1 yh_)
theorem c8g (tx:ByteArray) (hs:tx.size < 9223372036854775808) (r:Nat):∀ (i:Nat),i+r=tx.size->(∃ j,i<=j/\j < tx.size/\N8 (nth (D9 tx) j)=false) ->
 j6 (l9 Tryz.prog (X dG) (p9 Tryz.f223 0)) (some [0,2,3]) (some [0,2]) (mkF 40 [(0,(AV.str tx)),(2,(bB false)),(3,(iN i))]) [] (.ret) (mkF 40 [(0,(AV.str tx)),(2,(bB false))]) []:=by
 induction r with
 | zero =>
  intro i hi hex
  obtain ⟨j,hj1,hj2,_⟩:=hex
  omega
 | succ r ih =>
  intro i hi hex
  refine a0Q tx i hs ow (fun h1 h2 h3=>rfl) (fun h1 h2 h3 h4=>rfl) (fun h1 h2 h3 h4=>(by (obtain ⟨j,hj1,hj2,hj3⟩:=hex); (have hne:j≠i:=fun e=>by rw [e,(show N8 (nth (D9 tx) i)=true by simp only [decide_eq_true_eq,decide_eq_false_iff_not] at h1 h2 h3 h4; simp [N8]; omega)] at hj3; simp at hj3); exact ih (i+1) ow ⟨j,by omega,hj2,hj3⟩)) (fun h1 h2 h3 h4=>rfl) (fun h1 h2 h3 h4 h5=>rfl) (fun h1 h2 h3 h4 h5=>(by (obtain ⟨j,hj1,hj2,hj3⟩:=hex); (have hne:j≠i:=fun e=>by rw [e,(show N8 (nth (D9 tx) i)=true by simp only [decide_eq_true_eq,decide_eq_false_iff_not] at h1 h2 h3 h4 h5; simp [N8]; omega)] at hj3; simp at hj3); exact ih (i+1) ow ⟨j,by omega,hj2,hj3⟩)) (fun h1 h2 h3=>(by (obtain ⟨j,hj1,hj2,hj3⟩:=hex); (have hne:j≠i:=fun e=>by rw [e,(show N8 (nth (D9 tx) i)=true by simp only [decide_eq_true_eq,decide_eq_false_iff_not] at h1 h2 h3; simp [N8]; omega)] at hj3; simp at hj3); exact ih (i+1) ow ⟨j,by omega,hj2,hj3⟩)) (fun h1=>absurd h1 yh_)
@[simp] abbrev d3c (a:ByteArray):Fr:=(mkF 40 [(0,(AV.str a)),(2,bF),(3,z_)])
theorem b0c (tx:ByteArray) (hs:tx.size < 9223372036854775808) (hb:(D9 tx).all N8=true):AC 223 [(AV.str tx)] [] ((AV.bool (T9 tx)),[]) :=
 o9 (fn:=Tryz.f223) (ann:=dG) (Has.o Tryz.func223) (.r (.s (.g (.loop (mkF 40 [(0,(AV.str tx)),(2,(AV.bool false))]) (c2D tx hs tx.size 0 ow (fun j hj hj2=>b1N hb (by rw [fJ]; exact hj2))) (.r (.two (decide ((tx.size:Int) >= 1)) (fun h1 h1'=>(.u2 (.q 0 (AV.bool (decide ((tx.size:Int)<=16))) (by (have e:T9 tx=(decide (0 < tx.size)&&(decide (tx.size<=16)&&true)):=by unfold T9; rw [hb]); rw [e]; congr 2; rw [Bool.eq_iff_iff]; simp only [Bool.and_eq_true,decide_eq_true_eq,Bool.false_eq_true,and_true,false_iff]; omega)))) (fun h1 h1'=>(.n2 (.q 0 (AV.bool false) (by (have e:T9 tx=(decide (0 < tx.size)&&(decide (tx.size<=16)&&true)):=by unfold T9; rw [hb]); rw [e]; congr 2; rw [Bool.eq_iff_iff]; simp only [Bool.and_eq_true,decide_eq_true_eq,Bool.false_eq_true,and_true,false_iff]; omega))))))))))
theorem b0d (tx:ByteArray) (hs:tx.size < 9223372036854775808) (hb:(D9 tx).all N8=false):AC 223 [(AV.str tx)] [] ((AV.bool (T9 tx)),[]) :=
 o9 (fn:=Tryz.f223) (ann:=dG) (Has.o Tryz.func223) (.r (.s (.g (.loop (mkF 40 [(0,(AV.str tx)),(2,(AV.bool false))]) (show j6 (l9 Tryz.prog (X dG) (p9 Tryz.f223 0)) (some [0,2,3]) (some [0,2]) (d3c tx) [] (.ret) (mkF 40 [(0,(AV.str tx)),(2,(AV.bool false))]) [] from (c8g tx hs tx.size 0 ow (by (obtain ⟨j,hj,hj2⟩:=c0O hb); exact ⟨j,Nat.zero_le _,by rw [fJ] at hj; exact hj,hj2⟩))) (.q 0 (AV.bool false) (by unfold T9; rw [hb]; simp))))))
theorem a2b (tx:ByteArray) (hs:tx.size < 9223372036854775808):AC 223 [(AV.str tx)] [] ((bB (T9 tx)),[]):=by
 cases hb:(D9 tx).all N8 with
 | true=>exact b0c tx hs hb
 | false=>exact b0d tx hs hb
def eP (c:j5):Bool:=T9 c.key.app&&(T9 c.key.id&&((decide (c.status=1) || decide (c.status=2))&&((decide (0<=c.over)&&decide (c.over<=3))&&((decide (1<=c.lease)&&decide (c.lease<=1048576))&&stR c.stamp))))
attribute [local irreducible] T9 stR
def b5u:Ann:={ refs:=[1],fin:=some 0 }
theorem kR {p:Prop} (h:p:=by simp only [eP]; simp_all <;> omega):p:=h
theorem b0Y (c:j5) :AC 102 [(AV.agg (j5.row c))] [] ((bB (eP c)),[]) :=
 o9 (fn:=Tryz.f102) (ann:=b5u) (Has.o Tryz.func102) (.r (.s (.c 3 ((rJ c.key.app).lift kr kr []) (.two (!(T9 c.key.app)) (fun h1 h1'=>(.u4 (.g (.u (.qr 0 bF kR))))) (fun h1 h1'=>(.n3 (.c 9 ((rJ c.key.id).lift kr kr []) (.n (.g (.two (!(T9 c.key.id)) (fun h2 h2'=>(.qr 0 bF kR)) (fun h2 h2'=>(.r (.two (c.status != 1) (fun h3 h3'=>(.u2 (.g (.two (c.status != 2) (fun h4 h4'=>(.qr 0 bF kR)) (fun h4 h4'=>(.r (.two (decide (c.over < 0)) (fun h5 h5'=>(.u2 (.g (.u (.qr 0 bF kR))))) (fun h5 h5'=>(.n2 (.g (.two (decide (c.over > 3)) (fun h6 h6'=>(.qr 0 bF kR)) (fun h6 h6'=>(.r (.two (decide (c.lease >= 1)) (fun h7 h7'=>(.u2 (.two (decide (c.lease<=1048576)) (fun h8 h8'=>(.u2 (.c 11 ((xJ c.stamp).lift kr kr []) (.q 0 (bB (stR c.stamp)) kR)))) (fun h8 h8'=>(.n2 (.q 0 bF kR)))))) (fun h7 h7'=>(.n5 (.q 0 bF kR))))))))))))))))) (fun h3 h3'=>(.n2 (.rn (.two (decide (c.over < 0)) (fun h4 h4'=>(.u2 (.g (.u (.qr 0 bF kR))))) (fun h4 h4'=>(.n2 (.g (.two (decide (c.over > 3)) (fun h5 h5'=>(.qr 0 bF kR)) (fun h5 h5'=>(.r (.two (decide (c.lease >= 1)) (fun h6 h6'=>(.u2 (.two (decide (c.lease<=1048576)) (fun h7 h7'=>(.u2 (.c 11 ((xJ c.stamp).lift kr kr []) (.q 0 (bB (stR c.stamp)) kR)))) (fun h7 h7'=>(.n2 (.q 0 bF kR)))))) (fun h6 h6'=>(.n5 (.q 0 bF kR)))))))))))))))))))))))))))
attribute [local irreducible] eP P9
def wC {α:Type} (p:α->Bool):List α->Nat->Option Nat
 | [],_=>none
 | x :: xs,i=>if p x=true then some i else wC p xs (i+1)
def ixI {α:Type} (p:α->Bool) (l:List α):Int:=match wC p l 0 with | some n=>(n:Int) | none=>-1
theorem a4y {α:Type} [Inhabited α] {p:α->Bool} (l:List α):∀ (i n:Nat),wC p l i=some n->i<=n/\n < i+l.length/\p (nth l (n - i))=true/\∀ j,j < n - i->p (nth l j)=false:=by
 induction l with
 | nil=>intro i n h; simp [wC] at h
 | cons x xs ih =>
  intro i n h
  simp only [wC] at h
  by_cases hx:p x=true
  · rw [if_pos hx] at h
    obtain rfl:i=n:=by simpa using h
    refine ⟨Nat.le_refl _,by simp,by simpa [nth] using hx,fun j hj=>by omega⟩
  · rw [if_neg hx] at h
    obtain ⟨h1,h2,h3,h4⟩:=ih (i+1) n h
    have e1:n - i=(n - (i+1))+1:=by omega
    refine ⟨by omega,by simp only [List.length_cons]; omega,by rw [e1]; simpa [nth] using h3,fun j hj=>?_⟩
    cases j with
    | zero=>simpa [nth] using hx
    | succ j=>simpa [nth] using h4 j ya_
theorem a4z {α:Type} [Inhabited α] {p:α->Bool} (l:List α):∀ (i:Nat),wC p l i=none->∀ j,j < l.length->p (nth l j)=false:=by
 induction l with
 | nil=>intro i h j hj; simp at hj
 | cons x xs ih =>
  intro i h j hj
  simp only [wC] at h
  by_cases hx:p x=true
  · rw [if_pos hx] at h; simp at h
  · rw [if_neg hx] at h
    cases j with
    | zero=>simpa [nth] using hx
    | succ j=>simpa [nth] using ih (i+1) h j ys_
attribute [local irreducible] A8 G6 I6 I9 L9 Q9 S9 Tp.G5 Tp.card Tp.key Tp.keyT Tp.next Tp.step U8 V8 Y7 cmpL sink w9 x9 y5 y9
def jS:Ann:={ refs:=[3],fin:=some 0,live:=[(2,[0,3,7,8])],out:=[(2,[4])] }
theorem oV (v:Key) (l:l9K) (i:Nat) (hl:l.length < 1099511627776) (hi:i<=l.length) {eX:Ex} {FX:Fr} {HX:Heap} (k1:(decide ((i:Int) < (l.length:Int)))=true->(Key.eqb v (nth l i))=true->((.ret:Ex),(mkF 19 [(4,(iN i))]),[])=(eX,FX,HX)) (k2:(decide ((i:Int) < (l.length:Int)))=true->(Key.eqb v (nth l i))=false->j6 (l9 Tryz.prog (X jS) (p9 Tryz.f200 0)) (some [0,3,7,8]) (some [4]) (mkF 19 [(0,(sA 2 (mK l))),(3,(AV.ref (Key.row v) 0)),(7,(iN l.length)),(8,(iN (i+1)))]) [] eX FX HX) (k3:(decide ((i:Int) < (l.length:Int)))=false->((.exit 0:Ex),(mkF 19 []),[])=(eX,FX,HX)):j6 (l9 Tryz.prog (X jS) (p9 Tryz.f200 0)) (some [0,3,7,8]) (some [4]) (mkF 19 [(0,(sA 2 (mK l))),(3,(AV.ref (Key.row v) 0)),(7,(iN l.length)),(8,(iN i))]) [] eX FX HX :=
 F7 (.r (.g (.two (decide ((i:Int) < (l.length:Int))) (fun h1 h1'=>(.r (.s (.is 3 2 2 (mK l) (i:Int) (Key.row (nth l i)) (J8.mk _ ow ow) (.g (.two (Key.eqb v (nth l i)) (fun h2 h2'=>(.r (.g (.l (k1 h1 h2))))) (fun h2 h2'=>(.r (.y 0 (.int .i64 (cb_ i)) (iN (i+1)) Yes.o (.g (.l (k2 h1 h2)))))))))))) (fun h1 h1'=>(.l (k3 h1))))))
theorem b4w (v:Key) (l:l9K) (hl:l.length < 1099511627776) (n:Nat) (hn:n < l.length) (hp:Key.eqb v (nth l n)=true) (r:Nat):∀ (i:Nat),i+r=n->(∀ j,i<=j->j < n->Key.eqb v (nth l j)=false) ->
 j6 (l9 Tryz.prog (X jS) (p9 Tryz.f200 0)) (some [0,3,7,8]) (some [4]) (mkF 19 [(0,(sA 2 (mK l))),(3,(AV.ref (Key.row v) 0)),(7,(iN l.length)),(8,(iN i))]) [] (.ret) (mkF 19 [(4,(iN n))]) []:=by
 induction r with
 | zero =>
  intro i hi h
  obtain rfl:i=n:=by omega
  refine oV v l i hl ow (fun _ _=>rfl) (fun _ h2=>?_) (fun h1=>?_)
  · rw [hp] at h2; simp at h2
  · simp at h1; omega
 | succ r ih =>
  intro i hi h
  refine oV v l i hl ow (fun _ h2=>?_) (fun _ h2=>?_) (fun h1=>?_)
  · rw [h i (Nat.le_refl _) ow] at h2; simp at h2
  · exact ih (i+1) ow (fun j h3 h4=>h j ow h4)
  · simp at h1; omega
theorem b4x (v:Key) (l:l9K) (hl:l.length < 1099511627776) (r:Nat):∀ (i:Nat),i+r=l.length->(∀ j,i<=j->j < l.length->Key.eqb v (nth l j)=false) ->
 j6 (l9 Tryz.prog (X jS) (p9 Tryz.f200 0)) (some [0,3,7,8]) (some [4]) (mkF 19 [(0,(sA 2 (mK l))),(3,(AV.ref (Key.row v) 0)),(7,(iN l.length)),(8,(iN i))]) [] (.exit 0) (mkF 19 []) []:=by
 induction r with
 | zero =>
  intro i hi h
  refine oV v l i hl ow (fun h1 _=>?_) (fun h1 h2=>?_) (fun h1=>rfl)
  · simp at h1; omega
  · simp at h1; omega
 | succ r ih =>
  intro i hi h
  refine oV v l i hl ow (fun _ h2=>?_) (fun _ h2=>?_) (fun h1=>?_)
  · rw [h i (Nat.le_refl _) ow] at h2; simp at h2
  · exact ih (i+1) ow (fun j h3 h4=>h j ow h4)
  · simp at h1; omega
@[simp] abbrev d3j (a:l9K) (b:Key):Fr:=(mkF 19 [(0,(sA 2 (mK a))),(3,(AV.ref (Key.row b) 0)),(7,(iN a.length)),(8,z_)])
theorem b0v (v:Key) (l:l9K) (n:Nat) (hl:l.length < 1099511627776) (hn:n < l.length) (hp:Key.eqb v (nth l n)=true) (h:∀ j,0<=j->j < n->Key.eqb v (nth l j)=false):AC 200 [(sA 2 (mK l)),(AV.agg (Key.row v))] [] ((iN n),[]) :=
 o9 (fn:=Tryz.f200) (ann:=jS) (Has.o Tryz.func200) (.r (.s (.y 1 (.int .i64 ((List.length (mK l):Nat):Int)) (iN l.length) (Yes.len _ _ _) (.g (.loop (mkF 19 [(4,(iN n))]) (b4w v l hl n hn hp n 0 ow h) (.q 0 (iN n)))))))
theorem b0w (v:Key) (l:l9K) (hl:l.length < 1099511627776) (h:∀ j,0<=j->j < l.length->Key.eqb v (nth l j)=false):AC 200 [(sA 2 (mK l)),(AV.agg (Key.row v))] [] ((iI (-1)),[]) :=
 o9 (fn:=Tryz.f200) (ann:=jS) (Has.o Tryz.func200) (.r (.s (.y 1 (.int .i64 ((List.length (mK l):Nat):Int)) (iN l.length) (Yes.len _ _ _) (.g (.loop (mkF 19 []) (b4x v l hl l.length 0 ow h) (.qr 0 (iI (-1))))))))
theorem b4v (v:Key) (l:l9K) (hl:l.length < 1099511627776):AC 200 [(sA 2 (mK l)),(AV.agg (Key.row v))] [] ((iI (ixI (Key.eqb v) l)),[]):=by
 unfold ixI
 cases h:wC (Key.eqb v) l 0 with
 | none=>exact b0w v l hl (fun j _ hj=>a4z l 0 h j hj)
 | some n =>
  obtain ⟨_,h2,h3,h4⟩:=a4y l 0 n h
  exact b0v v l n hl ow h3 (fun j _ hj=>h4 j hj)
def Z5 (l:List Key) (v:Key):Bool:=decide (ixI (Key.eqb v) l >= 0)
def b4E:Ann:={ refs:=[3],fin:=some 0 }
theorem b0z (l:l9K) (v:Key) (hl:l.length < 1099511627776):AC 151 [(sA 2 (mK l)),(AV.agg (Key.row v))] [] ((bB (Z5 l v)),[]) :=
 o9 (fn:=Tryz.f151) (ann:=b4E) (Has.o Tryz.func151) (.r (.s (.c 2 ((b4v v l oa).lift kr kr []) (.q 0 (bB (decide ((ixI (Key.eqb v) l) >= 0)))))))
def F6:List Key->List Key
 | []=>[]
 | k :: r=>if (!(Z5 r k))=true then k :: F6 r else F6 r
theorem vY (l:l9K):(F6 l).length<=l.length:=by
 induction l with
 | nil=>simp [F6]
 | cons k l ih=>simp only [F6]; split <;> simp only [List.length_cons] <;> omega
def o8 (a:List Key):List Key:=a.drop (a.length - 16)
theorem vI (a:l9K):(o8 a).length=min a.length 16:=by unfold o8; rw [List.length_drop]; omega
theorem c1m {p:Prop} (h:p:=by rw [List.length_drop]; omega):p:=h
theorem c2L (a:l9K) (k:Key):(o8 a++[k]).drop ((o8 a).length+1 - 16)=o8 (a++[k]):=by
 rw [vI]
 unfold o8
 rw [List.length_append,List.length_singleton]
 rcases Nat.lt_or_ge a.length 16 with h | h
 · have e1:a.length - 16=0:=by omega
   have e2:min a.length 16+1 - 16=0:=by omega
   have e3:a.length+1 - 16=0:=by omega
   rw [e1,e2,e3]; simp
 · have e2:min a.length 16+1 - 16=1:=by omega
   have e3:a.length+1 - 16=(a.length - 16)+1:=by omega
   rw [e2,e3,List.drop_append_of_le_length c1m,List.drop_append_of_le_length ya_,List.drop_drop]
theorem b3E {a:l9K} {n:Nat} (h1:n<=a.length) (h2:a.length - n<=16):(o8 a).drop ((o8 a).length - (a.length - n))=a.drop n:=by
 rw [vI]
 unfold o8
 rw [List.drop_drop]
 congr 1; omega
theorem yH (l:l9K) (v:Key):Z5 l v=l.any (Key.eqb v):=by
 unfold Z5 ixI
 cases h:wC (Key.eqb v) l 0 with
 | none =>
  have:l.any (Key.eqb v)=false:=List.any_eq_false.2 fun x hx=>by
   obtain ⟨j,hj,rfl⟩:=aS hx
   rw [a4z l 0 h j hj]; simp
  rw [this]; rfl
 | some n =>
  obtain ⟨_,h2,h3,_⟩:=a4y l 0 n h
  have:l.any (Key.eqb v)=true:=List.any_eq_true.2 ⟨nth l n,lH ya_,by simpa using h3⟩
  rw [this]; simp
theorem b9z (x y:Key):Key.eqb y x=Key.eqb x y:=by
 cases h:Key.eqb x y with
 | true=>rw [(Key.a3n _ _).1 h]; exact Key.eH y
 | false=>rw [Key.c0e] at h ⊢; exact fun e=>h e.symm
theorem b9J (y:Key) (l:l9K) (v:Key):Z5 (y :: l) v=(Key.eqb v y || Z5 l v):=by rw [yH,yH]; rfl
def okS (al:List Key) (n:Int):Bool:=decide (0<=n)&&(decide (n<=(al.length:Int))&&decide ((al.length:Int) - n<=16))
def F4 (al:List Key) (n:Int):List Key:=if okS al n=true then F6 (al.drop n.toNat) else []
theorem a2Y {al:l9K} {m:Nat} (h1:m<=al.length) (h2:al.length - m<=16):okS al (m:Int)=true:=by unfold okS; simp; omega
theorem xZ {al:l9K} {n:Int} (h:n < 0\/(al.length:Int) < n\/16 < (al.length:Int) - n):okS al n=false:=by unfold okS; simp; omega
theorem a1I {al:l9K} {m:Nat} (h1:m<=al.length) (h2:al.length - m<=16):F4 al (m:Int)=F6 (al.drop m):=by unfold F4; rw [if_pos (a2Y h1 h2)]; rfl
theorem xM {al:l9K} {n:Int} (h:n < 0\/(al.length:Int) < n\/16 < (al.length:Int) - n):F4 al n=[]:=by unfold F4; rw [if_neg (by rw [xZ h]; simp)]
theorem jW (al:l9K) (n:Int):(F4 al n).length<=16:=by
 unfold F4
 split
 · rename_i h
   unfold okS at h
   simp at h
   have h1:=vY (al.drop n.toNat)
   rw [List.length_drop] at h1
   omega
 · simp
theorem c9e (vs:Array Value) (w:World):(callFunc 163 vs).run Tryz.prog w=((Extern.SlicesOverlaps.overlaps #[104,104] #[4] vs).run Tryz.prog w).andThen fun v w'=>.ok (.value v) w' :=
 run_callFunc_extern (fn:=Tryz.f163) kr kr kr kr kr vs w
def c1h:Ann:={ base:=1,fin:=some 1 }
@[simp] abbrev M8 (a:Nat) (b:l9E):=(AV.osl 0 a 10 0 b.length)
@[simp] abbrev aC (a:Entry):=(AV.sl .clip 10 [(Entry.row a)])
theorem b7y (l:l9E) (x:Entry) (g:Nat) (hl:l.length < 1048576):AC 93 [(M8 g l),(iN l.length),(aC x)] [(o_ g 10 (mE l))] ((AV.osl 0 (g+1) 10 0 (l.length+1)),[(o_ (g+1) 10 (mE (l++[x])))]) :=
 o9 (fn:=Tryz.f93) (ann:=c1h) (Has.o Tryz.func93) (.r (.s (.so 2 0 g 10 0 l.length (l.length:Int) (l.length:Int) (AV.osl 0 g 10 l.length (l.length - l.length)) (U1 (l:=l.length) (h:=l.length) om om om om om om) (.s (.s (.rn (.s (.y 2 (bB ((l.length:Int) == (l.length:Int))) bT (Yes.b om) (.ru (.ap 2 104 (M8 g l) (aC x) (AV.osl 0 (g+1) 10 0 (l.length+1)) [(o_ (g+1) 10 (mE (l++[x])))] (H6 (row:=Entry.row) (l:=l) (x:=x) (T:=tt) (e:=45) (te:=bE) (z:=1) (b:=24) (y:=[.sl .nil 0 []]) kr kr rfl z8 z8 kr aU rfl rfl a2M) (.q 1 (AV.osl 0 (g+1) 10 0 (l.length+1)))))))))))))
def nC:Ann:={ big:=[40,60],base:=1 }
@[simp] abbrev b7i (a:Nat) (b:l9E) (c:Nat) (d:Nat) (e:Entry):Heap:=[⟨a,10,(mE b),some c⟩,(o_ 0 10 (mE (b.take d++e :: b.drop d)))]
@[simp] abbrev oI (a b:Nat) (c:l9E):=(AV.osl 0 a 10 b (c.length - b))
@[simp] abbrev d1C (a:Nat) (b:l9E) (c:Nat) (d:Entry):Fr:=(mkF 95 [(0,(M8 a b)),(1,(iN c)),(2,(aC d)),(6,(AV.sl .nil 0 [])),(7,(iI 1)),(8,(iN b.length)),(10,(M8 a b)),(11,(iN c)),(12,(oI a c b)),(13,(aC d)),(14,(iI 1)),(15,(iI 1)),(16,bF),(18,(M8 a b)),(19,(iN b.length)),(20,(iN c)),(21,(iN b.length)),(22,bF),(26,(iN b.length)),(27,(iI 1)),(28,(iN (b.length+1))),(29,(M8 a b))])
@[simp] abbrev b7h (a:Nat) (b:l9E) (c:Nat) (d:Nat):Heap:=[⟨a,10,(mE b),some c⟩,(o_ 0 10 (mE (b.take d)++List.replicate (b.length+1 - d) (List.replicate 10 AV.unk)))]
@[simp] abbrev b7g (a:Nat) (b:l9E) (c:Nat) (d:Nat) (e:Entry):Heap:=[⟨a,10,(mE b),some c⟩,(o_ 0 10 (mE (b.take d++[e])++List.replicate (b.length+1 - d - 1) (List.replicate 10 AV.unk)))]
@[simp] abbrev qQ (a:l9E):=(AV.osl 1 0 10 0 (a.length+1))
@[simp] abbrev b5U (a:l9E):=(IntKind.i64.wrap ((a.length:Int)+1))
theorem b7x (l:l9E) (x:Entry) (g i r:Nat) (hi:i < l.length) (hl:l.length < 1048576) (hr:r < l.length+1):AC 93 [(M8 g l),(iN i),(aC x)] [⟨g,10,(mE l),some r⟩] ((qQ l),(b7i g l r i x)) :=
 o9 (fn:=Tryz.f93) (ann:=nC) (Has.o Tryz.func93) (.r (.s (.so 2 0 g 10 0 l.length (i:Int) (l.length:Int) (oI g i l) (U1 (l:=i) (h:=l.length) om om om om om om) (.s (.s (.rn (.s (.y 2 (bB ((i:Int) == (l.length:Int))) bF (Yes.b om) (.rn (.y 2 (.int .i64 (b5U l)) (iN (l.length+1)) Yes.o (.t 4 (iN r) [⟨g,10,(mE l),some r⟩] (b1u (o:=(Y6 Tryz.f93 8 4)) (t:=104) (e0:=45) (ti:={ d:=.slice 45,size:=1,bytes:=24,zero:=[.sl .nil 0 []] }) (id:=0) (g:=g) (e:=0) (n:=l.length) (k:=10) (r:=r) (els:=(mE l)) bS kr kr kr rfl kr kr rfl:Sat Tryz.prog (X nC) (d1C g l i x) [⟨g,10,(mE l),some r⟩] 1 (Y6 Tryz.f93 8 4) (iN r) [⟨g,10,(mE l),some r⟩]) (.y 5 (bB (decide (((l.length+1:Nat):Int) > (r:Int)))) bT (Yes.b om) (.ru (.so 2 0 g 10 0 l.length 0 (i:Int) (AV.osl 0 g 10 0 i) (U1 (l:=0) (h:=i) om om om om om om) (.y 5 (.int .i64 (b5U l)) (iN (l.length+1)) Yes.o (.y 7 (iW (((l.length+1:Nat):Int) - (i:Int))) (iN (l.length+1 - i)) Yes.o (.t 8 (qQ l) (b7h g l r i) (c1M (o:=(Y6 Tryz.f93 9 8)) (t:=104) (e0:=45) (ti:={ d:=.slice 45,size:=1,bytes:=24,zero:=[.sl .nil 0 []] }) (id:=0) (g:=g) (e:=0) (n:=i) (t':=3) (te:=bE) (ti':={ d:=.int .i64,size:=1,bytes:=8,zero:=[.int .i64 0] }) (kk:=.i64) (kx:=.i64) (k:=10) (r:=r) (c:=l.length+1 - i) (els:=(mE l)) (ys:=mE (l.take i)) (els':=(mE (l.take i)++List.replicate (l.length+1 - i) (List.replicate 10 AV.unk))) bS kr kr kr rfl kr kr rfl rfl kr kr (by simp [F5,List.map_take]; omega) om kr om z8 z8 om (by show _ * 96<=_; omega) om om rfl:Sat Tryz.prog (X nC) (mkF 95 [(0,(M8 g l)),(1,(iN i)),(2,(aC x)),(6,(AV.sl .nil 0 [])),(7,(iI 1)),(8,(iN l.length)),(10,(M8 g l)),(11,(iN i)),(12,(oI g i l)),(13,(aC x)),(14,(iI 1)),(15,(iI 1)),(16,bF),(18,(M8 g l)),(19,(iN l.length)),(20,(iN i)),(21,(iN l.length)),(22,bF),(26,(iN l.length)),(27,(iI 1)),(28,(iN (l.length+1))),(29,(M8 g l)),(30,(iN r)),(31,bT),(32,(M8 g l)),(33,(iN i)),(34,(AV.osl 0 g 10 0 i)),(35,(iN l.length)),(36,(iI 1)),(37,(iN (l.length+1))),(38,(iN i)),(39,(iN (l.length+1 - i)))]) [⟨g,10,(mE l),some r⟩] 1 (Y6 Tryz.f93 9 8) (qQ l) (b7h g l r i)) (.s (.h' (b7h g l r i) (.so 2 1 0 10 0 (l.length+1) (i:Int) (((l.length+1):Nat):Int) (AV.osl 1 0 10 i ((l.length+1) - i)) (U1 (l:=i) (h:=(l.length+1)) om om om om om om) (.t 4 (iI 1) (b7g g l r i x) (a0N (o:=(Y6 Tryz.f93 10 4)) (t:=104) (e0:=45) (ti:={ d:=.slice 45,size:=1,bytes:=24,zero:=[.sl .nil 0 []] }) (id:=1) (g:=0) (e:=i) (n:=((l.length+1) - i)) (t':=104) (te:=bE) (k:=10) (els:=(mE (l.take i)++List.replicate (l.length+1 - i) (List.replicate 10 AV.unk))) (els':=(mE (l.take i++[x])++List.replicate (l.length+1 - i - 1) (List.replicate 10 AV.unk))) (room:=none) (new:=[(Entry.row x)]) (s:=(aC x)) bS kr kr kr rfl kr rfl kr kr kr kr om om om (d2F Entry.row x _ l ow ow) (rfl) rfl:Sat Tryz.prog (X nC) (mkF 95 [(0,(M8 g l)),(1,(iN i)),(2,(aC x)),(6,(AV.sl .nil 0 [])),(7,(iI 1)),(8,(iN l.length)),(9,(qQ l)),(10,(M8 g l)),(11,(iN i)),(12,(oI g i l)),(13,(aC x)),(14,(iI 1)),(15,(iI 1)),(16,bF),(18,(M8 g l)),(19,(iN l.length)),(20,(iN i)),(21,(iN l.length)),(22,bF),(26,(iN l.length)),(27,(iI 1)),(28,(iN (l.length+1))),(29,(M8 g l)),(30,(iN r)),(31,bT),(32,(M8 g l)),(33,(iN i)),(34,(AV.osl 0 g 10 0 i)),(35,(iN l.length)),(36,(iI 1)),(37,(iN (l.length+1))),(38,(iN i)),(39,(iN (l.length+1 - i))),(40,(qQ l)),(41,(qQ l)),(42,(iN i)),(43,(AV.osl 1 0 10 i ((l.length+1) - i))),(44,(aC x))]) (b7h g l r i) 2 (Y6 Tryz.f93 10 4) (iI 1) (b7g g l r i x)) (.s (.h' (b7g g l r i x) (.y 3 (.int .i64 (cb_ i)) (iN (i+1)) Yes.o (.so 4 1 0 10 0 (l.length+1) ((i+1:Nat):Int) (((l.length+1):Nat):Int) (AV.osl 1 0 10 (i+1) ((l.length+1) - (i+1))) (U1 (l:=i+1) (h:=(l.length+1)) om om om om om om) (.so 7 0 g 10 0 l.length (i:Int) (l.length:Int) (oI g i l) (U1 (l:=i) (h:=l.length) om om om om om om) (.t 8 (iN ((l.length - i))) (b7i g l r i x) (a0N (o:=(Y6 Tryz.f93 11 8)) (t:=104) (e0:=45) (ti:={ d:=.slice 45,size:=1,bytes:=24,zero:=[.sl .nil 0 []] }) (id:=1) (g:=0) (e:=(i+1)) (n:=((l.length+1) - (i+1))) (t':=104) (te:=bE) (k:=10) (els:=(mE (l.take i++[x])++List.replicate (l.length+1 - i - 1) (List.replicate 10 AV.unk))) (els':=(mE (l.take i++x :: l.drop i))) (room:=none) (new:=mE (l.drop i)) (s:=(oI g i l)) bS kr kr kr rfl kr rfl kr kr kr (by simp [F5,List.map_drop,List.take_of_length_le] <;> omega) om om om (d2E Entry.row x _ l ow ow) om rfl:Sat Tryz.prog (X nC) (mkF 95 [(0,(M8 g l)),(1,(iN i)),(2,(aC x)),(6,(AV.sl .nil 0 [])),(7,(iI 1)),(8,(iN l.length)),(9,(qQ l)),(10,(M8 g l)),(11,(iN i)),(12,(oI g i l)),(13,(aC x)),(14,(iI 1)),(15,(iI 1)),(16,bF),(18,(M8 g l)),(19,(iN l.length)),(20,(iN i)),(21,(iN l.length)),(22,bF),(26,(iN l.length)),(27,(iI 1)),(28,(iN (l.length+1))),(29,(M8 g l)),(30,(iN r)),(31,bT),(32,(M8 g l)),(33,(iN i)),(34,(AV.osl 0 g 10 0 i)),(35,(iN l.length)),(36,(iI 1)),(37,(iN (l.length+1))),(38,(iN i)),(39,(iN (l.length+1 - i))),(40,(qQ l)),(41,(qQ l)),(42,(iN i)),(43,(AV.osl 1 0 10 i ((l.length+1) - i))),(44,(aC x)),(45,(iI 1)),(46,(qQ l)),(47,(iN i)),(48,(iI 1)),(49,(iN (i+1))),(50,(AV.osl 1 0 10 (i+1) ((l.length+1) - (i+1)))),(51,(M8 g l)),(52,(iN i)),(53,(oI g i l))]) (b7g g l r i x) 2 (Y6 Tryz.f93 11 8) (iN ((l.length - i))) (b7i g l r i x)) (.s (.g (.h' (b7i g l r i x) (.e (qQ l))))))))))))))))))))))))))))))))
def nA:Ann:={ big:=[40,60],base:=1,fin:=some 1 }
@[simp] abbrev b7f (a:Nat) (b:l9E) (c:Nat) (d:Entry) (e:Nat):Heap:=[⟨a,10,(mE (b.take c++d :: b.drop c)),some e⟩]
@[simp] abbrev b7e (a:Nat) (b:l9E) (c:Nat) (d:Nat):Heap:=[⟨a,10,(mE (b.take (c+1)++b.drop c)),some d⟩]
@[simp] abbrev jO (a:Nat) (b:l9E):=(AV.osl 0 a 10 0 (b.length+1))
@[simp] abbrev a1n (a b:Nat) (c:l9E):=(AV.osl 0 a 10 (b+1) ((c.length+1) - (b+1)))
theorem b7w (l:l9E) (x:Entry) (g i r:Nat) (hi:i < l.length) (hl:l.length < 1048576) (hr:l.length+1<=r):AC 93 [(M8 g l),(iN i),(aC x)] [⟨g,10,(mE l),some r⟩] ((jO g l),(b7f g l i x r)) :=
 o9 (fn:=Tryz.f93) (ann:=nA) (Has.o Tryz.func93) (.r (.s (.so 2 0 g 10 0 l.length (i:Int) (l.length:Int) (oI g i l) (U1 (l:=i) (h:=l.length) om om om om om om) (.s (.s (.rn (.s (.y 2 (bB ((i:Int) == (l.length:Int))) bF (Yes.b om) (.rn (.y 2 (.int .i64 (b5U l)) (iN (l.length+1)) Yes.o (.t 4 (iN r) [⟨g,10,(mE l),some r⟩] (b1u (o:=(Y6 Tryz.f93 8 4)) (t:=104) (e0:=45) (ti:={ d:=.slice 45,size:=1,bytes:=24,zero:=[.sl .nil 0 []] }) (id:=0) (g:=g) (e:=0) (n:=l.length) (k:=10) (r:=r) (els:=(mE l)) bS kr kr kr rfl kr kr rfl:Sat Tryz.prog (X nA) (d1C g l i x) [⟨g,10,(mE l),some r⟩] 1 (Y6 Tryz.f93 8 4) (iN r) [⟨g,10,(mE l),some r⟩]) (.y 5 (bB (decide (((l.length+1:Nat):Int) > (r:Int)))) bF (Yes.b om) (.rn (.y 3 (.int .i64 (b5U l)) (iN (l.length+1)) Yes.o (.t 4 (jO g l) [⟨g,10,(mE l),some r⟩] (b7X (o:=(Y6 Tryz.f93 13 4)) (t:=104) (e0:=45) (ti:={ d:=.slice 45,size:=1,bytes:=24,zero:=[.sl .nil 0 []] }) (id:=0) (g:=g) (e:=0) (n:=l.length) (te:=bE) (k:=10) (r:=r) (l:=0) (h:=l.length+1) (els:=(mE l)) bS kr kr kr rfl kr rfl kr kr kr kr om om om om:Sat Tryz.prog (X nA) (mkF 95 [(0,(M8 g l)),(1,(iN i)),(2,(aC x)),(6,(AV.sl .nil 0 [])),(7,(iI 1)),(8,(iN l.length)),(10,(M8 g l)),(11,(iN i)),(12,(oI g i l)),(13,(aC x)),(14,(iI 1)),(15,(iI 1)),(16,bF),(18,(M8 g l)),(19,(iN l.length)),(20,(iN i)),(21,(iN l.length)),(22,bF),(26,(iN l.length)),(27,(iI 1)),(28,(iN (l.length+1))),(29,(M8 g l)),(30,(iN r)),(31,bF),(56,(M8 g l)),(57,(iN l.length)),(58,(iI 1)),(59,(iN (l.length+1)))]) [⟨g,10,(mE l),some r⟩] 1 (Y6 Tryz.f93 13 4) (jO g l) [⟨g,10,(mE l),some r⟩]) (.s (.y 4 (.int .i64 (cb_ i)) (iN (i+1)) Yes.o (.so 5 0 g 10 0 (l.length+1) ((i+1:Nat):Int) (((l.length+1):Nat):Int) (a1n g i l) (U1 (l:=i+1) (h:=(l.length+1)) om om om om om om) (.t 6 bF [⟨g,10,(mE l),some r⟩] (a2A (tS:=104) (tR:=4) (e0:=45) (o:=⟨g,10,(mE l),some r⟩) (c9e) (dL bS (ti:={ d:=.slice 45,size:=1,bytes:=24,zero:=[.sl .nil 0 []] }) kr rfl) (fun w=>(bS 45 { d:=.struct [(39,0),(2,9)],size:=10,bytes:=96,zero:=[.str ⟨#[]⟩,.str ⟨#[]⟩,.int .i64 0,.int .i64 0,.int .i64 0,.int .i64 0,.int .i64 0,.int .i64 0,.bool false,.int .i64 0] } kr).sizeOf w) z8 kr rfl:AC 163 [(aC x),(a1n g i l)] [⟨g,10,(mE l),some r⟩] (bF,([⟨g,10,(mE l),some r⟩]:Heap))) (.ru (.y 3 (.int .i64 (cb_ i)) (iN (i+1)) Yes.o (.so 4 0 g 10 0 (l.length+1) ((i+1:Nat):Int) (((l.length+1):Nat):Int) (a1n g i l) (U1 (l:=i+1) (h:=(l.length+1)) om om om om om om) (.so 7 0 g 10 0 (l.length+1) (i:Int) (((l.length+1):Nat):Int) (AV.osl 0 g 10 i ((l.length+1) - i)) (U1 (l:=i) (h:=(l.length+1)) om om om om om om) (.t 8 (iN (((l.length+1) - (i+1)))) (b7e g l i r) (b7Y (o:=(Y6 Tryz.f93 15 8)) (t:=104) (e0:=45) (ti:={ d:=.slice 45,size:=1,bytes:=24,zero:=[.sl .nil 0 []] }) (id:=0) (g:=g) (e:=(i+1)) (n:=((l.length+1) - (i+1))) (t':=104) (te:=bE) (k:=10) (els:=(mE l)) (els':=(mE (l.take (i+1)++l.drop i))) (room:=some r) (id2:=0) (g2:=g) (e2:=i) (n2:=((l.length+1) - i)) (els2:=(mE l)) (room2:=some r) bS kr kr kr rfl kr rfl kr kr kr kr om om om om (by rw [show l.length+1 - (i+1)=l.length - i by omega]; exact d2D Entry.row l hi) rfl rfl:Sat Tryz.prog (X nA) (mkF 95 [(0,(jO g l)),(1,(iN i)),(2,(aC x)),(6,(AV.sl .nil 0 [])),(7,(iI 1)),(8,(iN l.length)),(10,(M8 g l)),(11,(iN i)),(12,(oI g i l)),(13,(aC x)),(14,(iI 1)),(15,(iI 1)),(16,bF),(18,(M8 g l)),(19,(iN l.length)),(20,(iN i)),(21,(iN l.length)),(22,bF),(26,(iN l.length)),(27,(iI 1)),(28,(iN (l.length+1))),(29,(M8 g l)),(30,(iN r)),(31,bF),(56,(M8 g l)),(57,(iN l.length)),(58,(iI 1)),(59,(iN (l.length+1))),(60,(jO g l)),(61,(aC x)),(62,(jO g l)),(63,(iN i)),(64,(iI 1)),(65,(iN (i+1))),(66,(a1n g i l)),(67,bF),(68,bT),(69,(jO g l)),(70,(iN i)),(71,(iI 1)),(72,(iN (i+1))),(73,(a1n g i l)),(74,(jO g l)),(75,(iN i)),(76,(AV.osl 0 g 10 i ((l.length+1) - i)))]) [⟨g,10,(mE l),some r⟩] 1 (Y6 Tryz.f93 15 8) (iN (((l.length+1) - (i+1)))) (b7e g l i r)) (.s (.h' (b7e g l i r) (.so 2 0 g 10 0 (l.length+1) (i:Int) (((l.length+1):Nat):Int) (AV.osl 0 g 10 i ((l.length+1) - i)) (U1 (l:=i) (h:=(l.length+1)) om om om om om om) (.t 4 (iI 1) (b7f g l i x r) (a0N (o:=(Y6 Tryz.f93 16 4)) (t:=104) (e0:=45) (ti:={ d:=.slice 45,size:=1,bytes:=24,zero:=[.sl .nil 0 []] }) (id:=0) (g:=g) (e:=i) (n:=((l.length+1) - i)) (t':=104) (te:=bE) (k:=10) (els:=(mE (l.take (i+1)++l.drop i))) (els':=(mE (l.take i++x :: l.drop i))) (room:=some r) (new:=[(Entry.row x)]) (s:=(aC x)) bS kr kr kr rfl kr rfl kr kr kr kr om om om (d2C Entry.row x l hi) (rfl) rfl:Sat Tryz.prog (X nA) (mkF 95 [(0,(jO g l)),(1,(iN i)),(2,(aC x)),(6,(AV.sl .nil 0 [])),(7,(iI 1)),(8,(iN l.length)),(10,(M8 g l)),(11,(iN i)),(12,(oI g i l)),(13,(aC x)),(14,(iI 1)),(15,(iI 1)),(16,bF),(18,(M8 g l)),(19,(iN l.length)),(20,(iN i)),(21,(iN l.length)),(22,bF),(26,(iN l.length)),(27,(iI 1)),(28,(iN (l.length+1))),(29,(M8 g l)),(30,(iN r)),(31,bF),(56,(M8 g l)),(57,(iN l.length)),(58,(iI 1)),(59,(iN (l.length+1))),(60,(jO g l)),(61,(aC x)),(62,(jO g l)),(63,(iN i)),(64,(iI 1)),(65,(iN (i+1))),(66,(a1n g i l)),(67,bF),(68,bT),(69,(jO g l)),(70,(iN i)),(71,(iI 1)),(72,(iN (i+1))),(73,(a1n g i l)),(74,(jO g l)),(75,(iN i)),(76,(AV.osl 0 g 10 i ((l.length+1) - i))),(77,(iN (((l.length+1) - (i+1))))),(78,(jO g l)),(79,(iN i)),(80,(AV.osl 0 g 10 i ((l.length+1) - i))),(81,(aC x))]) (b7e g l i r) 1 (Y6 Tryz.f93 16 4) (iI 1) (b7f g l i x r)) (.s (.g (.h' (b7f g l i x r) (.q 1 (jO g l)))))))))))))))))))))))))))))))))
@[simp] abbrev d3i (a:Nat) (b:l9E) (c:Nat) (d:Entry):Heap:=[(o_ (a+1) 10 (mE (b.take c++d :: b.drop c)))]
theorem c1g (l:l9E) (x:Entry) (g i n:Nat) (hn:n=l.length) (hi:i<=l.length) (hl:l.length < 1048576):AC 93 [(AV.osl 0 g 10 0 n),(iN i),(AV.sl .clip 10 [(Entry.row x)])] [(o_ g 10 (mE l))] ((AV.osl 0 (g+1) 10 0 (n+1)),(d3i g l i x)):=by
 subst hn
 exact l6.insert Entry.p8 hi (b7y l x g hl) (fun h r hr=>b7x l x g i r h hl hr) (fun h r hr=>b7w l x g i r h hl hr)
def rV:Ann:={ big:=[13,31],base:=1 }
@[simp] abbrev b7d (a:Nat) (b:l9E) (c:Nat):Heap:=[(o_ a 10 (mE (b.take c++b.drop (c+1))++[(List.replicate 10 AV.unk)]))]
@[simp] abbrev a9m (a:Nat) (b:l9E) (c:Nat):Heap:=[(o_ a 10 (mE (b.take c++b.drop (c+1)++b.drop (b.length - 1))))]
@[simp] abbrev qP (a:Nat) (b:l9E):=(AV.osl 0 a 10 0 (b.length - 1))
theorem b7z (l:l9E) (g i:Nat) (hi:i < l.length) (hl:l.length < 1048576):AC 115 [(M8 g l),(iN i),(iN (i+1))] [(o_ g 10 (mE l))] ((qP g l),(b7d g l i)) :=
 o9 (fn:=Tryz.f115) (ann:=rV) (Has.o Tryz.func115) (.r (.s (.t 5 AV.unk [(o_ g 10 (mE l))] (b2F (o:=(Y6 Tryz.f115 1 5)) (t:=104) (e0:=45) (ti:={ d:=.slice 45,size:=1,bytes:=24,zero:=[.sl .nil 0 []] }) (id:=0) (g:=g) (e:=0) (n:=l.length) (te:=bE) (k:=10) (l:=i) (h:=i+1) (c:=l.length) bS kr kr kr rfl kr rfl kr kr kr kr om om om:Sat Tryz.prog (X rV) (mkF 33 [(0,(M8 g l)),(1,(iN i)),(2,(iN (i+1))),(6,(AV.sl .nil 0 [])),(8,(M8 g l)),(9,(iN i)),(10,(iN (i+1))),(11,(M8 g l)),(12,(iN l.length))]) [(o_ g 10 (mE l))] 1 (Y6 Tryz.f115 1 5) AV.unk [(o_ g 10 (mE l))]) (.s (.y 2 (bB ((i:Int) == ((i+1:Nat):Int))) bF (Yes.b yh_) (.rn (.s (.so 2 0 g 10 0 l.length 0 (i:Int) (AV.osl 0 g 10 0 i) (U1 (l:=0) (h:=i) om om om om om om) (.so 5 0 g 10 0 l.length ((i+1:Nat):Int) (l.length:Int) (AV.osl 0 g 10 (i+1) (l.length - (i+1))) (U1 (l:=i+1) (h:=l.length) om om om om om om) (.ap 6 104 (AV.osl 0 g 10 0 i) (AV.osl 0 g 10 (i+1) (l.length - (i+1))) (qP g l) (a9m g l i) (a5r (els:=(mE l)) (ti:={ d:=.slice 45,size:=1,bytes:=24,zero:=[.sl .nil 0 []] }) (te:=bE) (e0:=45) kr rfl kr rfl z8 kr om om (d2P Entry.row l hi) om rfl) (.s (.t 4 (AV.osl 0 g 10 (l.length - 1) 1) (a9m g l i) (b2E (o:=(Y6 Tryz.f115 6 4)) (t:=104) (e0:=45) (ti:={ d:=.slice 45,size:=1,bytes:=24,zero:=[.sl .nil 0 []] }) (id:=0) (g:=g) (e:=0) (n:=(l.length - 1)) (te:=bE) (k:=10) (room:=none) (l:=(l.length - 1)) (h:=l.length) (els:=(mE (l.take i++l.drop (i+1)++l.drop (l.length - 1)))) bS kr kr kr rfl kr rfl kr kr kr kr om om om om:Sat Tryz.prog (X rV) (mkF 33 [(0,(qP g l)),(1,(iN i)),(2,(iN (i+1))),(6,(AV.sl .nil 0 [])),(7,(iN l.length)),(8,(M8 g l)),(9,(iN i)),(10,(iN (i+1))),(11,(M8 g l)),(12,(iN l.length)),(13,AV.unk),(14,(iN i)),(15,(iN (i+1))),(16,bF),(18,(M8 g l)),(19,(iN l.length)),(20,(M8 g l)),(21,(iN i)),(22,(AV.osl 0 g 10 0 i)),(23,(M8 g l)),(24,(iN (i+1))),(25,(AV.osl 0 g 10 (i+1) (l.length - (i+1)))),(26,(qP g l)),(27,(qP g l)),(28,(qP g l)),(29,(iN ((l.length - 1)))),(30,(iN l.length))]) (a9m g l i) 1 (Y6 Tryz.f115 6 4) (AV.osl 0 g 10 (l.length - 1) 1) (a9m g l i)) (.t 5 AV.unk (b7d g l i) (b7Z (o:=(Y6 Tryz.f115 6 5)) (t:=104) (e0:=45) (ti:={ d:=.slice 45,size:=1,bytes:=24,zero:=[.sl .nil 0 []] }) (id:=0) (g:=g) (e:=(l.length - 1)) (n:=1) (te:=bE) (k:=10) (els:=(mE (l.take i++l.drop (i+1)++l.drop (l.length - 1)))) (els':=(mE (l.take i++l.drop (i+1))++[(List.replicate 10 AV.unk)])) (room:=none) bS kr kr kr rfl kr rfl z8 kr kr om yh_ (d2O Entry.row (List.replicate 10 AV.unk) l hi) rfl:Sat Tryz.prog (X rV) (mkF 33 [(0,(qP g l)),(1,(iN i)),(2,(iN (i+1))),(6,(AV.sl .nil 0 [])),(7,(iN l.length)),(8,(M8 g l)),(9,(iN i)),(10,(iN (i+1))),(11,(M8 g l)),(12,(iN l.length)),(13,AV.unk),(14,(iN i)),(15,(iN (i+1))),(16,bF),(18,(M8 g l)),(19,(iN l.length)),(20,(M8 g l)),(21,(iN i)),(22,(AV.osl 0 g 10 0 i)),(23,(M8 g l)),(24,(iN (i+1))),(25,(AV.osl 0 g 10 (i+1) (l.length - (i+1)))),(26,(qP g l)),(27,(qP g l)),(28,(qP g l)),(29,(iN ((l.length - 1)))),(30,(iN l.length)),(31,(AV.osl 0 g 10 (l.length - 1) 1))]) (a9m g l i) 1 (Y6 Tryz.f115 6 5) AV.unk (b7d g l i)) (.s (.g (.h' (b7d g l i) (.e (qP g l))))))))))))))))))
theorem c1i (l:l9E) (g i n:Nat) (hn:n=l.length) (hi:i < l.length) (hl:l.length < 1048576):AC 115 [(AV.osl 0 g 10 0 n),(iN i),(iN (i+1))] [(o_ g 10 (mE l))] ((AV.osl 0 g 10 0 (n - 1)),[(o_ g 10 (mE (l.take i++l.drop (i+1))))]):=by
 subst hn
 exact (b7z l g i hi hl).delete (by rw [List.take_append_of_le_length yh_,List.take_of_length_le yh_])
def u7 (l:List Entry) (k:Key):Nat:=(l.takeWhile fun e=>y9 e.card.key k).length
def r9 (l:List Entry) (k:Key):Bool:=decide (u7 l k < l.length)&&Key.eqb (nth l (u7 l k)).card.key k
theorem L8 (l:l9E) (k:Key):u7 l k<=l.length:=by
 unfold u7
 have:=List.Sublist.length_le (List.takeWhile_sublist (l:=l) fun e=>y9 e.card.key k)
 exact this
theorem wG {l:l9E} {k:Key}:∀ {i:Nat},i < u7 l k->y9 (nth l i).card.key k=true:=by
 unfold u7
 induction l with
 | nil=>intro i h; simp at h
 | cons e l ih =>
  intro i h
  rw [List.takeWhile_cons] at h
  by_cases hb:y9 e.card.key k=true
  · rw [if_pos hb] at h
    cases i with
    | zero=>exact hb
    | succ i=>exact ih yk_
  · rw [if_neg hb] at h; simp at h
theorem wH {l:l9E} {k:Key} (h:u7 l k < l.length):y9 (nth l (u7 l k)).card.key k=false:=by
 unfold u7 at *
 induction l with
 | nil=>simp at h
 | cons e l ih =>
  rw [List.takeWhile_cons] at h ⊢
  by_cases hb:y9 e.card.key k=true
  · rw [if_pos hb] at h ⊢
    exact ih yk_
  · rw [if_neg hb]
    have h3:y9 e.card.key k=false:=by simpa using hb
    exact h3
theorem eG {l:l9E} {k:Key} (h:r9 l k=true):u7 l k < l.length:=by
 unfold r9 at h
 rw [Bool.and_eq_true] at h
 exact of_decide_eq_true h.1
theorem b9X {l:l9E} {k:Key} {i:Nat} (hi:i<=l.length) (h1:∀ j,j < i->y9 (nth l j).card.key k=true) (h2:i < l.length->y9 (nth l i).card.key k=false):u7 l k=i:=by
 rcases Nat.lt_trichotomy (u7 l k) i with h | h | h
 · have:=h1 _ h
   rw [wH ow] at this; simp at this
 · exact h
 · have:=wG h
   rw [h2 (by have:=L8 l k; omega)] at this; simp at this
def wF:Ann:={ refs:=[3],base:=2,fin:=some 2,live:=[(2,[0,3,6])],out:=[(2,[0,3,6])] }
@[simp] abbrev oH (a:Int) (b c:Nat):=[[(iI a),(AV.osl 1 b 10 0 c)]]
@[simp] abbrev bL (a:Int) (b:Nat) (c:Nat):Ob:=(o_ 0 2 (oH a b c))
@[simp] abbrev K8 (a:Int) (b:Nat) (c:Nat) (d:l9E):Heap:=[bL a b c,(o_ b 10 (mE d))]
@[simp] abbrev a3K (a:Key) (b:Nat):Fr:=(mkF 50 [(0,(oO 0 0 0 0)),(3,(AV.ref (Key.row a) 0)),(6,(iN b))])
theorem a4H (most:Int) (l:l9E) (k:Key) (g n:Nat) (i:Nat) (hn:n=l.length) (hl:l.length < 1048576) (hi:i<=l.length) {eX:Ex} {FX:Fr} {HX:Heap} (k1:(decide ((i:Int) < (n:Int)))=true->(kI (nth l i).card.key k)=true->j6 (l9 Tryz.prog (X wF) (p9 Tryz.f52 0)) (some [0,3,6]) (some [0,3,6]) (mkF 50 [(0,(oO 0 0 0 0)),(3,(AV.ref (Key.row k) 0)),(6,(iN (i+1)))]) (K8 most g n l) eX FX HX) (k2:(decide ((i:Int) < (n:Int)))=true->(kI (nth l i).card.key k)=false->((.exit 0:Ex),(a3K k i),(K8 most g n l))=(eX,FX,HX)) (k3:(decide ((i:Int) < (n:Int)))=false->((.exit 0:Ex),(a3K k i),(K8 most g n l))=(eX,FX,HX)):j6 (l9 Tryz.prog (X wF) (p9 Tryz.f52 0)) (some [0,3,6]) (some [0,3,6]) (a3K k i) (K8 most g n l) eX FX HX :=
 F7 (.r (.two (decide ((i:Int) < (n:Int))) (fun h1 h1'=>(.u5 (.io 13 1 g 10 10 0 n (i:Int) i (E9.mk _ ow ow) (.u3 (.t 16 (AV.agg (Key.row (nth l i).card.key)) (K8 most g n l) (G9 (C8 (row:=Entry.row) (l:=l) (k:=10) (room:=none) kr om) kr:K3 tt 30 0 (K8 most g n l) (rowAt (K8 most g n l) 1 g i)=some ((AV.agg (Key.row (nth l i).card.key)),(K8 most g n l))) (.u2 (.c 18 ((qI (nth l i).card.key k).lift kr kr (K8 most g n l)) (.g (.two (kI (nth l i).card.key k) (fun h2 h2'=>(.r (.y 1 (.int .i64 (cb_ i)) (iN (i+1)) Yes.o (.g (.l (k1 h1 h2)))))) (fun h2 h2'=>(.l (k2 h1 h2)))))))))))) (fun h1 h1'=>(.n6 (.n4 (.g (.n (.l (k3 h1)))))))))
theorem a2K {p:Prop} (h:p:=by have:=of_decide_eq_true h1; omega):p:=h
theorem b9W (most:Int) (l:l9E) (k:Key) (g n:Nat) (hn:n=l.length) (hl:l.length < 1048576) (r:Nat):∀ (i:Nat),i+r=u7 l k ->
 j6 (l9 Tryz.prog (X wF) (p9 Tryz.f52 0)) (some [0,3,6]) (some [0,3,6]) (mkF 50 [(0,(oO 0 0 0 0)),(3,(AV.ref (Key.row k) 0)),(6,(iN i))]) [(o_ 0 2 [[(iI most),(AV.osl 1 g 10 0 n)]]),(o_ g 10 (mE l))] (.exit 0) (mkF 50 [(0,(oO 0 0 0 0)),(3,(AV.ref (Key.row k) 0)),(6,(iN ((u7 l k))))]) [(o_ 0 2 [[(iI most),(AV.osl 1 g 10 0 n)]]),(o_ g 10 (mE l))]:=by
 have hle:=L8 l k
 induction r with
 | zero =>
  intro i hi
  obtain rfl:i=u7 l k:=by omega
  refine a4H most l k g n (u7 l k) hn hl ow (fun h1 h2=>?_) (fun _ _=>rfl) (fun _=>rfl)
  rw [gH,wH a2K] at h2; simp at h2
 | succ r ih =>
  intro i hi
  refine a4H most l k g n i hn hl ow (fun _ _=>ih (i+1) ow) (fun _ h2=>?_) (fun h1=>?_)
  · rw [gH,wG (show i < u7 l k by omega)] at h2; simp at h2
  · simp at h1; omega
@[simp] abbrev d1B (a:Key) (b:l9E):Fr:=(mkF 50 [(0,(oO 0 0 0 0)),(3,(AV.ref (Key.row a) 0)),(6,(iN ((u7 b a))))])
theorem b9U (most:Int) (l:l9E) (k:Key) (g n:Nat) (hn:n=l.length) (hl:l.length < 1048576):AC 52 [(AV.obj 0 0 0 0),(AV.agg (Key.row k))] (K8 most g n l) ((AV.tup [(AV.int .i64 (((u7 l k):Nat):Int)),(AV.bool (r9 l k))]),(K8 most g n l)):=by
 have hle:=L8 l k
 exact o9 (fn:=Tryz.f52) (ann:=wF) (Has.o Tryz.func52) (.r (.s (.g (.loop (d1B k l) (b9W most l k g n hn hl (u7 l k) 0 ow) (.r (.two (decide ((((u7 l k):Nat):Int) < (n:Int))) (fun h1 h1'=>(.u5 (.io 14 1 g 10 10 0 n (((u7 l k):Nat):Int) (u7 l k) (E9.mk _ ow ow) (.u3 (.t 17 (AV.agg (Key.row (nth l (u7 l k)).card.key)) (K8 most g n l) (G9 (C8 (row:=Entry.row) (l:=l) (k:=10) (room:=none) kr om) kr:K3 tt 30 0 (K8 most g n l) (rowAt (K8 most g n l) 1 g (u7 l k))=some ((AV.agg (Key.row (nth l (u7 l k)).card.key)),(K8 most g n l))) (.u2 (.q 2 (AV.tup [(AV.int .i64 (((u7 l k):Nat):Int)),(AV.bool (Key.eqb (nth l (u7 l k)).card.key k))]) (by (try delta K8 bL); (have hb:r9 l k=Key.eqb (nth l (u7 l k)).card.key k:=by unfold r9; first | (simp_all; done) | (simp_all; omega) | (simp_all; intro h; omega)); rw [hb])))))))) (fun h1 h1'=>(.n6 (.n4 (.q 2 (AV.tup [(AV.int .i64 (((u7 l k):Nat):Int)),(AV.bool false)]) (by (try delta K8 bL); (have hb:r9 l k=false:=by unfold r9; first | (simp_all; done) | (simp_all; omega) | (simp_all; intro h; omega)); rw [hb])))))))))))
theorem lN (most:Int) (l:l9E) (k:Key) (g n:Nat) (hn:n=l.length) (hl:l.length < 1048576) (H:Heap):AC 52 [(oO 0 0 0 0),(AV.agg (Key.row k))] ((K8 most g n l)++H) ((AV.tup [(iN ((u7 l k))),(bB (r9 l k))]),(K8 most g n l)++H):=(b9U most l k g n hn hl).ext kr kr ob ob kr H
def b8Z:Ann:={ refs:=[3],base:=2,fin:=some 2 }
@[simp] abbrev d1A (a:Int) (b:Nat) (c:Nat) (d:l9E) (e:Entry):Heap:=[bL a b c,(o_ b 10 (mE (d.set (u7 d e.card.key) e)))]
theorem b3Q (most:Int) (l:l9E) (e:Entry) (g n:Nat) (hn:n=l.length) (hl:l.length < 1048576) (hb:r9 l e.card.key=true):AC 50 [(oO 0 0 0 0),(AV.agg (Entry.row e))] (K8 most g n l) (z_,(d1A most g n l e)):=by
 have hle:=L8 l e.card.key
 have hlt:=eG hb
 exact o9 (fn:=Tryz.f50) (ann:=b8Z) (Has.o Tryz.func50) (.r (.s (.c 4 (lN most l e.card.key g n oa oa []) (.s (.y 0 (bB (r9 l e.card.key)) bT (Yes.b (hb)) (.ru (.io 6 1 g 10 10 0 n (((u7 l e.card.key):Nat):Int) (u7 l e.card.key) (E9.mk _ ow ow) (.st 7 1 g (u7 l e.card.key) 10 0 (AV.agg (Entry.row e)) (d1A most g n l e) (Q5 (us:=(Entry.row e)) (C8 (row:=Entry.row) (l:=l) (k:=10) (room:=none) kr om) kr rZ rY) (.g (.qr 2 z_))))))))))
def b0l:Ann:={ refs:=[3],base:=2,fin:=some 2 }
theorem a6Z (most:Int) (l:l9E) (e:Entry) (g n:Nat) (hn:n=l.length) (hl:l.length < 1048576) (hb:r9 l e.card.key=false) (hm:most<=(n:Int)):AC 50 [(oO 0 0 0 0),(AV.agg (Entry.row e))] [(o_ 0 2 [[(iI most),(AV.osl 1 g 10 0 n)]]),(o_ g 10 (mE l))] ((iI 24),[(o_ 0 2 [[(iI most),(AV.osl 1 g 10 0 n)]]),(o_ g 10 (mE l))]):=by
 have hle:=L8 l e.card.key
 exact o9 (fn:=Tryz.f50) (ann:=b0l) (Has.o Tryz.func50) (.r (.s (.c 4 (lN most l e.card.key g n oa oa []) (.s (.y 0 (bB (r9 l e.card.key)) bF (Yes.b (hb)) (.rn (.y 9 (bB (decide ((n:Int) >= most))) bT (Yes.b om) (.g (.u (.qr 2 (iI 24)))))))))))
def b3P:Ann:={ refs:=[3],base:=2,fin:=some 2 }
theorem b0k (most:Int) (l:l9E) (e:Entry) (g n:Nat) (hn:n=l.length) (hl:l.length < 1048576) (hb:r9 l e.card.key=false) (hm:(n:Int) < most):AC 50 [(oO 0 0 0 0),(AV.agg (Entry.row e))] [(o_ 0 2 [[(iI most),(AV.osl 1 g 10 0 n)]]),(o_ g 10 (mE l))] (z_,[(o_ 0 2 [[(iI most),(AV.osl 1 (g+1) 10 0 (n+1))]]),(o_ (g+1) 10 (mE (l.take (u7 l e.card.key)++e :: l.drop (u7 l e.card.key))))]):=by
 have hle:=L8 l e.card.key
 exact o9 (fn:=Tryz.f50) (ann:=b3P) (Has.o Tryz.func50) (.r (.s (.c 4 (lN most l e.card.key g n oa oa []) (.s (.y 0 (bB (r9 l e.card.key)) bF (Yes.b (hb)) (.rn (.y 9 (bB (decide ((n:Int) >= most))) bF (Yes.b yh_) (.rn (.ch 8 [(o_ 0 2 [[(iI most),(AV.osl 1 g 10 0 n)]]),(o_ (g+1) 10 (mE (l.take (u7 l e.card.key)++e :: l.drop (u7 l e.card.key))))] (l6.pre (args:=[(AV.osl 1 g 10 0 n),(iN ((u7 l e.card.key))),(aC e)]) (args':=[(AV.osl 1 g 10 0 n),(iN ((u7 l e.card.key))),(aC e)]) (l6.put2 [1] [(o_ 0 2 [[(iI most),(AV.osl 1 g 10 0 n)]]),(o_ g 10 (mE l))] (AV.osl 1 (g+1) 10 0 (n+1)) [(o_ 0 2 [[(iI most),(AV.osl 1 g 10 0 n)]]),(o_ (g+1) 10 (mE (l.take (u7 l e.card.key)++e :: l.drop (u7 l e.card.key))))] (c1g l e g (u7 l e.card.key) n oa oa oa) (⟨Ob.ren0 (Entry.p8 0 _),trivial⟩) (⟨Ob.ren0 (Entry.p8 0 _),trivial⟩)) ⟨AV.j3 _,AV.j3 _,⟨rfl,rfl,.inl rfl⟩,trivial⟩) (.s (.g (.h' [(o_ 0 2 [[(iI most),(AV.osl 1 (g+1) 10 0 (n+1))]]),(o_ (g+1) 10 (mE (l.take (u7 l e.card.key)++e :: l.drop (u7 l e.card.key))))] (.q 2 z_)))))))))))))
def A9 (most:Int) (l:List Entry) (e:Entry):Int:=if r9 l e.card.key=true then 0 else if most<=(l.length:Int) then 24 else 0
def C9 (most:Int) (l:List Entry) (e:Entry):List Entry:=if r9 l e.card.key=true then l.set (u7 l e.card.key) e else if most<=(l.length:Int) then l else l.take (u7 l e.card.key)++e :: l.drop (u7 l e.card.key)
def I5 (most:Int) (l:List Entry) (e:Entry) (g:Nat):Nat:=if r9 l e.card.key=true then g else if most<=(l.length:Int) then g else g+1
theorem vK (most:Int) (l:l9E) (e:Entry):(C9 most l e).length<=l.length+1:=by
 have:=L8 l e.card.key
 unfold C9; split
 · simp
 · split
   · omega
   · simp; omega
theorem b8Y {most:Int} {l:l9E} {e:Entry} (h:(l.length:Int)<=most):((C9 most l e).length:Int)<=most:=by
 have:=L8 l e.card.key
 unfold C9; split
 · simpa using h
 · split
   · exact h
   · simp; omega
def zE:Entry:=⟨⟨⟨⟨#[]⟩,⟨#[]⟩⟩,0,0,0,⟨0,0,0⟩,false⟩,0⟩
def H9 (l:List Entry) (k:Key):List Entry:=if r9 l k=true then l.take (u7 l k)++l.drop (u7 l k+1) else l
def d9 (l:List Entry) (k:Key):Entry:=if r9 l k=true then nth l (u7 l k) else zE
theorem yM (l:l9E) (k:Key):(H9 l k).length<=l.length:=by
 unfold H9; split
 · simp; omega
 · omega
theorem c2Q (most:Int) (l:l9E) (e:Entry) (g n:Nat) (hn:n=l.length) (hl:l.length < 1048576):AC 50 [(oO 0 0 0 0),(AV.agg (Entry.row e))] [(o_ 0 2 [[(iI most),(AV.osl 1 g 10 0 n)]]),(o_ g 10 (mE l))] ((iI (A9 most l e)),[(o_ 0 2 [[(iI most),(AV.osl 1 (I5 most l e g) 10 0 (List.length (C9 most l e)))]]),(o_ (I5 most l e g) 10 (mE (C9 most l e)))]):=by
 subst hn
 have hle:=L8 l e.card.key
 cases hb:r9 l e.card.key with
 | true =>
  have h1:A9 most l e=0:=by simp [A9,hb]
  have h2:C9 most l e=l.set (u7 l e.card.key) e:=by simp [C9,hb]
  have h3:I5 most l e g=g:=by simp [I5,hb]
  rw [h1,h2,h3,List.length_set]
  exact b3Q most l e g l.length rfl hl hb
 | false =>
  by_cases hm:most<=(l.length:Int)
  · have h1:A9 most l e=24:=by simp [A9,hb,hm]
    have h2:C9 most l e=l:=by simp [C9,hb,hm]
    have h3:I5 most l e g=g:=by simp [I5,hb,hm]
    rw [h1,h2,h3]
    exact a6Z most l e g l.length rfl hl hb hm
  · have h1:A9 most l e=0:=by simp [A9,hb,hm]
    have h2:C9 most l e=l.take (u7 l e.card.key)++e :: l.drop (u7 l e.card.key):=by simp [C9,hb,hm]
    have h3:I5 most l e g=g+1:=by simp [I5,hb,hm]
    have h4:(l.take (u7 l e.card.key)++e :: l.drop (u7 l e.card.key)).length=l.length+1:=by simp; omega
    rw [h1,h2,h3,h4]
    exact b0k most l e g l.length rfl hl hb ow
theorem a6Y (most:Int) (l:l9E) (e:Entry) (g n:Nat) (hn:n=l.length) (hl:l.length < 1048576) (H:Heap):AC 50 [(oO 0 0 0 0),(AV.agg (Entry.row e))] ((K8 most g n l)++H) ((iI (A9 most l e)),([(o_ 0 2 [[(iI most),(AV.osl 1 (I5 most l e g) 10 0 (List.length (C9 most l e)))]]),(o_ (I5 most l e g) 10 (mE (C9 most l e)))]:Heap)++H):=(c2Q most l e g n hn hl).ext kr kr ob ob kr H
def b5j:Ann:={ refs:=[3],base:=2,fin:=some 2 }
@[simp] abbrev c7x (a:Nat) (b:l9E) (c:Key):Ob:=(o_ a 10 (mE (b.take (u7 b c)++b.drop ((u7 b c)+1))))
@[simp] abbrev d1z (a:Int) (b:Nat) (c:Nat) (d:l9E) (e:Key):Heap:=[(o_ 0 2 [[(iI a),(AV.osl 1 b 10 0 (c - 1))]]),c7x b d e]
@[simp] abbrev d1y (a:Int) (b:Nat) (c:Nat) (d:l9E) (e:Key):Heap:=[bL a b c,c7x b d e]
theorem b0N (most:Int) (l:l9E) (k:Key) (g n:Nat) (hn:n=l.length) (hl:l.length < 1048576) (hb:r9 l k=true):AC 60 [(oO 0 0 0 0),(AV.agg (Key.row k))] (K8 most g n l) (bT,(d1z most g n l k)):=by
 have hle:=L8 l k
 have hlt:=eG hb
 exact o9 (fn:=Tryz.f60) (ann:=b5j) (Has.o Tryz.func60) (.r (.s (.c 2 (lN most l k g n oa oa []) (.s (.y 0 (bB (r9 l k)) bT (Yes.b (hb)) (.ru (.y 7 (iW ((((u7 l k):Nat):Int)+1)) (iN ((u7 l k)+1)) Yes.o (.ch 8 (d1y most g n l k) (l6.pre (args:=[(AV.osl 1 g 10 0 n),(iN ((u7 l k))),(iN ((u7 l k)+1))]) (args':=[(AV.osl 1 g 10 0 n),(iN ((u7 l k))),(iN ((u7 l k)+1))]) (l6.put2 [1] (K8 most g n l) (AV.osl 1 g 10 0 (n - 1)) (d1y most g n l k) (c1i l g (u7 l k) n oa oa oa) (⟨Ob.ren0 (Entry.p8 0 _),trivial⟩) (⟨Ob.ren0 (Entry.p8 0 _),trivial⟩)) ⟨AV.j3 _,AV.j3 _,AV.j3 _,trivial⟩) (.s (.h' (d1z most g n l k) (.y 0 (bB (r9 l k)) bT (Yes.b (hb)) (.q 2 bT))))))))))))
def b0M:Ann:={ refs:=[3],base:=2,fin:=some 2 }
theorem a7R (most:Int) (l:l9E) (k:Key) (g n:Nat) (hn:n=l.length) (hl:l.length < 1048576) (hb:r9 l k=false):AC 60 [(oO 0 0 0 0),(AV.agg (Key.row k))] (K8 most g n l) (bF,(K8 most g n l)):=by
 have hle:=L8 l k
 exact o9 (fn:=Tryz.f60) (ann:=b0M) (Has.o Tryz.func60) (.r (.s (.c 2 (lN most l k g n oa oa []) (.s (.y 0 (bB (r9 l k)) bF (Yes.b (hb)) (.rn (.y 0 (bB (r9 l k)) bF (Yes.b (hb)) (.q 2 bF))))))))
theorem c0o (most:Int) (l:l9E) (k:Key) (g n:Nat) (hn:n=l.length) (hl:l.length < 1048576):AC 60 [(oO 0 0 0 0),(AV.agg (Key.row k))] [(o_ 0 2 [[(iI most),(AV.osl 1 g 10 0 n)]]),(o_ g 10 (mE l))] ((bB (r9 l k)),[(o_ 0 2 [[(iI most),(AV.osl 1 g 10 0 (List.length (H9 l k)))]]),(o_ g 10 (mE (H9 l k)))]):=by
 subst hn
 have hle:=L8 l k
 cases hb:r9 l k with
 | true =>
  have hlt:=eG hb
  have h2:H9 l k=l.take (u7 l k)++l.drop (u7 l k+1):=by simp [H9,hb]
  have h4:(l.take (u7 l k)++l.drop (u7 l k+1)).length=l.length - 1:=by simp; omega
  rw [h2,h4]
  exact b0N most l k g l.length rfl hl hb
 | false =>
  have h2:H9 l k=l:=by simp [H9,hb]
  rw [h2]
  exact a7R most l k g l.length rfl hl hb
theorem drop_at (most:Int) (l:l9E) (k:Key) (g n:Nat) (hn:n=l.length) (hl:l.length < 1048576) (H:Heap):AC 60 [(oO 0 0 0 0),(AV.agg (Key.row k))] ((K8 most g n l)++H) ((bB (r9 l k)),([(o_ 0 2 [[(iI most),(AV.osl 1 g 10 0 (List.length (H9 l k)))]]),(o_ g 10 (mE (H9 l k)))]:Heap)++H):=(c0o most l k g n hn hl).ext kr kr ob ob kr H
def b9S:Ann:={ refs:=[3],base:=2,fin:=some 2 }
@[simp] abbrev N7 :Ob:=(o_ 0 10 [[e_,e_,z_,z_,z_,z_,z_,z_,bF,z_]])
@[simp] abbrev a9l :Heap:=[N7]
@[simp] abbrev qU (a:Int) (b:Nat) (c:Nat) (d:l9E):Heap:=[bL a b c,(o_ b 10 (mE d)),N7]
@[simp] abbrev b5T (a:l9E) (b:Key):=(AV.tup [(AV.agg (Entry.row (nth a (u7 a b)))),bT])
theorem b4Q (most:Int) (l:l9E) (k:Key) (g n:Nat) (hn:n=l.length) (hl:l.length < 1048576) (hb:r9 l k=true):AC 17 [(oO 0 0 0 0),(AV.agg (Key.row k))] (K8 most g n l) ((b5T l k),(K8 most g n l)):=by
 have hle:=L8 l k
 have hlt:=eG hb
 exact o9 (fn:=Tryz.f17) (ann:=b9S) (Has.o Tryz.func17) (.r (.s (.c 2 (lN most l k g n oa oa a9l) (.s (.h' (qU most g n l) (.y 1 (bB (!(r9 l k))) bF (Yes.b (by rw [hb]; rfl)) (.rn (.io 5 1 g 10 10 0 n (((u7 l k):Nat):Int) (u7 l k) (E9.mk _ ow ow) (.t 6 (AV.agg (Entry.row (nth l (u7 l k)))) (qU most g n l) (G9 (C8 (row:=Entry.row) (l:=l) (k:=10) (room:=none) kr om) kr:K3 tt 45 0 (qU most g n l) (rowAt (qU most g n l) 1 g (u7 l k))=some ((AV.agg (Entry.row (nth l (u7 l k)))),(qU most g n l))) (.g (.h' (K8 most g n l) (.q 2 (b5T l k)))))))))))))
def b4P:Ann:={ refs:=[3],base:=2,fin:=some 2 }
theorem b0E (most:Int) (l:l9E) (k:Key) (g n:Nat) (hn:n=l.length) (hl:l.length < 1048576) (hb:r9 l k=false):AC 17 [(oO 0 0 0 0),(AV.agg (Key.row k))] (K8 most g n l) ((AV.tup [(AV.agg (Entry.row zE)),bF]),(K8 most g n l)):=by
 have hle:=L8 l k
 exact o9 (fn:=Tryz.f17) (ann:=b4P) (Has.o Tryz.func17) (.r (.s (.c 2 (lN most l k g n oa oa a9l) (.s (.h' (qU most g n l) (.y 1 (bB (!(r9 l k))) bT (Yes.b (by rw [hb]; rfl)) (.ru (.g (.h' (K8 most g n l) (.q 2 (AV.tup [(AV.agg [e_,e_,z_,z_,z_,z_,z_,z_,bF,z_]),bF])))))))))))
theorem c3I (most:Int) (l:l9E) (k:Key) (g n:Nat) (hn:n=l.length) (hl:l.length < 1048576):AC 17 [(oO 0 0 0 0),(AV.agg (Key.row k))] [(o_ 0 2 [[(iI most),(AV.osl 1 g 10 0 n)]]),(o_ g 10 (mE l))] ((AV.tup [(AV.agg (Entry.row (d9 l k))),(bB (r9 l k))]),[(o_ 0 2 [[(iI most),(AV.osl 1 g 10 0 n)]]),(o_ g 10 (mE l))]):=by
 cases hb:r9 l k with
 | true =>
  have h2:d9 l k=nth l (u7 l k):=by simp [d9,hb]
  rw [h2]
  exact b4Q most l k g n hn hl hb
 | false =>
  have h2:d9 l k=zE:=by simp [d9,hb]
  rw [h2]
  exact b0E most l k g n hn hl hb
theorem get_at (most:Int) (l:l9E) (k:Key) (g n:Nat) (hn:n=l.length) (hl:l.length < 1048576) (H:Heap):AC 17 [(oO 0 0 0 0),(AV.agg (Key.row k))] ((K8 most g n l)++H) ((AV.tup [(AV.agg (Entry.row (d9 l k))),(bB (r9 l k))]),(K8 most g n l)++H):=(c3I most l k g n hn hl).ext kr kr ob ob kr H
def b1e:Ann:={ gha:=[(2,.vir 2 10)],fin:=some 1 }
theorem a8j  :AC 114 [(AV.sl .nil 0 [])] [] ((AV.osl 0 0 10 0 0),[(o_ 0 10 (mE []))]) :=
 o9 (fn:=Tryz.f114) (ann:=b1e) (Has.o Tryz.func114) (.r (.s (.ru (.g (.h' [(o_ 0 10 (mE []))] (.q 1 (AV.osl 0 0 10 0 0)))))))
def b1d:Ann:={ own:=[7],fin:=some 1 }
theorem a8i (l:l9E) (hl:l.length < 1099511627776):AC 114 [(AV.sl .op 10 (mE l))] [] ((AV.osl 0 0 10 0 l.length),[(o_ 0 10 (mE l))]) :=
 o9 (fn:=Tryz.f114) (ann:=b1d) (Has.o Tryz.func114) (.r (.s (.rn (.ao 2 104 (AV.sl .clip 10 []) (AV.sl .op 10 (mE l)) (AV.osl 0 0 10 0 l.length) [(o_ 0 10 (mE l))] (O5 (T:=tt) (e:=45) (te:=bE) (z:=1) (b:=24) (y:=[.sl .nil 0 []]) (row:=Entry.row) kr kr rfl z8 z8 yf_ U7 rfl rfl rfl om) (.q 1 (AV.osl 0 0 10 0 l.length))))))
theorem b1c (l:l9E) (hl:l.length < 1099511627776):AC 114 [(sA 10 (mE l))] [] ((AV.osl 0 0 10 0 l.length),[(o_ 0 10 (mE l))]):=l6.a5x (fun h=>by
 have h2:l=[]:=by simpa using h
 subst h2; exact a8j) (a8i l hl)
def c1N:Ann:={ gha:=[(1,.frz 2)],base:=2,fin:=some 2 }
@[simp] abbrev d1x (a:Int) (b:Nat) (c:Nat) (d:l9E):Heap:=[bL a b c,(o_ b 10 (mE d)),(o_ 0 10 (mE d))]
theorem b8a (most:Int) (l:l9E) (g n:Nat) (hn:n=l.length) (hl:l.length < 1048576):AC 59 [(oO 0 0 0 0)] (K8 most g n l) ((sA 10 (mE l)),(K8 most g n l)) :=
 o9 (fn:=Tryz.f59) (ann:=c1N) (Has.o Tryz.func59) (.r (.s (.ch 4 (d1x most g n l) (l6.a2z (args:=[(sA 10 (mE l))]) (args':=[(AV.osl 1 g 10 0 n)]) (H:=(K8 most g n l)) (b1c l oa) (a1M (fun _=>rfl) _) (show Brs (K8 most g n l) [(AV.osl 1 g 10 0 n)] [(sA 10 (mE l))] from ⟨Br.osl (G7 (room:=none) kr (by first | omega | (simp [List.length_set]; done) | (simp [List.length_set]; omega))) (Entry.p8 _ _),trivial⟩)) (.w' 2 (mE l) (And.intro (G7 (room:=none) kr om) (Entry.p8 _ _):F5 (d1x most g n l) 10 (AV.osl 2 0 10 0 l.length)=some (mE l)/\AV.D5 0 (mE l)=true) (.g (.h' (K8 most g n l) (.q 2 (sA 10 (mE l)))))))))
theorem a2S (most:Int) (l:l9E) (g n:Nat) (hn:n=l.length) (hl:l.length < 1048576) (H:Heap):AC 59 [(oO 0 0 0 0)] ((K8 most g n l)++H) ((sA 10 (mE l)),(K8 most g n l)++H):=(b8a most l g n hn hl).ext kr kr ob ob kr H
def M5 (l:List Entry):Nat:=l.foldl (fun s e=>if (!e.card.gone)=true then s+1 else s) 0
theorem c3L {α β:Type} (f:α->β) (l:List α):∀ (out:List β) (k g:Nat),l.foldl (fun (s:List β × Nat × Nat) c=>(s.1++[f c],s.2.1+1,s.2.2+1)) (out,k,g)=(out++l.map f,k+l.length,g+l.length):=by
 induction l with
 | nil=>intro out k g; simp
 | cons c l ih=>intro out k g; rw [List.foldl_cons,ih]; simp; omega
def xK:Ann:={ gha:=[(7,.cut 2)],base:=2,fin:=some 2,live:=[(3,[3,9,10,11])],out:=[(3,[3,9,10,11])] }
@[simp] abbrev b7c (a:Nat) (b:Nat) (c:Nat) (d:Nat):Fr:=(mkF 23 [(3,(iN a)),(9,(AV.osl 1 b 10 0 c)),(10,(iN c)),(11,(iN d))])
@[simp] abbrev c7z (a:Int) (b:Nat) (c:Nat) (d:l9E) (e:Nat):Heap:=[bL a b c,(o_ b 10 (mE d)),(o_ 0 10 [(Entry.row (nth d e))])]
@[simp] abbrev c5a :=(l9 Tryz.prog (X xK) (p9 Tryz.f62 0))
theorem a1E (most:Int) (l:l9E) (g:Nat) (n:Nat) (k:Nat) (i:Nat) (hn:n=l.length) (hl:l.length < 1048576) (hk:k<=i) (hle_:i<=n) {eX:Ex} {FX:Fr} {HX:Heap} (k1:(decide ((i:Int) < (n:Int)))=true->(!(nth l i).card.gone)=true->j6 c5a (some [3,9,10,11]) (some [3,9,10,11]) (mkF 23 [(3,(iN (k+1))),(9,(AV.osl 1 g 10 0 n)),(10,(iN n)),(11,(iN (i+1)))]) (K8 most g n l) eX FX HX) (k2:(decide ((i:Int) < (n:Int)))=true->(!(nth l i).card.gone)=false->j6 c5a (some [3,9,10,11]) (some [3,9,10,11]) (mkF 23 [(3,(iN k)),(9,(AV.osl 1 g 10 0 n)),(10,(iN n)),(11,(iN (i+1)))]) (K8 most g n l) eX FX HX) (k3:(decide ((i:Int) < (n:Int)))=false->((.exit 0:Ex),(b7c k g n i),(K8 most g n l))=(eX,FX,HX)):j6 c5a (some [3,9,10,11]) (some [3,9,10,11]) (b7c k g n i) (K8 most g n l) eX FX HX :=
 F7 (.r (.g (.two (decide ((i:Int) < (n:Int))) (fun h1 h1'=>(.r (.h' (qU most g n l) (.io 0 1 g 10 10 0 n (i:Int) i (E9.mk _ ow ow) (.t 1 (cj_ l i) (qU most g n l) (G9 (C8 (row:=Entry.row) (l:=l) (k:=10) (room:=none) kr om) kr:K3 tt 45 0 (qU most g n l) (rowAt (qU most g n l) 1 g i)=some ((cj_ l i),(qU most g n l))) (.s (.g (.two (!(nth l i).card.gone) (fun h2 h2'=>(.r (.h' (c7z most g n l i) (.y 1 (.int .i64 (cb_ k)) (iN (k+1)) Yes.o (.s (.y 0 (.int .i64 (cb_ i)) (iN (i+1)) Yes.o (.h' (K8 most g n l) (.b 2 (.g (.l (k1 h1 h2))))))))))) (fun h2 h2'=>(.r (.h' (c7z most g n l i) (.y 0 (.int .i64 (cb_ i)) (iN (i+1)) Yes.o (.h' (K8 most g n l) (.b 2 (.g (.l (k2 h1 h2))))))))))))))))) (fun h1 h1'=>(.l (k3 h1))))))
def tQ (most:Int) (l:List Entry) (g:Nat) (n:Nat) (i:Nat) (s:Nat):Nat:=(if (!(nth l i).card.gone)=true then (s+1) else (s))
theorem b2w (most:Int) (l:l9E) (g:Nat) (n:Nat) (hn:n=l.length) (hl:l.length < 1048576)  (r_:Nat):∀ (k:Nat) (i:Nat) (sF:Nat),i+r_=n->k<=i->sF=iter (tQ most l g n) r_ i (k) ->
 j6 (l9 Tryz.prog (X xK) (p9 Tryz.f62 0)) (some [3,9,10,11]) (some [3,9,10,11]) (b7c k g n i) (K8 most g n l) (.exit 0) (mkF 23 [(3,(iN sF)),(9,(AV.osl 1 g 10 0 n)),(10,(iN n)),(11,(iN n))]) (K8 most g n l):=by
 induction r_ with
 | zero =>
  intro k i sF hi_ hk  hF
  obtain rfl:n=i:=by omega
  have e_:sF=(k):=hF
  refine a1E most l g n k n hn hl hk (Nat.le_refl _) (fun h _=>by simp at h <;> omega) (fun h _=>by simp at h <;> omega) (fun _=>?_)
  first | done | rfl | (rw [e_]; done) | (rw [e_]; rfl)
 | succ r_ ih =>
  intro k i sF hi_ hk  hF
  refine a1E most l g n k i hn hl hk ow (fun h1 h2=>?_) (fun h1 h2=>?_) (fun h=>by simp at h <;> omega)
  · exact ih (k+1) (i+1) sF ow N9  (by rw [hF] <;> simp only [iter,tQ,h2,if_true,Bool.false_eq_true,if_false])
  · exact ih k (i+1) sF ow N9  (by rw [hF] <;> simp only [iter,tQ,h2,if_true,Bool.false_eq_true,if_false])
theorem b4n (most:Int) (l:l9E) (g:Nat):M5 l=iter (tQ most l g l.length) l.length 0 0:=by
 rw [V5 (tQ most l g l.length) (fun s e=>if (!e.card.gone)=true then s+1 else s) l (fun i s hi=>rfl)]; rfl
attribute [local irreducible] M5
@[simp] abbrev d2w (a:l9E) (b:Nat) (c:Nat):Fr:=(mkF 23 [(3,(iN ((M5 a)))),(9,(AV.osl 1 b 10 0 c)),(10,(iN c)),(11,(iN c))])
theorem b2v (most:Int) (l:l9E) (g n:Nat) (hn:n=l.length) (hl:l.length < 1048576):AC 62 [(oO 0 0 0 0)] (K8 most g n l) ((iN ((M5 l))),(K8 most g n l)) :=
 o9 (fn:=Tryz.f62) (ann:=xK) (Has.o Tryz.func62) (.r (.s (.s (.g (.loop (d2w l g n) (b2w most l g n hn hl n 0 0 (M5 l) ow ow (by subst hn; exact b4n most l g)) (.qr 2 (iN ((M5 l)))))))))
theorem c1K (most:Int) (l:l9E) (g n:Nat) (hn:n=l.length) (hl:l.length < 1048576) (H:Heap):AC 62 [(oO 0 0 0 0)] ((K8 most g n l)++H) ((iN ((M5 l))),(K8 most g n l)++H):=(b2v most l g n hn hl).ext kr kr ob ob kr H
def oP:Ann:={ gha:=[(1,.vir 3 9),(6,.cut 3),(7,.frz 2)],base:=2,fin:=some 2,live:=[(3,[3,9,10,11])],out:=[(3,[3,9,10,11])] }
@[simp] abbrev c7y (a:Int) (b:Nat) (c:Nat) (d:l9E) (e:Nat) (f:l9C) (g:Nat):Heap:=[bL a b c,(o_ b 10 (mE d)),(o_ (e+1) 9 (mC (f++[(nth d g).card])))]
@[simp] abbrev b7b (a:Nat) (b:Nat) (c:Nat) (d:Nat) (e:Nat):Fr:=(mkF 22 [(3,(AV.osl 2 a 9 0 b)),(9,(AV.osl 1 c 10 0 d)),(10,(iN d)),(11,(iN e))])
@[simp] abbrev b7a (a:Int) (b:Nat) (c:Nat) (d:l9E) (e:Nat) (f:l9C):Heap:=[bL a b c,(o_ b 10 (mE d)),(o_ e 9 (mC f))]
@[simp] abbrev a2F (a:Int) (b:Nat) (c:Nat) (d:l9E) (e:Nat) (f:l9C):Heap:=[bL a b c,(o_ b 10 (mE d)),(o_ e 9 (mC f)),N7]
theorem a0s (most:Int) (l:l9E) (g:Nat) (n:Nat) (out:l9C) (k:Nat) (h:Nat) (i:Nat) (hn:n=l.length) (hl:l.length < 1048576) (hk:k=out.length) (hki:k<=i) (hle_:i<=n) {eX:Ex} {FX:Fr} {HX:Heap} (k1:(decide ((i:Int) < (n:Int)))=true->j6 (l9 Tryz.prog (X oP) (p9 Tryz.f40 0)) (some [3,9,10,11]) (some [3,9,10,11]) (mkF 22 [(3,(AV.osl 2 (h+1) 9 0 (k+1))),(9,(AV.osl 1 g 10 0 n)),(10,(iN n)),(11,(iN (i+1)))]) (c7y most g n l h out i) eX FX HX) (k2:(decide ((i:Int) < (n:Int)))=false->((.exit 0:Ex),(b7b h k g n i),(b7a most g n l h out))=(eX,FX,HX)):j6 (l9 Tryz.prog (X oP) (p9 Tryz.f40 0)) (some [3,9,10,11]) (some [3,9,10,11]) (b7b h k g n i) (b7a most g n l h out) eX FX HX :=
 F7 (.r (.g (.two (decide ((i:Int) < (n:Int))) (fun h1 h1'=>(.r (.h' (a2F most g n l h out) (.io 0 1 g 10 10 0 n (i:Int) i (E9.mk _ ow ow) (.t 1 (cj_ l i) (a2F most g n l h out) (G9 (C8 (row:=Entry.row) (l:=l) (k:=10) (room:=none) kr om) kr:K3 tt 45 0 (a2F most g n l h out) (rowAt (a2F most g n l h out) 1 g i)=some ((cj_ l i),(a2F most g n l h out))) (.s (.h' [(o_ 0 2 (oH most g n)),(o_ g 10 (mE l)),(o_ h 9 (mC out)),(o_ 0 10 [(Entry.row (nth l i))])] (.ap 4 32 (AV.osl 2 h 9 0 k) (AV.sl .clip 9 [(j5.row (nth l i).card)]) (AV.osl 2 (h+1) 9 0 (k+1)) [(o_ 0 2 (oH most g n)),(o_ g 10 (mE l)),(o_ (h+1) 9 (mC (out++[(nth l i).card]))),(o_ 0 10 [(Entry.row (nth l i))])] (H6 (row:=j5.row) (l:=out) (x:=(nth l i).card) (T:=tt) (e:=39) (te:=jU) (z:=1) (b:=24) (y:=[.sl .nil 0 []]) kr kr rfl z8 z8 kr aU rfl rfl pX) (.s (.y 0 (.int .i64 (cb_ i)) (iN (i+1)) Yes.o (.h' (c7y most g n l h out i) (.b 3 (.g (.l (k1 h1))))))))))))))) (fun h1 h1'=>(.l (k2 h1))))))
def vD (most:Int) (l:List Entry) (g:Nat) (n:Nat) (i:Nat) (s:(List j5) × Nat × Nat):(List j5) × Nat × Nat:=(s.1++[(nth l i).card],(s.2.1+1),(s.2.2+1))
theorem a9N (most:Int) (l:l9E) (g:Nat) (n:Nat) (hn:n=l.length) (hl:l.length < 1048576)  (r_:Nat):∀ (out:l9C) (k:Nat) (h:Nat) (i:Nat) (sF:(l9C) × Nat × Nat),i+r_=n->k=out.length->k<=i->sF=iter (vD most l g n) r_ i (out,k,h) ->
 j6 (l9 Tryz.prog (X oP) (p9 Tryz.f40 0)) (some [3,9,10,11]) (some [3,9,10,11]) (b7b h k g n i) (b7a most g n l h out) (.exit 0) (mkF 22 [(3,(AV.osl 2 sF.2.2 9 0 sF.2.1)),(9,(AV.osl 1 g 10 0 n)),(10,(iN n)),(11,(iN n))]) [(o_ 0 2 [[(iI most),(AV.osl 1 g 10 0 n)]]),(o_ g 10 (mE l)),(o_ sF.2.2 9 (mC sF.1))]:=by
 induction r_ with
 | zero =>
  intro out k h i sF hi_ hk hki  hF
  obtain rfl:n=i:=by omega
  have e_:sF=(out,k,h):=hF
  refine a0s most l g n out k h n hn hl hk hki (Nat.le_refl _) (fun h=>by simp at h <;> omega) (fun _=>?_)
  first | done | rfl | (rw [e_]; done) | (rw [e_]; rfl)
 | succ r_ ih =>
  intro out k h i sF hi_ hk hki  hF
  refine a0s most l g n out k h i hn hl hk hki ow (fun h1=>?_) (fun h=>by simp at h <;> omega)
  · exact ih (out++[(nth l i).card]) (k+1) (h+1) (i+1) sF ow N9 N9  (by rw [hF] <;> simp only [iter,vD,if_true,Bool.false_eq_true,if_false])
theorem a9O (most:Int) (l:l9E) (g:Nat):(l.map (·.card),l.length,l.length)=iter (vD most l g l.length) l.length 0 ([],0,0):=by
 rw [V5 (vD most l g l.length) (fun s e=>(s.1++[e.card],s.2.1+1,s.2.2+1)) l (fun i s hi=>rfl),c3L (fun e:Entry=>e.card)]; simp
@[simp] abbrev d2v (a:l9E) (b:Nat) (c:Nat):Fr:=(mkF 22 [(3,(AV.osl 2 a.length 9 0 a.length)),(9,(AV.osl 1 b 10 0 c)),(10,(iN c)),(11,(iN c))])
@[simp] abbrev d2u (a:Int) (b:Nat) (c:Nat) (d:l9E):Heap:=[bL a b c,(o_ b 10 (mE d)),(o_ d.length 9 (mC (d.map (·.card))))]
theorem a9M (most:Int) (l:l9E) (g n:Nat) (hn:n=l.length) (hl:l.length < 1048576):AC 40 [(oO 0 0 0 0)] (K8 most g n l) ((sA 9 (mC (l.map (·.card)))),(K8 most g n l)) :=
 o9 (fn:=Tryz.f40) (ann:=oP) (Has.o Tryz.func40) (.r (.s (.s (.g (.loop (d2v l g n) (a9N most l g n hn hl n [] 0 0 0 (l.map (·.card),l.length,l.length) ow rfl ow (by subst hn; exact a9O most l g)) (.r (.w' 2 (mC (l.map (·.card))) (And.intro (G7 (room:=none) kr om) (j5.p8 _ _):F5 (d2u most g n l) 9 (AV.osl 2 l.length 9 0 l.length)=some (mC (l.map (·.card)))/\AV.D5 0 (mC (l.map (·.card)))=true) (.g (.h' (K8 most g n l) (.q 2 (sA 9 (mC (l.map (·.card))))))))))))))
theorem a4f (most:Int) (l:l9E) (g n:Nat) (hn:n=l.length) (hl:l.length < 1048576) (H:Heap):AC 40 [(oO 0 0 0 0)] ((K8 most g n l)++H) ((sA 9 (mC (l.map (·.card)))),(K8 most g n l)++H):=(a9M most l g n hn hl).ext kr kr ob ob kr H
attribute [local irreducible] A9 C9 H9 I5 d9 r9 u7
def o7 (most:Int):Int:=max 0 (min most 32)
def c2Y:Ann:={ fin:=some 1 }
@[simp] abbrev c5X (a:Int):Heap:=[(o_ 0 2 [[(iI (o7 a)),(AV.sl .nil 0 [])]])]
theorem b9k (most:Int) :AC 44 [(iI most)] [] ((oO 0 0 0 0),(c5X most)) :=
 o9 (fn:=Tryz.f44) (ann:=c2Y) (Has.o Tryz.func44) (.r (.s (.y 1 (.int .i64 (if 32 < most then 32 else most)) (iI (min most 32)) (Yes.int yw_) (.y 2 (.int .i64 (if (min most 32) > 0 then (min most 32) else 0)) (iI (max 0 (min most 32))) (Yes.int yw_) (.g (.h' [(o_ 0 2 [[(iI (max 0 (min most 32))),(AV.sl .nil 0 [])]])] (.q 1 (oO 0 0 0 0))))))))
theorem b7R (most:Int) :AC 44 [(iI most)] [] ((oO 0 0 0 0),[(o_ 0 2 [[(iI (o7 most)),(AV.osl 1 0 10 0 0)]]),(o_ 0 10 (mE []))]):=(b9k most).a6c
def b8M:Ann:={ fin:=some 1 }
theorem b3q (most:Int) :AC 126 [(iI most)] [] ((oO 0 0 0 0),(c5X most)) :=
 o9 (fn:=Tryz.f126) (ann:=b8M) (Has.o Tryz.func126) (.r (.s (.y 1 (.int .i64 (if 32 < most then 32 else most)) (iI (min most 32)) (Yes.int yw_) (.y 2 (.int .i64 (if 0 > (min most 32) then 0 else (min most 32))) (iI (max (min most 32) 0)) (Yes.int yw_) (.g (.h' [(o_ 0 2 [[(iI (max (min most 32) 0)),(AV.sl .nil 0 [])]])] (.q 1 (oO 0 0 0 0) (by (try delta c5X); simp [o7,Int.max_comm]))))))))
theorem b8L (most:Int) :AC 126 [(iI most)] [] ((oO 0 0 0 0),[(o_ 0 2 [[(iI (o7 most)),(sA 10 (mE []))]])]):=(b3q most).c7I ⟨rfl,rfl,.inr rfl⟩
def rC:Ann:={ refs:=[3],base:=1,fin:=some 1,live:=[(2,[0,3,6])],out:=[(2,[0,3,6])] }
@[simp] abbrev kK (a:Int) (b:l9E):=[[(iI a),(sA 10 (mE b))]]
@[simp] abbrev bK (a:Int) (b:l9E):Ob:=(o_ 0 2 (kK a b))
@[simp] abbrev Q7 (a:Int) (b:l9E):Heap:=[bK a b]
theorem a2e (most:Int) (l:l9E) (k:Key) (i:Nat) (hl:l.length < 1048576) (hi:i<=l.length) {eX:Ex} {FX:Fr} {HX:Heap} (k1:(decide ((i:Int) < (l.length:Int)))=true->(y9 (nth l i).card.key k)=true->j6 (l9 Tryz.prog (X rC) (p9 Tryz.f184 0)) (some [0,3,6]) (some [0,3,6]) (mkF 50 [(0,(oO 0 0 0 0)),(3,(AV.ref (Key.row k) 0)),(6,(iN (i+1)))]) (Q7 most l) eX FX HX) (k2:(decide ((i:Int) < (l.length:Int)))=true->(y9 (nth l i).card.key k)=false->((.exit 0:Ex),(a3K k i),(Q7 most l))=(eX,FX,HX)) (k3:(decide ((i:Int) < (l.length:Int)))=false->((.exit 0:Ex),(a3K k i),(Q7 most l))=(eX,FX,HX)):j6 (l9 Tryz.prog (X rC) (p9 Tryz.f184 0)) (some [0,3,6]) (some [0,3,6]) (a3K k i) (Q7 most l) eX FX HX :=
 F7 (.r (.y 5 (.int .i64 ((List.length (mE l):Nat):Int)) (iN l.length) (Yes.len _ _ _) (.two (decide ((i:Int) < (l.length:Int))) (fun h1 h1'=>(.u5 (.is 13 10 10 (mE l) (i:Int) (Entry.row (nth l i)) (J8.mk _ ow ow) (.u5 (.c 18 ((tJ (nth l i).card.key k).lift kr kr (Q7 most l)) (.g (.two (y9 (nth l i).card.key k) (fun h2 h2'=>(.r (.y 1 (.int .i64 (cb_ i)) (iN (i+1)) Yes.o (.g (.l (k1 h1 h2)))))) (fun h2 h2'=>(.l (k2 h1 h2)))))))))) (fun h1 h1'=>(.n6 (.n4 (.g (.n (.l (k3 h1))))))))))
theorem b3z (most:Int) (l:l9E) (k:Key) (hl:l.length < 1048576) (r:Nat):∀ (i:Nat),i+r=u7 l k ->
 j6 (l9 Tryz.prog (X rC) (p9 Tryz.f184 0)) (some [0,3,6]) (some [0,3,6]) (mkF 50 [(0,(oO 0 0 0 0)),(3,(AV.ref (Key.row k) 0)),(6,(iN i))]) [(o_ 0 2 [[(iI most),(sA 10 (mE l))]])] (.exit 0) (mkF 50 [(0,(oO 0 0 0 0)),(3,(AV.ref (Key.row k) 0)),(6,(iN ((u7 l k))))]) [(o_ 0 2 [[(iI most),(sA 10 (mE l))]])]:=by
 have hle:=L8 l k
 induction r with
 | zero =>
  intro i hi
  obtain rfl:i=u7 l k:=by omega
  refine a2e most l k (u7 l k) hl ow (fun h1 h2=>?_) (fun _ _=>rfl) (fun _=>rfl)
  rw [wH a2K] at h2; simp at h2
 | succ r ih =>
  intro i hi
  refine a2e most l k i hl ow (fun _ _=>ih (i+1) ow) (fun _ h2=>?_) (fun h1=>?_)
  · rw [wG (show i < u7 l k by omega)] at h2; simp at h2
  · simp at h1; omega
theorem b3y (most:Int) (l:l9E) (k:Key) (hl:l.length < 1048576):AC 184 [(AV.obj 0 0 0 0),(AV.agg (Key.row k))] (Q7 most l) ((AV.tup [(AV.int .i64 (((u7 l k):Nat):Int)),(AV.bool (r9 l k))]),(Q7 most l)):=by
 have hle:=L8 l k
 exact o9 (fn:=Tryz.f184) (ann:=rC) (Has.o Tryz.func184) (.r (.s (.g (.loop (d1B k l) (b3z most l k hl (u7 l k) 0 ow) (.r (.y 6 (.int .i64 ((List.length (List.map Entry.row l):Nat):Int)) (AV.int .i64 (l.length:Int)) (Yes.len _ _ _) (.two (decide ((((u7 l k):Nat):Int) < (l.length:Int))) (fun h1 h1'=>(.u5 (.is 14 10 10 (List.map Entry.row l) (((u7 l k):Nat):Int) (Entry.row (nth l (u7 l k))) (J8.mk _ ow ow) (.u5 (.q 1 (AV.tup [(AV.int .i64 (((u7 l k):Nat):Int)),(AV.bool (Key.eqb (nth l (u7 l k)).card.key k))]) (by (try delta Q7 bK); (have hb:r9 l k=Key.eqb (nth l (u7 l k)).card.key k:=by unfold r9; first | (simp_all; done) | (simp_all; omega) | (simp_all; intro h; omega)); rw [hb])))))) (fun h1 h1'=>(.n6 (.n4 (.q 1 (AV.tup [(AV.int .i64 (((u7 l k):Nat):Int)),(AV.bool false)]) (by (try delta Q7 bK); (have hb:r9 l k=false:=by unfold r9; first | (simp_all; done) | (simp_all; omega) | (simp_all; intro h; omega)); rw [hb]))))))))))))
theorem jI (most:Int) (l:l9E) (k:Key) (hl:l.length < 1048576) (H:Heap):AC 184 [(oO 0 0 0 0),(AV.agg (Key.row k))] ((Q7 most l)++H) ((AV.tup [(iN ((u7 l k))),(bB (r9 l k))]),(Q7 most l)++H):=(b3y most l k hl).ext kr kr ob ob kr H
def a9Z:Ann:={ refs:=[3],own:=[22,50,60],base:=1,fin:=some 2 }
@[simp] abbrev d1w (a:Int) (b:l9E) (c:Entry):Heap:=[(o_ 0 2 [[(iI a),(AV.osl 1 0 10 0 b.length)]]),(o_ 0 10 (mE (b.set (u7 b c.card.key) c)))]
theorem a6P (most:Int) (l:l9E) (e:Entry) (hl:l.length < 1048576) (hb:r9 l e.card.key=true):AC 134 [(oO 0 0 0 0),(AV.agg (Entry.row e))] (Q7 most l) (z_,(d1w most l e)):=by
 have hle:=L8 l e.card.key
 have hlt:=eG hb
 exact o9 (fn:=Tryz.f134) (ann:=a9Z) (Has.o Tryz.func134) (.r (.s (.c 4 (jI most l e.card.key oa []) (.s (.y 0 (bB (r9 l e.card.key)) bT (Yes.b (hb)) (.ru (.ao 6 185 (AV.sl .clip 10 []) (sA 10 (mE l)) (AV.osl 1 0 10 0 l.length) [(o_ 0 2 (kK most l)),(o_ 0 10 (mE l))] (O5 (T:=tt) (e:=128) (te:=bE) (z:=1) (b:=24) (y:=[.sl .nil 0 []]) (row:=Entry.row) kr kr rfl z8 z8 yf_ U7 rfl rfl rfl om) (.s (.h' [(o_ 0 2 [[(iI most),(AV.osl 1 0 10 0 l.length)]]),(o_ 0 10 (mE l))] (.io 6 1 0 10 10 0 l.length (((u7 l e.card.key):Nat):Int) (u7 l e.card.key) (E9.mk _ ow ow) (.st 7 1 0 (u7 l e.card.key) 10 0 (AV.agg (Entry.row e)) (d1w most l e) (Q5 (us:=(Entry.row e)) (C8 (row:=Entry.row) (l:=l) (k:=10) (room:=none) kr om) kr rZ rY) (.g (.qr 2 z_)))))))))))))
def a6Q:Ann:={ refs:=[3],base:=1,fin:=some 1 }
theorem a5e (most:Int) (l:l9E) (e:Entry) (hl:l.length < 1048576) (hb:r9 l e.card.key=false) (hm:most<=(l.length:Int)):AC 134 [(oO 0 0 0 0),(AV.agg (Entry.row e))] (Q7 most l) ((iI 24),(Q7 most l)):=by
 have hle:=L8 l e.card.key
 exact o9 (fn:=Tryz.f134) (ann:=a6Q) (Has.o Tryz.func134) (.r (.s (.c 4 (jI most l e.card.key oa []) (.s (.y 0 (bB (r9 l e.card.key)) bF (Yes.b (hb)) (.rn (.y 4 (.int .i64 ((List.length (mE l):Nat):Int)) (iN l.length) (Yes.len _ _ _) (.y 9 (bB (decide ((l.length:Int) >= most))) bT (Yes.b om) (.g (.u (.qr 1 (iI 24))))))))))))
def a6O:Ann:={ refs:=[3],own:=[22,50,60],base:=1,fin:=some 2 }
@[simp] abbrev d1v (a:Int) (b:l9E) (c:Entry):Heap:=[bK a b,(o_ 0 10 (mE (b.take (u7 b c.card.key))))]
@[simp] abbrev b6Z (a:Int) (b:l9E) (c:Entry):Heap:=[bK a b,(o_ 1 10 (mE ((b.take (u7 b c.card.key))++[c])))]
theorem c1l {p:Prop} (h:p:=by first | omega | (show _ * 96<=_; omega) | (simp; done) | (simp; omega)):p:=h
theorem a5d (most:Int) (l:l9E) (e:Entry) (hl:l.length < 1048576) (hb:r9 l e.card.key=false) (hm:(l.length:Int) < most):AC 134 [(oO 0 0 0 0),(AV.agg (Entry.row e))] (Q7 most l) (z_,[(o_ 0 2 [[(iI most),(AV.osl 1 2 10 0 ((List.length (l.take (u7 l e.card.key)))+1+(List.length (l.drop (u7 l e.card.key)))))]]),(o_ 2 10 (mE ((l.take (u7 l e.card.key)++[e])++l.drop (u7 l e.card.key))))]):=by
 have hle:=L8 l e.card.key
 exact o9 (fn:=Tryz.f134) (ann:=a6O) (Has.o Tryz.func134) (.r (.s (.c 4 (jI most l e.card.key oa []) (.s (.y 0 (bB (r9 l e.card.key)) bF (Yes.b (hb)) (.rn (.y 4 (.int .i64 ((List.length (mE l):Nat):Int)) (iN l.length) (Yes.len _ _ _) (.y 9 (bB (decide ((l.length:Int) >= most))) bF (Yes.b yh_) (.rn (.t 7 (sA 10 (mE (l.take (u7 l e.card.key)))) (Q7 most l) (dX (l:=0) (h:=(u7 l e.card.key)) om om om om nO:Option.map (fun a=>(a,(Q7 most l))) (if 10=10\/((mE l)).isEmpty=true then (bounds 0 (((u7 l e.card.key):Nat):Int) (List.length (mE l))).map fun p=>sA 10 ((List.take p.2 (mE l)).drop p.1) else none)=some ((sA 10 (mE (l.take (u7 l e.card.key)))),(Q7 most l))) (.ao 8 185 (AV.sl .clip 10 []) (sA 10 (mE (l.take (u7 l e.card.key)))) (AV.osl 1 0 10 0 (l.take (u7 l e.card.key)).length) (d1v most l e) (O5 (T:=tt) (e:=128) (te:=bE) (z:=1) (b:=24) (y:=[.sl .nil 0 []]) (row:=Entry.row) kr kr rfl z8 z8 yf_ U7 rfl rfl rfl om) (.ap 11 185 (AV.osl 1 0 10 0 (l.take (u7 l e.card.key)).length) (aC e) (AV.osl 1 1 10 0 ((l.take (u7 l e.card.key)).length+1)) (b6Z most l e) (H6 (row:=Entry.row) (l:=l.take (u7 l e.card.key)) (x:=e) (T:=tt) (e:=128) (te:=bE) (z:=1) (b:=24) (y:=[.sl .nil 0 []]) kr kr rfl z8 z8 kr aU rfl rfl a2M) (.t 17 (sA 10 (mE (l.drop (u7 l e.card.key)))) (b6Z most l e) (dX (l:=(u7 l e.card.key)) (h:=(List.length l)) om om om om nO:Option.map (fun a=>(a,(b6Z most l e))) (if 10=10\/((mE l)).isEmpty=true then (bounds (((u7 l e.card.key):Nat):Int) ((List.length (mE l):Nat):Int) (List.length (mE l))).map fun p=>sA 10 ((List.take p.2 (mE l)).drop p.1) else none)=some ((sA 10 (mE (l.drop (u7 l e.card.key)))),(b6Z most l e))) (.ao 18 185 (AV.osl 1 1 10 0 ((l.take (u7 l e.card.key)).length+1)) (sA 10 (mE (l.drop (u7 l e.card.key)))) (AV.osl 1 2 10 0 (((l.take (u7 l e.card.key)).length+1)+(l.drop (u7 l e.card.key)).length)) [(o_ 0 2 (kK most l)),(o_ 2 10 (mE (((l.take (u7 l e.card.key))++[e])++(l.drop (u7 l e.card.key)))))] (F3 (T:=tt) (e:=128) (te:=bE) (z:=1) (b:=24) (y:=[.sl .nil 0 []]) (row:=Entry.row) (l:=(l.take (u7 l e.card.key))++[e]) kr kr rfl z8 z8 kr U7 om rfl rfl c1l) (.rd (sA 10 (mE l)) (Q7 most l) (.rd (sA 10 (mE l)) (d1v most l e) (.s (.g (.h' [(o_ 0 2 [[(iI most),(AV.osl 1 2 10 0 (((l.take (u7 l e.card.key)).length+1)+(l.drop (u7 l e.card.key)).length))]]),(o_ 2 10 (mE (((l.take (u7 l e.card.key))++[e])++(l.drop (u7 l e.card.key)))))] (.q 2 z_))))))))))))))))))))
theorem b8A (most:Int) (l:l9E) (e:Entry) (hl:l.length < 1048576):AC 134 [(oO 0 0 0 0),(AV.agg (Entry.row e))] [(o_ 0 2 [[(iI most),(sA 10 (mE l))]])] ((iI (A9 most l e)),[(o_ 0 2 [[(iI most),(sA 10 (mE (C9 most l e)))]])]):=by
 have hle:=L8 l e.card.key
 cases hb:r9 l e.card.key with
 | true =>
  have h1:A9 most l e=0:=by simp [A9,hb]
  have h2:C9 most l e=l.set (u7 l e.card.key) e:=by simp [C9,hb]
  rw [h1,h2]
  exact (a6P most l e hl hb).a1e rfl rfl yf_ (Entry.p8 0 _) rfl rfl rfl
 | false =>
  by_cases hm:most<=(l.length:Int)
  · have h1:A9 most l e=24:=by simp [A9,hb,hm]
    have h2:C9 most l e=l:=by simp [C9,hb,hm]
    rw [h1,h2]
    exact a5e most l e hl hb hm
  · have h1:A9 most l e=0:=by simp [A9,hb,hm]
    have h2:C9 most l e=l.take (u7 l e.card.key)++e :: l.drop (u7 l e.card.key):=by simp [C9,hb,hm]
    rw [h1,h2]
    exact (a5d most l e hl hb ow).a1e rfl rfl yh_ (Entry.p8 0 _) rfl rfl yf_
theorem a2U (most:Int) (l:l9E) (e:Entry) (hl:l.length < 1048576) (H:Heap):AC 134 [(oO 0 0 0 0),(AV.agg (Entry.row e))] ((Q7 most l)++H) ((iI (A9 most l e)),([(o_ 0 2 [[(iI most),(sA 10 (mE (C9 most l e)))]])]:Heap)++H):=(b8A most l e hl).ext kr kr ob ob kr H
def a6X:Ann:={ refs:=[3],own:=[22,30],base:=1,fin:=some 2 }
@[simp] abbrev b6Y (a:Int) (b:l9E) (c:Key):Heap:=[bK a b,(o_ 0 10 (mE (b.take (u7 b c))))]
theorem a5i (most:Int) (l:l9E) (k:Key) (hl:l.length < 1048576) (hb:r9 l k=true):AC 133 [(oO 0 0 0 0),(AV.agg (Key.row k))] (Q7 most l) (bT,[(o_ 0 2 [[(iI most),(AV.osl 1 1 10 0 ((List.length (l.take (u7 l k)))+(List.length (l.drop ((u7 l k)+1)))))]]),(o_ 1 10 (mE (l.take (u7 l k)++l.drop ((u7 l k)+1))))]):=by
 have hle:=L8 l k
 have hlt:=eG hb
 exact o9 (fn:=Tryz.f133) (ann:=a6X) (Has.o Tryz.func133) (.r (.s (.c 2 (jI most l k oa []) (.s (.y 0 (bB (r9 l k)) bT (Yes.b (hb)) (.ru (.t 7 (sA 10 (mE (l.take (u7 l k)))) (Q7 most l) (dX (l:=0) (h:=(u7 l k)) om om om om nO:Option.map (fun a=>(a,(Q7 most l))) (if 10=10\/((mE l)).isEmpty=true then (bounds 0 (((u7 l k):Nat):Int) (List.length (mE l))).map fun p=>sA 10 ((List.take p.2 (mE l)).drop p.1) else none)=some ((sA 10 (mE (l.take (u7 l k)))),(Q7 most l))) (.ao 8 185 (AV.sl .clip 10 []) (sA 10 (mE (l.take (u7 l k)))) (AV.osl 1 0 10 0 (l.take (u7 l k)).length) (b6Y most l k) (O5 (T:=tt) (e:=128) (te:=bE) (z:=1) (b:=24) (y:=[.sl .nil 0 []]) (row:=Entry.row) kr kr rfl z8 z8 yf_ U7 rfl rfl rfl om) (.y 14 (iW ((((u7 l k):Nat):Int)+1)) (iN ((u7 l k)+1)) Yes.o (.t 15 (sA 10 (mE (l.drop ((u7 l k)+1)))) (b6Y most l k) (dX (l:=(u7 l k)+1) (h:=(List.length l)) om om om om nO:Option.map (fun a=>(a,(b6Y most l k))) (if 10=10\/((mE l)).isEmpty=true then (bounds (((u7 l k)+1:Nat):Int) ((List.length (mE l):Nat):Int) (List.length (mE l))).map fun p=>sA 10 ((List.take p.2 (mE l)).drop p.1) else none)=some ((sA 10 (mE (l.drop ((u7 l k)+1)))),(b6Y most l k))) (.ao 16 185 (AV.osl 1 0 10 0 (l.take (u7 l k)).length) (sA 10 (mE (l.drop ((u7 l k)+1)))) (AV.osl 1 1 10 0 ((l.take (u7 l k)).length+(l.drop ((u7 l k)+1)).length)) [(o_ 0 2 (kK most l)),(o_ 1 10 (mE ((l.take (u7 l k))++(l.drop ((u7 l k)+1)))))] (F3 (T:=tt) (e:=128) (te:=bE) (z:=1) (b:=24) (y:=[.sl .nil 0 []]) (row:=Entry.row) (l:=l.take (u7 l k)) kr kr rfl z8 z8 kr U7 om rfl rfl c1l) (.rd (sA 10 (mE l)) (Q7 most l) (.s (.h' [(o_ 0 2 [[(iI most),(AV.osl 1 1 10 0 ((l.take (u7 l k)).length+(l.drop ((u7 l k)+1)).length))]]),(o_ 1 10 (mE ((l.take (u7 l k))++(l.drop ((u7 l k)+1)))))] (.y 0 (bB (r9 l k)) bT (Yes.b (hb)) (.q 2 bT))))))))))))))))
def a6W:Ann:={ refs:=[3],base:=1,fin:=some 1 }
theorem a5h (most:Int) (l:l9E) (k:Key) (hl:l.length < 1048576) (hb:r9 l k=false):AC 133 [(oO 0 0 0 0),(AV.agg (Key.row k))] (Q7 most l) (bF,(Q7 most l)):=by
 have hle:=L8 l k
 exact o9 (fn:=Tryz.f133) (ann:=a6W) (Has.o Tryz.func133) (.r (.s (.c 2 (jI most l k oa []) (.s (.y 0 (bB (r9 l k)) bF (Yes.b (hb)) (.rn (.y 0 (bB (r9 l k)) bF (Yes.b (hb)) (.q 1 bF))))))))
theorem b3H (most:Int) (l:l9E) (k:Key) (hl:l.length < 1048576):AC 133 [(oO 0 0 0 0),(AV.agg (Key.row k))] [(o_ 0 2 [[(iI most),(sA 10 (mE l))]])] ((bB (r9 l k)),[(o_ 0 2 [[(iI most),(sA 10 (mE (H9 l k)))]])]):=by
 have hle:=L8 l k
 cases hb:r9 l k with
 | true =>
  have h2:H9 l k=l.take (u7 l k)++l.drop (u7 l k+1):=by simp [H9,hb]
  rw [h2]
  exact (a5i most l k hl hb).a1e rfl rfl yf_ (Entry.p8 0 _) rfl rfl rfl
 | false =>
  have h2:H9 l k=l:=by simp [H9,hb]
  rw [h2]
  exact a5h most l k hl hb
theorem c2N (most:Int) (l:l9E) (k:Key) (hl:l.length < 1048576) (H:Heap):AC 133 [(oO 0 0 0 0),(AV.agg (Key.row k))] ((Q7 most l)++H) ((bB (r9 l k)),([(o_ 0 2 [[(iI most),(sA 10 (mE (H9 l k)))]])]:Heap)++H):=(b3H most l k hl).ext kr kr ob ob kr H
def b3x:Ann:={ refs:=[3],base:=1,fin:=some 1 }
@[simp] abbrev c7w (a:Int) (b:l9E):Heap:=[bK a b,N7]
theorem b0g (most:Int) (l:l9E) (k:Key) (hl:l.length < 1048576) (hb:r9 l k=true):AC 130 [(oO 0 0 0 0),(AV.agg (Key.row k))] (Q7 most l) ((b5T l k),(Q7 most l)):=by
 have hle:=L8 l k
 have hlt:=eG hb
 exact o9 (fn:=Tryz.f130) (ann:=b3x) (Has.o Tryz.func130) (.r (.s (.c 2 (jI most l k oa a9l) (.s (.h' (c7w most l) (.y 1 (bB (!(r9 l k))) bF (Yes.b (by rw [hb]; rfl)) (.rn (.is 5 10 10 (mE l) (((u7 l k):Nat):Int) (Entry.row (nth l (u7 l k))) (J8.mk _ ow ow) (.g (.h' (Q7 most l) (.q 1 (b5T l k))))))))))))
def b0f:Ann:={ refs:=[3],base:=1,fin:=some 1 }
theorem a6T (most:Int) (l:l9E) (k:Key) (hl:l.length < 1048576) (hb:r9 l k=false):AC 130 [(oO 0 0 0 0),(AV.agg (Key.row k))] (Q7 most l) ((AV.tup [(AV.agg (Entry.row zE)),bF]),(Q7 most l)):=by
 have hle:=L8 l k
 exact o9 (fn:=Tryz.f130) (ann:=b0f) (Has.o Tryz.func130) (.r (.s (.c 2 (jI most l k oa a9l) (.s (.h' (c7w most l) (.y 1 (bB (!(r9 l k))) bT (Yes.b (by rw [hb]; rfl)) (.ru (.g (.h' (Q7 most l) (.q 1 (AV.tup [(AV.agg [e_,e_,z_,z_,z_,z_,z_,z_,bF,z_]),bF])))))))))))
theorem b8T (most:Int) (l:l9E) (k:Key) (hl:l.length < 1048576):AC 130 [(oO 0 0 0 0),(AV.agg (Key.row k))] [(o_ 0 2 [[(iI most),(sA 10 (mE l))]])] ((AV.tup [(AV.agg (Entry.row (d9 l k))),(bB (r9 l k))]),[(o_ 0 2 [[(iI most),(sA 10 (mE l))]])]):=by
 cases hb:r9 l k with
 | true =>
  have h2:d9 l k=nth l (u7 l k):=by simp [d9,hb]
  rw [h2]
  exact b0g most l k hl hb
 | false =>
  have h2:d9 l k=zE:=by simp [d9,hb]
  rw [h2]
  exact a6T most l k hl hb
theorem dH (most:Int) (l:l9E) (k:Key) (hl:l.length < 1048576) (H:Heap):AC 130 [(oO 0 0 0 0),(AV.agg (Key.row k))] ((Q7 most l)++H) ((AV.tup [(AV.agg (Entry.row (d9 l k))),(bB (r9 l k))]),(Q7 most l)++H):=(b8T most l k hl).ext kr kr ob ob kr H
def xS:Ann:={ gha:=[(7,.cut 0)],fin:=some 0,live:=[(3,[3,6,7,8])],out:=[(3,[3,6,7,8])] }
@[simp] abbrev a0h (a:Nat) (b:l9E) (c:Nat):Fr:=(mkF 20 [(3,(iN a)),(6,(sA 10 (mE b))),(7,(iN b.length)),(8,(iN c))])
@[simp] abbrev c4Z :=(l9 Tryz.prog (X xS) (p9 Tryz.f180 0))
theorem a2c (l:l9E) (k:Nat) (i:Nat) (hl:l.length < 1048576) (hk:k<=i) (hle_:i<=l.length) {eX:Ex} {FX:Fr} {HX:Heap} (k1:(decide ((i:Int) < (l.length:Int)))=true->(!(nth l i).card.gone)=true->j6 c4Z (some [3,6,7,8]) (some [3,6,7,8]) (mkF 20 [(3,(iN (k+1))),(6,(sA 10 (mE l))),(7,(iN l.length)),(8,(iN (i+1)))]) [] eX FX HX) (k2:(decide ((i:Int) < (l.length:Int)))=true->(!(nth l i).card.gone)=false->j6 c4Z (some [3,6,7,8]) (some [3,6,7,8]) (mkF 20 [(3,(iN k)),(6,(sA 10 (mE l))),(7,(iN l.length)),(8,(iN (i+1)))]) [] eX FX HX) (k3:(decide ((i:Int) < (l.length:Int)))=false->((.exit 0:Ex),(a0h k l i),[])=(eX,FX,HX)):j6 c4Z (some [3,6,7,8]) (some [3,6,7,8]) (a0h k l i) [] eX FX HX :=
 F7 (.r (.g (.two (decide ((i:Int) < (l.length:Int))) (fun h1 h1'=>(.r (.h' a9l (.is 0 10 10 (mE l) (i:Int) (Entry.row (nth l i)) (J8.mk _ ow ow) (.s (.g (.two (!(nth l i).card.gone) (fun h2 h2'=>(.r (.h' [(o_ 0 10 [(Entry.row (nth l i))])] (.y 1 (.int .i64 (cb_ k)) (iN (k+1)) Yes.o (.s (.y 0 (.int .i64 (cb_ i)) (iN (i+1)) Yes.o (.h' [] (.b 0 (.g (.l (k1 h1 h2))))))))))) (fun h2 h2'=>(.r (.h' [(o_ 0 10 [(Entry.row (nth l i))])] (.y 0 (.int .i64 (cb_ i)) (iN (i+1)) Yes.o (.h' [] (.b 0 (.g (.l (k2 h1 h2)))))))))))))))) (fun h1 h1'=>(.l (k3 h1))))))
def tX (l:List Entry) (i:Nat) (s:Nat):Nat:=(if (!(nth l i).card.gone)=true then (s+1) else (s))
theorem b3s (l:l9E) (hl:l.length < 1048576)  (r_:Nat):∀ (k:Nat) (i:Nat) (sF:Nat),i+r_=l.length->k<=i->sF=iter (tX l) r_ i (k) ->
 j6 (l9 Tryz.prog (X xS) (p9 Tryz.f180 0)) (some [3,6,7,8]) (some [3,6,7,8]) (a0h k l i) [] (.exit 0) (mkF 20 [(3,(iN sF)),(6,(sA 10 (mE l))),(7,(iN l.length)),(8,(iN l.length))]) []:=by
 induction r_ with
 | zero =>
  intro k i sF hi_ hk  hF
  obtain rfl:l.length=i:=by omega
  have e_:sF=(k):=hF
  refine a2c l k l.length hl hk (Nat.le_refl _) (fun h _=>by simp at h <;> omega) (fun h _=>by simp at h <;> omega) (fun _=>?_)
  first | done | rfl | (rw [e_]; done) | (rw [e_]; rfl)
 | succ r_ ih =>
  intro k i sF hi_ hk  hF
  refine a2c l k i hl hk ow (fun h1 h2=>?_) (fun h1 h2=>?_) (fun h=>by simp at h <;> omega)
  · exact ih (k+1) (i+1) sF ow N9  (by rw [hF] <;> simp only [iter,tX,h2,if_true,Bool.false_eq_true,if_false])
  · exact ih k (i+1) sF ow N9  (by rw [hF] <;> simp only [iter,tX,h2,if_true,Bool.false_eq_true,if_false])
theorem b3t (l:l9E):M5 l=iter (tX l) l.length 0 0:=by
 rw [V5 (tX l) (fun s e=>if (!e.card.gone)=true then s+1 else s) l (fun i s hi=>rfl)]; with_unfolding_all rfl
@[simp] abbrev d2t (a:l9E):Fr:=(mkF 20 [(3,(iN ((M5 a)))),(6,(sA 10 (mE a))),(7,(iN a.length)),(8,(iN a.length))])
theorem b3r (l:l9E) (hl:l.length < 1048576):AC 180 [(sA 10 (mE l))] [] ((iN ((M5 l))),[]) :=
 o9 (fn:=Tryz.f180) (ann:=xS) (Has.o Tryz.func180) (.r (.s (.s (.y 1 (.int .i64 ((List.length (mE l):Nat):Int)) (iN l.length) (Yes.len _ _ _) (.g (.loop (d2t l) (b3s l hl l.length 0 0 (M5 l) ow ow (b3t l)) (.qr 0 (iN ((M5 l))))))))))
attribute [local irreducible] F6 Z5 o8
def b1b:Ann:={ gha:=[(2,.vir 2 2)],fin:=some 1 }
theorem a8h  :AC 94 [(AV.sl .nil 0 [])] [] ((AV.osl 0 0 2 0 0),[(o_ 0 2 (mK []))]) :=
 o9 (fn:=Tryz.f94) (ann:=b1b) (Has.o Tryz.func94) (.r (.s (.ru (.g (.h' [(o_ 0 2 (mK []))] (.q 1 (AV.osl 0 0 2 0 0)))))))
def b1a:Ann:={ own:=[7],fin:=some 1 }
theorem a8g (l:l9K) (hl:l.length < 1099511627776):AC 94 [(AV.sl .op 2 (mK l))] [] ((AV.osl 0 0 2 0 l.length),[(o_ 0 2 (mK l))]) :=
 o9 (fn:=Tryz.f94) (ann:=b1a) (Has.o Tryz.func94) (.r (.s (.rn (.ao 2 33 (AV.sl .clip 2 []) (AV.sl .op 2 (mK l)) (AV.osl 0 0 2 0 l.length) [(o_ 0 2 (mK l))] (O5 (T:=tt) (e:=30) (te:=vB) (z:=1) (b:=24) (y:=[.sl .nil 0 []]) (row:=Key.row) kr kr rfl z8 z8 yf_ U7 rfl rfl rfl om) (.q 1 (AV.osl 0 0 2 0 l.length))))))
theorem b0Z (l:l9K) (hl:l.length < 1099511627776):AC 94 [(sA 2 (mK l))] [] ((AV.osl 0 0 2 0 l.length),[(o_ 0 2 (mK l))]):=l6.a5x (fun h=>by
 have h2:l=[]:=by simpa using h
 subst h2; exact a8h) (a8g l hl)
theorem a8f (l:l9K) (g e n:Nat) (hn:e+n=l.length) (hl:l.length < 1099511627776):AC 94 [(AV.osl 0 g 2 e n)] [(o_ g 2 (mK l))] ((AV.osl 0 (g+1) 2 0 n),[(o_ (g+1) 2 (mK (l.drop e)))]):=by
 have h:=b0Z (l.drop e) c1m
 have e1:(l.drop e).length=n:=by rw [List.length_drop]; omega
 rw [e1] at h
 have e2:((l.map Key.row).drop e).take n=(l.drop e).map Key.row:=by rw [List.map_drop]; exact List.take_of_length_le (by rw [List.length_drop,List.length_map]; omega)
 exact l6.c8m h (a1M (fun x=>rfl) _) (Key.p8 _ _) ⟨.osl (by simp [F5,hn,e2]) (Key.p8 _ _),trivial⟩
def c7Y:Ann:={ base:=2,fin:=some 2 }
@[simp] abbrev c4Y (a:l9K) (b:Nat):=[[(iN ((List.length a))),(AV.osl 1 b 2 0 (List.length (o8 a)))]]
@[simp] abbrev b6S (a:l9K) (b:Nat):Heap:=[(o_ 0 2 (c4Y a b)),(o_ b 2 (mK (o8 a)))]
theorem a0L (al:l9K) (g:Nat) :AC 57 [(oO 0 0 0 0)] (b6S al g) ((iN al.length),(b6S al g)) :=
 o9 (fn:=Tryz.f57) (ann:=c7Y) (Has.o Tryz.func57) (.r (.g (.qr 2 (iN ((List.length al))))))
def c2O:Ann:={ refs:=[3],own:=[19],base:=2,fin:=some 2 }
@[simp] abbrev d1j (a:l9K) (b:Key) (c:Nat):Heap:=[(o_ 0 2 [[(iN ((List.length (a++[b])))),(AV.osl 1 (c+1+1) 2 0 (List.length (o8 (a++[b]))))]]),(o_ (c+1+1) 2 (mK (o8 (a++[b]))))]
@[simp] abbrev b6R (a:l9K) (b:Nat):Ob:=(o_ 0 2 [[(iN ((List.length a)+1)),(AV.osl 1 (b+1) 2 0 ((List.length (o8 a))+1))]])
@[simp] abbrev c5S (a:l9K) (b:Nat) (c:Key):Heap:=[b6R a b,(o_ (b+1) 2 (mK ((o8 a)++[c])))]
@[simp] abbrev c5R (a:l9K) (b:Nat) (c:Key):Heap:=[b6R a b,(o_ ((b+1)+1) 2 (mK (((o8 a)++[c]).drop (((List.length (o8 a))+1) - 16))))]
theorem b8W (al:l9K) (k:Key) (g:Nat) (ha:al.length < 1000000):AC 51 [(AV.obj 0 0 0 0),(AV.agg (Key.row k))] (b6S al g) ((AV.int .i64 (((al++[k]).length:Nat):Int)),(d1j al k g)):=by
 have hr:=vI al
 have h1:=c2L al k
 have h2:(o8 al).length+1 - ((o8 al).length+1 - 16)=(o8 (al++[k])).length:=by rw [<- h1]; simp
 exact o9 (fn:=Tryz.f51) (ann:=c2O) (Has.o Tryz.func51) (.r (.s (.y 4 (iW ((((List.length al):Nat):Int)+1)) (AV.int .i64 (((List.length al)+1:Nat):Int)) Yes.o (.s (.h' [(o_ 0 2 [[(AV.int .i64 (((List.length al)+1:Nat):Int)),(AV.osl 1 g 2 0 (List.length (o8 al)))]]),(o_ g 2 (List.map Key.row (o8 al)))] (.ao 7 33 (AV.osl 1 g 2 0 (List.length (o8 al))) (AV.sl .clip 2 [(Key.row k)]) (AV.osl 1 (g+1) 2 0 ((List.length (o8 al))+1)) [(o_ 0 2 [[(AV.int .i64 (((List.length al)+1:Nat):Int)),(AV.osl 1 g 2 0 (List.length (o8 al)))]]),(o_ (g+1) 2 (List.map Key.row ((o8 al)++[k])))] (F3 (T:=tt) (e:=30) (te:=vB) (z:=1) (b:=24) (y:=[.sl .nil 0 []]) (row:=Key.row) (l:=(o8 al)) kr kr rfl z8 z8 kr U7 om rfl rfl (by first | omega | (show _ * 32<=_; omega) | (simp; done) | (simp; omega))) (.s (.h' (c5S al g k) (.y 10 (iW (((((List.length (o8 al))+1):Nat):Int) - 16)) (AV.int .i64 (((((List.length (o8 al))+1):Nat):Int) - 16)) Yes.o (.y 11 (.int .i64 (if ((((List.length (o8 al))+1):Nat):Int) - 16 > 0 then ((((List.length (o8 al))+1):Nat):Int) - 16 else 0)) (AV.int .i64 (((((List.length (o8 al))+1) - 16):Nat):Int)) (Yes.int yw_) (.so 12 1 (g+1) 2 0 ((List.length (o8 al))+1) (((((List.length (o8 al))+1) - 16):Nat):Int) ((((List.length (o8 al))+1):Nat):Int) (AV.osl 1 (g+1) 2 (((List.length (o8 al))+1) - 16) (((List.length (o8 al))+1) - (((List.length (o8 al))+1) - 16))) (U1 (l:=(((List.length (o8 al))+1) - 16)) (h:=((List.length (o8 al))+1)) om om om om om om) (.ch 13 (c5R al g k) (l6.pre (args:=[(AV.osl 1 (g+1) 2 (((List.length (o8 al))+1) - 16) (((List.length (o8 al))+1) - (((List.length (o8 al))+1) - 16)))]) (args':=[(AV.osl 1 (g+1) 2 (((List.length (o8 al))+1) - 16) (((List.length (o8 al))+1) - (((List.length (o8 al))+1) - 16)))]) (l6.put2 [1] (c5S al g k) (AV.osl 1 ((g+1)+1) 2 0 (((List.length (o8 al))+1) - (((List.length (o8 al))+1) - 16))) (c5R al g k) (a8f ((o8 al)++[k]) (g+1) (((List.length (o8 al))+1) - 16) (((List.length (o8 al))+1) - (((List.length (o8 al))+1) - 16)) oa oa) (⟨Ob.ren0 (Key.p8 0 _),trivial⟩) (⟨Ob.ren0 (Key.p8 0 _),trivial⟩)) ⟨AV.j3 _,trivial⟩) (.s (.g (.h' [(o_ 0 2 [[(AV.int .i64 (((List.length al)+1:Nat):Int)),(AV.osl 1 ((g+1)+1) 2 0 (((List.length (o8 al))+1) - (((List.length (o8 al))+1) - 16)))]]),(o_ ((g+1)+1) 2 (List.map Key.row (((o8 al)++[k]).drop (((List.length (o8 al))+1) - 16))))] (.q 2 (AV.int .i64 (((List.length al)+1:Nat):Int)) (by (try delta b6S d1j c5S c5R b6R); rw [h2,h1,List.length_append]; rfl)))))))))))))))))
def c1q:Ann:={ refs:=[3],own:=[11,14],gha:=[(1,.frzf 0 0 2)],base:=1,fin:=some 1 }
@[simp] abbrev c5Q (a:l9K) (b:Key):Heap:=[(o_ 0 1 [[(sA 2 (mK (a++[b])))]])]
theorem b7B (al:l9K) (k:Key) (ha:al.length < 1000000):AC 135 [(oO 0 0 0 0),(AV.agg (Key.row k))] [(o_ 0 1 [[(sA 2 (mK al))]])] ((iN ((al++[k]).length)),(c5Q al k)) :=
 o9 (fn:=Tryz.f135) (ann:=c1q) (Has.o Tryz.func135) (.r (.s (.ao 6 33 (AV.sl .clip 2 []) (sA 2 (mK al)) (AV.osl 1 0 2 0 al.length) [(o_ 0 1 [[(sA 2 (mK al))]]),(o_ 0 2 (mK al))] (O5 (T:=tt) (e:=30) (te:=vB) (z:=1) (b:=24) (y:=[.sl .nil 0 []]) (row:=Key.row) kr kr rfl z8 z8 yf_ U7 rfl rfl rfl om) (.ao 9 33 (AV.osl 1 0 2 0 al.length) (AV.sl .clip 2 [(Key.row k)]) (AV.osl 1 1 2 0 (al.length+1)) [(o_ 0 1 [[(sA 2 (mK al))]]),(o_ 1 2 (mK (al++[k])))] (F3 (T:=tt) (e:=30) (te:=vB) (z:=1) (b:=24) (y:=[.sl .nil 0 []]) (row:=Key.row) (l:=al) kr kr rfl z8 z8 kr U7 om rfl rfl (by first | omega | (show _ * 32<=_; omega) | (simp; done) | (simp; omega))) (.w' 0 (mK (al++[k])) (And.intro rfl (And.intro (G7 (room:=none) kr om) (Key.p8 _ _)):0=0/\F5 [(o_ 0 1 [[(AV.osl 1 1 2 0 (al.length+1))]]),(o_ 1 2 (mK (al++[k])))] 2 (AV.osl 1 1 2 0 (al.length+1))=some (mK (al++[k]))/\AV.D5 0 (mK (al++[k]))=true) (.s (.h' [(o_ 0 1 [[(sA 2 (mK (al++[k])))]]),(o_ 2 2 [])] (.y 4 (.int .i64 ((List.length (mK (al++[k])):Nat):Int)) (iN ((al++[k]).length)) (Yes.len _ _ _) (.g (.h' (c5Q al k) (.q 1 (iN ((al++[k]).length)) (by (try delta c5Q); simp))))))))))))
theorem a7D (l:l9K) (v:Key) (g q n:Nat) (hn:q+n=l.length) (hl:l.length < 1099511627776):AC 151 [(AV.osl 0 g 2 q n),(AV.agg (Key.row v))] [(o_ g 2 (mK l))] ((bB (Z5 (l.drop q) v)),[(o_ g 2 (mK l))]):=by
 have h:=b0z (l.drop q) v c1m
 have e2:((l.map Key.row).drop q).take n=(l.drop q).map Key.row:=by rw [List.map_drop]; exact List.take_of_length_le (by rw [List.length_drop,List.length_map]; omega)
 exact h.borrow rfl ⟨.osl (by simp [F5,hn,e2]) (Key.p8 _ _),.same (by simp [AV.bdd]),trivial⟩
def gX:Ann:={ gh:=[(11,.frz 7)],gha:=[(2,.any 4 2),(4,.vir 7 2),(10,.cut 3)],base:=2,fin:=some 2,live:=[(6,[6,7,46,47,48])],out:=[(6,[6,7,46,47,48])] }
@[simp] abbrev wZ (a:l9K) (b:Nat):Ob:=(o_ 0 2 (c4Y a b))
@[simp] abbrev d1i (a:l9K) (b:Nat) (c:Nat) (d:l9K) (e:Nat) (f:Nat):Heap:=[wZ a b,(o_ b 2 (mK (o8 a))),(o_ (c+1) 2 (mK (d++[(nth (o8 a) (e+f))])))]
@[simp] abbrev a9k (a:l9K) (b:Nat) (c:Nat) (d:l9K):Heap:=[wZ a b,(o_ b 2 (mK (o8 a))),(o_ c 2 (mK d))]
@[simp] abbrev c5P (a:Nat) (b:Nat) (c:Nat) (d:Nat) (e:Nat) (f:Nat):Fr:=(mkF 66 [(6,(AV.osl 1 a 2 b c)),(7,(AV.osl 2 d 2 0 e)),(46,(AV.osl 1 a 2 b c)),(47,(iN c)),(48,(iN f))])
@[simp] abbrev a9j (a:l9K) (b:Nat) (c:Nat) (d:l9K):Heap:=[wZ a b,(o_ b 2 (mK (o8 a))),(o_ c 2 (mK d)),(o_ 0 2 [[e_,e_]])]
@[simp] abbrev c5O (a:l9K) (b:Nat) (c:Nat) (d:l9K) (e:Nat) (f:Nat):Heap:=[wZ a b,(o_ b 2 (mK (o8 a))),(o_ c 2 (mK d)),(o_ 0 2 [(Key.row (nth (o8 a) (e+f)))])]
@[simp] abbrev c4X :=(l9 Tryz.prog (X gX) (p9 Tryz.f174 0))
theorem a1G (al:l9K) (gq:Nat) (q:Nat) (n:Nat) (out:l9K) (k:Nat) (g:Nat) (i:Nat) (hn:q+n=(o8 al).length) (hl:(o8 al).length < 1048576) (hk:k=out.length) (hki:k<=i) (hle_:i<=n) {eX:Ex} {FX:Fr} {HX:Heap} (k1:(decide ((i:Int) < (n:Int)))=true->(!(Z5 ((o8 al).drop (q+(i+1))) (nth (o8 al) (q+i))))=true->j6 c4X (some [6,7,46,47,48]) (some [6,7,46,47,48]) (mkF 66 [(6,(AV.osl 1 gq 2 q n)),(7,(AV.osl 2 (g+1) 2 0 (k+1))),(46,(AV.osl 1 gq 2 q n)),(47,(iN n)),(48,(iN (i+1)))]) (d1i al gq g out q i) eX FX HX) (k2:(decide ((i:Int) < (n:Int)))=true->(!(Z5 ((o8 al).drop (q+(i+1))) (nth (o8 al) (q+i))))=false->j6 c4X (some [6,7,46,47,48]) (some [6,7,46,47,48]) (mkF 66 [(6,(AV.osl 1 gq 2 q n)),(7,(AV.osl 2 g 2 0 k)),(46,(AV.osl 1 gq 2 q n)),(47,(iN n)),(48,(iN (i+1)))]) (a9k al gq g out) eX FX HX) (k3:(decide ((i:Int) < (n:Int)))=false->((.exit 0:Ex),(c5P gq q n g k i),(a9k al gq g out))=(eX,FX,HX)):j6 c4X (some [6,7,46,47,48]) (some [6,7,46,47,48]) (c5P gq q n g k i) (a9k al gq g out) eX FX HX :=
 F7 (.r (.g (.two (decide ((i:Int) < (n:Int))) (fun h1 h1'=>(.r (.h' (a9j al gq g out) (.io 1 1 gq 2 2 q n (i:Int) (q+i) (E9.mko i _ ow ow ow) (.t 2 (AV.agg (Key.row (nth (o8 al) (q+i)))) (a9j al gq g out) (G9 (C8 (row:=Key.row) (l:=(o8 al)) (k:=2) (room:=none) kr om) kr:K3 tt 30 0 (a9j al gq g out) (rowAt (a9j al gq g out) 1 gq (q+i))=some ((AV.agg (Key.row (nth (o8 al) (q+i)))),(a9j al gq g out))) (.s (.h' (c5O al gq g out q i) (.y 2 (.int .i64 (cb_ i)) (iN (i+1)) Yes.o (.so 3 1 gq 2 q n ((i+1:Nat):Int) (n:Int) (AV.osl 1 gq 2 (q+(i+1)) (n - (i+1))) (U1 (l:=i+1) (h:=n) om om om om om om) (.c 5 (l6.pre (args:=[(AV.osl 1 gq 2 (q+(i+1)) (n - (i+1))),(AV.agg (Key.row (nth (o8 al) (q+i))))]) (args':=[(AV.osl 1 gq 2 (q+(i+1)) (n - (i+1))),(AV.agg (Key.row (nth (o8 al) (q+i))))]) (l6.put2 [1] (c5O al gq g out q i) (bB (Z5 ((o8 al).drop (q+(i+1))) (nth (o8 al) (q+i)))) (c5O al gq g out q i) (a7D (o8 al) (nth (o8 al) (q+i)) gq (q+(i+1)) (n - (i+1)) oa oa) (⟨Ob.ren0 (Key.p8 0 _),trivial⟩) (⟨Ob.ren0 (Key.p8 0 _),trivial⟩)) ⟨AV.j3 _,AV.j3 _,trivial⟩) (.g (.two (!(Z5 ((o8 al).drop (q+(i+1))) (nth (o8 al) (q+i)))) (fun h2 h2'=>(.r (.ap 3 33 (AV.osl 2 g 2 0 k) (AV.sl .clip 2 [(Key.row (nth (o8 al) (q+i)))]) (AV.osl 2 (g+1) 2 0 (k+1)) [(o_ 0 2 (c4Y al gq)),(o_ gq 2 (mK (o8 al))),(o_ (g+1) 2 (mK (out++[(nth (o8 al) (q+i))]))),(o_ 0 2 [(Key.row (nth (o8 al) (q+i)))])] (H6 (row:=Key.row) (l:=out) (x:=(nth (o8 al) (q+i))) (T:=tt) (e:=30) (te:=vB) (z:=1) (b:=24) (y:=[.sl .nil 0 []]) kr kr rfl z8 z8 kr aU rfl rfl a5W) (.s (.y 0 (.int .i64 (cb_ i)) (iN (i+1)) Yes.o (.h' (d1i al gq g out q i) (.b 3 (.g (.l (k1 h1 h2)))))))))) (fun h2 h2'=>(.r (.y 0 (.int .i64 (cb_ i)) (iN (i+1)) Yes.o (.h' (a9k al gq g out) (.b 3 (.g (.l (k2 h1 h2)))))))))))))))))))) (fun h1 h1'=>(.l (k3 h1))))))
def pO (al:List Key) (gq:Nat) (q:Nat) (n:Nat) (i:Nat) (s:(List Key) × Nat × Nat):(List Key) × Nat × Nat:=(if (!(Z5 ((o8 al).drop (q+(i+1))) (nth (o8 al) (q+i))))=true then (s.1++[(nth (o8 al) (q+i))],(s.2.1+1),(s.2.2+1)) else (s.1,s.2.1,s.2.2))
theorem b2y (al:l9K) (gq:Nat) (q:Nat) (n:Nat) (hn:q+n=(o8 al).length) (hl:(o8 al).length < 1048576)  (r_:Nat):∀ (out:l9K) (k:Nat) (g:Nat) (i:Nat) (sF:(l9K) × Nat × Nat),i+r_=n->k=out.length->k<=i->sF=iter (pO al gq q n) r_ i (out,k,g) ->
 j6 (l9 Tryz.prog (X gX) (p9 Tryz.f174 0)) (some [6,7,46,47,48]) (some [6,7,46,47,48]) (c5P gq q n g k i) (a9k al gq g out) (.exit 0) (mkF 66 [(6,(AV.osl 1 gq 2 q n)),(7,(AV.osl 2 sF.2.2 2 0 sF.2.1)),(46,(AV.osl 1 gq 2 q n)),(47,(iN n)),(48,(iN n))]) [(o_ 0 2 [[(iN ((List.length al))),(AV.osl 1 gq 2 0 (List.length (o8 al)))]]),(o_ gq 2 (mK (o8 al))),(o_ sF.2.2 2 (mK sF.1))]:=by
 induction r_ with
 | zero =>
  intro out k g i sF hi_ hk hki  hF
  obtain rfl:n=i:=by omega
  have e_:sF=(out,k,g):=hF
  refine a1G al gq q n out k g n hn hl hk hki (Nat.le_refl _) (fun h _=>by simp at h <;> omega) (fun h _=>by simp at h <;> omega) (fun _=>?_)
  first | done | rfl | (rw [e_]; done) | (rw [e_]; rfl)
 | succ r_ ih =>
  intro out k g i sF hi_ hk hki  hF
  refine a1G al gq q n out k g i hn hl hk hki ow (fun h1 h2=>?_) (fun h1 h2=>?_) (fun h=>by simp at h <;> omega)
  · exact ih (out++[(nth (o8 al) (q+i))]) (k+1) (g+1) (i+1) sF ow N9 N9  (by rw [hF] <;> simp only [iter,pO,h2,if_true,Bool.false_eq_true,if_false])
  · exact ih out k g (i+1) sF ow N9 N9  (by rw [hF] <;> simp only [iter,pO,h2,if_true,Bool.false_eq_true,if_false])
theorem a9I (al:l9K) (gq q n:Nat) (hn:q+n=(o8 al).length) (r:Nat):∀ (i:Nat) (out:l9K) (k g:Nat),i+r=n ->
 iter (pO al gq q n) r i (out,k,g)=(out++F6 ((o8 al).drop (q+i)),k+(F6 ((o8 al).drop (q+i))).length,g+(F6 ((o8 al).drop (q+i))).length):=by
 induction r with
 | zero =>
  intro i out k g hi
  have:(o8 al).drop (q+i)=[]:=List.drop_of_length_le ow
  rw [this]; simp [iter,F6]
 | succ r ih =>
  intro i out k g hi
  rw [Y8 (show q+i < (o8 al).length by omega)]
  simp only [iter,F6,pO]
  have e1:q+i+1=q+(i+1):=by omega
  rw [e1]
  by_cases h:(!(Z5 ((o8 al).drop (q+(i+1))) (nth (o8 al) (q+i))))=true
  · rw [if_pos h,if_pos h,ih (i+1) _ _ _ ow]; simp; omega
  · rw [if_neg h,if_neg h,ih (i+1) _ _ _ ow]
theorem b2z (al:l9K) (gq q n:Nat) (hn:q+n=(o8 al).length):(F6 ((o8 al).drop q),(F6 ((o8 al).drop q)).length,(F6 ((o8 al).drop q)).length)=iter (pO al gq q n) n 0 ([],0,0):=by
 rw [a9I al gq q n hn n 0 [] 0 0 ow]; simp
@[simp] abbrev tL (a:l9K) (b:Nat):Heap:=[wZ a b,(o_ b 2 (mK (o8 a)))]
@[simp] abbrev d0b (a:Nat) (b:l9K) (c:Nat):=(AV.osl 1 a 2 ((List.length (o8 b)) - ((List.length b) - c)) ((List.length (o8 b)) - ((List.length (o8 b)) - ((List.length b) - c))))
@[simp] abbrev d1h (a:Nat) (b:l9K) (c:Nat):Fr:=(mkF 66 [(6,(d0b a b c)),(7,(AV.osl 2 (F6 ((o8 b).drop ((List.length (o8 b)) - ((List.length b) - c)))).length 2 0 (F6 ((o8 b).drop ((List.length (o8 b)) - ((List.length b) - c)))).length)),(46,(d0b a b c)),(47,(iN (((List.length (o8 b)) - ((List.length (o8 b)) - ((List.length b) - c)))))),(48,(iN (((List.length (o8 b)) - ((List.length (o8 b)) - ((List.length b) - c))))))])
@[simp] abbrev c5N (a:l9K) (b:Nat) (c:Nat):Heap:=[wZ a b,(o_ b 2 (mK (o8 a))),(o_ ((F6 ((o8 a).drop ((List.length (o8 a)) - ((List.length a) - c)))).length) 2 (mK (F6 ((o8 a).drop ((List.length (o8 a)) - ((List.length a) - c))))))]
theorem a9J (al:l9K) (g:Nat) (n:Nat) (ha:al.length < 1000000) (h1:n<=al.length) (h2:al.length - n<=16):AC 174 [(AV.obj 0 0 0 0),(AV.int .i64 (n:Int))] (tL al g) ((AV.tup [(AV.sl .any 2 (List.map Key.row (F6 (al.drop n)))),(AV.bool true)]),(tL al g)):=by
 have hr:=vI al
 have h3:=b3E h1 h2
 have h4:=vY (al.drop n)
 have h5:(al.drop n).length=al.length - n:=List.length_drop
 exact o9 (fn:=Tryz.f174) (ann:=gX) (Has.o Tryz.func174) (.r (.s (.y 1 (AV.bool (decide ((n:Int) < 0))) (AV.bool false) (Yes.b yf_) (.n6 (.y 8 (AV.bool (decide ((n:Int) > (((List.length al):Nat):Int)))) (AV.bool false) (Yes.b yh_) (.n6 (.y 16 (iW ((((List.length al):Nat):Int) - (n:Int))) (AV.int .i64 (((List.length al) - n:Nat):Int)) Yes.o (.n (.y 17 (AV.bool (decide ((((List.length al) - n:Nat):Int) > 16))) (AV.bool false) (Yes.b yh_) (.rn (.y 14 (iW ((((List.length al):Nat):Int) - (n:Int))) (AV.int .i64 (((List.length al) - n:Nat):Int)) Yes.o (.y 15 (iW ((((List.length (o8 al)):Nat):Int) - (((List.length al) - n:Nat):Int))) (AV.int .i64 (((List.length (o8 al)) - ((List.length al) - n):Nat):Int)) Yes.o (.so 16 1 g 2 0 (List.length (o8 al)) (((List.length (o8 al)) - ((List.length al) - n):Nat):Int) (((List.length (o8 al)):Nat):Int) (AV.osl 1 g 2 ((List.length (o8 al)) - ((List.length al) - n)) ((List.length (o8 al)) - ((List.length (o8 al)) - ((List.length al) - n)))) (U1 (l:=(List.length (o8 al)) - ((List.length al) - n)) (h:=(List.length (o8 al))) om om om om om om) (.s (.s (.g (.loop (d1h g al n) (show j6 (l9 Tryz.prog (X gX) (p9 Tryz.f174 0)) (some [6,7,46,47,48]) (some [6,7,46,47,48]) (mkF 66 [(6,(AV.osl 1 g 2 ((List.length (o8 al)) - ((List.length al) - n)) ((List.length (o8 al)) - ((List.length (o8 al)) - ((List.length al) - n))))),(7,(AV.osl 2 0 2 0 0)),(46,(AV.osl 1 g 2 ((List.length (o8 al)) - ((List.length al) - n)) ((List.length (o8 al)) - ((List.length (o8 al)) - ((List.length al) - n))))),(47,(AV.int .i64 (((List.length (o8 al)) - ((List.length (o8 al)) - ((List.length al) - n)):Nat):Int))),(48,(AV.int .i64 0))]) [(o_ 0 2 [[(AV.int .i64 (((List.length al):Nat):Int)),(AV.osl 1 g 2 0 (List.length (o8 al)))]]),(o_ g 2 (List.map Key.row (o8 al))),(o_ 0 2 (List.map Key.row []))] (.exit 0) (d1h g al n) (c5N al g n) from (b2y al g ((List.length (o8 al)) - ((List.length al) - n)) ((List.length (o8 al)) - ((List.length (o8 al)) - ((List.length al) - n))) ow ow ((List.length (o8 al)) - ((List.length (o8 al)) - ((List.length al) - n))) [] 0 0 0 (F6 (List.drop ((List.length (o8 al)) - ((List.length al) - n)) (o8 al)),(F6 (List.drop ((List.length (o8 al)) - ((List.length al) - n)) (o8 al))).length,(F6 (List.drop ((List.length (o8 al)) - ((List.length al) - n)) (o8 al))).length) ow rfl ow (b2z _ _ _ _ ow))) (.r (.w 7 (List.map Key.row (F6 ((o8 al).drop ((List.length (o8 al)) - ((List.length al) - n))))) (And.intro (G7 (room:=none) kr (by first | omega | (simp [h3]; done) | (simp [h3]; omega))) (Key.p8 _ _):F5 (c5N al g n) 2 (AV.osl 2 (F6 ((o8 al).drop ((List.length (o8 al)) - ((List.length al) - n)))).length 2 0 (F6 ((o8 al).drop ((List.length (o8 al)) - ((List.length al) - n)))).length)=some (List.map Key.row (F6 ((o8 al).drop ((List.length (o8 al)) - ((List.length al) - n)))))/\AV.D5 0 (List.map Key.row (F6 ((o8 al).drop ((List.length (o8 al)) - ((List.length al) - n)))))=true) (.g (.h' (tL al g) (.q 2 (AV.tup [(AV.sl .any 2 (List.map Key.row (F6 ((o8 al).drop ((List.length (o8 al)) - ((List.length al) - n)))))),(AV.bool true)]) (by (try delta tL c5N wZ); rw [h3])))))))))))))))))))))))
@[simp] abbrev a3F :=(AV.tup [(sA 2 (mK [])),bF])
@[simp] abbrev a3E :=(AV.tup [(sA 2 []),bF])
theorem a6u (al:l9K) (g:Nat) (n:Int) (ha:al.length < 1000000) (h:n < 0):AC 174 [(oO 0 0 0 0),(iI n)] (tL al g) (a3F,(tL al g)) :=
 o9 (fn:=Tryz.f174) (ann:=gX) (Has.o Tryz.func174) (.r (.s (.y 1 (bB (decide (n < 0))) bT (Yes.b yh_) (.u6 (.u6 (.u (.g (.u (.qr 2 a3E)))))))))
theorem a6t (al:l9K) (g:Nat) (n:Int) (ha:al.length < 1000000) (h:0<=n) (h1:(al.length:Int) < n):AC 174 [(oO 0 0 0 0),(iI n)] (tL al g) (a3F,(tL al g)) :=
 o9 (fn:=Tryz.f174) (ann:=gX) (Has.o Tryz.func174) (.r (.s (.y 1 (bB (decide (n < 0))) bF (Yes.b yh_) (.n6 (.y 8 (bB (decide (n > (((List.length al):Nat):Int)))) bT (Yes.b yh_) (.u6 (.u (.g (.u (.qr 2 a3E))))))))))
theorem a6s (al:l9K) (g:Nat) (n:Nat) (ha:al.length < 1000000) (h1:n<=al.length) (h2:16 < al.length - n):AC 174 [(oO 0 0 0 0),(iN n)] (tL al g) (a3F,(tL al g)) :=
 o9 (fn:=Tryz.f174) (ann:=gX) (Has.o Tryz.func174) (.r (.s (.y 1 (bB (decide ((n:Int) < 0))) bF (Yes.b yf_) (.n6 (.y 8 (bB (decide ((n:Int) > (((List.length al):Nat):Int)))) bF (Yes.b yh_) (.n6 (.y 16 (iW ((((List.length al):Nat):Int) - (n:Int))) (iN ((List.length al) - n)) Yes.o (.n (.y 17 (bB (decide ((((List.length al) - n:Nat):Int) > 16))) bT (Yes.b yh_) (.g (.u (.qr 2 a3E))))))))))))
theorem a1H (al:l9K) (g:Nat) (n:Int) (ha:al.length < 1000000):AC 174 [(oO 0 0 0 0),(iI n)] [(o_ 0 2 [[(iN ((List.length al))),(AV.osl 1 g 2 0 (List.length (o8 al)))]]),(o_ g 2 (mK (o8 al)))] ((AV.tup [(sA 2 (mK (F4 al n))),(bB (okS al n))]),[(o_ 0 2 [[(iN ((List.length al))),(AV.osl 1 g 2 0 (List.length (o8 al)))]]),(o_ g 2 (mK (o8 al)))]):=by
 by_cases h:n < 0\/(al.length:Int) < n\/16 < (al.length:Int) - n
 · rw [xM h,xZ h]
   by_cases h0:n < 0
   · exact a6u al g n ha h0
   · by_cases h1:(al.length:Int) < n
     · exact a6t al g n ha ow h1
     · obtain ⟨m,rfl⟩:=Int.eq_ofNat_of_zero_le (show 0<=n by omega)
       exact a6s al g m ha ow ow
 · obtain ⟨m,rfl⟩:=Int.eq_ofNat_of_zero_le (show 0<=n by omega)
   rw [a1I ow ow,a2Y ow ow]
   exact a9J al g m ha ow ow
def dK:Ann:={ gh:=[(15,.frz 7)],gha:=[(3,.any 4 2),(4,.vir 7 2),(7,.cut 2)],base:=1,fin:=some 1,live:=[(6,[0,6,7,8]),(10,[0,6,7,8,9,10])],out:=[(6,[0,6,7,8]),(10,[0,6,7,8,9,10])] }
@[simp] abbrev K7 (a:l9K):Ob:=(o_ 0 1 [[(sA 2 (mK a))]])
@[simp] abbrev oK (a:l9K) (b:Nat) (c:l9K):Heap:=[K7 a,(o_ b 2 (mK c))]
@[simp] abbrev b6Q (a:l9K) (b:Nat) (c:Nat) (d:Nat) (e:Bool) (f:Nat):Fr:=(mkF 72 [(0,(oO 0 0 0 0)),(6,(iN a.length)),(7,(AV.osl 1 b 2 0 c)),(8,(iN d)),(9,(bB e)),(10,(iN f))])
@[simp] abbrev b5S :=(l9 Tryz.prog (X dK) (p9 Tryz.f190 1))
theorem xB (al:l9K) (out:l9K) (k:Nat) (g:Nat) (i:Nat) (on:Bool) (j:Nat) (hl:al.length < 1048576) (hi:i < al.length) (hle_:j<=al.length) {eX:Ex} {FX:Fr} {HX:Heap} (k1:(decide ((j:Int) < (al.length:Int)))=true->on=true->j6 b5S (some [0,6,7,8,9,10]) (some [0,6,7,8,9,10]) (mkF 72 [(0,(oO 0 0 0 0)),(6,(iN al.length)),(7,(AV.osl 1 g 2 0 k)),(8,(iN i)),(9,(bB (!(Key.eqb (nth al j) (nth al i))))),(10,(iN (j+1)))]) (oK al g out) eX FX HX) (k2:(decide ((j:Int) < (al.length:Int)))=true->on=false->j6 b5S (some [0,6,7,8,9,10]) (some [0,6,7,8,9,10]) (mkF 72 [(0,(oO 0 0 0 0)),(6,(iN al.length)),(7,(AV.osl 1 g 2 0 k)),(8,(iN i)),(9,bF),(10,(iN (j+1)))]) (oK al g out) eX FX HX) (k3:(decide ((j:Int) < (al.length:Int)))=false->((.exit 2:Ex),(b6Q al g k i on j),(oK al g out))=(eX,FX,HX)):j6 b5S (some [0,6,7,8,9,10]) (some [0,6,7,8,9,10]) (b6Q al g k i on j) (oK al g out) eX FX HX :=
 F7 (.r (.g (.two (decide ((j:Int) < (al.length:Int))) (fun h1 h1'=>(.r (.two on (fun h2 h2'=>(.u5 (.is 7 2 2 (mK al) (j:Int) (Key.row (nth al j)) (J8.mk _ ow ow) (.u6 (.u (.is 14 2 2 (mK al) (i:Int) (Key.row (nth al i)) (J8.mk _ ow ow) (.u2 (.s (.y 1 (.int .i64 (cb_ j)) (iN (j+1)) Yes.o (.g (.l (k1 h1 h2)))))))))))) (fun h2 h2'=>(.n6 (.n6 (.n2 (.s (.y 1 (.int .i64 (cb_ j)) (iN (j+1)) Yes.o (.g (.l (k2 h1 h2)))))))))))) (fun h1 h1'=>(.l (k3 h1))))))
def iE (al:List Key) (out:List Key) (k:Nat) (g:Nat) (i:Nat) (j:Nat) (s:Bool):Bool:=(if s=true then ((!(Key.eqb (nth al j) (nth al i)))) else (false))
theorem a5a (al:l9K) (out:l9K) (k:Nat) (g:Nat) (i:Nat) (hl:al.length < 1048576) (hi:i < al.length)  (r_:Nat):∀ (on:Bool) (j:Nat) (sF:Bool),j+r_=al.length->sF=iter (iE al out k g i) r_ j (on) ->
 j6 (l9 Tryz.prog (X dK) (p9 Tryz.f190 1)) (some [0,6,7,8,9,10]) (some [0,6,7,8,9,10]) (b6Q al g k i on j) (oK al g out) (.exit 2) (mkF 72 [(0,(oO 0 0 0 0)),(6,(iN al.length)),(7,(AV.osl 1 g 2 0 k)),(8,(iN i)),(9,(bB sF)),(10,(iN al.length))]) (oK al g out):=by
 induction r_ with
 | zero =>
  intro on j sF hi_   hF
  obtain rfl:al.length=j:=by omega
  have e_:sF=(on):=hF
  refine xB al out k g i on al.length hl hi (Nat.le_refl _) (fun h _=>by simp at h <;> omega) (fun h _=>by simp at h <;> omega) (fun _=>?_)
  first | done | rfl | (rw [e_]; done) | (rw [e_]; rfl)
 | succ r_ ih =>
  intro on j sF hi_   hF
  refine xB al out k g i on j hl hi ow (fun h1 h2=>?_) (fun h1 h2=>?_) (fun h=>by simp at h <;> omega)
  · exact ih (!(Key.eqb (nth al j) (nth al i))) (j+1) sF ow   (by rw [hF] <;> simp only [iter,iE,h2,if_true,Bool.false_eq_true,if_false])
  · exact ih false (j+1) sF ow   (by rw [hF] <;> simp only [iter,iE,h2,if_true,Bool.false_eq_true,if_false])
theorem a2O (al out:l9K) (k g i:Nat) (r:Nat):∀ (j:Nat) (s:Bool),j+r=al.length->iter (iE al out k g i) r j s=(s&&!(Z5 (al.drop j) (nth al i))):=by
 induction r with
 | zero =>
  intro j s hj
  have:al.drop j=[]:=List.drop_of_length_le ow
  rw [this]
  have h0:Z5 [] (nth al i)=false:=by rw [yH]; rfl
  rw [h0]; simp [iter]
 | succ r ih =>
  intro j s hj
  rw [Y8 (show j < al.length by omega),b9J]
  simp only [iter,iE]
  rw [ih (j+1) _ ow,b9z (nth al i) (nth al j)]
  cases s <;> cases Key.eqb (nth al i) (nth al j) <;> simp
theorem a5b (al out:l9K) (k g i:Nat) (hi:i < al.length):(!(Z5 (al.drop (i+1)) (nth al i)))=iter (iE al out k g i) (al.length - (i+1)) (i+1) true:=by
 rw [a2O al out k g i _ _ _ ow]; simp
@[simp] abbrev c7k (a:l9K) (b:Nat) (c:l9K) (d:Nat):Heap:=[K7 a,(o_ (b+1) 2 (mK (c++[(nth a d)])))]
@[simp] abbrev b6P (a:l9K) (b:Nat) (c:Nat) (d:Nat):Fr:=(mkF 72 [(0,(oO 0 0 0 0)),(6,(iN a.length)),(7,(AV.osl 1 b 2 0 c)),(8,(iN d))])
@[simp] abbrev c7j (a:l9K) (b:Nat) (c:Nat) (d:Nat):Fr:=(mkF 72 [(0,(oO 0 0 0 0)),(6,(iN a.length)),(7,(AV.osl 1 b 2 0 c)),(8,(iN d)),(9,(bB (!(Z5 (a.drop (d+1)) (nth a d))))),(10,(iN a.length))])
@[simp] abbrev b5R :=(l9 Tryz.prog (X dK) (p9 Tryz.f190 0))
theorem a0n (al:l9K) (out:l9K) (k:Nat) (g:Nat) (i:Nat) (hl:al.length < 1000000) (hk:k=out.length) (hki:k<=i) (hle_:i<=al.length) {eX:Ex} {FX:Fr} {HX:Heap} (k1:(decide ((i:Int) < (al.length:Int)))=true->(!(Z5 (al.drop (i+1)) (nth al i)))=true->j6 b5R (some [0,6,7,8]) (some [0,6,7,8]) (mkF 72 [(0,(oO 0 0 0 0)),(6,(iN al.length)),(7,(AV.osl 1 (g+1) 2 0 (k+1))),(8,(iN (i+1)))]) (c7k al g out i) eX FX HX) (k2:(decide ((i:Int) < (al.length:Int)))=true->(!(Z5 (al.drop (i+1)) (nth al i)))=false->j6 b5R (some [0,6,7,8]) (some [0,6,7,8]) (mkF 72 [(0,(oO 0 0 0 0)),(6,(iN al.length)),(7,(AV.osl 1 g 2 0 k)),(8,(iN (i+1)))]) (oK al g out) eX FX HX) (k3:(decide ((i:Int) < (al.length:Int)))=false->((.exit 0:Ex),(b6P al g k i),(oK al g out))=(eX,FX,HX)):j6 b5R (some [0,6,7,8]) (some [0,6,7,8]) (b6P al g k i) (oK al g out) eX FX HX :=
 F7 (.r (.g (.two (decide ((i:Int) < (al.length:Int))) (fun h1 h1'=>(.r (.s (.y 1 (.int .i64 (cb_ i)) (iN (i+1)) Yes.o (.g (.loop (c7j al g k i) (show j6 b5S (some [0,6,7,8,9,10]) (some [0,6,7,8,9,10]) (mkF 72 [(0,(oO 0 0 0 0)),(6,(iN al.length)),(7,(AV.osl 1 g 2 0 k)),(8,(iN i)),(9,bT),(10,(iN (i+1)))]) (oK al g out) (.exit 2) (c7j al g k i) (oK al g out) from (a5a al out k g i ow (by simp_all) (List.length al - (i+1)) true (i+1) (!(Z5 (List.drop (i+1) al) (nth al i))) (by simp_all <;> omega) (a5b _ _ _ _ _ (by simp_all)))) (.r (.g (.two (!(Z5 (al.drop (i+1)) (nth al i))) (fun h2 h2'=>(.r (.is 6 2 2 (mK al) (i:Int) (Key.row (nth al i)) (J8.mk _ ow ow) (.ap 9 33 (AV.osl 1 g 2 0 k) (AV.sl .clip 2 [(Key.row (nth al i))]) (AV.osl 1 (g+1) 2 0 (k+1)) (c7k al g out i) (H6 (row:=Key.row) (l:=out) (x:=(nth al i)) (T:=tt) (e:=30) (te:=vB) (z:=1) (b:=24) (y:=[.sl .nil 0 []]) kr kr rfl z8 z8 kr aU rfl rfl a5W) (.s (.y 1 (.int .i64 (cb_ i)) (iN (i+1)) Yes.o (.b 2 (.g (.l (k1 h1 h2)))))))))) (fun h2 h2'=>(.r (.y 1 (.int .i64 (cb_ i)) (iN (i+1)) Yes.o (.b 2 (.g (.l (k2 h1 h2)))))))))))))))) (fun h1 h1'=>(.l (k3 h1))))))
def kS (al:List Key) (i:Nat) (s:(List Key) × Nat × Nat):(List Key) × Nat × Nat:=(if (!(Z5 (al.drop (i+1)) (nth al i)))=true then (s.1++[(nth al i)],(s.2.1+1),(s.2.2+1)) else (s.1,s.2.1,s.2.2))
theorem a9p (al:l9K) (hl:al.length < 1000000)  (r_:Nat):∀ (out:l9K) (k:Nat) (g:Nat) (i:Nat) (sF:(l9K) × Nat × Nat),i+r_=al.length->k=out.length->k<=i->sF=iter (kS al) r_ i (out,k,g) ->
 j6 (l9 Tryz.prog (X dK) (p9 Tryz.f190 0)) (some [0,6,7,8]) (some [0,6,7,8]) (b6P al g k i) (oK al g out) (.exit 0) (mkF 72 [(0,(oO 0 0 0 0)),(6,(iN al.length)),(7,(AV.osl 1 sF.2.2 2 0 sF.2.1)),(8,(iN al.length))]) [(o_ 0 1 [[(sA 2 (mK al))]]),(o_ sF.2.2 2 (mK sF.1))]:=by
 induction r_ with
 | zero =>
  intro out k g i sF hi_ hk hki  hF
  obtain rfl:al.length=i:=by omega
  have e_:sF=(out,k,g):=hF
  refine a0n al out k g al.length hl hk hki (Nat.le_refl _) (fun h _=>by simp at h <;> omega) (fun h _=>by simp at h <;> omega) (fun _=>?_)
  first | done | rfl | (rw [e_]; done) | (rw [e_]; rfl)
 | succ r_ ih =>
  intro out k g i sF hi_ hk hki  hF
  refine a0n al out k g i hl hk hki ow (fun h1 h2=>?_) (fun h1 h2=>?_) (fun h=>by simp at h <;> omega)
  · exact ih (out++[(nth al i)]) (k+1) (g+1) (i+1) sF ow N9 N9  (by rw [hF] <;> simp only [iter,kS,h2,if_true,Bool.false_eq_true,if_false])
  · exact ih out k g (i+1) sF ow N9 N9  (by rw [hF] <;> simp only [iter,kS,h2,if_true,Bool.false_eq_true,if_false])
theorem a5X (al:l9K) (r:Nat):∀ (i:Nat) (out:l9K) (k g:Nat),i+r=al.length ->
 iter (kS al) r i (out,k,g)=(out++F6 (al.drop i),k+(F6 (al.drop i)).length,g+(F6 (al.drop i)).length):=by
 induction r with
 | zero =>
  intro i out k g hi
  have:al.drop i=[]:=List.drop_of_length_le ow
  rw [this]; simp [iter,F6]
 | succ r ih =>
  intro i out k g hi
  rw [Y8 (show i < al.length by omega)]
  simp only [iter,F6,kS]
  by_cases h:(!(Z5 (al.drop (i+1)) (nth al i)))=true
  · rw [if_pos h,if_pos h,ih (i+1) _ _ _ ow]; simp; omega
  · rw [if_neg h,if_neg h,ih (i+1) _ _ _ ow]
theorem a9q (al:l9K) (n:Nat) (hn:n<=al.length):(F6 (al.drop n),(F6 (al.drop n)).length,(F6 (al.drop n)).length)=iter (kS al) (al.length - n) n ([],0,0):=by
 rw [a5X al _ n [] 0 0 ow]; simp
@[simp] abbrev c7i (a:l9K) (b:Nat):Fr:=(mkF 72 [(0,(oO 0 0 0 0)),(6,(iN a.length)),(7,(AV.osl 1 (F6 (a.drop b)).length 2 0 (F6 (a.drop b)).length)),(8,(iN a.length))])
@[simp] abbrev c7h (a:l9K) (b:Nat):Heap:=[K7 a,(o_ ((F6 (a.drop b)).length) 2 (mK (F6 (a.drop b))))]
theorem a5Y (al:l9K) (n:Nat) (ha:al.length < 1000000) (h1:n<=al.length) (h2:al.length - n<=16):AC 190 [(oO 0 0 0 0),(iN n)] [(o_ 0 1 [[(sA 2 (mK al))]])] ((AV.tup [(sA 2 (mK (F6 (al.drop n)))),bT]),[(o_ 0 1 [[(sA 2 (mK al))]])]):=by
 have h4:=vY (al.drop n)
 have h5:(al.drop n).length=al.length - n:=List.length_drop
 exact o9 (fn:=Tryz.f190) (ann:=dK) (Has.o Tryz.func190) (.r (.s (.y 4 (.int .i64 ((List.length (mK al):Nat):Int)) (iN al.length) (Yes.len _ _ _) (.s (.y 1 (bB (decide ((n:Int) < 0))) bF (Yes.b yf_) (.n3 (.y 5 (bB (decide ((n:Int) > (al.length:Int)))) bF (Yes.b yh_) (.n3 (.y 10 (iW ((List.length al:Int) - 16)) (iI ((List.length al:Int) - 16)) Yes.o (.n (.y 11 (bB (decide ((n:Int) < ((List.length al:Int) - 16)))) bF (Yes.b yh_) (.rn (.s (.g (.loop (c7i al n) (show j6 b5R (some [0,6,7,8]) (some [0,6,7,8]) (mkF 72 [(0,(oO 0 0 0 0)),(6,(iN al.length)),(7,(AV.osl 1 0 2 0 0)),(8,(iN n))]) [(o_ 0 1 [[(sA 2 (mK al))]]),(o_ 0 2 (mK []))] (.exit 0) (c7i al n) (c7h al n) from (a9p al ow (List.length al - n) [] 0 0 n (F6 (List.drop n al),(F6 (List.drop n al)).length,(F6 (List.drop n al)).length) ow rfl ow (a9q _ _ ow))) (.r (.w 7 (mK (F6 (al.drop n))) (And.intro (G7 (room:=none) kr om) (Key.p8 _ _):F5 (c7h al n) 2 (AV.osl 1 (F6 (al.drop n)).length 2 0 (F6 (al.drop n)).length)=some (mK (F6 (al.drop n)))/\AV.D5 0 (mK (F6 (al.drop n)))=true) (.g (.h' [(o_ 0 1 [[(sA 2 (mK al))]])] (.q 1 (AV.tup [(sA 2 (mK (F6 (al.drop n)))),bT])))))))))))))))))))))
theorem a4Z (al:l9K) (n:Int) (ha:al.length < 1000000) (h:n < 0):AC 190 [(oO 0 0 0 0),(iI n)] [(o_ 0 1 [[(sA 2 (mK al))]])] (a3F,[(o_ 0 1 [[(sA 2 (mK al))]])]) :=
 o9 (fn:=Tryz.f190) (ann:=dK) (Has.o Tryz.func190) (.r (.s (.y 4 (.int .i64 ((List.length (mK al):Nat):Int)) (iN al.length) (Yes.len _ _ _) (.s (.y 1 (bB (decide (n < 0))) bT (Yes.b yh_) (.u6 (.u (.g (.u (.qr 1 a3E))))))))))
theorem a4Y (al:l9K) (n:Int) (ha:al.length < 1000000) (h:0<=n) (h1:(al.length:Int) < n):AC 190 [(oO 0 0 0 0),(iI n)] [(o_ 0 1 [[(sA 2 (mK al))]])] (a3F,[(o_ 0 1 [[(sA 2 (mK al))]])]) :=
 o9 (fn:=Tryz.f190) (ann:=dK) (Has.o Tryz.func190) (.r (.s (.y 4 (.int .i64 ((List.length (mK al):Nat):Int)) (iN al.length) (Yes.len _ _ _) (.s (.y 1 (bB (decide (n < 0))) bF (Yes.b yh_) (.n3 (.y 5 (bB (decide (n > (al.length:Int)))) bT (Yes.b yh_) (.u4 (.g (.u (.qr 1 a3E)))))))))))
theorem a4X (al:l9K) (n:Nat) (ha:al.length < 1000000) (h1:n<=al.length) (h2:16 < al.length - n):AC 190 [(oO 0 0 0 0),(iN n)] [(o_ 0 1 [[(sA 2 (mK al))]])] (a3F,[(o_ 0 1 [[(sA 2 (mK al))]])]) :=
 o9 (fn:=Tryz.f190) (ann:=dK) (Has.o Tryz.func190) (.r (.s (.y 4 (.int .i64 ((List.length (mK al):Nat):Int)) (iN al.length) (Yes.len _ _ _) (.s (.y 1 (bB (decide ((n:Int) < 0))) bF (Yes.b yf_) (.n3 (.y 5 (bB (decide ((n:Int) > (al.length:Int)))) bF (Yes.b yh_) (.n3 (.y 10 (iW ((List.length al:Int) - 16)) (iI ((List.length al:Int) - 16)) Yes.o (.n (.y 11 (bB (decide ((n:Int) < ((List.length al:Int) - 16)))) bT (Yes.b yh_) (.g (.u (.qr 1 a3E))))))))))))))
theorem a0o (al:l9K) (n:Int) (ha:al.length < 1000000):AC 190 [(oO 0 0 0 0),(iI n)] [(o_ 0 1 [[(sA 2 (mK al))]])] ((AV.tup [(sA 2 (mK (F4 al n))),(bB (okS al n))]),[(o_ 0 1 [[(sA 2 (mK al))]])]):=by
 by_cases h:n < 0\/(al.length:Int) < n\/16 < (al.length:Int) - n
 · rw [xM h,xZ h]
   by_cases h0:n < 0
   · exact a4Z al n ha h0
   · by_cases h1:(al.length:Int) < n
     · exact a4Y al n ha ow h1
     · obtain ⟨m,rfl⟩:=Int.eq_ofNat_of_zero_le (show 0<=n by omega)
       exact a4X al m ha ow ow
 · obtain ⟨m,rfl⟩:=Int.eq_ofNat_of_zero_le (show 0<=n by omega)
   rw [a1I ow ow,a2Y ow ow]
   exact a5Y al m ha ow ow
attribute [local irreducible] D9 J2 J6 J7 K4 Y9 cO dS fC gL gM kV ofB qM
end Go.Proofs.YtfjedpipdnlkfaaGreat.AM
namespace Go.Proofs.YtfjedpipdnlkfaaGreat.AM
open Go Go.Proofs.YtfjedpipdnlkfaaGreat
attribute [local irreducible] E8 J4 j6 l6 l9
abbrev dA:List AV:=[z_,z_,z_,z_,z_,z_,z_,e_,e_,bF,(AV.int .u32 0),(AV.sl .nil 0 []),(AV.sl .nil 0 [])]
abbrev eU (x b u c:AV):List AV:=[(iI 2),(iI 5),z_,z_,z_,z_,x,e_,e_,b,u,c,(AV.sl .nil 0 [])]
@[simp] theorem d2x (n:Nat):AV.bdds n dA=true:=by simp [AV.bdds,AV.bdd]
@[simp] theorem d2z (n:Nat) (x b u c:AV):AV.bdds n (eU x b u c)=(AV.bdd n x&&(AV.bdd n b&&(AV.bdd n u&&AV.bdd n c))):=by simp [AV.bdds,AV.bdd]
attribute [local irreducible] Z5 F6 o8 okS F4 u7 r9 C9 A9 I5 H9 d9 M5 o7 K4 cO ofB S9 J6 G6
def b4K (k:Key):j5:=⟨k,2,0,1,⟨0,0,0⟩,true⟩
def atC (l:List Entry) (k:Key):j5:=if r9 l k=true then (d9 l k).card else b4K k
theorem yK {α β:Type} (f:α->β) (l:List α):∀ (out:List β) (k g:Nat),l.foldl (fun (s:List β × Nat × Nat) c=>(s.1++[f c],s.2.1+1,s.2.2+1)) (out,k,g)=(out++l.map f,k+l.length,g+l.length):=by
 induction l with
 | nil=>intro out k g; simp
 | cons c l ih=>intro out k g; rw [List.foldl_cons,ih]; simp; omega
@[simp] abbrev d2o (a:Nat) (b:l9C) (c:l9E) (d:l9K) (e:Nat):Ob:=(o_ (a+1) 9 (mC (b++[(d9 c (nth d e)).card])))
@[simp] abbrev d2n (a:Nat) (b:l9C) (c:l9K) (d:Nat):Ob:=(o_ (a+1) 9 (mC (b++[(j5.mk (nth c d) 2 0 1 (l8.mk 0 0 0) true)])))
@[simp] abbrev d2m (a:l9E) (b:l9K) (c:Int):Ob:=(o_ ((List.map (atC a) (F4 b c)).length) 9 (mC (List.map (atC a) (F4 b c))))
def X3 (l:List Entry) (al:List Key) (since:Int):List j5:=if okS al since=true then (F4 al since).map (atC l) else K4 (List.map Entry.card l)
def uY:Ann:={ gh:=[(7,.frz 3)],gha:=[(1,.vir 3 9),(6,.cut 2)],base:=1,fin:=some 1,live:=[(3,[3,9,10,11])],out:=[(3,[3,9,10,11])] }
@[simp] abbrev c7g (a:Int) (b:l9E) (c:Nat) (d:l9C) (e:Nat):Heap:=[bK a b,(o_ (c+1) 9 (mC (d++[(nth b e).card])))]
@[simp] abbrev b6O (a:Nat) (b:Nat) (c:l9E) (d:Nat):Fr:=(mkF 22 [(3,(AV.osl 1 a 9 0 b)),(9,(sA 10 (mE c))),(10,(iN c.length)),(11,(iN d))])
@[simp] abbrev b6N (a:Int) (b:l9E) (c:Nat) (d:l9C):Heap:=[bK a b,(o_ c 9 (mC d))]
@[simp] abbrev c4W :=(l9 Tryz.prog (X uY) (p9 Tryz.f157 0))
theorem a0q (most:Int) (l:l9E) (out:l9C) (k:Nat) (g:Nat) (i:Nat) (hl:l.length < 1048576) (hk:k=out.length) (hki:k<=i) (hle_:i<=l.length) {eX:Ex} {FX:Fr} {HX:Heap} (k1:(decide ((i:Int) < (l.length:Int)))=true->j6 c4W (some [3,9,10,11]) (some [3,9,10,11]) (mkF 22 [(3,(AV.osl 1 (g+1) 9 0 (k+1))),(9,(sA 10 (mE l))),(10,(iN l.length)),(11,(iN (i+1)))]) (c7g most l g out i) eX FX HX) (k2:(decide ((i:Int) < (l.length:Int)))=false->((.exit 0:Ex),(b6O g k l i),(b6N most l g out))=(eX,FX,HX)):j6 c4W (some [3,9,10,11]) (some [3,9,10,11]) (b6O g k l i) (b6N most l g out) eX FX HX :=
 F7 (.r (.g (.two (decide ((i:Int) < (l.length:Int))) (fun h1 h1'=>(.r (.h' [(o_ 0 2 (kK most l)),(o_ g 9 (mC out)),(o_ 0 10 [[e_,e_,z_,z_,z_,z_,z_,z_,bF,z_]])] (.is 0 10 10 (mE l) (i:Int) (Entry.row (nth l i)) (J8.mk _ ow ow) (.s (.h' [(o_ 0 2 (kK most l)),(o_ g 9 (mC out)),(o_ 0 10 [(Entry.row (nth l i))])] (.ap 4 32 (AV.osl 1 g 9 0 k) (AV.sl .clip 9 [(j5.row (nth l i).card)]) (AV.osl 1 (g+1) 9 0 (k+1)) [(o_ 0 2 (kK most l)),(o_ (g+1) 9 (mC (out++[(nth l i).card]))),(o_ 0 10 [(Entry.row (nth l i))])] (H6 (row:=j5.row) (l:=out) (x:=(nth l i).card) (T:=tt) (e:=39) (te:=jU) (z:=1) (b:=24) (y:=[.sl .nil 0 []]) kr kr rfl z8 z8 kr aU rfl rfl pX) (.s (.y 0 (.int .i64 (cb_ i)) (iN (i+1)) Yes.o (.h' (c7g most l g out i) (.b 2 (.g (.l (k1 h1)))))))))))))) (fun h1 h1'=>(.l (k2 h1))))))
def uX (most:Int) (l:List Entry) (i:Nat) (s:(List j5) × Nat × Nat):(List j5) × Nat × Nat:=(s.1++[(nth l i).card],(s.2.1+1),(s.2.2+1))
theorem a9v (most:Int) (l:l9E) (hl:l.length < 1048576)  (r_:Nat):∀ (out:l9C) (k:Nat) (g:Nat) (i:Nat) (sF:(l9C) × Nat × Nat),i+r_=l.length->k=out.length->k<=i->sF=iter (uX most l) r_ i (out,k,g) ->
 j6 (l9 Tryz.prog (X uY) (p9 Tryz.f157 0)) (some [3,9,10,11]) (some [3,9,10,11]) (b6O g k l i) (b6N most l g out) (.exit 0) (mkF 22 [(3,(AV.osl 1 sF.2.2 9 0 sF.2.1)),(9,(sA 10 (mE l))),(10,(iN l.length)),(11,(iN l.length))]) [(o_ 0 2 [[(iI most),(sA 10 (mE l))]]),(o_ sF.2.2 9 (mC sF.1))]:=by
 induction r_ with
 | zero =>
  intro out k g i sF hi_ hk hki  hF
  obtain rfl:l.length=i:=by omega
  have e_:sF=(out,k,g):=hF
  refine a0q most l out k g l.length hl hk hki (Nat.le_refl _) (fun h=>by simp at h <;> omega) (fun _=>?_)
  first | done | rfl | (rw [e_]; done) | (rw [e_]; rfl)
 | succ r_ ih =>
  intro out k g i sF hi_ hk hki  hF
  refine a0q most l out k g i hl hk hki ow (fun h1=>?_) (fun h=>by simp at h <;> omega)
  · exact ih (out++[(nth l i).card]) (k+1) (g+1) (i+1) sF ow N9 N9  (by rw [hF] <;> simp only [iter,uX,if_true,Bool.false_eq_true,if_false])
theorem a9w (most:Int) (l:l9E):(l.map (·.card),(l.map (·.card)).length,(l.map (·.card)).length)=iter (uX most l) l.length 0 ([],0,0):=by
 rw [V5 (uX most l) (fun s x=>(s.1++[x.card],s.2.1+1,s.2.2+1)) l (fun i s hi=>rfl)]
 rw [yK (fun x:Entry=>x.card) l]; simp
@[simp] abbrev c7f (a:Int) (b:l9E):Heap:=[bK a b,(o_ 0 9 (mC []))]
@[simp] abbrev c7e (a:l9E):Fr:=(mkF 22 [(3,(AV.osl 1 (List.map Entry.card a).length 9 0 (List.map Entry.card a).length)),(9,(sA 10 (mE a))),(10,(iN a.length)),(11,(iN a.length))])
@[simp] abbrev c7d (a:Int) (b:l9E):Heap:=[bK a b,(o_ ((List.map Entry.card b).length) 9 (mC (List.map Entry.card b)))]
theorem a9u (most:Int) (l:l9E) (hl:l.length < 1048576):AC 157 [(oO 0 0 0 0)] (Q7 most l) ((sA 9 (mC (l.map (·.card)))),(Q7 most l)):=by
 have hm:(List.map Entry.card l).length=l.length:=List.length_map _
 exact o9 (fn:=Tryz.f157) (ann:=uY) (Has.o Tryz.func157) (.r (.s (.s (.h' (c7f most l) (.y 4 (.int .i64 ((List.length (mE l):Nat):Int)) (iN l.length) (Yes.len _ _ _) (.g (.loop (c7e l) (show j6 c4W (some [3,9,10,11]) (some [3,9,10,11]) (mkF 22 [(3,(AV.osl 1 0 9 0 0)),(9,(sA 10 (mE l))),(10,(iN l.length)),(11,z_)]) (c7f most l) (.exit 0) (c7e l) (c7d most l) from (a9v most l ow (List.length l) [] 0 0 0 ((List.map Entry.card l),(List.map Entry.card l).length,(List.map Entry.card l).length) ow rfl ow (a9w _ _))) (.r (.w 3 (mC (List.map Entry.card l)) (And.intro (G7 (room:=none) kr om) (j5.p8 _ _):F5 (c7d most l) 9 (AV.osl 1 (List.map Entry.card l).length 9 0 (List.map Entry.card l).length)=some (mC (List.map Entry.card l))/\AV.D5 0 (mC (List.map Entry.card l))=true) (.g (.h' (Q7 most l) (.q 1 (sA 9 (mC (List.map Entry.card l)))))))))))))))
theorem a3T (most:Int) (l:l9E) (hl:l.length < 1048576) (H:Heap):AC 157 [(oO 0 0 0 0)] ((Q7 most l)++H) ((sA 9 (mC (l.map (·.card)))),(Q7 most l)++H):=(a9u most l hl).ext kr kr ob ob kr H
def b7A:Ann:={ base:=2,fin:=some 2 }
@[simp] abbrev kN (a:Int) (b:l9E) (c:l9K):Heap:=[bK a b,K7 c]
@[simp] abbrev kM (a:Int) (b:l9E) (c:l9K):Heap:=[bK a b,K7 c,(o_ 0 13 [dA])]
@[simp] abbrev c7c (a:l9K):Heap:=[K7 a,(o_ 0 13 [dA])]
@[simp] abbrev c4V (a:l9K) (b:l9E):=(AV.agg (eU (iN a.length) bT (AV.int .u32 (ofB (List.map Entry.card b))) (sA 9 (mC (K4 (List.map Entry.card b))))))
theorem a1w (most:Int) (l:l9E) (al:l9K) (hl:l.length < 1000) (ha:al.length < 1000000):AC 137 [(oO 0 0 0 0),(oO 1 0 0 0)] (kN most l al) ((c4V al l),(kN most l al)):=by
 have hm:(List.map Entry.card l).length=l.length:=List.length_map _
 exact o9 (fn:=Tryz.f137) (ann:=b7A) (Has.o Tryz.func137) (.r (.s (.h' (kM most l al) (.y 4 (.int .i64 ((List.length (mK al):Nat):Int)) (iN al.length) (Yes.len _ _ _) (.c 6 (a3T most l oa (c7c al)) (.c 7 ((b3j (l.map (·.card)) oa).lift kr kr (kM most l al)) (.c 9 (a3T most l oa (c7c al)) (.c 10 ((a1Y (l.map (·.card)) oa).lift kr kr (kM most l al)) (.rd (sA 2 (mK al)) (kM most l al) (.rd (sA 2 (mK al)) (kM most l al) (.rd (sA 2 (mK al)) (kM most l al) (.rd (sA 2 (mK al)) (kM most l al) (.g (.h' (kN most l al) (.q 2 (AV.agg (eU (iN al.length) bT (AV.int .u32 (ofB (l.map (·.card)))) (sA 9 (mC (K4 (l.map (·.card))))))))))))))))))))))
theorem a5Z (most:Int) (l:l9E) (al:l9K) (hl:l.length < 1000) (ha:al.length < 1000000) (H:Heap):AC 137 [(oO 0 0 0 0),(oO 1 0 0 0)] ((kN most l al)++H) ((AV.agg (eU (iN al.length) bT (AV.int .u32 (ofB (List.map Entry.card l))) (sA 9 (mC (K4 (List.map Entry.card l)))))),(kN most l al)++H):=(a1w most l al hl ha).ext kr kr ob ob kr H
def oN:Ann:={ gh:=[(14,.frzf 9 11 9)],gha:=[(5,.virf 9 11 9),(13,.cut 5)],base:=2,fin:=some 2,live:=[(7,[0,6,9,28,29,30])],out:=[(7,[0,6,9,28,29,30])] }
@[simp] abbrev c7b (a:l9K) (b:Nat):Fr:=(mkF 54 [(0,(oO 0 0 0 0)),(6,(oO 2 0 0 0)),(9,(oO 3 0 0 0)),(28,(sA 2 (mK a))),(29,(iN a.length)),(30,(iN (b+1)))])
@[simp] abbrev P6 (a:l9E):=(AV.int .u32 (ofB (List.map Entry.card a)))
@[simp] abbrev a1m (a b:Nat):=(AV.osl 4 (a+1) 9 0 (b+1))
@[simp] abbrev c6U (a:l9K) (b:l9E) (c:Nat) (d:Nat):Ob:=(o_ 0 13 [(eU (iN a.length) bF (P6 b) (a1m c d))])
@[simp] abbrev c7a (a:Int) (b:l9E) (c:l9K) (d:Nat) (e:Nat) (f:l9C) (g:l9K) (h:Nat):Heap:=[bK a b,K7 c,(o_ 0 13 [dA]),c6U c b d e,d2n d f g h]
@[simp] abbrev c6Z (a:Int) (b:l9E) (c:l9K) (d:Nat) (e:Nat) (f:l9C) (g:l9K) (h:Nat):Heap:=[bK a b,K7 c,(o_ 0 13 [dA]),c6U c b d e,d2o d f b g h]
@[simp] abbrev b6M (a:l9K) (b:Nat):Fr:=(mkF 54 [(0,(oO 0 0 0 0)),(6,(oO 2 0 0 0)),(9,(oO 3 0 0 0)),(28,(sA 2 (mK a))),(29,(iN a.length)),(30,(iN b))])
@[simp] abbrev b6L (a:Int) (b:l9E) (c:l9K) (d:Nat) (e:Nat) (f:l9C):Heap:=[bK a b,K7 c,(o_ 0 13 [dA]),(o_ 0 13 [(eU (iN c.length) bF (P6 b) (AV.osl 4 d 9 0 e))]),(o_ d 9 (mC f))]
@[simp] abbrev b5Q :=(l9 Tryz.prog (X oN) (p9 Tryz.f138 0))
@[simp] abbrev c4U (a:l9K) (b:Nat) (c:l9E):=[[(AV.str (nth a b).app),(AV.str (nth a b).id),(iI 2),z_,(iI 1),z_,z_,z_,bT,(iI (d9 c (nth a b)).seen)]]
@[simp] abbrev a3D (a:l9K) (b:Nat):=[[(AV.str (nth a b).app),(AV.str (nth a b).id),(iI 2),z_,(iI 1),z_,z_,z_,bT]]
theorem a0p (most:Int) (l:l9E) (al:l9K) (ks:l9K) (out:l9C) (k:Nat) (gc:Nat) (i:Nat) (hl:l.length < 1000) (ha:al.length < 1000000) (hk:ks.length < 1000000) (hko:k=out.length) (hki:k<=i) (hle_:i<=ks.length) {eX:Ex} {FX:Fr} {HX:Heap} (k1:(decide ((i:Int) < (ks.length:Int)))=true->(!(r9 l (nth ks i)))=true->j6 b5Q (some [0,6,9,28,29,30]) (some [0,6,9,28,29,30]) (c7b ks i) (c7a most l al gc k out ks i) eX FX HX) (k2:(decide ((i:Int) < (ks.length:Int)))=true->(!(r9 l (nth ks i)))=false->j6 b5Q (some [0,6,9,28,29,30]) (some [0,6,9,28,29,30]) (c7b ks i) (c6Z most l al gc k out ks i) eX FX HX) (k3:(decide ((i:Int) < (ks.length:Int)))=false->((.exit 0:Ex),(b6M ks i),(b6L most l al gc k out))=(eX,FX,HX)):j6 b5Q (some [0,6,9,28,29,30]) (some [0,6,9,28,29,30]) (b6M ks i) (b6L most l al gc k out) eX FX HX :=
 F7 (.r (.g (.two (decide ((i:Int) < (ks.length:Int))) (fun h1 h1'=>(.r (.h' [(o_ 0 2 (kK most l)),(o_ 0 1 [[(sA 2 (mK al))]]),(o_ 0 13 [dA]),(o_ 0 13 [(eU (iN al.length) bF (P6 l) (AV.osl 4 gc 9 0 k))]),(o_ gc 9 (mC out)),(o_ 0 2 [[e_,e_]])] (.is 0 2 2 (mK ks) (i:Int) (Key.row (nth ks i)) (J8.mk _ ow ow) (.s (.c 2 (dH most l (nth ks i) oa [(o_ 0 1 [[(sA 2 (mK al))]]),(o_ 0 13 [dA]),(o_ 0 13 [(eU (iN al.length) bF (P6 l) (AV.osl 4 gc 9 0 k))]),(o_ gc 9 (mC out)),(o_ 0 2 [(Key.row (nth ks i))]),(o_ 0 10 [[e_,e_,z_,z_,z_,z_,z_,z_,bF,z_]])]) (.s (.g (.two (!(r9 l (nth ks i))) (fun h2 h2'=>(.r (.s (.h' [(o_ 0 2 (kK most l)),(o_ 0 1 [[(sA 2 (mK al))]]),(o_ 0 13 [dA]),(o_ 0 13 [(eU (iN al.length) bF (P6 l) (AV.osl 4 gc 9 0 k))]),(o_ gc 9 (mC out)),(o_ 0 2 [(Key.row (nth ks i))]),(o_ 0 10 (c4U ks i l))] (.ap 5 32 (AV.osl 4 gc 9 0 k) (AV.sl .clip 9 (a3D ks i)) (a1m gc k) [(o_ 0 2 (kK most l)),(o_ 0 1 [[(sA 2 (mK al))]]),(o_ 0 13 [dA]),(o_ 0 13 [(eU (iN al.length) bF (P6 l) (AV.osl 4 gc 9 0 k))]),(o_ (gc+1) 9 (mC (out++[(j5.mk (nth ks i) 2 0 1 (l8.mk 0 0 0) true)]))),(o_ 0 2 [(Key.row (nth ks i))]),(o_ 0 10 (c4U ks i l))] (H6 (row:=j5.row) (l:=out) (x:=(j5.mk (nth ks i) 2 0 1 (l8.mk 0 0 0) true)) (T:=tt) (e:=39) (te:=jU) (z:=1) (b:=24) (y:=[.sl .nil 0 []]) kr kr rfl z8 z8 kr aU rfl rfl pX) (.s (.h' [(o_ 0 2 (kK most l)),(o_ 0 1 [[(sA 2 (mK al))]]),(o_ 0 13 [dA]),(o_ 0 13 [(eU (iN al.length) bF (P6 l) (a1m gc k))]),(o_ (gc+1) 9 (mC (out++[(j5.mk (nth ks i) 2 0 1 (l8.mk 0 0 0) true)]))),(o_ 0 2 [(Key.row (nth ks i))]),(o_ 0 10 (c4U ks i l))] (.y 0 (.int .i64 (cb_ i)) (iN (i+1)) Yes.o (.h' (c7a most l al gc k out ks i) (.b 5 (.g (.l (k1 h1 h2))))))))))))) (fun h2 h2'=>(.r (.h' [(o_ 0 2 (kK most l)),(o_ 0 1 [[(sA 2 (mK al))]]),(o_ 0 13 [dA]),(o_ 0 13 [(eU (iN al.length) bF (P6 l) (AV.osl 4 gc 9 0 k))]),(o_ gc 9 (mC out)),(o_ 0 2 [(Key.row (nth ks i))]),(o_ 0 10 [(Entry.row (d9 l (nth ks i)))])] (.ap 5 32 (AV.osl 4 gc 9 0 k) (AV.sl .clip 9 [(j5.row (d9 l (nth ks i)).card)]) (a1m gc k) [(o_ 0 2 (kK most l)),(o_ 0 1 [[(sA 2 (mK al))]]),(o_ 0 13 [dA]),(o_ 0 13 [(eU (iN al.length) bF (P6 l) (AV.osl 4 gc 9 0 k))]),(o_ (gc+1) 9 (mC (out++[(d9 l (nth ks i)).card]))),(o_ 0 2 [(Key.row (nth ks i))]),(o_ 0 10 [(Entry.row (d9 l (nth ks i)))])] (H6 (row:=j5.row) (l:=out) (x:=(d9 l (nth ks i)).card) (T:=tt) (e:=39) (te:=jU) (z:=1) (b:=24) (y:=[.sl .nil 0 []]) kr kr rfl z8 z8 kr aU rfl rfl pX) (.s (.h' [(o_ 0 2 (kK most l)),(o_ 0 1 [[(sA 2 (mK al))]]),(o_ 0 13 [dA]),(o_ 0 13 [(eU (iN al.length) bF (P6 l) (a1m gc k))]),(o_ (gc+1) 9 (mC (out++[(d9 l (nth ks i)).card]))),(o_ 0 2 [(Key.row (nth ks i))]),(o_ 0 10 [(Entry.row (d9 l (nth ks i)))])] (.y 0 (.int .i64 (cb_ i)) (iN (i+1)) Yes.o (.h' (c6Z most l al gc k out ks i) (.b 5 (.g (.l (k2 h1 h2))))))))))))))))))))) (fun h1 h1'=>(.l (k3 h1))))))
def kT (most:Int) (l:List Entry) (al:List Key) (ks:List Key) (i:Nat) (s:(List j5) × Nat × Nat):(List j5) × Nat × Nat:=(if (!(r9 l (nth ks i)))=true then (s.1++[(j5.mk (nth ks i) 2 0 1 (l8.mk 0 0 0) true)],(s.2.1+1),(s.2.2+1)) else (s.1++[(d9 l (nth ks i)).card],(s.2.1+1),(s.2.2+1)))
theorem a9s (most:Int) (l:l9E) (al:l9K) (ks:l9K) (hl:l.length < 1000) (ha:al.length < 1000000) (hk:ks.length < 1000000)  (r_:Nat):∀ (out:l9C) (k:Nat) (gc:Nat) (i:Nat) (sF:(l9C) × Nat × Nat),i+r_=ks.length->k=out.length->k<=i->sF=iter (kT most l al ks) r_ i (out,k,gc) ->
 j6 (l9 Tryz.prog (X oN) (p9 Tryz.f138 0)) (some [0,6,9,28,29,30]) (some [0,6,9,28,29,30]) (b6M ks i) (b6L most l al gc k out) (.exit 0) (mkF 54 [(0,(oO 0 0 0 0)),(6,(oO 2 0 0 0)),(9,(oO 3 0 0 0)),(28,(sA 2 (mK ks))),(29,(iN ks.length)),(30,(iN ks.length))]) [(o_ 0 2 [[(iI most),(sA 10 (mE l))]]),(o_ 0 1 [[(sA 2 (mK al))]]),(o_ 0 13 [dA]),(o_ 0 13 [(eU (iN al.length) bF (AV.int .u32 (ofB (List.map Entry.card l))) (AV.osl 4 sF.2.2 9 0 sF.2.1))]),(o_ sF.2.2 9 (mC sF.1))]:=by
 induction r_ with
 | zero =>
  intro out k gc i sF hi_ hko hki  hF
  obtain rfl:ks.length=i:=by omega
  have e_:sF=(out,k,gc):=hF
  refine a0p most l al ks out k gc ks.length hl ha hk hko hki (Nat.le_refl _) (fun h _=>by simp at h <;> omega) (fun h _=>by simp at h <;> omega) (fun _=>?_)
  first | done | rfl | (rw [e_]; done) | (rw [e_]; rfl)
 | succ r_ ih =>
  intro out k gc i sF hi_ hko hki  hF
  refine a0p most l al ks out k gc i hl ha hk hko hki ow (fun h1 h2=>?_) (fun h1 h2=>?_) (fun h=>by simp at h <;> omega)
  · exact ih (out++[(j5.mk (nth ks i) 2 0 1 (l8.mk 0 0 0) true)]) (k+1) (gc+1) (i+1) sF ow N9 N9  (by rw [hF] <;> simp only [iter,kT,h2,if_true,Bool.false_eq_true,if_false])
  · exact ih (out++[(d9 l (nth ks i)).card]) (k+1) (gc+1) (i+1) sF ow N9 N9  (by rw [hF] <;> simp only [iter,kT,h2,if_true,Bool.false_eq_true,if_false])
theorem a9t (most:Int) (l:l9E) (al:l9K) (ks:l9K):(ks.map (atC l),(ks.map (atC l)).length,(ks.map (atC l)).length)=iter (kT most l al ks) ks.length 0 ([],0,0):=by
 rw [V5 (kT most l al ks) (fun s k=>(s.1++[atC l k],s.2.1+1,s.2.2+1)) ks (fun i s hi=>?_)]
 · rw [yK (atC l) ks]; simp
 · simp only [kT,atC,b4K]
   by_cases h1:r9 l (nth ks i)=true <;> simp [h1]
@[simp] abbrev tF (a:l9E):=(sA 9 (mC (K4 (List.map Entry.card a))))
@[simp] abbrev c6Y (a:Int) (b:l9E) (c:l9K):Heap:=[bK a b,K7 c,(o_ 0 13 [dA]),(o_ 0 13 [(eU (iN c.length) bT (P6 b) (tF b))])]
@[simp] abbrev c6X (a:Int) (b:l9E) (c:l9K):Heap:=[bK a b,K7 c,(o_ 0 13 [dA]),(o_ 0 13 [(eU (iN c.length) bF (P6 b) (AV.osl 4 0 9 0 0))]),(o_ 0 9 (mC []))]
@[simp] abbrev yV (a:l9K) (b:Int):=(iN ((F4 a b).length))
@[simp] abbrev c6W (a:l9K) (b:Int):Fr:=(mkF 54 [(0,(oO 0 0 0 0)),(6,(oO 2 0 0 0)),(9,(oO 3 0 0 0)),(28,(sA 2 (mK (F4 a b)))),(29,(yV a b)),(30,(yV a b))])
@[simp] abbrev c6V (a:Int) (b:l9E) (c:l9K) (d:Int):Heap:=[bK a b,K7 c,(o_ 0 13 [dA]),(o_ 0 13 [(eU (iN c.length) bF (P6 b) (AV.osl 4 (List.map (atC b) (F4 c d)).length 9 0 (List.map (atC b) (F4 c d)).length))]),d2m b c d]
@[simp] abbrev d0a (a:l9K) (b:l9E) (c:Int):=(AV.agg (eU (iN a.length) bF (AV.int .u32 (ofB (List.map Entry.card b))) (sA 9 (mC (List.map (atC b) (F4 a c))))))
@[simp] abbrev b5P (a:l9K) (b:Int):=(AV.tup [(sA 2 (mK (F4 a b))),(bB (okS a b))])
theorem a6a (most:Int) (l:l9E) (al:l9K) (since:Int) (hl:l.length < 1000) (ha:al.length < 1000000) (hok:okS al since=true):AC 138 [(oO 0 0 0 0),(oO 1 0 0 0),(iI since)] (kN most l al) ((d0a al l since),(kN most l al)):=by
 have hm:(List.map Entry.card l).length=l.length:=List.length_map _
 have hs:=jW al since
 have hd:(List.map (atC l) (F4 al since)).length=(F4 al since).length:=List.length_map _
 exact o9 (fn:=Tryz.f138) (ann:=oN) (Has.o Tryz.func138) (.r (.s (.c 2 (l6.pre (args:=[(oO 1 0 0 0),(iI since)]) (args':=[(oO 1 0 0 0),(iI since)]) (l6.put2 [1] (kM most l al) (b5P al since) (kM most l al) (a0o al since oa) (⟨rfl,trivial⟩) (⟨rfl,trivial⟩)) ⟨AV.j3 _,AV.j3 _,trivial⟩) (.s (.c 2 (a5Z most l al oa oa [(o_ 0 13 [dA]),(o_ 0 13 [dA])]) (.s (.h' (c6Y most l al) (.y 1 (bB (!(okS al since))) bF (Yes.b (by rw [hok]; rfl)) (.rn (.o (rfl:0=0) (.s (.h' (c6X most l al) (.y 1 (.int .i64 ((List.length (mK (F4 al since)):Nat):Int)) (yV al since) (Yes.len _ _ _) (.g (.loop (c6W al since) (show j6 b5Q (some [0,6,9,28,29,30]) (some [0,6,9,28,29,30]) (mkF 54 [(0,(oO 0 0 0 0)),(6,(oO 2 0 0 0)),(9,(oO 3 0 0 0)),(28,(sA 2 (mK (F4 al since)))),(29,(yV al since)),(30,z_)]) (c6X most l al) (.exit 0) (c6W al since) (c6V most l al since) from (a9s most l al (F4 al since) ow ow ow (List.length (F4 al since)) [] 0 0 0 (List.map (atC l) (F4 al since),(List.map (atC l) (F4 al since)).length,(List.map (atC l) (F4 al since)).length) ow rfl ow (a9t _ _ _ _))) (.r (.w 9 (mC (List.map (atC l) (F4 al since))) (And.intro rfl (And.intro (G7 (room:=none) kr om) (j5.p8 _ _)):0=0/\F5 (c6V most l al since) 9 (AV.osl 4 (List.map (atC l) (F4 al since)).length 9 0 (List.map (atC l) (F4 al since)).length)=some (mC (List.map (atC l) (F4 al since)))/\AV.D5 0 (mC (List.map (atC l) (F4 al since)))=true) (.g (.h' (kN most l al) (.q 2 (d0a al l since)))))))))))))))))))))
theorem a6b (most:Int) (l:l9E) (al:l9K) (since:Int) (hl:l.length < 1000) (ha:al.length < 1000000) (hok:okS al since=false):AC 138 [(oO 0 0 0 0),(oO 1 0 0 0),(iI since)] (kN most l al) ((c4V al l),(kN most l al)):=by
 have hm:(List.map Entry.card l).length=l.length:=List.length_map _
 have hs:=jW al since
 have hd:(List.map (atC l) (F4 al since)).length=(F4 al since).length:=List.length_map _
 exact o9 (fn:=Tryz.f138) (ann:=oN) (Has.o Tryz.func138) (.r (.s (.c 2 (l6.pre (args:=[(oO 1 0 0 0),(iI since)]) (args':=[(oO 1 0 0 0),(iI since)]) (l6.put2 [1] (kM most l al) (b5P al since) (kM most l al) (a0o al since oa) (⟨rfl,trivial⟩) (⟨rfl,trivial⟩)) ⟨AV.j3 _,AV.j3 _,trivial⟩) (.s (.c 2 (a5Z most l al oa oa [(o_ 0 13 [dA]),(o_ 0 13 [dA])]) (.s (.h' (c6Y most l al) (.y 1 (bB (!(okS al since))) bT (Yes.b (by rw [hok]; rfl)) (.ru (.g (.h' (kN most l al) (.q 2 (c4V al l)))))))))))))
theorem a5V {p:Prop} (h:p:=by rw [h]; simp):p:=h
theorem a9r (most:Int) (l:l9E) (al:l9K) (since:Int) (hl:l.length < 1000) (ha:al.length < 1000000):AC 138 [(oO 0 0 0 0),(oO 1 0 0 0),(iI since)] [(o_ 0 2 [[(iI most),(sA 10 (mE l))]]),(o_ 0 1 [[(sA 2 (mK al))]])] ((AV.agg (eU (iN al.length) (bB (!(okS al since))) (AV.int .u32 (ofB (List.map Entry.card l))) (sA 9 (mC (X3 l al since))))),[(o_ 0 2 [[(iI most),(sA 10 (mE l))]]),(o_ 0 1 [[(sA 2 (mK al))]])]):=by
 cases h:okS al since with
 | true=>have h1:=a6a most l al since hl ha h; unfold X3; rw [if_pos h]; exact h1
 | false=>have h1:=a6b most l al since hl ha h; unfold X3; rw [if_neg a5V]; exact h1
end Go.Proofs.YtfjedpipdnlkfaaGreat.AM
namespace Go.Proofs.YtfjedpipdnlkfaaGreat.AM
open Go Go.Proofs.YtfjedpipdnlkfaaGreat
attribute [local irreducible] A9 C9 E8 F4 F6 G6 H9 I5 J4 J6 K4 M5 S9 Tp.G5 Tp.card Tp.next Tp.step X3 Z5 cO d9 j6 l6 l9 o7 ofB okS r9 u7
def b0i:Ann:={ fin:=some 1 }
theorem a6V  :AC 46 [] [] ((oO 0 0 0 0),[(o_ 0 2 [[z_,(AV.sl .nil 0 [])]])]) :=
 o9 (fn:=Tryz.f46) (ann:=b0i) (Has.o Tryz.func46) (.r (.s (.g (.h' [(o_ 0 2 [[z_,(AV.sl .nil 0 [])]])] (.q 1 (oO 0 0 0 0))))))
theorem b0h  :AC 46 [] [] ((oO 0 0 0 0),[(o_ 0 2 [[(iN ((List.length ([]:l9K)))),(AV.osl 1 0 2 0 (List.length (o8 ([]:l9K))))]]),(o_ 0 2 (mK (o8 ([]:l9K))))]):=(a6V).a6c
attribute [local irreducible] o8
theorem b5t (l:l9E) (al:l9K) (since:Int):(X3 l al since).length<=max 16 l.length:=by
 have h1:=jW al since
 have h2:=mP (List.map Entry.card l)
 rw [List.length_map] at h2
 with_unfolding_all unfold X3
 split
 · rw [List.length_map]; omega
 · omega
def j4 (n:Int):Int:=max 0 (min n 1099511627776)
def c0A:Ann:={ fin:=some 0 }
theorem dR (now:Int) :AC 43 [(iI now)] [] ((iI (j4 now)),[]) :=
 o9 (fn:=Tryz.f43) (ann:=c0A) (Has.o Tryz.func43) (.r (.s (.y 1 (.int .i64 (if 1099511627776 < now then 1099511627776 else now)) (iI (min now 1099511627776)) (Yes.int yw_) (.y 2 (.int .i64 (if (min now 1099511627776) > 0 then (min now 1099511627776) else 0)) (iI (max 0 (min now 1099511627776))) (Yes.int yw_) (.q 0 (iI (max 0 (min now 1099511627776))) (by simp [j4,Int.max_comm,Int.min_comm]))))))
def c3H:Ann:={ fin:=some 1 }
@[simp] abbrev a0g (a:Int):Ob:=(o_ 0 3 [[(iI a),z_,z_]])
@[simp] abbrev d1g (a:Int):Heap:=[a0g a]
theorem b9O (now:Int) :AC 45 [(iI now)] [] ((oO 0 0 0 0),(d1g now)) :=
 o9 (fn:=Tryz.f45) (ann:=c3H) (Has.o Tryz.func45) (.r (.s (.g (.h' (d1g now) (.q 1 (oO 0 0 0 0))))))
def b5g:Ann:={ base:=6,fin:=some 6 }
@[simp] abbrev iD (a b c:Int):=[[(iI a),(iI b),(iI c)]]
@[simp] abbrev D8 (a:Int) (b:Int) (c:Int):Ob:=(o_ 0 3 (iD a b c))
@[simp] abbrev tC (a:l9K) (b:Nat):=[[(iN ((List.length a))),(AV.osl 4 b 2 0 (List.length (o8 a)))]]
@[simp] abbrev aF (a:l9K) (b:Nat):Ob:=(o_ 0 2 (tC a b))
@[simp] abbrev a5N (a:Int) (b:Int) (c:Int) (d:Int):Ob:=(o_ 0 7 [[(iI a),(iI b),(iI c),(iI d),(oO 0 0 0 0),(oO 2 0 0 0),(oO 3 0 0 0)]])
@[simp] abbrev a3C (a:Nat) (b:l9E):=[[(iI (o7 32)),(AV.osl 1 a 10 0 (List.length b))]]
@[simp] abbrev wY (a:Nat) (b:l9E) (c:Int) (d:Int) (e:Int) (f:l9K) (g:Nat) (h:Int) (i:Int) (j:Int) (k:Int):Heap:=[(o_ 0 2 (a3C a b)),(o_ a 10 (mE b)),D8 c d e,aF f g,(o_ g 2 (mK (o8 f))),a5N h i j k]
theorem b0L (l:l9E) (g:Nat) (al:l9K) (ga:Nat) (gf gl gt nd s1 s2 s3:Int) :AC 14 [(oO 5 0 0 0)] (wY g l gf gl gt al ga nd s1 s2 s3) ((oO 0 0 0 0),(wY g l gf gl gt al ga nd s1 s2 s3)) :=
 o9 (fn:=Tryz.f14) (ann:=b5g) (Has.o Tryz.func14) (.r (.g (.qr 6 (oO 0 0 0 0))))
def b0O:Ann:={ base:=6,fin:=some 6 }
theorem yN (l:l9E) (g:Nat) (al:l9K) (ga:Nat) (gf gl gt nd s1 s2 s3:Int) :AC 56 [(oO 5 0 0 0)] (wY g l gf gl gt al ga nd s1 s2 s3) ((oO 3 0 0 0),(wY g l gf gl gt al ga nd s1 s2 s3)) :=
 o9 (fn:=Tryz.f56) (ann:=b0O) (Has.o Tryz.func56) (.r (.g (.qr 6 (oO 3 0 0 0))))
def b5f:Ann:={ base:=6,fin:=some 6 }
theorem b0K (l:l9E) (g:Nat) (al:l9K) (ga:Nat) (gf gl gt nd s1 s2 s3:Int) :AC 22 [(oO 5 0 0 0)] (wY g l gf gl gt al ga nd s1 s2 s3) ((AV.agg (l8.row (l8.mk s1 s2 s3))),(wY g l gf gl gt al ga nd s1 s2 s3)) :=
 o9 (fn:=Tryz.f22) (ann:=b5f) (Has.o Tryz.func22) (.r (.g (.qr 6 (AV.agg [(iI s1),(iI s2),(iI s3)]))))
def c3W:Ann:={ fin:=some 6 }
@[simp] abbrev b6J :Ob:=(o_ 0 2 [[(iI (o7 32)),(AV.osl 1 0 10 0 0)]])
@[simp] abbrev c5M :Heap:=[b6J,(o_ 0 10 (mE []))]
@[simp] abbrev c5L (a:Int):Heap:=[b6J,(o_ 0 10 (mE [])),a0g a]
@[simp] abbrev d1f (a:Int):Heap:=[b6J,(o_ 0 10 (mE [])),a0g a,(o_ 0 2 [[(iN ((List.length ([]:l9K)))),(AV.osl 4 0 2 0 (List.length (o8 ([]:l9K))))]]),(o_ 0 2 (mK (o8 ([]:l9K))))]
theorem a5U {p:Prop} (h:p:=by rw [h3]; simp):p:=h
@[simp] abbrev c4T (a:Int):=[[(iI a),z_,(iI a),z_,(oO 0 0 0 0),(oO 2 0 0 0),(oO 3 0 0 0)]]
theorem a4L (nd now:Int) (h1:0<=nd) (h2:nd < 6) (h3:j4 now=now):AC 13 [(iI nd),(iI now)] [] ((oO 5 0 0 0),[(o_ 0 2 [[(iI (o7 32)),(AV.osl 1 0 10 0 (List.length ([]:l9E)))]]),(o_ 0 10 (mE ([]:l9E))),(o_ 0 3 [[(iI now),z_,z_]]),(o_ 0 2 [[(iN ((List.length ([]:l9K)))),(AV.osl 4 0 2 0 (List.length (o8 ([]:l9K))))]]),(o_ 0 2 (mK (o8 ([]:l9K)))),(o_ 0 7 (c4T nd))]) :=
 o9 (fn:=Tryz.f13) (ann:=c3W) (Has.o Tryz.func13) (.r (.s (.y 1 (bB (decide (nd < 0))) bF (Yes.b yh_) (.n2 (.y 4 (bB (decide (nd >= 6))) bF (Yes.b yh_) (.n3 (.c 9 ((dR now).lift kr kr []) (.n (.y 10 (bB (now != (j4 now))) bF (Yes.b a5U) (.rn (.ch 3 c5M (l6.put2 [] [] (oO 0 0 0 0) c5M (b7R 32 ) (trivial) (⟨rfl,⟨Ob.ren0 (Entry.p8 0 _),trivial⟩⟩)) (.ch 5 (c5L now) (l6.put2 [] c5M (oO 2 0 0 0) (c5L now) (b9O now ) (trivial) (⟨rfl,trivial⟩)) (.ch 6 (d1f now) (l6.put2 [] (c5L now) (oO 3 0 0 0) (d1f now) (b0h  ) (trivial) (⟨rfl,⟨Ob.ren0 (Key.p8 0 _),trivial⟩⟩)) (.g (.h' [(o_ 0 2 [[(iI (o7 32)),(AV.osl 1 0 10 0 0)]]),(o_ 0 10 (mE [])),(o_ 0 3 [[(iI now),z_,z_]]),(o_ 0 2 [[(iN ((List.length ([]:l9K)))),(AV.osl 4 0 2 0 (List.length (o8 ([]:l9K))))]]),(o_ 0 2 (mK (o8 ([]:l9K)))),(o_ 0 7 (c4T nd))] (.q 6 (oO 5 0 0 0)))))))))))))))))
def c0m:Ann:={ refs:=[3],base:=6,fin:=some 6 }
@[simp] abbrev c4S (a:l9E) (b:Entry) (c:Nat):=[[(iI (o7 32)),(AV.osl 1 (I5 (o7 32) a b c) 10 0 (List.length (C9 (o7 32) a b)))]]
@[simp] abbrev a5M (a:l9E) (b:Entry) (c:Nat):Ob:=(o_ 0 2 (c4S a b c))
@[simp] abbrev a5L (a:l9E) (b:Entry) (c:Nat):Ob:=(o_ (I5 (o7 32) a b c) 10 (mE (C9 (o7 32) a b)))
@[simp] abbrev c5K (a:l9E) (b:Entry) (c:Nat) (d:Int) (e:Int) (f:Int) (g:l9K) (h:Nat) (i:Int) (j:Int) (k:Int) (l:Int):Heap:=[a5M a b c,a5L a b c,D8 d e f,(o_ 0 2 [[(iN ((List.length (g++[b.card.key])))),(AV.osl 4 (h+1+1) 2 0 (List.length (o8 (g++[b.card.key]))))]]),(o_ (h+1+1) 2 (mK (o8 (g++[b.card.key])))),a5N i j k l]
@[simp] abbrev b6K (a:l9E) (b:Entry) (c:Nat) (d:Int) (e:Int) (f:Int) (g:l9K) (h:Nat) (i:Int) (j:Int) (k:Int) (l:Int):Heap:=[a5M a b c,a5L a b c,D8 d e f,aF g h,(o_ h 2 (mK (o8 g))),a5N i j k l]
@[simp] abbrev d1e (a:Int) (b:Int) (c:Int) (d:l9K) (e:Nat) (f:Int) (g:Int) (h:Int) (i:Int):Heap:=[D8 a b c,aF d e,(o_ e 2 (mK (o8 d))),a5N f g h i]
@[simp] abbrev sZ (a:l9E) (b:Entry):=(iI (A9 (o7 32) a b))
theorem b5h (l:l9E) (g:Nat) (al:l9K) (ga:Nat) (gf gl gt nd s1 s2 s3:Int) (x:Entry) (hl:l.length < 1000) (ha:al.length < 100000) (h:((A9 (o7 32) l x) == 0)=true):AC 16 [(oO 5 0 0 0),(AV.agg (Entry.row x))] (wY g l gf gl gt al ga nd s1 s2 s3) ((sZ l x),(c5K l x g gf gl gt al ga nd s1 s2 s3)):=by
 have p1:=vK (o7 32) l x
 exact o9 (fn:=Tryz.f16) (ann:=c0m) (Has.o Tryz.func16) (.r (.s (.ch 5 (b6K l x g gf gl gt al ga nd s1 s2 s3) (a6Y (o7 32) l x g (List.length l) oa oa (d1e gf gl gt al ga nd s1 s2 s3)) (.s (.y 1 (bB ((A9 (o7 32) l x) == 0)) bT (Yes.b (h)) (.ru (.ch 7 (c5K l x g gf gl gt al ga nd s1 s2 s3) (l6.pre (args:=[(oO 3 0 0 0),(AV.agg (Key.row x.card.key))]) (args':=[(oO 3 0 0 0),(AV.agg (Key.row x.card.key))]) (l6.put2 [3,4] (b6K l x g gf gl gt al ga nd s1 s2 s3) (iN ((al++[x.card.key]).length)) (c5K l x g gf gl gt al ga nd s1 s2 s3) (b8W al x.card.key ga oa) (⟨rfl,⟨Ob.ren0 (Key.p8 0 _),trivial⟩⟩) (⟨rfl,⟨Ob.ren0 (Key.p8 0 _),trivial⟩⟩)) ⟨AV.j3 _,AV.j3 _,trivial⟩) (.g (.qr 6 (sZ l x))))))))))
def c0n:Ann:={ refs:=[3],base:=6,fin:=some 6 }
theorem b5i (l:l9E) (g:Nat) (al:l9K) (ga:Nat) (gf gl gt nd s1 s2 s3:Int) (x:Entry) (hl:l.length < 1000) (ha:al.length < 100000) (h:((A9 (o7 32) l x) == 0)=false):AC 16 [(oO 5 0 0 0),(AV.agg (Entry.row x))] (wY g l gf gl gt al ga nd s1 s2 s3) ((sZ l x),(b6K l x g gf gl gt al ga nd s1 s2 s3)):=by
 have p1:=vK (o7 32) l x
 exact o9 (fn:=Tryz.f16) (ann:=c0n) (Has.o Tryz.func16) (.r (.s (.ch 5 (b6K l x g gf gl gt al ga nd s1 s2 s3) (a6Y (o7 32) l x g (List.length l) oa oa (d1e gf gl gt al ga nd s1 s2 s3)) (.s (.y 1 (bB ((A9 (o7 32) l x) == 0)) bF (Yes.b (h)) (.g (.n (.qr 6 (sZ l x)))))))))
def F8 (l:List Entry) (x:Entry) (al:List Key):List Key:=if (A9 (o7 32) l x == 0)=true then al++[x.card.key] else al
def M7 (l:List Entry) (x:Entry) (ga:Nat):Nat:=if (A9 (o7 32) l x == 0)=true then ga+1+1 else ga
theorem c0l (l:l9E) (g:Nat) (al:l9K) (ga:Nat) (gf gl gt nd s1 s2 s3:Int) (x:Entry) (hl:l.length < 1000) (ha:al.length < 100000):AC 16 [(oO 5 0 0 0),(AV.agg (Entry.row x))] [(o_ 0 2 [[(iI (o7 32)),(AV.osl 1 g 10 0 (List.length l))]]),(o_ g 10 (mE l)),(o_ 0 3 [[(iI gf),(iI gl),(iI gt)]]),(o_ 0 2 [[(iN ((List.length al))),(AV.osl 4 ga 2 0 (List.length (o8 al)))]]),(o_ ga 2 (mK (o8 al))),(o_ 0 7 [[(iI nd),(iI s1),(iI s2),(iI s3),(oO 0 0 0 0),(oO 2 0 0 0),(oO 3 0 0 0)]])] ((iI (A9 (o7 32) l x)),[(o_ 0 2 [[(iI (o7 32)),(AV.osl 1 (I5 (o7 32) l x g) 10 0 (List.length (C9 (o7 32) l x)))]]),(o_ (I5 (o7 32) l x g) 10 (mE (C9 (o7 32) l x))),(o_ 0 3 [[(iI gf),(iI gl),(iI gt)]]),(o_ 0 2 [[(iN ((List.length (F8 l x al)))),(AV.osl 4 (M7 l x ga) 2 0 (List.length (o8 (F8 l x al))))]]),(o_ (M7 l x ga) 2 (mK (o8 (F8 l x al)))),(o_ 0 7 [[(iI nd),(iI s1),(iI s2),(iI s3),(oO 0 0 0 0),(oO 2 0 0 0),(oO 3 0 0 0)]])]):=by
 cases h:(A9 (o7 32) l x == 0) with
 | true=>unfold F8 M7; rw [if_pos h,if_pos h]; exact b5h l g al ga gf gl gt nd s1 s2 s3 x hl ha h
 | false=>unfold F8 M7; rw [if_neg a5V,if_neg a5V]; exact b5i l g al ga gf gl gt nd s1 s2 s3 x hl ha h
theorem zU (l:l9E) (g:Nat) (al:l9K) (ga:Nat) (gf gl gt nd s1 s2 s3:Int) (x:Entry) (hl:l.length < 1000) (ha:al.length < 100000) (H:Heap):AC 16 [(oO 5 0 0 0),(AV.agg (Entry.row x))] ((wY g l gf gl gt al ga nd s1 s2 s3)++H) ((iI (A9 (o7 32) l x)),([(o_ 0 2 [[(iI (o7 32)),(AV.osl 1 (I5 (o7 32) l x g) 10 0 (List.length (C9 (o7 32) l x)))]]),(o_ (I5 (o7 32) l x g) 10 (mE (C9 (o7 32) l x))),(o_ 0 3 [[(iI gf),(iI gl),(iI gt)]]),(o_ 0 2 [[(iN ((List.length (F8 l x al)))),(AV.osl 4 (M7 l x ga) 2 0 (List.length (o8 (F8 l x al))))]]),(o_ (M7 l x ga) 2 (mK (o8 (F8 l x al)))),(o_ 0 7 [[(iI nd),(iI s1),(iI s2),(iI s3),(oO 0 0 0 0),(oO 2 0 0 0),(oO 3 0 0 0)]])]:Heap)++H):=(c0l l g al ga gf gl gt nd s1 s2 s3 x hl ha).ext kr kr ob ob kr H
attribute [local irreducible] P9 T9 eP stR
def b0e:Ann:={ fin:=some 0 }
theorem bU (now:Int) :AC 127 [(iI now)] [] ((iI (j4 now)),[]) :=
 o9 (fn:=Tryz.f127) (ann:=b0e) (Has.o Tryz.func127) (.r (.s (.y 1 (.int .i64 (if 1099511627776 < now then 1099511627776 else now)) (iI (min now 1099511627776)) (Yes.int yw_) (.y 2 (.int .i64 (if 0 > (min now 1099511627776) then 0 else (min now 1099511627776))) (iI (max (min now 1099511627776) 0)) (Yes.int yw_) (.q 0 (iI (max (min now 1099511627776) 0)) (by simp [j4,Int.max_comm,Int.min_comm]))))))
def b8V:Ann:={ gha:=[(3,.frzf 24 0 2)],fin:=some 4 }
@[simp] abbrev d1d :Heap:=[(o_ 0 2 [[(iI (o7 32)),(sA 10 (mE []))]])]
theorem b3J (nd now:Int) (h1:0<=nd) (h2:nd < 6) (h3:j4 now=now):AC 67 [(iI nd),(iI now)] [] ((oO 3 0 0 0),[(o_ 0 2 [[(iI (o7 32)),(sA 10 (mE ([]:l9E)))]]),(o_ 0 3 [[(iI now),z_,z_]]),(o_ 0 1 [[(sA 2 (mK ([]:l9K)))]]),(o_ 0 6 [[(oO 0 0 0 0),(oO 1 0 0 0),(oO 2 0 0 0),z_,(iI nd),z_]])]) :=
 o9 (fn:=Tryz.f67) (ann:=b8V) (Has.o Tryz.func67) (.r (.s (.y 1 (bB (decide (nd < 0))) bF (Yes.b yh_) (.n2 (.y 4 (bB (decide (nd >= 6))) bF (Yes.b yh_) (.n2 (.y 8 (bB (decide (now < 0))) bF (Yes.b (by rw [<- h3]; unfold j4; exact decide_eq_false ow)) (.n2 (.y 12 (bB (decide (now > 1099511627776))) bF (Yes.b (by rw [<- h3]; unfold j4; exact decide_eq_false ow)) (.rn (.ch 0 d1d (l6.put2 [] [] (oO 0 0 0 0) d1d (b8L 32 ) (trivial) (⟨rfl,trivial⟩)) (.o (rfl:0=0) (.g (.h' [(o_ 0 2 [[(iI (o7 32)),(sA 10 (mE []))]]),(o_ 0 3 [[(iI now),z_,z_]]),(o_ 0 1 [[(sA 2 (mK []))]]),(o_ 0 6 [[(oO 0 0 0 0),(oO 1 0 0 0),(oO 2 0 0 0),z_,(iI nd),z_]])] (.q 4 (oO 3 0 0 0))))))))))))))))
def b8x:Ann:={ refs:=[3],base:=4,fin:=some 4 }
@[simp] abbrev X0 (a:l9E):Ob:=(o_ 0 2 [[(iI (o7 32)),(sA 10 (mE a))]])
@[simp] abbrev a5K (a:Int) (b:Int) (c:Int):Ob:=(o_ 0 6 [[(oO 0 0 0 0),(oO 1 0 0 0),(oO 2 0 0 0),(iI a),(iI b),(iI c)]])
@[simp] abbrev c5H (a:l9E) (b:Int) (c:Int) (d:Int) (e:l9K) (f:Int) (g:Int) (h:Int):Heap:=[X0 a,D8 b c d,K7 e,a5K f g h]
@[simp] abbrev c6T (a:l9E) (b:Entry):Ob:=(o_ 0 2 [[(iI (o7 32)),(sA 10 (mE (C9 (o7 32) a b)))]])
@[simp] abbrev c5G (a:l9E) (b:Entry) (c:Int) (d:Int) (e:Int) (f:l9K) (g:Int) (h:Int) (i:Int):Heap:=[c6T a b,D8 c d e,(o_ 0 1 [[(sA 2 (mK (f++[b.card.key])))]]),a5K g h i]
@[simp] abbrev b6I (a:l9E) (b:Entry) (c:Int) (d:Int) (e:Int) (f:l9K) (g:Int) (h:Int) (i:Int):Heap:=[c6T a b,D8 c d e,K7 f,a5K g h i]
@[simp] abbrev d1c (a:Int) (b:Int) (c:Int) (d:l9K) (e:Int) (f:Int) (g:Int):Heap:=[D8 a b c,K7 d,a5K e f g]
theorem b3f (l:l9E) (al:l9K) (gf gl gt s1 s2 s3:Int) (x:Entry) (hl:l.length < 1000) (ha:al.length < 100000) (h:((A9 (o7 32) l x) == 0)=true):AC 71 [(oO 3 0 0 0),(AV.agg (Entry.row x))] (c5H l gf gl gt al s1 s2 s3) ((sZ l x),(c5G l x gf gl gt al s1 s2 s3)):=by
 have p1:=vK (o7 32) l x
 exact o9 (fn:=Tryz.f71) (ann:=b8x) (Has.o Tryz.func71) (.r (.s (.ch 5 (b6I l x gf gl gt al s1 s2 s3) (a2U (o7 32) l x oa (d1c gf gl gt al s1 s2 s3)) (.s (.y 1 (bB ((A9 (o7 32) l x) == 0)) bT (Yes.b (h)) (.ru (.ch 7 (c5G l x gf gl gt al s1 s2 s3) (l6.pre (args:=[(oO 2 0 0 0),(AV.agg (Key.row x.card.key))]) (args':=[(oO 2 0 0 0),(AV.agg (Key.row x.card.key))]) (l6.put2 [2] (b6I l x gf gl gt al s1 s2 s3) (iN ((al++[x.card.key]).length)) (c5G l x gf gl gt al s1 s2 s3) (b7B al x.card.key oa) (⟨rfl,trivial⟩) (⟨rfl,trivial⟩)) ⟨AV.j3 _,AV.j3 _,trivial⟩) (.g (.qr 4 (sZ l x))))))))))
def b8y:Ann:={ refs:=[3],base:=4,fin:=some 4 }
theorem b3g (l:l9E) (al:l9K) (gf gl gt s1 s2 s3:Int) (x:Entry) (hl:l.length < 1000) (ha:al.length < 100000) (h:((A9 (o7 32) l x) == 0)=false):AC 71 [(oO 3 0 0 0),(AV.agg (Entry.row x))] (c5H l gf gl gt al s1 s2 s3) ((sZ l x),(b6I l x gf gl gt al s1 s2 s3)):=by
 have p1:=vK (o7 32) l x
 exact o9 (fn:=Tryz.f71) (ann:=b8y) (Has.o Tryz.func71) (.r (.s (.ch 5 (b6I l x gf gl gt al s1 s2 s3) (a2U (o7 32) l x oa (d1c gf gl gt al s1 s2 s3)) (.s (.y 1 (bB ((A9 (o7 32) l x) == 0)) bF (Yes.b (h)) (.g (.n (.qr 4 (sZ l x)))))))))
theorem a4j (l:l9E) (al:l9K) (gf gl gt s1 s2 s3:Int) (x:Entry) (hl:l.length < 1000) (ha:al.length < 100000):AC 71 [(oO 3 0 0 0),(AV.agg (Entry.row x))] [(o_ 0 2 [[(iI (o7 32)),(sA 10 (mE l))]]),(o_ 0 3 [[(iI gf),(iI gl),(iI gt)]]),(o_ 0 1 [[(sA 2 (mK al))]]),(o_ 0 6 [[(oO 0 0 0 0),(oO 1 0 0 0),(oO 2 0 0 0),(iI s1),(iI s2),(iI s3)]])] ((iI (A9 (o7 32) l x)),[(o_ 0 2 [[(iI (o7 32)),(sA 10 (mE (C9 (o7 32) l x)))]]),(o_ 0 3 [[(iI gf),(iI gl),(iI gt)]]),(o_ 0 1 [[(sA 2 (mK (F8 l x al)))]]),(o_ 0 6 [[(oO 0 0 0 0),(oO 1 0 0 0),(oO 2 0 0 0),(iI s1),(iI s2),(iI s3)]])]):=by
 cases h:(A9 (o7 32) l x == 0) with
 | true=>unfold F8; rw [if_pos h]; exact b3f l al gf gl gt s1 s2 s3 x hl ha h
 | false=>unfold F8; rw [if_neg a5V]; exact b3g l al gf gl gt s1 s2 s3 x hl ha h
theorem iJ (l:l9E) (al:l9K) (gf gl gt s1 s2 s3:Int) (x:Entry) (hl:l.length < 1000) (ha:al.length < 100000) (H:Heap):AC 71 [(oO 3 0 0 0),(AV.agg (Entry.row x))] ((c5H l gf gl gt al s1 s2 s3)++H) ((iI (A9 (o7 32) l x)),([(o_ 0 2 [[(iI (o7 32)),(sA 10 (mE (C9 (o7 32) l x)))]]),(o_ 0 3 [[(iI gf),(iI gl),(iI gt)]]),(o_ 0 1 [[(sA 2 (mK (F8 l x al)))]]),(o_ 0 6 [[(oO 0 0 0 0),(oO 1 0 0 0),(oO 2 0 0 0),(iI s1),(iI s2),(iI s3)]])]:Heap)++H):=(a4j l al gf gl gt s1 s2 s3 x hl ha).ext kr kr ob ob kr H
theorem a6w (l:l9E) (x:Entry) (al:l9K):(F8 l x al).length<=al.length+1:=by
 unfold F8; split
 · simp
 · omega
attribute [local irreducible] F8 M7
theorem a7y {σ:Type} (f:Nat->σ->σ) (P:Nat->σ->Prop) (n:Nat) (h:∀ i s,i < n->P i s->P (i+1) (f i s)) (r:Nat):∀ (i:Nat) (s:σ),i+r<=n->P i s->P (i+r) (iter f r i s):=by
 induction r with
 | zero=>intro i s _ hp; exact hp
 | succ r ih =>
  intro i s hi hp
  have:=ih (i+1) (f i s) ow (h i s ow hp)
  rw [show i+(r+1)=i+1+r by omega]; exact this
section
variable {P:Program} {X:Env} {F:Fr} {H H2:Heap} {ar:Nat} {o:Oper}
end
set_option linter.unusedSectionVars false
section
variable {α:Type} [Inhabited α]
theorem b1B (l:List α) (q:Nat):nth l q=l.getD q default:=rfl
theorem a7i (l:List α) {i:Nat} (h:i < l.length) (x:α) (q:Nat):nth (l.set i x) q=if i=q then x else nth l q:=by
 simp only [b1B,List.getD_eq_getElem?_getD]
 by_cases e:i=q
 · subst e; rw [List.getElem?_set_self h,if_pos rfl]; rfl
 · rw [List.getElem?_set_ne e,if_neg e]
theorem lI (l m:List α) (q:Nat):nth (l++m) q=if q < l.length then nth l q else nth m (q - l.length):=by
 simp only [b1B,List.getD_eq_getElem?_getD]
 split
 · rename_i h; rw [List.getElem?_append_left h]
 · rename_i h; rw [List.getElem?_append_right ya_]
theorem c8J {l m:List α} (hl:l.length=m.length) (h:∀ q,q < l.length->nth l q=nth m q):l=m:=by
 apply List.ext_getElem hl
 intro q h1 h2
 have:=h q h1
 rwa [V6 h1,V6 h2] at this
def R5 (a b n:Nat) (l:List α):List α:=iter (fun i l=>(l.set (a+i) (nth l (b+i))).set (b+i) (nth l (a+i))) n 0 l
theorem a3W (a b n:Nat) (l:List α) (hab:a+n<=b) (hb:b+n<=l.length):∀ k,k<=n->(R5 a b k l).length=l.length/\∀ q,nth (R5 a b k l) q=if a<=q/\q < a+k then nth l (b+(q - a)) else if b<=q/\q < b+k then nth l (a+(q - b)) else nth l q:=by
 intro k
 induction k with
 | zero =>
  intro _
  refine ⟨rfl,fun q=>?_⟩
  rw [if_neg ya_,if_neg ya_]
  rfl
 | succ k ih =>
  intro hk
  obtain ⟨h1,h2⟩:=ih ya_
  have e:R5 a b (k+1) l=((R5 a b k l).set (a+k) (nth (R5 a b k l) (b+k))).set (b+k) (nth (R5 a b k l) (a+k)):=mU _ _ _
  refine ⟨by rw [e]; simp [h1],fun q=>?_⟩
  rw [e,a7i _ yh_,a7i _ ya_,h2,h2,h2]
  by_cases c1:b+k=q
  · subst c1
    rw [if_pos rfl,if_neg ya_,if_neg ya_,if_neg ya_,if_pos ya_]
    congr 1; omega
  · rw [if_neg c1]
    by_cases c2:a+k=q
    · subst c2
      rw [if_pos rfl,if_neg ya_,if_neg ya_,if_pos ya_]
      congr 1; omega
    · rw [if_neg c2]
      have e1:(a<=q/\q < a+(k+1))↔(a<=q/\q < a+k):=by omega
      have e2:(b<=q/\q < b+(k+1))↔(b<=q/\q < b+k):=by omega
      simp only [e1,e2]
theorem b7J {a b n:Nat} {l:List α} (hab:a+n<=b) (hb:b+n<=l.length):(R5 a b n l).length=l.length:=(a3W a b n l hab hb n (Nat.le_refl _)).1
theorem lY (X U M V Y:List α) {a b n:Nat} (ha:a=X.length) (hU:U.length=n) (hV:V.length=n) (hb:b=X.length+n+M.length) :
 R5 a b n (X++(U++(M++(V++Y))))=X++(V++(M++(U++Y))):=by
 obtain ⟨h1,h2⟩:=a3W a b n (X++(U++(M++(V++Y)))) ya_ yh_ n (Nat.le_refl _)
 refine c8J (by rw [h1]; simp; omega) fun q hq=>?_
 rw [h2]
 simp only [lI,hU,hV]
 by_cases c1:q < X.length
 · rw [if_neg ya_,if_neg ya_,if_pos c1,if_pos c1]
 · rw [if_neg (c:=q < X.length) c1,if_neg (c:=q < X.length) c1]
   by_cases c2:q - X.length < n
   · rw [if_pos ya_,if_pos (c:=q - X.length < n) c2,if_neg ya_,if_neg ya_,if_neg ya_,if_pos ya_]
     congr 1; omega
   · rw [if_neg ya_,if_neg (c:=q - X.length < n) c2,if_neg (c:=q - X.length < n) c2]
     by_cases c3:q - X.length - n < M.length
     · rw [if_neg ya_,if_pos c3,if_pos c3]
     · rw [if_neg (c:=q - X.length - n < M.length) c3,if_neg (c:=q - X.length - n < M.length) c3]
       by_cases c4:q - X.length - n - M.length < n
       · rw [if_pos ya_,if_pos (c:=q - X.length - n - M.length < n) c4,if_neg ya_,if_pos ya_]
         congr 1; omega
       · rw [if_neg ya_,if_neg c4,if_neg c4]
def J3 (m:Nat):Nat->Nat->Nat->List α->List α × Nat
 | 0,i,_,l=>(l,i)
 | r+1,i,j,l=>if i=j then (l,i) else if j < i then J3 m r (i - j) j (R5 (m - i) m j l) else J3 m r i (j - i) (R5 (m - i) (m+j - i) i l)
def O8 (a m b:Nat) (l:List α):List α:=R5 (m - (J3 m (m - a+(b - m)) (m - a) (b - m) l).2) m (J3 m (m - a+(b - m)) (m - a) (b - m) l).2 (J3 m (m - a+(b - m)) (m - a) (b - m) l).1
theorem a2a (m:Nat) (T:List α) (r:Nat):∀ (X U V Y:List α) (i j:Nat),i+j<=r+1->0 < i->0 < j->U.length=i->V.length=j->m=X.length+i->T=X++(V++(U++Y)) ->
 0 < (J3 m r i j (X++(U++(V++Y)))).2/\(J3 m r i j (X++(U++(V++Y)))).2<=i/\(J3 m r i j (X++(U++(V++Y)))).2<=j/\(J3 m r i j (X++(U++(V++Y)))).1.length=T.length/\R5 (m - (J3 m r i j (X++(U++(V++Y)))).2) m (J3 m r i j (X++(U++(V++Y)))).2 (J3 m r i j (X++(U++(V++Y)))).1=T:=by
 induction r with
 | zero=>intro X U V Y i j h1 h2 h3; omega
 | succ r ih =>
  intro X U V Y i j h1 h2 h3 hU hV hm hT
  simp only [J3]
  by_cases c1:i=j
  · rw [if_pos c1]
    refine ⟨h2,Nat.le_refl _,by simp only; omega,by rw [hT]; simp; omega,?_⟩
    subst c1
    have:=lY X U [] V Y (a:=m - i) (b:=m) (n:=i) ya_ hU hV yh_
    rw [hT]
    simpa using this
  · rw [if_neg c1]
    by_cases c2:j < i
    · rw [if_pos c2]
      have hP:(U.take j).length=j:=by simp; omega
      have hQ:(U.drop j).length=i - j:=by simp; omega
      have e:=lY X (U.take j) (U.drop j) V Y (a:=m - i) (b:=m) (n:=j) ya_ hP hV ya_
      rw [<- List.append_assoc (U.take j),List.take_append_drop] at e
      rw [e]
      have:=ih (X++V) (U.drop j) (U.take j) Y (i - j) j ya_ ya_ h3 hQ hP yh_ (by rw [hT,<- List.append_assoc (U.take j),List.take_append_drop]; simp)
      simp only [List.append_assoc] at this ⊢
      exact ⟨this.1,by omega,this.2.2.1,this.2.2.2⟩
    · rw [if_neg c2]
      have hP:(V.take (j - i)).length=j - i:=by simp; omega
      have hQ:(V.drop (j - i)).length=i:=by simp; omega
      have e:=lY X U (V.take (j - i)) (V.drop (j - i)) Y (a:=m - i) (b:=m+j - i) (n:=i) ya_ hU hQ ya_
      rw [<- List.append_assoc (V.take (j - i)) (V.drop (j - i)),List.take_append_drop] at e
      rw [e]
      have:=ih X (V.drop (j - i)) (V.take (j - i)) (U++Y) i (j - i) ya_ h2 ya_ hQ hP hm (by rw [hT,<- List.append_assoc (V.take (j - i)) (V.drop (j - i)),List.take_append_drop])
      exact ⟨this.1,this.2.1,by omega,this.2.2.2⟩
theorem b3o (X U V Y:List α) {a m b:Nat} (ha:a=X.length) (hm:m=X.length+U.length) (hb:b=X.length+U.length+V.length) (h1:0 < U.length) (h2:0 < V.length):O8 a m b (X++(U++(V++Y)))=X++(V++(U++Y)):=by
 have e1:m - a=U.length:=by omega
 have e2:b - m=V.length:=by omega
 unfold O8
 rw [e1,e2]
 exact (a2a m _ _ X U V Y U.length V.length ya_ h1 h2 rfl rfl hm rfl).2.2.2.2
def bsr (p:Nat->Bool):Nat->Nat->Nat->Nat
 | 0,lo,_=>lo
 | r+1,lo,hi=>if lo < hi then if p ((lo+hi) / 2)=true then bsr p r ((lo+hi) / 2+1) hi else bsr p r lo ((lo+hi) / 2) else lo
theorem lV (p:Nat->Bool) (r:Nat):∀ (lo hi:Nat),hi - lo<=r->lo<=hi->lo<=bsr p r lo hi/\bsr p r lo hi<=hi/\(lo < bsr p r lo hi->p (bsr p r lo hi - 1)=true)/\(bsr p r lo hi < hi->p (bsr p r lo hi)=false):=by
 induction r with
 | zero =>
  intro lo hi h1 h2
  simp only [bsr]
  exact ⟨Nat.le_refl _,h2,fun h=>by omega,fun h=>by omega⟩
 | succ r ih =>
  intro lo hi h1 h2
  simp only [bsr]
  by_cases c:lo < hi
  · rw [if_pos c]
    by_cases d:p ((lo+hi) / 2)=true
    · rw [if_pos d]
      obtain ⟨k1,k2,k3,k4⟩:=ih ((lo+hi) / 2+1) hi ya_ ya_
      refine ⟨by omega,k2,fun _=>?_,k4⟩
      rcases Nat.lt_or_ge ((lo+hi) / 2+1) (bsr p r ((lo+hi) / 2+1) hi) with h | h
      · exact k3 h
      · have:bsr p r ((lo+hi) / 2+1) hi=(lo+hi) / 2+1:=by omega
        rw [this]; simpa using d
    · rw [if_neg d]
      obtain ⟨k1,k2,k3,k4⟩:=ih lo ((lo+hi) / 2) ya_ ya_
      refine ⟨k1,by omega,k3,fun _=>?_⟩
      rcases Nat.lt_or_ge (bsr p r lo ((lo+hi) / 2)) ((lo+hi) / 2) with h | h
      · exact k4 h
      · have:bsr p r lo ((lo+hi) / 2)=(lo+hi) / 2:=by omega
        rw [this]; simpa using d
  · rw [if_neg c]
    exact ⟨Nat.le_refl _,h2,fun h=>by omega,fun h=>by omega⟩
def mgL (lt:α->α->Bool):Nat->List α->List α->List α
 | 0,L,R=>L++R
 | _+1,[],R=>R
 | _+1,L,[]=>L
 | n+1,x :: L,y :: R=>if lt y x=true then y :: mgL lt n (x :: L) R else x :: mgL lt n L (y :: R)
def mg (lt:α->α->Bool) (L R:List α):List α:=mgL lt (L.length+R.length) L R
theorem aA (lt:α->α->Bool) (R:List α):mg lt [] R=R:=by
 unfold mg; cases h:([]:List α).length+R.length <;> simp [mgL]
theorem eB (lt:α->α->Bool) (L:List α):mg lt L []=L:=by
 unfold mg
 cases L with
 | nil=>simp [mgL]
 | cons x L=>simp [mgL]
theorem jR (lt:α->α->Bool) (x y:α) (L R:List α):mg lt (x :: L) (y :: R)=if lt y x=true then y :: mg lt (x :: L) R else x :: mg lt L (y :: R):=by
 unfold mg
 have h1:(x :: L).length+(y :: R).length=((x :: L).length+R.length)+1:=by simp; omega
 have h2:L.length+(y :: R).length=(x :: L).length+R.length:=by simp; omega
 rw [h1,h2]
 rfl
theorem a2J {p:Prop} (h:p:=by simp at h ⊢; omega):p:=h
theorem a0X (lt:α->α->Bool) {L2 R2:List α} (n:Nat):∀ (L1 R1:List α),L1.length+R1.length<=n->(∀ x∈L2,∀ y∈R1,lt y x=true)->(∀ x∈L1,∀ y∈R2,lt y x=false)->mg lt (L1++L2) (R1++R2)=mg lt L1 R1++mg lt L2 R2:=by
 induction n with
 | zero =>
  intro L1 R1 h _ _
  obtain rfl:L1=[]:=List.eq_nil_of_length_eq_zero ya_
  obtain rfl:R1=[]:=List.eq_nil_of_length_eq_zero ya_
  rw [aA]; rfl
 | succ n ih =>
  intro L1 R1 h h1 h2
  cases L1 with
  | nil =>
   cases R1 with
   | nil=>rw [aA]; rfl
   | cons y R1 =>
    have:=ih [] R1 a2J (fun x hx y' hy'=>h1 x hx y' (List.mem_cons_of_mem _ hy')) (fun x hx=>by simp at hx)
    rw [aA] at this ⊢
    simp only [List.nil_append,List.cons_append] at this ⊢
    cases L2 with
    | nil=>rw [aA,aA]
    | cons x L2=>rw [jR,if_pos (h1 x yf_ y yf_),this]
  | cons x L1 =>
   cases R1 with
   | nil =>
    have:=ih L1 [] a2J (fun x hx y' hy'=>by simp at hy') (fun x' hx' y hy=>h2 x' (List.mem_cons_of_mem _ hx') y hy)
    rw [eB] at this ⊢
    simp only [List.nil_append,List.cons_append] at this ⊢
    cases R2 with
    | nil=>rw [eB,eB]
    | cons y R2=>rw [jR,if_neg (by rw [h2 x yf_ y yf_]; simp),this]
   | cons y R1 =>
    simp only [List.cons_append]
    rw [jR,jR]
    have k1:=ih (x :: L1) R1 a2J (fun x hx y' hy'=>h1 x hx y' (List.mem_cons_of_mem _ hy')) h2
    have k2:=ih L1 (y :: R1) a2J h1 (fun x' hx' y hy=>h2 x' (List.mem_cons_of_mem _ hx') y hy)
    simp only [List.cons_append] at k1 k2
    split
    · rw [k1]; rfl
    · rw [k2]; rfl
theorem a3g (lt:α->α->Bool) (n:Nat):∀ (L R:List α),L.length+R.length<=n->List.Perm (mg lt L R) (L++R):=by
 induction n with
 | zero =>
  intro L R h
  obtain rfl:L=[]:=List.eq_nil_of_length_eq_zero ya_
  obtain rfl:R=[]:=List.eq_nil_of_length_eq_zero ya_
  rw [aA]; exact .refl _
 | succ n ih =>
  intro L R h
  cases L with
  | nil=>rw [aA]; exact .refl _
  | cons x L =>
   cases R with
   | nil=>rw [eB]; simp
   | cons y R =>
    rw [jR]
    split
    · refine (List.Perm.cons y (ih (x :: L) R a2J)).trans ?_
      exact (List.perm_middle (a:=y) (l₁:=x :: L) (l₂:=R)).symm
    · exact List.Perm.cons x (ih L (y :: R) a2J)
theorem qG (lt:α->α->Bool) (L R:List α):(mg lt L R).length=L.length+R.length:=by
 have:=(a3g lt _ L R (Nat.le_refl _)).length_eq
 simpa using this
end
end Go.Proofs.YtfjedpipdnlkfaaGreat.AM
