/-
  Part 2 of 8: an abstract machine over the model; walks; plain laws.
-/
import Derived.Test.YtmghjcbabebanaaGreatMServerTicks1
import Derived.Orders
import Derived.LoopN
import Derived.RowKit3
import Derived.Test.YtmghjcbabebanaaGreatChecked
set_option maxRecDepth 100000
set_option linter.unusedVariables false
set_option linter.unusedSimpArgs false
namespace Go.Proofs.YtmghjcbabebanaaGreat.AM
open Go
def sM (T:TT) (ops:List Oper) (b:Nat) (H:Heap) (C:Cx):Prop:=∃ al,iK T ops=some al/\∀ m o,al[m]?=some o->H[b+m]?=some o/\C.ι (b+m)=none
abbrev Hs:=List (Nat × (AV × Heap))
def doP (P:Program) (X:Env) (t:Option (AV × Heap)) (F:Fr) (H:Heap) (ar:Nat) (o:Oper) (K:AV->Heap->Prop):Prop :=
 match t with
 | some (a,H')=>Sat P X F H ar o a H'/\K a H'
 | none=>match ev1 X F H ar o with
  | some (a,H')=>K a H'
  | none=>False
def up (o:Oper) (r:Nat):Nat:=if R5 o then r+1 else r
def Z9 (P:Program) (X:Env) (all:List Oper) (ab:Nat) (hs:Hs):List Oper->Nat->Nat->(Fr->Heap->Prop)->Fr->Heap->Prop
 | [],_,_,K,F,H=>K F H
 | o :: rest,i,r,K,F,H =>
  match o.guard with
  | none=>doP P X (aK i hs) F H (ab+r) o fun a H'=>Z9 P X all ab hs rest (i+1) (up o r) K (R6 F o.dst a) H'
  | some (j,want)=>match pJ all j with
   | some d=>match F[d]? with
    | some (some (.bool c))=>match c with
     | true=>match want with
      | true=>doP P X (aK i hs) (F.set d (some (.bool true))) H (ab+r) o fun a H'=>Z9 P X all ab hs rest (i+1) (up o r) K (R6 (F.set d (some (.bool true))) o.dst a) H'
      | false=>Z9 P X all ab hs rest (i+1) (up o r) K (R6 (F.set d (some (.bool true))) o.dst .skip) H
     | false=>match want with
      | true=>Z9 P X all ab hs rest (i+1) (up o r) K (R6 (F.set d (some (.bool false))) o.dst .skip) H
      | false=>doP P X (aK i hs) (F.set d (some (.bool false))) H (ab+r) o fun a H'=>Z9 P X all ab hs rest (i+1) (up o r) K (R6 (F.set d (some (.bool false))) o.dst a) H'
    | some (some .skip)=>Z9 P X all ab hs rest (i+1) (up o r) K (R6 F o.dst .skip) H
    | _=>False
   | none=>False
theorem a3i {α:Type}:∀ (l:List α) (d:Nat) (a:α),l[d]?=some a->l.set d a=l
 | [],d,a,h=>by simp at h
 | x :: l,0,a,h=>by simp at h; simp [h]
 | x :: l,d+1,a,h=>by simp at h; simp [a3i l d a h]
section
variable {P:Program} {X:Env} {G G':Nat->Prop} {w w':World} {C C':Cx} {F:Fr} {act:Act} {H H':Heap}
theorem FrR.put (h:FrR G w C F act.tmps) {a:AV} {v:Value} (hv:VR G w C a v) (d:Option Tmp):FrR G w C (R6 F d a) (act.put d v).tmps:=by
 cases d with
 | none=>exact h
 | some d=>exact h.set d a v hv
theorem Act.wZ (a:Act) (d:Option Tmp) (v:Value):(a.put d v).defers=a.defers:=by cases d <;> rfl
theorem FrR.slot (h:FrR G w C F act.tmps) {d:Nat} {a:AV} (hd:F[d]?=some (some a)):∃ v,act.tmps[d]?=some v/\VR G w C a v:=by
 have hlt:d < act.tmps.size:=by
  rw [<- h.1]
  rcases Nat.lt_or_ge d F.length with h' | h'
  · exact h'
  · rw [List.getElem?_eq_none h'] at hd; simp at hd
 refine ⟨act.tmps[d],Array.getElem?_eq_getElem hlt,?_⟩
 have:=h.2 d a hd
 simpa [Array.getD_eq_getD_getElem?,Array.getElem?_eq_getElem hlt] using this
theorem ym_ {p:Prop} (h:p:=by simpa using hm):p:=h
theorem sM.a5b {T:TT} {o:Oper} {rest:List Oper} {b:Nat} (h:sM T (o :: rest) b H C) {t:TypeId} (ho:o.op=.alloc t):(∃ ti,T t=some ti/\H[b]?=some ⟨0,ti.size,[ti.zero],none⟩/\C.ι b=none)/\sM T rest (b+1) H C:=by
 obtain ⟨al,ha,hp⟩:=h
 unfold iK at ha
 rw [ho] at ha
 simp only at ha
 split at ha
 · rename_i ti l ht hl
   simp only [Option.some.injEq] at ha
   subst ha
   refine ⟨⟨ti,ht,by simpa using hp 0 _ rfl⟩,l,hl,fun m o hm=>?_⟩
   have:=hp (m+1) o ym_
   rwa [show b+1+m=b+(m+1) by omega]
 · simp at ha
theorem sM.cons {T:TT} {o:Oper} {rest:List Oper} {b:Nat} (h:sM T (o :: rest) b H C) (ho:R5 o=false):sM T rest b H C:=by
 obtain ⟨al,ha,hp⟩:=h
 refine ⟨al,?_,hp⟩
 unfold iK at ha
 unfold R5 at ho
 split at ha
 · rename_i h; rw [h] at ho; simp at ho
 · exact ha
theorem xD {o:Oper}:R5 o=true↔∃ t,o.op=.alloc t:=by
 unfold R5
 split
 · rename_i t h; simp [h]
 · rename_i h; simp; exact fun t ht=>h t ht
theorem sM.next {T:TT} {o:Oper} {rest:List Oper} {ab r:Nat} (h:sM T (o :: rest) (ab+r) H C) (hp:Pd (fun id=>R5 o=true->id≠ab+r) C H C' H'):sM T rest (ab+up o r) H' C':=by
 have lt:∀ {m:Nat} {o:Ob},H[m]?=some o->m < H.length:=fun {m o} hm=>by
  rcases Nat.lt_or_ge m H.length with h' | h'
  · exact h'
  · rw [List.getElem?_eq_none h'] at hm; simp at hm
 cases ho:R5 o with
 | false =>
  obtain ⟨al,ha,hq⟩:=h.cons ho
  refine ⟨al,ha,fun m o' hm=>?_⟩
  obtain ⟨h1,h2⟩:=hq m o' hm
  obtain ⟨h3,h4,h5⟩:=hp.2 _ (lt h1) (by simp [ho]) h2
  simp only [up,ho,Bool.false_eq_true,if_false]
  exact ⟨h5.trans h1,h3⟩
 | true =>
  obtain ⟨t,ht⟩:=xD.1 ho
  obtain ⟨al,ha,hq⟩:=(h.a5b ht).2
  refine ⟨al,ha,fun m o' hm=>?_⟩
  obtain ⟨h1,h2⟩:=hq m o' hm
  obtain ⟨h3,h4,h5⟩:=hp.2 _ (lt h1) (fun _=>by omega) h2
  simp only [up,ho,if_true]
  rw [show ab+(r+1)+m=ab+r+1+m by omega]
  exact ⟨h5.trans h1,h3⟩
theorem Pd.b0i {o:Oper} {ar n:Nat} (h:Pd (fun id=>R5 o=true->id≠ar) C H C' H') (hn:n<=ar):Pd (fun id=>id < n) C H C' H':=h.weaken fun id hid _=>by omega
theorem doP.sound {t:Option (AV × Heap)} {ar:Nat} {o:Oper} {K:AV->Heap->Prop} (h:doP P X t F H ar o K):∃ a H',Sat P X F H ar o a H'/\K a H':=by
 unfold doP at h
 split at h
 · exact ⟨_,_,h.1,h.2⟩
 · split at h
   · rename_i a H' he; exact ⟨a,H',.of he,h⟩
   · exact h.elim
theorem zU {ops:Array Oper} {ab:Nat} {hs:Hs} (hT:TOk P X.T) (hM:Mok P X.M) {K:Fr->Heap->Prop} {Q:Exit->Act->World->Prop} {defers:List Deferred} :
 ∀ (rest:List Oper) (i r:Nat) (G:Nat->Prop) (w:World) (C:Cx) (F:Fr) (act:Act) (H:Heap),ops.toList.drop i=rest->sM X.T rest (ab+r) H C->FrR G w C F act.tmps->HR G w C H->act.defers=defers ->
  Z9 P X ops.toList ab hs rest i r K F H ->
  (∀ F' H' act' w' G' C',Ev G w C G' w' C'->FrR G' w' C' F' act'.tmps->HR G' w' C' H'->Pd (fun id=>id < ab) C H C' H'->act'.defers=defers->K F' H'->Q .normal act' w') ->
  wpOps P ops Q (List.range' i (ops.size - i)) act w
 | [],i,r,G,w,C,F,act,H,hd,hp,hF,hH,hdf,h,hK=>by
  have hi:ops.size<=i:=by
   have:=congrArg List.length hd
   simp at this
   omega
  rw [show ops.size - i=0 by omega]
  simp only [List.range'_zero,wpOps]
  simp only [Z9] at h
  exact hK F H act w G C (Ev.refl ..) hF hH Pd.refl hdf h
 | o :: rest,i,r,G,w,C,F,act,H,hd,hp,hF,hH,hdf,h,hK=>by
  have hi:i < ops.size:=by
   have:=congrArg List.length hd
   simp at this
   omega
  have hoi:ops[i]?=some o:=by
   have:=congrArg (fun l=>l[0]?) hd
   simpa using this
  have hd':ops.toList.drop (i+1)=rest:=by
   have:=congrArg (List.drop 1) hd
   simpa [List.drop_drop,Nat.add_comm] using this
  rw [show ops.size - i=(ops.size - (i+1))+1 by omega,List.range'_succ,wpOps_cons]
  unfold wpOp
  simp only [hoi]
  have har:∀ t,o.op=.alloc t->∃ ti,X.T t=some ti/\H[ab+r]?=some ⟨0,ti.size,[ti.zero],none⟩/\C.ι (ab+r)=none:=fun t ht=>(hp.a5b ht).1
  -- the operation is done
  have go:(doP P X (aK i hs) F H (ab+r) o fun a H'=>Z9 P X ops.toList ab hs rest (i+1) (up o r) K (R6 F o.dst a) H')->o.wp P act w (wpOps P ops Q (List.range' (i+1) (ops.size - (i+1)))) Q:=by
   intro hg
   obtain ⟨a,H',he,hg⟩:=hg.sound
   refine he.sound hT hM hF hH har fun v w' G' C' hev hh hv hpd=>?_
   refine zU (defers:=defers) hT hM rest (i+1) _ G' w' C' _ _ _ hd' (hp.next hpd) ((hF.ev hev).put hv _) hh (by rw [Act.wZ]; exact hdf) hg fun F' H'' act' w'' G'' C'' h1 h2 h3 h4 h5 h6=>?_
   exact hK F' H'' act' w'' G'' C'' (hev.trans h1) h2 h3 ((hpd.b0i (Nat.le_add_right _ _)).trans h4) h5 h6
  -- it is passed over
  have skip:Z9 P X ops.toList ab hs rest (i+1) (up o r) K (R6 F o.dst .skip) H->wpOps P ops Q (List.range' (i+1) (ops.size - (i+1))) (act.put o.dst undef) w:=by
   intro hg
   exact zU (defers:=defers) hT hM rest (i+1) _ G w C _ _ _ hd' (hp.next Pd.refl) (hF.put (.skip _) _) hH (by rw [Act.wZ]; exact hdf) hg hK
  unfold Z9 at h
  cases hgd:o.guard with
  | none =>
   rw [hgd] at h
   have hw:Region.wanted o (yielded ops act.tmps)=true:=by simp [Region.wanted,hgd]
   rw [if_pos hw]
   exact .inl (go h)
  | some jw =>
   obtain ⟨j,want⟩:=jw
   rw [hgd] at h
   simp only at h
   cases hdj:pJ ops.toList j with
   | none=>rw [hdj] at h; exact h.elim
   | some d =>
    rw [hdj] at h
    simp only at h
    have hy:yielded ops act.tmps j=match act.tmps[d]? with
     | some (.bool b)=>some b
     | _=>none:=by
     unfold yielded
     have:(ops[j]?).bind (·.dst)=some d:=by simpa [pJ] using hdj
     rw [this]
     rfl
    split at h
    · rename_i c hF'
      obtain ⟨v,hv,hvr⟩:=hF.slot hF'
      cases hvr
      have hy':yielded ops act.tmps j=some c:=by rw [hy,hv]
      have hw:Region.wanted o (yielded ops act.tmps)=(some c == some want):=by simp [Region.wanted,hgd,hy']
      have hsame:F.set d (some (.bool c))=F:=a3i _ _ _ hF'
      split at h
      · split at h
        · rw [hsame] at h
          rw [if_pos (by rw [hw]; rfl)]
          exact .inl (go h)
        · rw [hsame] at h
          rw [if_neg (by rw [hw]; simp)]
          exact skip h
      · split at h
        · rw [hsame] at h
          rw [if_neg (by rw [hw]; simp)]
          exact skip h
        · rw [hsame] at h
          rw [if_pos (by rw [hw]; rfl)]
          exact .inl (go h)
    · rename_i hF'
      obtain ⟨v,hv,hvr⟩:=hF.slot hF'
      cases hvr
      have hy':yielded ops act.tmps j=none:=by rw [hy,hv]; rfl
      have hw:Region.wanted o (yielded ops act.tmps)=false:=by simp [Region.wanted,hgd,hy']
      rw [if_neg (by rw [hw]; simp)]
      exact skip h
    · exact h.elim
end
section
variable {T:TT} {F F':Fr}
theorem sQ:∀ {xs:List Operand},(∀ x∈xs,opv F x=opv F' x)->rR F xs=rR F' xs
 | [],_=>rfl
 | x :: xs,h=>by
  simp only [rR]
  rw [h x ye_,sQ fun y hy=>h y (by simp [hy])]
theorem rV {place:Nat->Option (Nat × Nat)}:∀ {l:List (Nat × Operand)} {cs:List AV},(∀ p∈l,opv F p.2=opv F' p.2)->Y6 T F place l cs=Y6 T F' place l cs
 | [],_,_=>rfl
 | (i,x) :: l,cs,h=>by
  have h0:opv F x=opv F' x:=h (i,x) List.mem_cons_self
  have ih:=fun cs=>rV (place:=place) (cs:=cs) fun p hp=>h p (List.mem_cons_of_mem _ hp)
  simp only [Y6,h0,ih]
theorem uV {o:Option Operand} {d:Int} (h:∀ x,o=some x->opv F x=opv F' x):M5 F o d=M5 F' o d:=by
 cases o with
 | none=>rfl
 | some x=>simp only [M5]; rw [h x rfl]
theorem a8y {k:Option Nat} {v:AV} {lo hi mx:Option Operand} (h1:∀ x,lo=some x->opv F x=opv F' x) (h2:∀ x,hi=some x->opv F x=opv F' x) (h3:∀ x,mx=some x->opv F x=opv F' x) :
 eU F k v lo hi mx=eU F' k v lo hi mx:=by
 have e1:=fun d=>uV (d:=d) h1
 have e2:=fun d=>uV (d:=d) h2
 cases mx with
 | none=>cases v <;> cases k <;> first | rfl | simp only [eU,e1,e2]
 | some m =>
  have e3:∀ d,M5 F (some m) d=M5 F' (some m) d:=fun d=>uV (d:=d) fun x hx=>h3 x hx
  cases v <;> cases k <;> first | rfl | simp only [eU,e1,e2,e3]
theorem yn_ {p:Prop} (h:p:=by rw [hx]; simp):p:=h
theorem c4C {op:Op} (h:∀ x∈op.operands,opv F x=opv F' x):evP T F op=evP T F' op:=by
 cases op <;> simp only [Op.operands] at h
 case move x=>simp only [evP]; exact h x ye_
 case assign x=>simp only [evP]; exact h x ye_
 case pick c a b=>simp only [evP]; rw [h c ye_,h a ye_,h b ye_]
 case nilCheck x=>simp only [evP]; rw [h x ye_]
 case binOp op t x y _=>simp only [evP]; rw [h x ye_,h y ye_]
 case unOp op _ x=>simp only [evP]; rw [h x ye_]
 case convert s d x=>simp only [evP]; rw [h x ye_]
 case makeInterface t x=>simp only [evP]; rw [h x ye_]
 case makeFunc fn first captured =>
  cases fn <;> simp only [evP]
  rw [sQ (F:=F) (F':=F') fun x hx=>h x (by simpa using hx)]
 case slice t x lo hi mx =>
  have hx:=h x ye_
  have e:∀ k v,eU F k v lo hi mx=eU F' k v lo hi mx:=fun k v=>a8y (fun y hy=>h y (by simp [hy])) (fun y hy=>h y (by simp [hy])) (fun y hy=>h y (by simp [hy]))
  simp only [evP,hx,e]
 case fieldAddr s x f=>simp only [evP]; rw [h x ye_]
 case field s x f=>simp only [evP]; rw [h x ye_]
 case indexAddr t x i=>simp only [evP]; rw [h x ye_,h i ye_]
 case index t x i=>simp only [evP]; rw [h x ye_,h i ye_]
 case extract x i=>simp only [evP]; rw [h x ye_]
 case build t parts =>
  have e:∀ place cs,Y6 T F place parts.toList cs=Y6 T F' place parts.toList cs:=fun place cs=>rV fun p hp=>h p.2 (by simp; exact ⟨p.1,by simpa using hp⟩)
  simp only [evP,e]
 case buildSlice t n parts =>
  have e:∀ place cs,Y6 T F place parts.toList cs=Y6 T F' place parts.toList cs:=fun place cs=>rV fun p hp=>h p.2 (by simp; exact ⟨p.1,by simpa using hp⟩)
  simp only [evP,e]
 case load t x=>simp only [evP]; rw [h x ye_]
 case call c =>
  obtain ⟨callee,args,argTypes⟩:=c
  have ha:∀ x∈args.toList,opv F x=opv F' x:=fun x hx=>h x (by simp [Call.operands]; simp at hx; simp [hx])
  cases callee with
  | builtin b =>
   cases b <;> first | rfl | skip
   case len =>
    simp only [evP]
    split
    · rename_i x t hx _
      rw [ha x yn_]
    · rfl
   case max =>
    simp only [evP]
    split
    · rename_i x y hx
      rw [ha x yn_,ha y yn_]
    · rfl
   case min =>
    simp only [evP]
    split
    · rename_i x y hx
      rw [ha x yn_,ha y yn_]
    · rfl
  | _=>rfl
 all_goals rfl
variable {X:Env} {H:Heap}
theorem yo_ {p:Prop} (h:p:=by simp [Op.operands]):p:=h
theorem c4D {ar:Nat} {o:Oper} (h:∀ x∈o.op.operands,opv F x=opv F' x):ev1 X F H ar o=ev1 X F' H ar o:=by
 obtain ⟨dst,op,type,pos,after,guard⟩:=o
 simp only at h
 have he:(evP X.T F op).map (fun a=>(a,H))=(evP X.T F' op).map (fun a=>(a,H)):=by rw [c4C h]
 cases op with
 | alloc t=>rfl
 | box t x=>simp only [ev1]; rw [h x yo_]
 | load t x=>simp only [ev1]; rw [h x yo_]
 | store t x y=>simp only [ev1]; rw [h x yo_,h y yo_]
 | call c =>
  obtain ⟨callee,args,argTypes⟩:=c
  have ha:∀ x∈args.toList,opv F x=opv F' x:=fun x hx=>h x (by simp [Op.operands,Call.operands]; simp at hx; simp [hx])
  cases callee with
  | value f=>rfl
  | invoke r m=>rfl
  | builtin b =>
   cases b with
   | append =>
    simp only [ev1]
    split
    · rename_i s x t t' hx _
      rw [ha s yn_,ha x yn_]
    · rfl
   | _=>exact he
 | _=>exact he
theorem yp_ {p:Prop} (h:p:=by simp [Op.operands,Call.operands]):p:=h
theorem c1A {P:Program} {ar:Nat} {o:Oper} {a:AV} {H':Heap} (h:∀ x∈o.op.operands,opv F x=opv F' x):dP P X F H ar o a H'=dP P X F' H ar o a H':=by
 have he:=c4D (X:=X) (H:=H) (ar:=ar) h
 obtain ⟨dst,op,type,pos,after,guard⟩:=o
 cases op with
 | call c =>
  obtain ⟨callee,args,argTypes⟩:=c
  have ha:∀ x∈args.toList,opv F x=opv F' x:=fun x hx=>h x (by simp [Op.operands,Call.operands]; simp at hx; simp [hx])
  cases callee with
  | value f=>simp only [dP]; rw [h f yp_,sQ ha]
  | invoke r m=>simp only [dP]; rw [h r yp_,sQ ha]
  | builtin b=>simp only [dP]; rw [he]
 | _=>simp only [dP]; rw [he]
theorem c1B {P:Program} {o:Oper} {r:AV × Heap} (h:∀ x∈o.op.operands,opv F x=opv F' x):lS P F H o r=lS P F' H o r:=by
 have key:∀ {F1 F2:Fr},(∀ x∈o.op.operands,opv F1 x=opv F2 x)->lS P F1 H o r->lS P F2 H o r:=fun hx hs G w C f hf hH=>hs G w C f (fun x hm a ha=>hf x hm a (by rw [<- hx x hm]; exact ha)) hH
 exact propext ⟨key h,key fun x hx=>(h x hx).symm⟩
theorem a2a {P:Program} {ar:Nat} {o:Oper} {a:AV} {H':Heap} (h:∀ x∈o.op.operands,opv F x=opv F' x):Sat P X F H ar o a H'=Sat P X F' H ar o a H':=by
 unfold Sat
 rw [c1B h,c1A h]
theorem d2M {ar:Nat} {o:Oper} {a:AV} {H':Heap} (hc:X7 X F o=.P) (h:ev1 X F H ar o=some (a,H')):H'=H/\∀ H2,ev1 X F H2 ar o=some (a,H2):=by
 obtain ⟨dst,op,type,pos,after,guard⟩:=o
 have he:(evP X.T F op).map (fun a=>(a,H))=some (a,H')->H'=H/\∀ H2:Heap,(evP X.T F op).map (fun a=>(a,H2))=some (a,H2):=by
  intro h
  cases hp:evP X.T F op with
  | none=>simp [hp] at h
  | some b =>
   simp [hp] at h
   exact ⟨h.2.symm,fun H2=>by simp [h.1]⟩
 cases op with
 | alloc t=>simp only [ev1,Option.some.injEq,Prod.mk.injEq] at h ⊢; exact ⟨h.2.symm,fun _=>⟨h.1,trivial⟩⟩
 | box t x =>
  simp only [X7] at hc
  simp only [ev1] at h ⊢
  split at h
  case h_2=>simp at h
  rename_i v ti hv ht
  split at h
  case h_2=>simp at h
  rename_i cs d hfit
  simp only at hc
  split at hc
  · rename_i hm
    rw [if_pos hm] at h
    split at h
    case isFalse=>simp at h
    rename_i hb
    simp only [Option.some.injEq,Prod.mk.injEq] at h
    refine ⟨h.2.symm,fun H2=>?_⟩
    simp only [hv,ht,hfit,hm,if_true,hb,h.1]
  · simp at hc
 | load t x =>
  simp only [X7] at hc
  simp only [ev1] at h ⊢
  split at h
  · rename_i cs c hx
    cases hp:part X.T t cs c with
    | none=>simp [hp] at h
    | some b=>simp [hp] at h ⊢; exact ⟨h.2.symm,h.1⟩
  · rename_i hx
    simp [hx] at hc
  · simp at h
 | store t x y=>simp [X7] at hc
 | call c =>
  obtain ⟨callee,args,argTypes⟩:=c
  cases callee with
  | value f=>simp [X7] at hc
  | invoke r m=>simp [X7] at hc
  | builtin b =>
   cases b with
   | append=>simp [X7] at hc
   | _=>exact he h
 | _=>exact he h
theorem b0w {o:Option AV} {a:AV} {H H':Heap} (h:o.map (fun a=>(a,H))=some (a,H')):H'=H:=by
 cases o with
 | none=>simp at h
 | some b=>simp only [Option.map_some,Option.some.injEq,Prod.mk.injEq] at h; exact h.2.symm
theorem a3H {ar:Nat} {o:Oper} {a:AV} {H H':Heap} (hl:∃ t x,o.op=.load t x) (h:ev1 X F H ar o=some (a,H')):H'=H/\∀ ar2,ev1 X F H ar2 o=some (a,H):=by
 obtain ⟨dst,op,type,pos,after,guard⟩:=o
 obtain ⟨t,x,ht⟩:=hl
 simp only at ht
 subst ht
 have key:H'=H:=by
  simp only [ev1] at h
  split at h
  · exact b0w h
  · split at h
    · exact b0w h
    · simp at h
  · simp at h
 subst key
 exact ⟨rfl,fun ar2=>h⟩
theorem b4H {o:Oper} (hc:X7 X F o=.R):∃ t x,o.op=.load t x:=by
 obtain ⟨dst,op,type,pos,after,guard⟩:=o
 cases op with
 | load t x=>exact ⟨t,x,rfl⟩
 | box t x =>
  simp only [X7] at hc
  split at hc
  · split at hc <;> simp at hc
  · simp at hc
 | store t x y=>simp [X7] at hc
 | call c =>
  obtain ⟨callee,args,argTypes⟩:=c
  cases callee with
  | value f=>simp [X7] at hc
  | invoke r m=>simp [X7] at hc
  | builtin b=>cases b <;> simp [X7] at hc
 | slice a b c d e=>simp only [X7] at hc; generalize kH X _=bb at hc; cases bb <;> simp at hc
 | convert a b c=>simp only [X7] at hc; generalize kH X _=bb at hc; cases bb <;> simp at hc
 | index a b c=>simp only [X7] at hc; generalize kH X _=bb at hc; cases bb <;> simp at hc
 | _=>simp [X7] at hc
end
theorem dP.yN {P:Program} {X:Env} {F:Fr} {H H':Heap} {ar:Nat} {o:Oper} {a:AV} (hc:X7 X F o≠.E) (h:dP P X F H ar o a H'):ev1 X F H ar o=some (a,H'):=by
 obtain ⟨dst,op,type,pos,after,guard⟩:=o
 cases op with
 | call c =>
  obtain ⟨callee,args,argTypes⟩:=c
  cases callee with
  | value f=>exact absurd rfl hc
  | invoke r m=>exact absurd rfl hc
  | builtin b=>exact h
 | _=>exact h
theorem d6g {X:Env} {F:Fr} {o:Oper} (h:dM X o=true):X7 X F o=.E:=by
 obtain ⟨dst,op,type,pos,after,guard⟩:=o
 cases op with
 | call c =>
  obtain ⟨callee,args,argTypes⟩:=c
  cases callee with
  | builtin b=>cases b <;> simp [dM] at h <;> rfl
  | _=>simp [dM] at h
 | slice=>simp only [dM] at h; simp only [X7]; rw [h]; rfl
 | convert=>simp only [dM] at h; simp only [X7]; rw [h]; rfl
 | index=>simp only [dM] at h; simp only [X7]; rw [h]; rfl
 | makeSlice=>rfl
 | _=>simp [dM] at h
theorem Sat.yN {P:Program} {X:Env} {F:Fr} {H H':Heap} {ar:Nat} {o:Oper} {a:AV} (hc:X7 X F o≠.E) (h:Sat P X F H ar o a H'):ev1 X F H ar o=some (a,H'):=by
 unfold Sat at h
 split at h
 · rename_i hs
   exact absurd (d6g hs) hc
 · exact dP.yN hc h
def eH (all:List Oper) (F:Fr) (o:Oper):Option Bool :=
 match o.guard with
 | none=>some true
 | some (j,want)=>match pJ all j with
  | some d=>match F[d]? with
   | some (some (.bool c))=>some (c == want)
   | some (some .skip)=>some false
   | _=>none
  | none=>none
def zB (X:Env) (all:List Oper) (ab:Nat) (hs:Hs) (F:Fr) (H:Heap) (i r:Nat) (o:Oper):Option (AV × Heap) :=
 match eH all F o with
 | some true=>match aK i hs with
  | some x=>some x
  | none=>ev1 X F H (ab+r) o
 | some false=>some (.skip,H)
 | none=>none
def states (X:Env) (all:List Oper) (ab:Nat) (hs:Hs) (F0:Fr) (H0:Heap):Nat->Option (Fr × Heap × Nat)
 | 0=>some (F0,H0,0)
 | j+1=>match states X all ab hs F0 H0 j,all[j]? with
  | some (F,H,r),some o=>match zB X all ab hs F H j r o with
   | some (a,H')=>some (R6 F o.dst a,H',up o r)
   | none=>none
  | _,_=>none
section
variable {P:Program} {X:Env} {all:List Oper} {ab:Nat} {hs:Hs} {F0:Fr} {H0:Heap} {nd:List Nat}
structure At (X:Env) (all:List Oper) (ab:Nat) (hs:Hs) (F0:Fr) (H0:Heap) (j:Nat) (o:Oper) (F:Fr) (H:Heap) (r:Nat) (a:AV) (H':Heap):Prop where
 op:all[j]?=some o
 st:states X all ab hs F0 H0 j=some (F,H,r)
 step:zB X all ab hs F H j r o=some (a,H')
theorem At.next {j r:Nat} {o:Oper} {F:Fr} {H H':Heap} {a:AV} (h:At X all ab hs F0 H0 j o F H r a H'):states X all ab hs F0 H0 (j+1)=some (R6 F o.dst a,H',up o r):=by
 simp only [states,h.st,h.op,h.step]
structure vK (P:Program) (X:Env) (all:List Oper) (ab:Nat) (hs:Hs) (F0:Fr) (H0:Heap) (i:Nat) (H:Heap) (D:Dr):Prop where
 len:D.hs.length=D.es.length+1
 zero:D.hs[0]?=some H0
 last:D.hs[D.es.length]?=some H
 lt:∀ (m e:Nat),D.es[m]?=some e->e < i
 inj:∀ (m m' e:Nat),D.es[m]?=some e->D.es[m']?=some e->m=m'
 turn:∀ j o F Hj r a H',j < i->At X all ab hs F0 H0 j o F Hj r a H'->eH all F o=some true->X7 X F o=.E->∃ m,D.es[m]?=some j/\D.hs[m]?=some Hj/\D.hs[m+1]?=some H'
 read:∀ j o F Hj r a H',j < i->At X all ab hs F0 H0 j o F Hj r a H'->eH all F o=some true->X7 X F o=.R->∃ k,⟨j,o,F,a,k⟩∈D.rs/\D.hs[k]?=some Hj
 sat:∀ j o F Hj r a H',j < i->At X all ab hs F0 H0 j o F Hj r a H'->eH all F o=some true->Sat P X F Hj (ab+r) o a H'
 back:∀ (m j:Nat),D.es[m]?=some j->∃ o F Hj r a H',At X all ab hs F0 H0 j o F Hj r a H'/\eH all F o=some true/\X7 X F o=.E
theorem vK.start:vK P X all ab hs F0 H0 0 H0 ⟨[H0],[],[]⟩ :=
 ⟨rfl,rfl,rfl,by simp,by simp,by omega,by omega,by omega,by simp⟩
theorem At.same {j:Nat} {o o':Oper} {F F':Fr} {H H' K K':Heap} {r r':Nat} {a a':AV} (h:At X all ab hs F0 H0 j o F H r a H') (k:At X all ab hs F0 H0 j o' F' K r' a' K'):o=o'/\F=F'/\H=K/\r=r'/\a=a'/\H'=K':=by
 have h1:=h.op.symm.trans k.op
 simp only [Option.some.injEq] at h1
 subst h1
 have h2:=h.st.symm.trans k.st
 simp only [Option.some.injEq,Prod.mk.injEq] at h2
 obtain ⟨rfl,rfl,rfl⟩:=h2
 have h3:=h.step.symm.trans k.step
 simp only [Option.some.injEq,Prod.mk.injEq] at h3
 obtain ⟨rfl,rfl⟩:=h3
 exact ⟨rfl,rfl,rfl,rfl,rfl,rfl⟩
theorem vK.skip {i r:Nat} {o:Oper} {F:Fr} {H:Heap} {D:Dr} (h:vK P X all ab hs F0 H0 i H D) (hat:At X all ab hs F0 H0 i o F H r .skip H) (hw:eH all F o=some false):vK P X all ab hs F0 H0 (i+1) H D:=by
 refine ⟨h.len,h.zero,h.last,fun m e hm=>Nat.lt_succ_of_lt (h.lt m e hm),h.inj,fun j o' F' Hj r' a H' hj ha hw' hc=>?_,fun j o' F' Hj r' a H' hj ha hw' hc=>?_,fun j o' F' Hj r' a H' hj ha hw'=>?_,h.back⟩
 · rcases Nat.lt_or_ge j i with h' | h'
   · exact h.turn j o' F' Hj r' a H' h' ha hw' hc
   · obtain rfl:j=i:=by omega
     obtain ⟨rfl,rfl,_⟩:=hat.same ha
     rw [hw] at hw'; simp at hw'
 · rcases Nat.lt_or_ge j i with h' | h'
   · exact h.read j o' F' Hj r' a H' h' ha hw' hc
   · obtain rfl:j=i:=by omega
     obtain ⟨rfl,rfl,_⟩:=hat.same ha
     rw [hw] at hw'; simp at hw'
 · rcases Nat.lt_or_ge j i with h' | h'
   · exact h.sat j o' F' Hj r' a H' h' ha hw'
   · obtain rfl:j=i:=by omega
     obtain ⟨rfl,rfl,_⟩:=hat.same ha
     rw [hw] at hw'; simp at hw'
theorem yq_ {p:Prop} (h:p:=by rw [hc]; simp):p:=h
theorem vK.done {i r:Nat} {o:Oper} {F:Fr} {H H':Heap} {a:AV} {D:Dr} (h:vK P X all ab hs F0 H0 i H D) (hat:At X all ab hs F0 H0 i o F H r a H') (hw:eH all F o=some true) (hsat:Sat P X F H (ab+r) o a H'):vK P X all ab hs F0 H0 (i+1) H' (dD X F i o a H' D):=by
 have sats:∀ j o' F' Hj r' a' K',j < i+1->At X all ab hs F0 H0 j o' F' Hj r' a' K'->eH all F' o'=some true->Sat P X F' Hj (ab+r') o' a' K':=fun j o' F' Hj r' a' K' hj ha hw'=>by
  rcases Nat.lt_or_ge j i with h' | h'
  · exact h.sat j o' F' Hj r' a' K' h' ha hw'
  · obtain rfl:j=i:=by omega
    obtain ⟨rfl,rfl,rfl,rfl,rfl,rfl⟩:=hat.same ha
    exact hsat
 have old:∀ {β:Type} {l:List β} {m:Nat} {x y:β},l[m]?=some x->(l++[y])[m]?=some x:=fun {β l m x y} hm=>by
  rcases Nat.lt_or_ge m l.length with h' | h'
  · rw [List.getElem?_append_left h']; exact hm
  · rw [List.getElem?_eq_none h'] at hm; simp at hm
 cases hc:X7 X F o with
 | P =>
  have hev:ev1 X F H (ab+r) o=some (a,H'):=hsat.yN yq_
  have hH:=(d2M hc hev).1
  subst hH
  have hD:dD X F i o a H' D=D:=by simp only [dD,hc]
  rw [hD]
  refine ⟨h.len,h.zero,h.last,fun m e hm=>Nat.lt_succ_of_lt (h.lt m e hm),h.inj,fun j o' F' Hj r' a' K' hj ha hw' hc'=>?_,fun j o' F' Hj r' a' K' hj ha hw' hc'=>?_,sats,h.back⟩
  · rcases Nat.lt_or_ge j i with h' | h'
    · exact h.turn j o' F' Hj r' a' K' h' ha hw' hc'
    · obtain rfl:j=i:=by omega
      obtain ⟨rfl,rfl,_⟩:=hat.same ha
      rw [hc] at hc'; cases hc'
  · rcases Nat.lt_or_ge j i with h' | h'
    · exact h.read j o' F' Hj r' a' K' h' ha hw' hc'
    · obtain rfl:j=i:=by omega
      obtain ⟨rfl,rfl,_⟩:=hat.same ha
      rw [hc] at hc'; cases hc'
 | R =>
  have hev:ev1 X F H (ab+r) o=some (a,H'):=hsat.yN yq_
  have hH:=(a3H (b4H hc) hev).1
  subst hH
  have hD:dD X F i o a H' D={ D with rs:=⟨i,o,F,a,D.es.length⟩ :: D.rs }:=by simp only [dD,hc]
  rw [hD]
  refine ⟨h.len,h.zero,h.last,fun m e hm=>Nat.lt_succ_of_lt (h.lt m e hm),h.inj,fun j o' F' Hj r' a' K' hj ha hw' hc'=>?_,fun j o' F' Hj r' a' K' hj ha hw' hc'=>?_,sats,h.back⟩
  · rcases Nat.lt_or_ge j i with h' | h'
    · exact h.turn j o' F' Hj r' a' K' h' ha hw' hc'
    · obtain rfl:j=i:=by omega
      obtain ⟨rfl,rfl,_⟩:=hat.same ha
      rw [hc] at hc'; cases hc'
  · rcases Nat.lt_or_ge j i with h' | h'
    · obtain ⟨k,h1,h2⟩:=h.read j o' F' Hj r' a' K' h' ha hw' hc'
      exact ⟨k,List.mem_cons_of_mem _ h1,h2⟩
    · obtain rfl:j=i:=by omega
      obtain ⟨rfl,rfl,rfl,rfl,rfl,rfl⟩:=hat.same ha
      exact ⟨_,List.mem_cons_self,h.last⟩
 | E =>
  have hD:dD X F i o a H' D={ D with hs:=D.hs++[H'],es:=D.es++[i] }:=by simp only [dD,hc]
  rw [hD]
  have mem:∀ {m e:Nat},(D.es++[i])[m]?=some e->D.es[m]?=some e\/(m=D.es.length/\e=i):=fun {m e} hm=>by
   rcases Nat.lt_or_ge m D.es.length with h' | h'
   · rw [List.getElem?_append_left h'] at hm; exact .inl hm
   · rw [List.getElem?_append_right h'] at hm
     cases hx:m - D.es.length with
     | zero=>rw [hx] at hm; simp at hm; exact .inr ⟨by omega,hm.symm⟩
     | succ q=>rw [hx] at hm; simp at hm
  refine ⟨by simp [h.len],old h.zero,?_,fun m e hm=>?_,fun m m' e hm hm'=>?_,fun j o' F' Hj r' a' K' hj ha hw' hc'=>?_,fun j o' F' Hj r' a' K' hj ha hw' hc'=>?_,sats,fun m j hm=>?_⟩
  · simp only [List.length_append,List.length_cons,List.length_nil]
    rw [List.getElem?_append_right (by rw [h.len]; omega),h.len]
    simp
  · rcases mem hm with h1 | h1
    · exact Nat.lt_succ_of_lt (h.lt _ _ h1)
    · omega
  · rcases mem hm with h1 | h1 <;> rcases mem hm' with h2 | h2
    · exact h.inj _ _ _ h1 h2
    · have:=h.lt _ _ h1; omega
    · have:=h.lt _ _ h2; omega
    · omega
  · rcases Nat.lt_or_ge j i with h' | h'
    · obtain ⟨m,h1,h2,h3⟩:=h.turn j o' F' Hj r' a' K' h' ha hw' hc'
      exact ⟨m,old h1,old h2,old h3⟩
    · obtain rfl:j=i:=by omega
      obtain ⟨rfl,rfl,rfl,rfl,rfl,rfl⟩:=hat.same ha
      refine ⟨D.es.length,by simp,old h.last,?_⟩
      rw [List.getElem?_append_right (by rw [h.len]; omega),h.len]
      simp
  · rcases Nat.lt_or_ge j i with h' | h'
    · obtain ⟨k,h1,h2⟩:=h.read j o' F' Hj r' a' K' h' ha hw' hc'
      exact ⟨k,h1,old h2⟩
    · obtain rfl:j=i:=by omega
      obtain ⟨rfl,rfl,_⟩:=hat.same ha
      rw [hc] at hc'; cases hc'
  · rcases mem hm with h1 | ⟨rfl,rfl⟩
    · exact h.back _ _ h1
    · exact ⟨_,_,_,_,_,_,hat,hw,hc⟩
def iZ (X:Env) (r:Rd) (lo hi:Nat):List Heap->Nat->Prop->Prop
 | [],_,Q=>Q
 | H :: hs,k,Q=>match Nat.ble lo k&&Nat.ble k hi&&!Nat.beq k r.k with
  | true=>ev1 X r.F H 0 r.o=some (r.a,H)/\iZ X r lo hi hs (k+1) Q
  | false=>iZ X r lo hi hs (k+1) Q
def qK (X:Env) (nd:List Nat) (D:Dr):List Rd->Prop->Prop
 | [],Q=>Q
 | r :: rs,Q=>iZ X r (countB (fun e=>waits nd r.i e) D.es) (countB (fun e=>!waits nd e r.i) D.es) D.hs 0 (qK X nd D rs Q)
def X3 (P:Program) (X:Env) (all:List Oper) (nd:List Nat) (ab:Nat) (hs:Hs):List Oper->Nat->Nat->Dr->(Fr->Heap->Prop)->Fr->Heap->Prop
 | [],_,_,D,K,F,H=>match chain nd D.es with
  | true=>qK X nd D D.rs (K F H)
  | false=>False
 | o :: rest,i,r,D,K,F,H =>
  match o.guard with
  | none=>doP P X (aK i hs) F H (ab+r) o fun a H'=>X3 P X all nd ab hs rest (i+1) (up o r) (dD X F i o a H' D) K (R6 F o.dst a) H'
  | some (j,want)=>match pJ all j with
   | some d=>match F[d]? with
    | some (some (.bool c))=>match c with
     | true=>match want with
      | true=>doP P X (aK i hs) (F.set d (some (.bool true))) H (ab+r) o fun a H'=>X3 P X all nd ab hs rest (i+1) (up o r) (dD X (F.set d (some (.bool true))) i o a H' D) K (R6 (F.set d (some (.bool true))) o.dst a) H'
      | false=>X3 P X all nd ab hs rest (i+1) (up o r) D K (R6 (F.set d (some (.bool true))) o.dst .skip) H
     | false=>match want with
      | true=>X3 P X all nd ab hs rest (i+1) (up o r) D K (R6 (F.set d (some (.bool false))) o.dst .skip) H
      | false=>doP P X (aK i hs) (F.set d (some (.bool false))) H (ab+r) o fun a H'=>X3 P X all nd ab hs rest (i+1) (up o r) (dD X (F.set d (some (.bool false))) i o a H' D) K (R6 (F.set d (some (.bool false))) o.dst a) H'
    | some (some .skip)=>X3 P X all nd ab hs rest (i+1) (up o r) D K (R6 F o.dst .skip) H
    | _=>False
   | none=>False
theorem pF {K:Fr->Heap->Prop}:∀ (rest:List Oper) (i r:Nat) (D:Dr) (F:Fr) (H:Heap),all.drop i=rest->states X all ab hs F0 H0 i=some (F,H,r)->vK P X all ab hs F0 H0 i H D ->
 X3 P X all nd ab hs rest i r D K F H ->
 ∃ F' H' r' D',states X all ab hs F0 H0 all.length=some (F',H',r')/\vK P X all ab hs F0 H0 all.length H' D'/\chain nd D'.es=true/\qK X nd D' D'.rs (K F' H')
 | [],i,r,D,F,H,hd,hs',hD,h=>by
  unfold X3 at h
  split at h
  case h_2=>exact h.elim
  rename_i hc
  have hle:all.length<=i:=by
   have:=congrArg List.length hd
   simp at this
   omega
  have hi:i=all.length:=by
   rcases Nat.lt_or_ge all.length i with h' | h'
   · obtain ⟨q,rfl⟩:∃ q,i=q+1:=⟨i - 1,by omega⟩
     simp only [states] at hs'
     rw [List.getElem?_eq_none ya_] at hs'
     split at hs'
     · rename_i h1; simp at h1
     · simp at hs'
   · omega
  subst hi
  exact ⟨F,H,r,D,hs',hD,hc,h⟩
 | o :: rest,i,r,D,F,H,hd,hs',hD,h=>by
  have ho:all[i]?=some o:=by
   have:=congrArg (fun l=>l[0]?) hd
   simpa using this
  have hd':all.drop (i+1)=rest:=by
   have:=congrArg (List.drop 1) hd
   simpa [List.drop_drop,Nat.add_comm] using this
  have go:eH all F o=some true->(doP P X (aK i hs) F H (ab+r) o fun a H'=>X3 P X all nd ab hs rest (i+1) (up o r) (dD X F i o a H' D) K (R6 F o.dst a) H')->_:=fun hw hg=>by
   unfold doP at hg
   split at hg
   · rename_i a H' ht
     have hat:At X all ab hs F0 H0 i o F H r a H':=⟨ho,hs',by simp only [zB,hw,ht]⟩
     exact pF rest (i+1) _ _ _ _ hd' hat.next (hD.done hat hw hg.1) hg.2
   · rename_i ht
     split at hg
     case h_2=>exact hg.elim
     rename_i a H' he
     have hat:At X all ab hs F0 H0 i o F H r a H':=⟨ho,hs',by simp only [zB,hw,ht,he]⟩
     exact pF rest (i+1) _ _ _ _ hd' hat.next (hD.done hat hw (.of he)) hg
  have skip:eH all F o=some false->X3 P X all nd ab hs rest (i+1) (up o r) D K (R6 F o.dst .skip) H->_:=fun hw hg=>by
   have hat:At X all ab hs F0 H0 i o F H r .skip H:=⟨ho,hs',by simp only [zB,hw]⟩
   exact pF rest (i+1) _ _ _ _ hd' hat.next (hD.skip hat hw) hg
  unfold X3 at h
  cases hgd:o.guard with
  | none =>
   rw [hgd] at h
   exact go (by simp [eH,hgd]) h
  | some jw =>
   obtain ⟨j,want⟩:=jw
   rw [hgd] at h
   simp only at h
   cases hdj:pJ all j with
   | none=>rw [hdj] at h; exact h.elim
   | some d =>
    rw [hdj] at h
    simp only at h
    split at h
    · rename_i c hF
      have hsame:F.set d (some (.bool c))=F:=a3i _ _ _ hF
      have hw:eH all F o=some (c == want):=by simp only [eH,hgd,hdj,hF]
      split at h
      · split at h
        · rw [hsame] at h; exact go hw h
        · rw [hsame] at h; exact skip hw h
      · split at h
        · rw [hsame] at h; exact skip hw h
        · rw [hsame] at h; exact go hw h
    · rename_i hF
      exact skip (by simp only [eH,hgd,hdj,hF]) h
    · exact h.elim
end
def vR (ops:Array Oper):Bool :=
 let nd:=needs ops.toList []
 (List.range ops.size).all fun i=>match ops[i]? with
  | none=>true
  | some o=>o.after.toList.all (fun e=>!Region.binds .any e || Nat.blt e.on i)&&(List.range ops.size).all fun j=>Nat.beq i j || match ops[j]? with
   | none=>true
   | some p=>match p.dst with
    | none=>true
    | some d=>(match o.dst with
     | some c=>!Nat.beq c d
     | none=>true)&&(!zX d (o.looksAt ops) || (if Nat.blt j i then waits nd i j else waits nd j i))
theorem b0t {n:Nat}:∀ {l:List Nat},n∈l->zX n l=true
 | m :: ms,h=>by
  simp only [zX]
  split
  · rfl
  · rename_i hne
    simp only [List.mem_cons] at h
    rcases h with rfl | h
    · simp at hne
    · exact b0t h
section
variable {ops:Array Oper}
theorem b6c (h:vR ops=true) {i:Nat} {o:Oper} (hi:ops[i]?=some o):∀ e∈o.after,Region.binds .any e=true->e.on < i:=by
 intro e he hb
 have hlt:i < ops.size:=(Array.getElem?_eq_some_iff.1 hi).1
 simp only [vR,List.all_eq_true,List.mem_range] at h
 have h1:=h i hlt
 rw [hi] at h1
 simp only [Bool.and_eq_true] at h1
 have h2:=List.all_eq_true.1 h1.1 e (by simpa using he)
 simp [hb,Nat.blt] at h2
 omega
theorem mH (h:vR ops=true) {i j:Nat} {o p:Oper} (hi:ops[i]?=some o) (hj:ops[j]?=some p) (hne:i≠j) {d:Tmp} (hd:p.dst=some d) :
 o.dst≠some d/\(d∈o.looksAt ops->(j < i->waits (needs ops.toList []) i j=true)/\(i < j->waits (needs ops.toList []) j i=true)):=by
 have hlt:i < ops.size:=(Array.getElem?_eq_some_iff.1 hi).1
 have hlt':j < ops.size:=(Array.getElem?_eq_some_iff.1 hj).1
 simp only [vR,List.all_eq_true,List.mem_range] at h
 have h1:=h i hlt
 rw [hi] at h1
 simp only [Bool.and_eq_true] at h1
 have h2:=List.all_eq_true.1 h1.2 j (by simpa using hlt')
 simp only [hj,hd] at h2
 simp only [Bool.or_eq_true,Bool.and_eq_true,Nat.beq_eq] at h2
 have h3:=h2.resolve_left hne
 refine ⟨fun hc=>?_,fun hm=>?_⟩
 · rw [hc] at h3; simp at h3
 · have h4:=h3.2.resolve_left (by simp [b0t hm])
   refine ⟨fun hji=>?_,fun hij=>?_⟩
   · have:Nat.blt j i=true:=by simp [Nat.blt]; omega
     simpa [this] using h4
   · have:Nat.blt j i=false:=by
      cases hb:Nat.blt j i with
      | false=>rfl
      | true=>simp [Nat.blt] at hb; omega
     simpa [this] using h4
end
theorem a7A:∀ (l:List Oper) (acc:List Nat),(needs l acc).take acc.length=acc
 | [],acc=>by simp [needs]
 | o :: l,acc=>by
  simp only [needs]
  have:=congrArg (List.take acc.length) (a7A l (acc++[eT o.after.toList acc]))
  rw [List.take_take] at this
  simpa [Nat.min_eq_left] using this
theorem c3o (l:List Oper):∀ (acc:List Nat) (i:Nat) (o:Oper),l[i]?=some o->(needs l acc).getD (acc.length+i) 0=eT o.after.toList ((needs l acc).take (acc.length+i)):=by
 induction l with
 | nil=>intro acc i o h; simp at h
 | cons o l ih =>
  intro acc i o' h
  cases i with
  | zero =>
   simp at h
   subst h
   simp only [needs,Nat.add_zero]
   have h1:=a7A l (acc++[eT o.after.toList acc])
   generalize needs l (acc++[eT o.after.toList acc])=N at h1 ⊢
   have h2:N.take acc.length=acc:=by
    have:=congrArg (List.take acc.length) h1
    rw [List.take_take] at this
    simpa [Nat.min_eq_left] using this
   rw [h2]
   have h3:=congrArg (fun l=>l[acc.length]?) h1
   simp only [List.length_append,List.length_cons,List.length_nil,List.getElem?_take] at h3
   rw [if_pos ya_] at h3
   rw [List.getD_eq_getElem?_getD,h3]
   simp
  | succ i =>
   simp only [needs]
   have:=ih (acc++[eT o.after.toList acc]) i o' yj_
   rw [List.length_append,List.length_singleton,show acc.length+1+i=acc.length+(i+1) by omega] at this
   exact this
theorem xC {j:Nat} {acc:List Nat}:∀ (es:List Edge),Nat.testBit (eT es acc) j=true->∃ e∈es,Region.binds .any e=true/\(e.on=j\/Nat.testBit (acc.getD e.on 0) j=true)
 | [],h=>by simp [eT] at h
 | e :: es,h=>by
  simp only [eT] at h
  split at h
  · rename_i hb
    change Nat.testBit ((2 ^ e.on ||| acc.getD e.on 0) ||| eT es acc) j=true at h
    rw [Nat.testBit_or,Nat.testBit_or,Nat.testBit_two_pow] at h
    simp only [Bool.or_eq_true,decide_eq_true_eq] at h
    rcases h with (h | h) | h
    · exact ⟨e,by simp,hb,.inl h⟩
    · exact ⟨e,by simp,hb,.inr h⟩
    · obtain ⟨e',h1,h2⟩:=xC es h
      exact ⟨e',by simp [h1],h2⟩
  · obtain ⟨e',h1,h2⟩:=xC es h
    exact ⟨e',by simp [h1],h2⟩
theorem b4Y {l:List Oper} {i j:Nat} {o:Oper} (hi:l[i]?=some o) (h:waits (needs l []) i j=true):∃ e∈o.after,Region.binds .any e=true/\(e.on=j\/waits (needs l []) e.on j=true):=by
 unfold waits at h
 have hg:=c3o l [] i o hi
 simp only [List.length_nil,Nat.zero_add] at hg
 rw [hg] at h
 obtain ⟨e,h1,h2,h3⟩:=xC _ h
 refine ⟨e,by simpa using h1,h2,h3.imp id fun h3=>?_⟩
 unfold waits
 rw [List.getD_eq_getElem?_getD,List.getElem?_take] at h3
 split at h3
 · rwa [List.getD_eq_getElem?_getD]
 · simp at h3
theorem countB_le {p:Nat->Bool}:∀ (es:List Nat) (k:Nat),(∀ (m e:Nat),es[m]?=some e->p e=true->m < k)->countB p es<=k
 | [],k,_=>by simp [countB]
 | e :: es,k,h=>by
  have ih:=countB_le (p:=p) es
  simp only [countB]
  split
  · rename_i hp
    have:=h 0 e rfl hp
    have:=ih (k - 1) fun m e' hm hp'=>by have:=h (m+1) e' ym_ hp'; omega
    omega
  · exact ih k fun m e' hm hp'=>by have:=h (m+1) e' ym_ hp'; omega
theorem a8d {p:Nat->Bool}:∀ (es:List Nat) (k:Nat),(∀ (m e:Nat),es[m]?=some e->m < k->p e=true)->k<=es.length->k<=countB p es
 | [],k,_,h=>by simp at h; simp [countB,h]
 | e :: es,0,_,_=>Nat.zero_le _
 | e :: es,k+1,h,hl=>by
  simp only [countB,h 0 e rfl ya_,if_true]
  have:=a8d es k (fun m e' hm hk=>h (m+1) e' ym_ ya_) (by simpa using hl)
  omega
theorem vS {X:Env} {r:Rd} {lo hi:Nat}:∀ (hs:List Heap) (q:Nat) (Q:Prop),iZ X r lo hi hs q Q->Q
 | [],q,Q,h=>h
 | H1 :: hs,q,Q,h=>by
  unfold iZ at h
  split at h
  · exact vS hs (q+1) Q h.2
  · exact vS hs (q+1) Q h
theorem a0W {X:Env} {r:Rd} {lo hi:Nat}:∀ (hs:List Heap) (q:Nat) (Q:Prop),iZ X r lo hi hs q Q->∀ (m:Nat) (H:Heap),hs[m]?=some H->lo<=q+m->q+m<=hi->q+m≠r.k->ev1 X r.F H 0 r.o=some (r.a,H)
 | [],q,Q,h,m,H,hm,_,_,_=>by simp at hm
 | H1 :: hs,q,Q,h,0,H,hm,h1,h2,h3=>by
  simp at hm
  subst hm
  unfold iZ at h
  simp only [Nat.add_zero] at h1 h2 h3
  have hb:Nat.beq q r.k=false:=by
   cases hb:Nat.beq q r.k with
   | false=>rfl
   | true=>exact absurd (Nat.eq_of_beq_eq_true hb) h3
  split at h
  · exact h.1
  · rename_i hn
    rw [hb,Nat.ble_eq_true_of_le h1,Nat.ble_eq_true_of_le h2] at hn
    simp at hn
 | H1 :: hs,q,Q,h,m+1,H,hm,h1,h2,h3=>by
  unfold iZ at h
  split at h
  · exact a0W hs (q+1) Q h.2 m H ym_ ya_ ya_ ya_
  · exact a0W hs (q+1) Q h m H ym_ ya_ ya_ ya_
theorem b6f {X:Env} {nd:List Nat} {D:Dr} (rs:List Rd) (Q:Prop):qK X nd D rs Q->Q:=by
 induction rs with
 | nil=>exact fun h=>h
 | cons r rs ih=>exact fun h=>ih (vS _ _ _ h)
theorem b6e {X:Env} {nd:List Nat} {D:Dr} (rs:List Rd) (Q:Prop):qK X nd D rs Q->∀ r∈rs,∃ Q,iZ X r (countB (fun e=>waits nd r.i e) D.es) (countB (fun e=>!waits nd e r.i) D.es) D.hs 0 Q:=by
 induction rs with
 | nil=>intro _ r hr; simp at hr
 | cons r rs ih =>
  intro h r' hr
  rcases List.mem_cons.1 hr with rfl | hr
  · exact ⟨_,h⟩
  · exact ih (vS _ _ _ h) r' hr
theorem c5l {nd:List Nat} (es:List Nat):chain nd es=true->∀ (m a b:Nat),es[m]?=some a->es[m+1]?=some b->waits nd b a=true:=by
 induction es with
 | nil=>intro _ m a b h; simp at h
 | cons x es ih =>
  intro h m a b h1 h2
  cases es with
  | nil=>simp at h2
  | cons y es =>
   simp only [chain,Bool.and_eq_true] at h
   cases m with
   | zero=>simp at h1 h2; subst h1 h2; exact h.1
   | succ m=>exact ih h.2 m a b yf_ (by simpa using h2)
section
variable {X:Env} {all:List Oper} {ab:Nat} {hs:Hs} {F0:Fr} {H0:Heap}
theorem vL:∀ {i:Nat} {s:Fr × Heap × Nat},states X all ab hs F0 H0 i=some s->∀ {j:Nat},j < i->∃ o F H r a H',At X all ab hs F0 H0 j o F H r a H'
 | 0,_,_,_,h=>by omega
 | i+1,s,hst,j,hj=>by
  simp only [states] at hst
  split at hst
  case h_2=>simp at hst
  rename_i F H r o h1 h2
  split at hst
  case h_2=>simp at hst
  rename_i a H' h3
  rcases Nat.lt_or_ge j i with h | h
  · exact vL h1 h
  · obtain rfl:j=i:=by omega
    exact ⟨o,F,H,r,a,H',h2,h1,h3⟩
theorem dK:∀ {i:Nat} {F:Fr} {H:Heap} {r:Nat},states X all ab hs F0 H0 i=some (F,H,r)->F.length=F0.length/\r=(all.take i).countP R5
 | 0,F,H,r,hst=>by simp [states] at hst; obtain ⟨rfl,rfl,rfl⟩:=hst; simp
 | i+1,F,H,r,hst=>by
  simp only [states] at hst
  split at hst
  case h_2=>simp at hst
  rename_i F' H' r' o h1 h2
  split at hst
  case h_2=>simp at hst
  rename_i a H2 h3
  simp only [Option.some.injEq,Prod.mk.injEq] at hst
  obtain ⟨rfl,rfl,rfl⟩:=hst
  obtain ⟨h4,h5⟩:=dK h1
  refine ⟨?_,?_⟩
  · unfold R6
    split <;> simp [h4]
  · rw [List.take_add_one,h2]
    simp only [Option.toList,List.countP_append,<- h5,up]
    cases ho:R5 o <;> simp [ho]
theorem a1g:∀ {i:Nat} {F:Fr} {H:Heap} {r:Nat},states X all ab hs F0 H0 i=some (F,H,r)->∀ {t:Nat},(∀ (j:Nat) (o:Oper),j < i->all[j]?=some o->o.dst≠some t)->F[t]?=F0[t]?
 | 0,F,H,r,hst,t,_=>by simp [states] at hst; rw [hst.1]
 | i+1,F,H,r,hst,t,ht=>by
  simp only [states] at hst
  split at hst
  case h_2=>simp at hst
  rename_i F' H' r' o h1 h2
  split at hst
  case h_2=>simp at hst
  rename_i a H2 h3
  simp only [Option.some.injEq,Prod.mk.injEq] at hst
  obtain ⟨rfl,rfl,rfl⟩:=hst
  rw [<- a1g h1 fun j o' hj ho=>ht j o' ya_ ho]
  have:=ht i o ya_ h2
  unfold R6
  split
  · rename_i d hd
    rw [List.getElem?_set_ne]
    exact fun e=>this (by rw [hd,e])
  · rfl
theorem a1h : ∀ {i : Nat} {F : Fr} {H : Heap} {r : Nat}, states X all ab hs F0 H0 i = some (F, H, r) → ∀ {j t : Nat} {o : Oper} {Fj : Fr} {Hj : Heap} {rj : Nat} {a : AV} {Hj' : Heap}, j < i → At X all ab hs F0 H0 j o Fj Hj rj a Hj' → o.dst = some t →
      (∀ (m : Nat) (p : Oper), j < m → m < i → all[m]? = some p → p.dst ≠ some t) → ∀ x, F[t]? = some x → x = some a
  | 0, F, H, r, hst, j, t, o, Fj, Hj, rj, a, Hj', hj, _, _, _, _, _ => by omega
  | i + 1, F, H, r, hst, j, t, o, Fj, Hj, rj, a, Hj', hj, hat, hd, hm, x, hx => by
    simp only [states] at hst
    split at hst
    case h_2 => simp at hst
    rename_i F' H' r' o' h1 h2
    split at hst
    case h_2 => simp at hst
    rename_i a' H2 h3
    simp only [Option.some.injEq, Prod.mk.injEq] at hst
    obtain ⟨rfl, rfl, rfl⟩ := hst
    rcases Nat.lt_or_ge j i with h | h
    · refine a1h h1 h hat hd (fun m p h4 h5 h6 => hm m p h4 ya_ h6) x ?_
      have := hm i o' h ya_ h2
      unfold R6 at hx
      split at hx
      · rename_i d hd'
        rw [List.getElem?_set_ne] at hx
        · exact hx
        · exact fun e => this (by rw [hd', e])
      · exact hx
    · obtain rfl : j = i := by omega
      obtain ⟨rfl, rfl, rfl, rfl, rfl, rfl⟩ := hat.same (show At X all ab hs F0 H0 j o' F' H' r' a' H2 from ⟨h2, h1, h3⟩)
      rw [hd] at hx
      simp only [R6, List.getElem?_set] at hx
      simp only [if_true] at hx
      split at hx
      · simp at hx; exact hx.symm
      · simp at hx
theorem b9L {T:TT} (l:List Oper):∀ (al:Heap),iK T l=some al->∀ (j:Nat) (o:Oper) (t:TypeId),l[j]?=some o->o.op=.alloc t->∃ ti,T t=some ti/\al[(l.take j).countP R5]?=some ⟨0,ti.size,[ti.zero],none⟩:=by
 induction l with
 | nil=>intro al _ j o t h; simp at h
 | cons o l ih =>
  intro al h j o' t hj ht
  unfold iK at h
  cases j with
  | zero =>
   simp at hj
   subst hj
   rw [ht] at h
   simp only at h
   split at h
   · rename_i ti l' h1 h2
     simp only [Option.some.injEq] at h
     subst h
     exact ⟨ti,h1,by simp⟩
   · simp at h
  | succ j =>
   have hj':l[j]?=some o':=by simpa using hj
   split at h
   · rename_i t' ho
     split at h
     · rename_i ti l' h1 h2
       simp only [Option.some.injEq] at h
       subst h
       obtain ⟨ti',h3,h4⟩:=ih l' h2 j o' t hj' ht
       have:R5 o=true:=by simp [R5,ho]
       exact ⟨ti',h3,by simpa [List.countP_cons,this] using h4⟩
     · simp at h
   · rename_i hno
     obtain ⟨ti',h3,h4⟩:=ih al h j o' t hj' ht
     have:R5 o=false:=by
      cases hb:R5 o with
      | false=>rfl
      | true=>obtain ⟨t',h5⟩:=xD.1 hb; exact absurd h5 (hno t')
     exact ⟨ti',h3,by simpa [List.countP_cons,this] using h4⟩
theorem b0S {i j:Nat} {o:Oper} (hi:all[i]?=some o) (ho:R5 o=true) (hij:i < j):(all.take i).countP R5 < (all.take j).countP R5:=by
 have h1:(all.take (i+1)).countP R5=(all.take i).countP R5+1:=by
  rw [List.take_add_one,hi]
  simp [List.countP_append,ho]
 have h2:(all.take (i+1)).countP R5<=(all.take j).countP R5:=(List.take_sublist_take_left (show i+1<=j by omega)).countP_le
 omega
end
def lit (listed:Array Bool) (j:Nat):Bool:=listed.getD j false
theorem jU {listed:Array Bool} {i j:Nat} (hi:i < listed.size):lit (listed.setIfInBounds i true) j=if i=j then true else lit listed j:=by
 unfold lit
 by_cases e:i=j
 · subst e; simp [hi]
 · simp [Array.getD_eq_getD_getElem?,Array.getElem?_setIfInBounds,e]
def left (n:Nat) (listed:Array Bool):Nat:=(List.range n).countP fun j=>!lit listed j
theorem c9G {n:Nat} {listed:Array Bool} {i:Nat} (hn:listed.size=n) (hi:i < n) (hl:lit listed i=false):left n (listed.setIfInBounds i true)+1=left n listed:=by
 unfold left
 have key:∀ (l:List Nat),l.Nodup->i∈l->l.countP (fun j=>!lit (listed.setIfInBounds i true) j)+1=l.countP (fun j=>!lit listed j):=by
  intro l
  induction l with
  | nil=>intro _ h; simp at h
  | cons x l ih =>
   intro hnd hmem
   simp only [List.nodup_cons] at hnd
   simp only [List.countP_cons,jU (hn ▸ hi:i < listed.size)]
   by_cases e:i=x
   · subst e
     simp only [if_true,hl]
     have:l.countP (fun j=>!if i=j then true else lit listed j)=l.countP (fun j=>!lit listed j):=by
      apply List.countP_congr
      intro j hj
      have:i≠j:=fun e=>hnd.1 (e ▸ hj)
      simp [this]
     rw [this]
     simp
   · simp only [e,if_false]
     have h1:=ih hnd.2 (by simpa [e] using hmem)
     simp only [jU (hn ▸ hi:i < listed.size)] at h1
     omega
 exact key _ List.nodup_range (List.mem_range.2 hi)
section
variable {P:Program} {X:Env} {ops:Array Oper} {ab:Nat} {hs:Hs} {F0:Fr} {H0:Heap} {G0:Nat->Prop} {w0:World} {C0:Cx} {D:Dr} {defers:List Deferred}
structure a7c (X:Env) (ops:Array Oper) (ab:Nat) (hs:Hs) (F0:Fr) (H0:Heap) (G0:Nat->Prop) (w0:World) (C0:Cx) (D:Dr) (defers:List Deferred) (listed:Array Bool) (act:Act) (w:World) (G:Nat->Prop) (C:Cx) (k:Nat) (H:Heap):Prop where
 ev:Ev G0 w0 C0 G w C
 heap:D.hs[k]?=some H
 hr:HR G w C H
 size:listed.size=ops.size
 closed:∀ i j,lit listed i=true->waits (needs ops.toList []) i j=true->lit listed j=true
 turns:∀ (m e:Nat),D.es[m]?=some e->(lit listed e=true↔m < k)
 len:F0.length=act.tmps.size
 new:∀ j o F Hj r a H',lit listed j=true->At X ops.toList ab hs F0 H0 j o F Hj r a H'->∀ d,o.dst=some d->d < F0.length->VR G w C a (act.tmps.getD d undef)
 old:∀ d a,(∀ (j:Nat) (o:Oper),lit listed j=true->ops[j]?=some o->o.dst≠some d)->F0[d]?=some (some a)->VR G w C a (act.tmps.getD d undef)
 pend:∀ j o F Hj r a H' t,lit listed j=false->At X ops.toList ab hs F0 H0 j o F Hj r a H'->o.op=.alloc t->∃ ti,X.T t=some ti/\H[ab+r]?=some ⟨0,ti.size,[ti.zero],none⟩/\C.ι (ab+r)=none
 pd:Pd (fun id=>id < ab) C0 H0 C H
 defers:act.defers=defers
theorem eD {i:Nat} {o:Oper}:ops[i]?=some o↔ops.toList[i]?=some o:=by simp
theorem a7c.look (hreg:vR ops=true) {listed:Array Bool} {act:Act} {w:World} {G:Nat->Prop} {C:Cx} {k:Nat} {H:Heap} (h:a7c X ops ab hs F0 H0 G0 w0 C0 D defers listed act w G C k H)
 {i:Nat} {o:Oper} {F:Fr} {Hi:Heap} {r:Nat} {a:AV} {H':Heap} (hat:At X ops.toList ab hs F0 H0 i o F Hi r a H') (hi:lit listed i=false) (hw:∀ j,waits (needs ops.toList []) i j=true->lit listed j=true)
 {t:Nat} (ht:t∈o.looksAt ops) {b:AV} (hb:F[t]?=some (some b)):VR G w C b (act.tmps.getD t undef):=by
 have hoi:ops[i]?=some o:=eD.2 hat.op
 by_cases hx:∃ j p,j < i/\ops[j]?=some p/\p.dst=some t
 · obtain ⟨j,p,hj,hp,hd⟩:=hx
   obtain ⟨o',F',Hj,rj,aj,Hj',hatj⟩:=vL hat.st hj
   obtain rfl:o'=p:=by have:=eD.1 hp; rw [hatj.op] at this; simpa using this
   have hlj:=hw j (((mH hreg hoi hp ya_ hd).2 ht).1 hj)
   have:=a1h hat.st hj hatj hd (fun m q h1 h2 h3 h4=>(mH hreg (eD.2 h3) hp ya_ hd).1 h4) _ hb
   simp only [Option.some.injEq] at this
   subst this
   refine h.new j o' F' Hj rj _ Hj' hlj hatj t hd ?_
   rw [<- (dK hat.st).1]
   rcases Nat.lt_or_ge t F.length with h' | h'
   · exact h'
   · rw [List.getElem?_eq_none h'] at hb; simp at hb
 · have hno:∀ (j:Nat) (p:Oper),j < i->ops.toList[j]?=some p->p.dst≠some t:=fun j p hj hp hd=>hx ⟨j,p,hj,eD.2 hp,hd⟩
   rw [a1g hat.st hno] at hb
   refine h.old t b (fun j p hlj hp hd=>?_) hb
   rcases Nat.lt_trichotomy j i with h1 | h1 | h1
   · exact hno j p h1 (eD.1 hp) hd
   · subst h1; rw [hi] at hlj; simp at hlj
   · have:=((mH hreg hoi hp ya_ hd).2 ht).2 h1
     have:=h.closed j i hlj this
     rw [hi] at this; simp at this
def only (l:List Nat):Nat->Fr->Fr
 | _,[]=>[]
 | i,a :: F=>(if l.contains i then a else none) :: only l (i+1) F
theorem a3s (l:List Nat):∀ (F:Fr) (i t:Nat),(only l i F)[t]?=(F[t]?).map fun a=>if l.contains (i+t) then a else none
 | [],i,t=>by simp [only]
 | a :: F,i,0=>by simp [only]
 | a :: F,i,t+1=>by simp only [only,List.getElem?_cons_succ]; rw [a3s l F (i+1) t]; simp [Nat.add_assoc,Nat.add_comm 1 t]
theorem b0g (l:List Nat):∀ (F:Fr) (i:Nat),(only l i F).length=F.length
 | [],_=>rfl
 | a :: F,i=>by simp [only,b0g l F]
theorem b0s {o:Oper} {t:Nat} (h:Operand.tmp t∈o.op.operands):t∈o.looksAt ops:=by
 unfold Oper.looksAt
 exact List.mem_append_left _ (List.mem_filterMap.2 ⟨.tmp t,by simpa using h,rfl⟩)
theorem a3r {o:Oper} {F:Fr}:∀ x∈o.op.operands,opv (only (o.looksAt ops) 0 F) x=opv F x:=by
 intro x hx
 cases x with
 | tmp t =>
  have hm:t∈o.looksAt ops:=b0s hx
  simp only [opv,a3s,Nat.zero_add]
  cases F[t]? with
  | none=>rfl
  | some a=>simp [hm]
 | _=>rfl
theorem a7c.wanted (hreg:vR ops=true) {listed:Array Bool} {act:Act} {w:World} {G:Nat->Prop} {C:Cx} {k:Nat} {H:Heap} (h:a7c X ops ab hs F0 H0 G0 w0 C0 D defers listed act w G C k H)
 {i:Nat} {o:Oper} {F:Fr} {Hi:Heap} {r:Nat} {a:AV} {H':Heap} (hat:At X ops.toList ab hs F0 H0 i o F Hi r a H') (hi:lit listed i=false) (hw:∀ j,waits (needs ops.toList []) i j=true->lit listed j=true)
 {b:Bool} (hb:eH ops.toList F o=some b):Region.wanted o (yielded ops act.tmps)=b:=by
 unfold eH at hb
 unfold Region.wanted
 cases hgd:o.guard with
 | none=>rw [hgd] at hb; simpa using hb
 | some jw =>
  obtain ⟨j,want⟩:=jw
  rw [hgd] at hb
  simp only at hb ⊢
  cases hdj:pJ ops.toList j with
  | none=>rw [hdj] at hb; simp at hb
  | some d =>
   rw [hdj] at hb
   simp only at hb
   have hgo:(ops[j]?).bind (·.dst)=some d:=by simpa [pJ] using hdj
   have hm:d∈o.looksAt ops:=by
    unfold Oper.looksAt
    refine List.mem_append_right _ ?_
    rw [hgd]
    simp [hgo]
   have hy:yielded ops act.tmps j=match act.tmps[d]? with
    | some (.bool b)=>some b
    | _=>none:=by
    unfold yielded
    rw [hgo]
    rfl
   have slot:∀ {c:AV},F[d]?=some (some c)->∃ v,act.tmps[d]?=some v/\VR G w C c v:=fun {c} hc=>by
    have hlt:d < act.tmps.size:=by
     rw [<- h.len,<- (dK hat.st).1]
     rcases Nat.lt_or_ge d F.length with h' | h'
     · exact h'
     · rw [List.getElem?_eq_none h'] at hc; simp at hc
    refine ⟨act.tmps[d],Array.getElem?_eq_getElem hlt,?_⟩
    have:=h.look hreg hat hi hw hm hc
    simpa [Array.getD_eq_getD_getElem?,Array.getElem?_eq_getElem hlt] using this
   split at hb
   · rename_i c hF
     obtain ⟨v,hv,hvr⟩:=slot hF
     cases hvr
     rw [hy,hv]
     simpa using hb
   · rename_i hF
     obtain ⟨v,hv,hvr⟩:=slot hF
     cases hvr
     rw [hy,hv]
     simpa [undef] using hb
   · simp at hb
theorem b6L (hT:TOk P X.T) (hM:Mok P X.M) (hreg:vR ops=true) {K:Fr->Heap->Prop} {Q:Exit->Act->World->Prop} {act:Act}
 (hp:sM X.T ops.toList ab H0 C0) (hF:FrR G0 w0 C0 F0 act.tmps) (hH:HR G0 w0 C0 H0) (hdf:act.defers=defers)
 (h:X3 P X ops.toList (needs ops.toList []) ab hs ops.toList 0 0 ⟨[H0],[],[]⟩ K F0 H0)
 (hK:∀ F' H' act' w' G' C',Ev G0 w0 C0 G' w' C'->FrR G' w' C' F' act'.tmps->HR G' w' C' H'->Pd (fun id=>id < ab) C0 H0 C' H'->act'.defers=defers->K F' H'->Q .normal act' w') :
 wpAny P .any ops Q ops.size (Array.replicate ops.size false) act w0:=by
 obtain ⟨Fn,Hn,rn,D,hst,hD,hchain,hreads⟩:=pF (F0:=F0) (H0:=H0) ops.toList 0 0 _ _ _ ye_ rfl vK.start h
 have hKn:=b6f _ _ hreads
 have hlen:ops.toList.length=ops.size:=by simp
 rw [hlen] at hst hD
 -- the end
 have fin:∀ (listed:Array Bool) (act:Act) (w:World) (G:Nat->Prop) (C:Cx) (k:Nat) (H:Heap),a7c X ops ab hs F0 H0 G0 w0 C0 D defers listed act w G C k H->left ops.size listed=0->Q .normal act w:=by
  intro listed act w G C k H hI hl
  have hall:∀ j,j < ops.size->lit listed j=true:=fun j hj=>by
   have:=List.countP_eq_zero.1 hl j (List.mem_range.2 hj)
   simpa using this
  have hk:k=D.es.length:=by
   have hlt:k < D.hs.length:=by
    rcases Nat.lt_or_ge k D.hs.length with h' | h'
    · exact h'
    · have:=hI.heap; rw [List.getElem?_eq_none h'] at this; simp at this
   rw [hD.len] at hlt
   rcases Nat.lt_or_ge k D.es.length with h' | h'
   · have he:=List.getElem?_eq_getElem h'
     have:=(hI.turns k _ he).1 (hall _ (hD.lt _ _ he))
     omega
   · omega
  subst hk
  have hHe:H=Hn:=by have:=hI.heap.symm.trans hD.last; simpa using this
  subst hHe
  refine hK Fn H act w G C hI.ev ⟨by rw [(dK hst).1]; exact hI.len,fun t a ht=>?_⟩ hI.hr hI.pd hI.defers hKn
  by_cases hx:∃ j p,j < ops.size/\ops[j]?=some p/\p.dst=some t
  · obtain ⟨j,p,hj,hp,hd⟩:=hx
    obtain ⟨o',F',Hj,rj,aj,Hj',hatj⟩:=vL hst hj
    obtain rfl:o'=p:=by have:=eD.1 hp; rw [hatj.op] at this; simpa using this
    have:=a1h hst hj hatj hd (fun m q h1 h2 h3 h4=>(mH hreg (eD.2 h3) hp ya_ hd).1 h4) _ ht
    simp only [Option.some.injEq] at this
    subst this
    refine hI.new j o' F' Hj rj _ Hj' (hall j hj) hatj t hd ?_
    rw [<- (dK hst).1]
    rcases Nat.lt_or_ge t Fn.length with h' | h'
    · exact h'
    · rw [List.getElem?_eq_none h'] at ht; simp at ht
  · have hno:∀ (j:Nat) (p:Oper),j < ops.size->ops.toList[j]?=some p->p.dst≠some t:=fun j p hj hp hd=>hx ⟨j,p,hj,eD.2 hp,hd⟩
    rw [a1g hst hno] at ht
    refine hI.old t a (fun j p hlj hp hd=>hno j p ?_ (eD.1 hp) hd) ht
    exact (Array.getElem?_eq_some_iff.1 hp).1
 -- someone is ready
 have some_ready:∀ (listed:Array Bool),listed.size=ops.size->Region.ready .any ops listed=[]->left ops.size listed=0:=by
  intro listed hsz hr
  have hall:∀ n,n<=ops.size->∀ j,j < n->lit listed j=true:=by
   intro n
   induction n with
   | zero=>intro _ j hj; omega
   | succ n ih =>
    intro hn j hj
    rcases Nat.lt_or_ge j n with h' | h'
    · exact ih ya_ j h'
    · obtain rfl:j=n:=by omega
      cases hb:lit listed j with
      | true=>rfl
      | false =>
       have hoj:ops[j]?=some ops[j]:=Array.getElem?_eq_getElem ya_
       have:j∈Region.ready .any ops listed:=mem_ready.2 ⟨by
        have hlt:j < listed.size:=by omega
        simpa [lit,Array.getD_eq_getD_getElem?,Array.getElem?_eq_getElem hlt] using hb,_,hoj,fun e he hbd=>ih ya_ e.on (b6c hreg hoj e he hbd)⟩
       rw [hr] at this
       simp at this
  refine List.countP_eq_zero.2 fun j hj=>?_
  simp [hall ops.size (Nat.le_refl _) j (List.mem_range.1 hj)]
 -- each step
 have main:∀ (fuel:Nat) (listed:Array Bool) (act:Act) (w:World) (G:Nat->Prop) (C:Cx) (k:Nat) (H:Heap),a7c X ops ab hs F0 H0 G0 w0 C0 D defers listed act w G C k H->left ops.size listed<=fuel->wpAny P .any ops Q fuel listed act w:=by
  intro fuel
  induction fuel with
  | zero =>
   intro listed act w G C k H hI hl
   refine ⟨?_,fin listed act w G C k H hI ya_⟩
   cases hr:Region.ready .any ops listed with
   | nil=>rfl
   | cons i rest =>
    have hi:i∈Region.ready .any ops listed:=by rw [hr]; simp
    obtain ⟨h1,o,ho,_⟩:=mem_ready.1 hi
    have hlt:i < ops.size:=(Array.getElem?_eq_some_iff.1 ho).1
    have h2:=List.countP_eq_zero.1 (show left ops.size listed=0 by omega) i (List.mem_range.2 hlt)
    have hlt':i < listed.size:=by rw [hI.size]; exact hlt
    simp [lit,Array.getD_eq_getD_getElem?,Array.getElem?_eq_getElem hlt'] at h1 h2
    rw [h1] at h2; simp at h2
  | succ fuel ih =>
   intro listed act w G C k H hI hl
   refine ⟨fun hr=>fin listed act w G C k H hI (some_ready listed hI.size hr),fun i hi=>?_⟩
   obtain ⟨h1,o,ho,hedges⟩:=mem_ready.1 hi
   have hlt:i < ops.size:=(Array.getElem?_eq_some_iff.1 ho).1
   have hlt':i < listed.size:=by rw [hI.size]; exact hlt
   have hil:lit listed i=false:=by simpa [lit,Array.getD_eq_getD_getElem?,Array.getElem?_eq_getElem hlt'] using h1
   obtain ⟨o',F,Hi,r,a,H',hat⟩:=vL hst hlt
   obtain rfl:o'=o:=by have:=eD.1 ho; rw [hat.op] at this; simpa using this
   have hw:∀ j,waits (needs ops.toList []) i j=true->lit listed j=true:=fun j hj=>by
    obtain ⟨e,he,hb,hor⟩:=b4Y hat.op hj
    have hle:=hedges e he hb
    rcases hor with rfl | hor
    · exact hle
    · exact hI.closed _ _ hle hor
   have hclosed:∀ x y,lit (listed.setIfInBounds i true) x=true->waits (needs ops.toList []) x y=true->lit (listed.setIfInBounds i true) y=true:=fun x y hx hy=>by
    rw [jU hlt'] at hx ⊢
    by_cases e1:i=y
    · simp [e1]
    · simp only [e1,if_false]
      by_cases e2:i=x
      · subst e2; exact hw y hy
      · simp only [e2,if_false] at hx
        exact hI.closed x y hx hy
   have hleft:left ops.size (listed.setIfInBounds i true)<=fuel:=by
    have:=c9G (n:=ops.size) hI.size hlt hil
    omega
   have hdstne:∀ (j:Nat) (p:Oper),j≠i->ops[j]?=some p->∀ d,o'.dst=some d->p.dst≠some d:=fun j p hj hp d hd=>(mH hreg hp ho hj hd).1
   have hsize:(listed.setIfInBounds i true).size=ops.size:=by simp [hI.size]
   -- the new slots
   have tmps_ne:∀ (v:Value) (d:Nat),o'.dst≠some d->(act.put o'.dst v).tmps.getD d undef=act.tmps.getD d undef:=fun v d hd=>by
    cases hdst:o'.dst with
    | none=>rfl
    | some c =>
     have:c≠d:=fun e=>hd (by rw [hdst,e])
     simp [Act.put,Array.getD_eq_getD_getElem?,Array.getElem?_setIfInBounds,this]
   have tmps_eq:∀ (v:Value) (d:Nat),o'.dst=some d->d < act.tmps.size->(act.put o'.dst v).tmps.getD d undef=v:=fun v d hd hlt=>by
    rw [hd]
    simp [Act.put,Array.getD_eq_getD_getElem?,hlt]
   have tmps_sz:∀ (v:Value),(act.put o'.dst v).tmps.size=act.tmps.size:=fun v=>by
    cases o'.dst <;> simp [Act.put]
   -- one more is listed
   have go:∀ (v:Value) (w':World) (G':Nat->Prop) (C':Cx) (k':Nat) (H2:Heap),Ev G w C G' w' C'->HR G' w' C' H2->VR G' w' C' a v->Pd (fun id=>R5 o'=true->id≠ab+r) C H C' H2->D.hs[k']?=some H2 ->
    (∀ (m e:Nat),D.es[m]?=some e->(lit (listed.setIfInBounds i true) e=true↔m < k'))->wpAny P .any ops Q fuel (listed.setIfInBounds i true) (act.put o'.dst v) w':=by
    intro v w' G' C' k' H2 hev hhr hv hpd hhs hturn
    refine ih _ _ w' G' C' k' H2 ⟨hI.ev.trans hev,hhs,hhr,hsize,hclosed,hturn,by rw [tmps_sz]; exact hI.len,fun j p Fj Hj rj aj Hj' hlj hatj d hd hdl=>?_,fun d b hno hb=>?_,fun j p Fj Hj rj aj Hj' t hlj hatj ht=>?_,?_,by rw [Act.wZ]; exact hI.defers⟩ hleft
    · rw [jU hlt'] at hlj
      by_cases e:i=j
      · subst e
        obtain ⟨rfl,rfl,rfl,rfl,rfl,rfl⟩:=hat.same hatj
        rw [tmps_eq v d hd (by rw [<- hI.len]; exact hdl)]
        exact hv
      · simp only [e,if_false] at hlj
        have hpd2:o'.dst≠some d:=fun hd2=>hdstne j p (fun e2=>e e2.symm) (eD.2 hatj.op) d hd2 hd
        rw [tmps_ne v d hpd2]
        exact (hI.new j p Fj Hj rj aj Hj' hlj hatj d hd hdl).ev hev
    · have hd:o'.dst≠some d:=hno i o' (by rw [jU hlt']; simp) ho
      rw [tmps_ne v d hd]
      exact (hI.old d b (fun j p hlj hp=>hno j p (by rw [jU hlt']; simp [hlj]) hp) hb).ev hev
    · rw [jU hlt'] at hlj
      have hne:i≠j:=fun e=>by simp [e] at hlj
      simp only [hne,if_false] at hlj
      obtain ⟨ti,h3,h4,h5⟩:=hI.pend j p Fj Hj rj aj Hj' t hlj hatj ht
      have hlt2:ab+rj < H.length:=by
       rcases Nat.lt_or_ge (ab+rj) H.length with h' | h'
       · exact h'
       · rw [List.getElem?_eq_none h'] at h4; simp at h4
      have hne2:R5 o'=true->ab+rj≠ab+r:=fun ha e=>by
       have hr1:=(dK hat.st).2
       have hr2:=(dK hatj.st).2
       rcases Nat.lt_or_gt_of_ne hne with h' | h'
       · have:=b0S hat.op ha h'; omega
       · have:=b0S hatj.op (xD.2 ⟨t,ht⟩) h'; omega
      obtain ⟨h6,h7,h8⟩:=hpd.2 _ hlt2 hne2 h5
      exact ⟨ti,h3,h8.trans h4,h6⟩
    · exact hI.pd.trans (hpd.b0i (Nat.le_add_right _ _))
   -- which of the objects' states it is
   have unlisted_turn:eH ops.toList F o'≠some true\/X7 X F o'≠.E->∀ (m e:Nat),D.es[m]?=some e->(lit (listed.setIfInBounds i true) e=true↔m < k):=fun hn m e he=>by
    have hne:i≠e:=fun e2=>by
     subst e2
     obtain ⟨o2,F2,H2,r2,a2,H2',hat2,hw2,hc2⟩:=hD.back m i he
     obtain ⟨rfl,rfl,_⟩:=hat.same hat2
     rcases hn with hn | hn
     · exact hn hw2
     · exact hn hc2
    rw [jU hlt']
    simp only [hne,if_false]
    exact hI.turns m e he
   unfold wpOp
   simp only [ho]
   cases hwf:eH ops.toList F o' with
   | none=>have:=hat.step; simp [zB,hwf] at this
   | some b =>
    have hwanted:=hI.wanted hreg hat hil hw hwf
    cases b with
    | false =>
     rw [if_neg (by rw [hwanted]; simp)]
     have hst':=hat.step
     simp only [zB,hwf,Option.some.injEq,Prod.mk.injEq] at hst'
     obtain ⟨rfl,rfl⟩:=hst'
     exact go undef w G C k H (Ev.refl ..) hI.hr (.skip _) Pd.refl hI.heap (unlisted_turn (.inl (by rw [hwf]; simp)))
    | true =>
     rw [if_pos hwanted]
     refine .inl ?_
     have hsat:Sat P X F Hi (ab+r) o' a H':=hD.sat i o' F Hi r a H' hlt hat hwf
     have hFs:FrR G w C (only (o'.looksAt ops) 0 F) act.tmps:=⟨by rw [b0g,(dK hat.st).1]; exact hI.len,fun t b ht=>by
      rw [a3s] at ht
      cases hFt:F[t]? with
      | none=>rw [hFt] at ht; simp at ht
      | some x =>
       rw [hFt] at ht
       simp only [Option.map_some,Nat.zero_add,Option.some.injEq] at ht
       split at ht
       · rename_i hc
         subst ht
         exact hI.look hreg hat hil hw (by simpa using hc) hFt
       · simp at ht⟩
     have har:∀ t,o'.op=.alloc t->∃ ti,X.T t=some ti/\H[ab+r]?=some ⟨0,ti.size,[ti.zero],none⟩/\C.ι (ab+r)=none:=fun t ht=>hI.pend i o' F Hi r a H' t hil hat ht
     have hklt:k < D.es.length+1:=by
      rw [<- hD.len]
      rcases Nat.lt_or_ge k D.hs.length with h' | h'
      · exact h'
      · have:=hI.heap; rw [List.getElem?_eq_none h'] at this; simp at this
     cases hc:X7 X F o' with
     | P =>
      have hev1:=hsat.yN yq_
      have he:Sat P X F H (ab+r) o' a H:=.of ((d2M hc hev1).2 H)
      rw [<- a2a (F:=only (o'.looksAt ops) 0 F) a3r] at he
      exact he.sound hT hM hFs hI.hr har fun v w' G' C' h3 h4 h5 h6=>go v w' G' C' k H h3 h4 h5 h6 hI.heap (unlisted_turn (.inr yq_))
     | R =>
      have hev1:=hsat.yN yq_
      have hload:=b4H hc
      obtain ⟨kr,hrd,hhr⟩:=hD.read i o' F Hi r a H' hlt hat hwf hc
      have he:ev1 X F H (ab+r) o'=some (a,H):=by
       by_cases hkk:k=kr
       · subst hkk
         have:Hi=H:=by have:=hhr.symm.trans hI.heap; simpa using this
         subst this
         have:=(a3H hload hev1).1
         subst this
         exact hev1
       · obtain ⟨Q2,hs2⟩:=b6e D.rs _ hreads _ hrd
         have hlo:=countB_le (p:=fun e=>waits (needs ops.toList []) i e) D.es k fun m e hm hwt=>(hI.turns m e hm).1 (hw e hwt)
         have hhi:=a8d (p:=fun e=>!waits (needs ops.toList []) e i) D.es k (fun m e hm hmk=>by
          have hle:=(hI.turns m e hm).2 hmk
          cases hb:waits (needs ops.toList []) e i with
          | false=>rfl
          | true =>
           have:=hI.closed e i hle hb
           rw [hil] at this; simp at this) ya_
         have he2:=a0W D.hs 0 _ hs2 k H hI.heap (by simpa using hlo) (by simpa using hhi) (by simpa using hkk)
         exact (a3H hload he2).2 _
      have he:Sat P X F H (ab+r) o' a H:=.of he
      rw [<- a2a (F:=only (o'.looksAt ops) 0 F) a3r] at he
      exact he.sound hT hM hFs hI.hr har fun v w' G' C' h3 h4 h5 h6=>go v w' G' C' k H h3 h4 h5 h6 hI.heap (unlisted_turn (.inr yq_))
     | E =>
      obtain ⟨m,hm,hh1,hh2⟩:=hD.turn i o' F Hi r a H' hlt hat hwf hc
      have hmk:m=k:=by
       have h3:¬ m < k:=fun h=>by have:=(hI.turns m i hm).2 h; rw [hil] at this; simp at this
       rcases Nat.eq_zero_or_pos m with h0 | h0
       · rcases Nat.eq_zero_or_pos k with h4 | h4
         · omega
         · omega
       · obtain ⟨q,rfl⟩:∃ q,m=q+1:=⟨m - 1,by omega⟩
         have hq:q < D.es.length:=by
          rcases Nat.lt_or_ge q D.es.length with h' | h'
          · exact h'
          · rw [List.getElem?_eq_none ya_] at hm; simp at hm
         have hq':=List.getElem?_eq_getElem hq
         have hwt:=c5l D.es hchain q _ i hq' hm
         have:=(hI.turns q _ hq').1 (hw _ hwt)
         omega
      subst hmk
      have:Hi=H:=by have:=hh1.symm.trans hI.heap; simpa using this
      subst this
      have he:=hsat
      rw [<- a2a (F:=only (o'.looksAt ops) 0 F) a3r] at he
      refine he.sound hT hM hFs hI.hr har fun v w' G' C' h3 h4 h5 h6=>go v w' G' C' (m+1) H' h3 h4 h5 h6 hh2 fun m' e he'=>?_
      rw [jU hlt']
      by_cases e2:i=e
      · subst e2
        have:=hD.inj m' m i he' hm
        simp [this]
      · simp only [e2,if_false]
        rw [hI.turns m' e he']
        refine ⟨fun h=>by omega,fun h=>?_⟩
        rcases Nat.lt_or_ge m' m with h' | h'
        · exact h'
        · obtain rfl:m'=m:=by omega
          rw [hm] at he'
          simp at he'
          exact absurd he' e2
 refine main ops.size _ act w0 G0 C0 0 H0 ⟨Ev.refl ..,hD.zero,hH,by simp,fun i j hi=>?_,fun m e he=>?_,hF.1,fun j o F Hj r a H' hj=>?_,fun d a _ hd=>hF.2 d a hd,fun j o F Hj r a H' t hj hat ht=>?_,Pd.refl,hdf⟩ ?_
 · simp [lit,Array.getD_eq_getD_getElem?,Array.getElem?_replicate] at hi
   split at hi <;> simp at hi
 · refine ⟨fun hi=>?_,fun hi=>by omega⟩
   simp [lit,Array.getD_eq_getD_getElem?,Array.getElem?_replicate] at hi
   split at hi <;> simp at hi
 · simp [lit,Array.getD_eq_getD_getElem?,Array.getElem?_replicate] at hj
   split at hj <;> simp at hj
 · obtain ⟨al,ha,hq⟩:=hp
   obtain ⟨ti,h1,h2⟩:=b9L _ al ha j o t hat.op ht
   rw [<- (dK hat.st).2] at h2
   exact ⟨ti,h1,hq r _ h2⟩
 · have:=List.countP_le_length (p:=fun j=>!lit (Array.replicate ops.size false) j) (l:=List.range ops.size)
   simpa [left] using this
end
def codeOk:Code->Bool
 | .region _ ops draw=>match draw with
  | false=>true
  | true=>vR ops
 | .seq a b=>match codeOk a with
  | true=>codeOk b
  | false=>false
 | .cond _ a b=>match codeOk a with
  | true=>codeOk b
  | false=>false
 | .block _ c=>codeOk c
 | .loop c=>codeOk c
 | _=>true
def Ex.exit':Ex->Exit
 | .normal=>.normal
 | .exit id=>.exit id
 | .ret=>.ret
theorem qU {b:Nat}:∀ (xs:List (List AV)),AV.F3 b xs=true->∀ i,i < xs.length->AV.bdds b (xs.getD i [])=true
 | [],_,i,hi=>by simp at hi
 | x :: xs,h,0,_=>by simp [AV.F3] at h; simpa using h.1
 | x :: xs,h,i+1,hi=>by
  simp [AV.F3] at h
  simpa using qU xs h.2 i yb_
section
variable {P:Program} {X:Env} {G G':Nat->Prop} {w w':World} {C C':Cx} {F F':Fr} {act:Act} {H H':Heap}
theorem HR.world (h:HR G w C H) (hw:w'.heap=w.heap):HR G w' C H:=by
 refine ⟨h.gen,h.out,fun id l b hl hlb=>by rw [hw]; exact h.own id l b hl hlb,h.inj,fun id o l ho hl=>?_,fun b hb=>by rw [hw]; exact h.gsz b hb⟩
 obtain ⟨hk,hrm,hno,hlen,hrow,hcs0⟩:=h.ob id o l ho hl
 refine ⟨hk,hrm,hno,hlen,hrow,fun b hlb=>?_⟩
 obtain ⟨cs,t,hc,hcs,hcell⟩:=hcs0 b hlb
 exact ⟨cs,t,by rw [hw]; exact hc,hcs,fun i j hi hj=>⟨(hcell i j hi hj).1,(hcell i j hi hj).2.mono (fun _ h=>h) (fun b _=>by rw [hw]) (Y5.refl _)⟩⟩
theorem FrR.world {tmps:Array Value} (h:FrR G w C F tmps) (hw:w'.heap=w.heap):FrR G w' C F tmps:=⟨h.1,fun t a ht=>(h.2 t a ht).mono (fun _ h=>h) (fun b _=>by rw [hw]) (Y5.refl _)⟩
theorem FrR.told {tmps:Array Value} (h:FrR G w C F tmps) (t:Nat) (a:AV) (ha:VR G w C a (tmps.getD t undef)):FrR G w C (F.set t (some a)) tmps:=by
 refine ⟨by simpa using h.1,fun q b hq=>?_⟩
 rw [List.getElem?_set] at hq
 by_cases e:t=q
 · subst e
   simp only [if_true] at hq
   split at hq
   · simp at hq; subst hq; exact ha
   · simp at hq
 · simp only [e,if_false] at hq
   exact h.2 q b hq
theorem gN (hH:HR G w C H) {id g k e n:Nat} {v:Value} {xs:List (List AV)} (hv:VR G w C (.osl id g k e n) v) (hr:I5 H k (.osl id g k e n)=some xs) (hb:AV.F3 0 xs=true) :
 ∃ G' C',Ev G w C G' w C'/\HR G' w C' (H.modify id fun o=>{ gen:=o.gen+1,k:=o.k,els:=[] })/\VR G' w C' (.sl .any k xs) v/\Pd V5 C H C' (H.modify id fun o=>{ gen:=o.gen+1,k:=o.k,els:=[] }):=by
 simp only [I5] at hr
 split at hr
 case h_2=>simp at hr
 rename_i o ho
 split at hr
 case isFalse=>simp at hr
 rename_i hc
 obtain ⟨hg,_,hen⟩:=hc
 simp only [Option.some.injEq] at hr
 have hγ:=hH.gen id o ho
 have hself:=hv
 cases hv with
 | osl0 _ _ _ _ _ base hle hl =>
  obtain ⟨l,hι,hlb,hlk⟩:=hl ya_
  have hidlt:id < H.length:=hH.lt hι
  have hHH:=hH.upd (G':=G) (w':=w) (C':=C.lay id none (g+1)) (H':=H.modify id fun o=>{ gen:=o.gen+1,k:=o.k,els:=[] }) id { gen:=o.gen+1,k:=o.k,els:=[] } rfl rfl rfl
   (fun j hj=>Cx.L6 _ _ _ _ hj) yl_ (fun e2=>by rw [Cx.bG] at e2; omega) (fun j hj=>by simp [List.getElem?_modify,Ne.symm hj]) (by simp [List.getElem?_modify,ho]) ye_ ya_
   (by rw [Cx.bG]; simp; omega) (fun _ h=>h) (fun b hb=>.inl hb) (fun _ _ _=>rfl) (Nat.le_refl _) (fun b hb=>hH.gsz b hb) (fun l' b hl' _=>by rw [Cx.U3] at hl'; simp at hl') (fun _=>rfl) (fun l' hl'=>by rw [Cx.U3] at hl'; simp at hl')
  refine ⟨_,_,hHH.1,hHH.2,?_,⟨by simp,fun j hj _ hi=>?_⟩⟩
  · have:xs=[]:=by rw [<- hr]; simp
    subst this
    cases base with
    | none=>exact .nils _ _ _ ye_
    | some ad=>exact .sl _ .any [] k ad 0 ye_ ye_ ye_ ye_ (fun _ _=>undef) ye_ ye_ ye_ ye_
  · have hne:j≠id:=fun e=>by subst e; rw [hι] at hi; simp at hi
    exact ⟨by rw [(Cx.L6 _ _ _ _ hne).1]; exact hi,(Cx.L6 _ _ _ _ hne).2,by simp [List.getElem?_modify,Ne.symm hne]⟩
 | osl _ _ _ _ _ _ ad cap hnc hle hl =>
  obtain ⟨l,bb,hι,hlb,hlk,hlen,hcap,had⟩:=hl ya_
  have hob:=hH.ob id o l ho hι
  have hidlt:id < H.length:=hH.lt hι
  have hHH:=hH.upd (G':=fun b=>G b\/b=bb) (w':=w) (C':=C.lay id none (g+1)) (H':=H.modify id fun o=>{ gen:=o.gen+1,k:=o.k,els:=[] }) id { gen:=o.gen+1,k:=o.k,els:=[] } rfl rfl rfl
   (fun j hj=>Cx.L6 _ _ _ _ hj) yl_ (fun e2=>by rw [Cx.bG] at e2; omega) (fun j hj=>by simp [List.getElem?_modify,Ne.symm hj]) (by simp [List.getElem?_modify,ho]) ye_ ya_
   (by rw [Cx.bG]; simp; omega) (fun _ h=>.inl h) (fun b hb=>hb.imp (fun h=>h) fun h=>.inl ⟨l,hι,by rw [h]; exact hlb⟩) (fun _ _ _=>rfl) (Nat.le_refl _) (fun b hb=>hb.elim (hH.gsz b) fun h=>h ▸ (hH.own id l bb hι hlb).1) (fun l' b hl' _=>by rw [Cx.U3] at hl'; simp at hl') (fun _=>rfl) (fun l' hl'=>by rw [Cx.U3] at hl'; simp at hl')
  refine ⟨_,_,hHH.1,hHH.2,?_,⟨by simp,fun j hj _ hi=>?_⟩⟩
  · have hxl:xs.length=n:=by rw [<- hr]; simp; omega
    have hrow:∀ i,i < n->xs.getD i []=o.els.getD (e+i) []:=fun i hi=>by
     rw [<- hr]; simp [List.getD_eq_getElem?_getD,List.getElem?_take,List.getElem?_drop,hi]
    rw [<- hxl]
    refine VR.sl _ .any xs k ad cap ye_ ye_ ya_ (fun hx=>?_) (fun i j=>(w.cell? ⟨bb,l.sh+(e+i) * l.k+j,none⟩).getD undef) (fun i hi=>?_) (fun i j hi hj=>?_) (fun i j hi hj=>?_) fun i j hi hj=>?_
    · have hn:0 < n:=by rw [<- hxl]; exact List.length_pos_iff.2 hx
      rw [had (by have:=hob.len; omega)]
      exact ⟨rfl,.inr rfl⟩
    · rw [hrow i ya_,<- hlk]; exact hob.row _ ya_
    all_goals
     have hn:0 < n:=by omega
     obtain ⟨v,h1,h2,h3⟩:=hob.there hlb (i:=e+i) (j:=j) ya_ ya_
    · rw [had (by have:=hob.len; omega),h1,Option.getD_some,<- h1]
      congr 2
      simp only
      rw [hlk,Nat.add_mul]
      omega
    · rw [h1]; exact h2
    · rw [h1,Option.getD_some,hrow i ya_]
      have hbd:=bI _ (qU _ hb i hi) j (by rw [hrow i ya_,hob.row _ ya_]; omega)
      rw [hrow i ya_] at hbd
      exact (h3.cut 0 hbd).mono (fun _ h=>.inl h) (fun _ _=>rfl) (fun id=>by
       simp only [Cx.cut,Nat.not_lt_zero,if_false,Cx.none]
       exact ⟨Nat.le_refl _,fun _ l hl=>by simp at hl⟩)
  · have hne:j≠id:=fun e=>by subst e; rw [hι] at hi; simp at hi
    exact ⟨by rw [(Cx.L6 _ _ _ _ hne).1]; exact hi,(Cx.L6 _ _ _ _ hne).2,by simp [List.getElem?_modify,Ne.symm hne]⟩
end
def Tg.le:Tg->Tg->Bool
 | _,.any=>true
 | .nil,.nil=>true
 | .clip,.clip=>true
 | .op,.op=>true
 | .cn,.cn=>true
 | .nil,.cn=>true
 | .clip,.cn=>true
 | _,_=>false
mutual
def AV.wk:AV->AV->Prop
 | .sl g k xs,b=>match b with
  | .sl g' k' ys=>g.le g'=true/\xs=ys/\(k=k'\/xs=[])
  | .unk=>True
  | _=>False
 | .agg xs,b=>match b with
  | .agg ys=>AV.wks xs ys
  | .unk=>True
  | _=>False
 | .tup xs,b=>match b with
  | .tup ys=>AV.wks xs ys
  | .unk=>True
  | _=>False
 | a,b=>match b with
  | .unk=>True
  | b=>a=b
def AV.wks:List AV->List AV->Prop
 | [],ys=>match ys with
  | []=>True
  | _=>False
 | a :: as_,ys=>match ys with
  | b :: bs=>AV.wk a b/\AV.wks as_ bs
  | []=>False
end
theorem AV.a2b:∀ {xs ys:List AV},AV.wks xs ys->xs.length=ys.length/\∀ i,i < xs.length->AV.wk (xs.getD i .skip) (ys.getD i .skip)
 | [],[],_=>⟨rfl,fun i hi=>by simp at hi⟩
 | [],_ :: _,h=>by simp [AV.wks] at h
 | _ :: _,[],h=>by simp [AV.wks] at h
 | a :: as_,b :: bs,h=>by
  simp only [AV.wks] at h
  obtain ⟨h1,h2⟩:=AV.a2b h.2
  refine ⟨by simp [h1],fun i hi=>?_⟩
  cases i with
  | zero=>simpa using h.1
  | succ i=>simpa using h2 i yb_
theorem AV.l5 (a:AV):AV.wk a a:=by
 have key:(∀ a:AV,AV.wk a a)/\True:=⟨fun a=>by
  induction a using AV.rec (motive_2:=fun l=>AV.wks l l) (motive_3:=fun _=>True) with
  | nil=>simp [AV.wks]
  | cons a l h1 h2=>exact ⟨h1,h2⟩
  | agg cs h=>exact h
  | tup cs h=>exact h
  | sl g k xs _=>exact ⟨by cases g <;> rfl,rfl,.inl rfl⟩
  | _=>first | exact rfl | trivial,trivial⟩
 exact key.1 a
theorem VR.wk {G:Nat->Prop} {w:World} {C:Cx} {a:AV} {v:Value} (h:VR G w C a v):∀ {b:AV},AV.wk a b->VR G w C b v:=by
 induction h with
 | agg C xs vs hs h1 h ih =>
  intro b hb
  cases b <;> simp only [AV.wk] at hb <;> try exact .unk ..
  obtain ⟨e,hw⟩:=AV.a2b hb
  exact .agg _ _ _ ya_ (fun i hi=>h1 i ya_) fun i hi=>ih i ya_ (hw i ya_)
 | tup C xs vs hs h ih =>
  intro b hb
  cases b <;> simp only [AV.wk] at hb <;> try exact .unk ..
  obtain ⟨e,hw⟩:=AV.a2b hb
  exact .tup _ _ _ ya_ fun i hi=>ih i ya_ (hw i ya_)
 | nils C g k hg =>
  intro b hb
  cases b <;> simp only [AV.wk] at hb <;> try exact .unk ..
  rename_i g' k' ys
  obtain ⟨h1,rfl,_⟩:=hb
  refine .nils _ _ _ ?_
  rcases hg with rfl | rfl | rfl <;> cases g' <;> simp [Tg.le] at h1 ⊢
 | sl C g xs k ad cap hg hclip hle hs cv hk hc h1 h ih =>
  intro b hb
  cases b <;> simp only [AV.wk] at hb <;> try exact .unk ..
  rename_i g' k' ys
  obtain ⟨h2,rfl,h3⟩:=hb
  have hg':g'≠.nil:=by cases g <;> cases g' <;> simp [Tg.le] at h2 hg ⊢
  have hcl':g'=.clip\/g'=.cn->cap=xs.length:=by
   intro h4
   apply hclip
   cases g <;> cases g' <;> simp [Tg.le] at h2 hg h4 ⊢
  rcases h3 with rfl | rfl
  · exact .sl _ _ _ _ _ _ hg' hcl' hle hs cv hk hc h1 h
  · exact .sl _ _ _ _ _ _ hg' hcl' hle hs cv (fun i hi=>by simp at hi) (fun i j hi=>by simp at hi) (fun i j hi=>by simp at hi) (fun i j hi=>by simp at hi)
 | func C f xs vs hs h ih =>
  intro b hb
  cases b <;> simp only [AV.wk] at hb <;> first | exact .unk .. | (simp at hb; done) | skip
  simp at hb
  obtain ⟨rfl,rfl⟩:=hb
  exact .func _ _ _ _ hs h
 | iface C t a v h ih =>
  intro b hb
  cases b <;> simp only [AV.wk] at hb <;> first | exact .unk .. | (simp at hb; done) | skip
  simp at hb
  obtain ⟨rfl,rfl⟩:=hb
  exact .iface _ _ _ _ h
 | ref C cs c b o hG cv hc h1 h ih =>
  intro b hb
  cases b <;> simp only [AV.wk] at hb <;> first | exact .unk .. | (simp at hb; done) | skip
  simp at hb
  obtain ⟨rfl,rfl⟩:=hb
  exact .ref _ _ _ _ _ hG cv hc h1 h
 | obj C id g e c ad hle h =>
  intro b hb
  cases b <;> simp only [AV.wk] at hb <;> first | exact .unk .. | (simp at hb; done) | skip
  simp at hb
  obtain ⟨rfl,rfl,rfl,rfl⟩:=hb
  exact .obj _ _ _ _ _ _ hle h
 | osl C id g k e n ad cap hnc hle h =>
  intro b hb
  cases b <;> simp only [AV.wk] at hb <;> first | exact .unk .. | (simp at hb; done) | skip
  simp at hb
  obtain ⟨rfl,rfl,rfl,rfl,rfl⟩:=hb
  exact .osl _ _ _ _ _ _ _ _ hnc hle h
 | osl0 C id g k e base hle h =>
  intro b hb
  cases b <;> simp only [AV.wk] at hb <;> first | exact .unk .. | (simp at hb; done) | skip
  simp at hb
  obtain ⟨rfl,rfl,rfl,rfl,rfl⟩:=hb
  exact .osl0 _ _ _ _ _ _ hle h
 | skip C=>intro b hb; cases b <;> simp [AV.wk] at hb <;> first | exact .unk .. | exact .skip _
 | unk C v=>intro b hb; cases b <;> simp [AV.wk] at hb <;> exact .unk ..
 | bool C x=>intro b hb; cases b <;> simp [AV.wk] at hb <;> first | exact .unk .. | (subst hb; exact .bool ..)
 | int C k x=>intro b hb; cases b <;> simp [AV.wk] at hb <;> first | exact .unk .. | (obtain ⟨rfl,rfl⟩:=hb; exact .int ..)
 | str C x=>intro b hb; cases b <;> simp [AV.wk] at hb <;> first | exact .unk .. | (subst hb; exact .str ..)
 | nilp C=>intro b hb; cases b <;> simp [AV.wk] at hb <;> first | exact .unk .. | exact .nilp _
 | nilf C=>intro b hb; cases b <;> simp [AV.wk] at hb <;> first | exact .unk .. | exact .nilf _
 | nili C=>intro b hb; cases b <;> simp [AV.wk] at hb <;> first | exact .unk .. | exact .nili _
theorem vT {G:Nat->Prop} {w:World} {C:Cx} {id g k e n:Nat} {v:Value} (h:VR G w C (.osl id g k e n) v) (hg:g=C.γ id):∃ l,C.ι id=some l/\l.k=k:=by
 cases h with
 | osl _ _ _ _ _ _ ad cap hnc hle h=>obtain ⟨l,b,h1,_,h2,_⟩:=h hg; exact ⟨l,h1,h2⟩
 | osl0 _ _ _ _ _ base hle h=>obtain ⟨l,h1,_,h2⟩:=h hg; exact ⟨l,h1,h2⟩
theorem yr_ {p:Prop} (h:p:=by simpa using hj):p:=h
theorem HR.a9F {G:Nat->Prop} {w:World} {C:Cx} {H:Heap} (hH:HR G w C H) {id:Nat} {o o':Ob} (ho:H[id]?=some o) (hg:o'.gen=o.gen) (hob:∀ l,C.ι id=some l->ObR G w C o l->ObR G w C o' l):HR G w C (H.set id o'):=by
 have hlt:id < H.length:=by
  rcases Nat.lt_or_ge id H.length with h' | h'
  · exact h'
  · rw [List.getElem?_eq_none h'] at ho; simp at ho
 refine ⟨fun j oj hj=>?_,fun j hj=>hH.out j yr_,hH.own,hH.inj,fun j oj l hj hl=>?_,hH.gsz⟩
 · by_cases hji:id=j
   · subst hji
     rw [List.getElem?_set_self hlt] at hj
     obtain rfl:o'=oj:=by simpa using hj
     rw [hg]; exact hH.gen id o ho
   · rw [List.getElem?_set_ne hji] at hj
     exact hH.gen j oj hj
 · by_cases hji:id=j
   · subst hji
     rw [List.getElem?_set_self hlt] at hj
     obtain rfl:o'=oj:=by simpa using hj
     exact hob l hl (hH.ob id o l ho hl)
   · rw [List.getElem?_set_ne hji] at hj
     exact hH.ob j oj l hj hl
theorem uD {H:Heap} {i:Nat} {o:Ob} (ho:H[i]?=some o):i < H.length:=by
 rcases Nat.lt_or_ge i H.length with h' | h'
 · exact h'
 · rw [List.getElem?_eq_none h'] at ho; simp at ho
theorem VR.shows {G:Nat->Prop} {w:World} {C:Cx} {a:AV} {v:Value} (h:VR G w C a v) {id g:Nat} (ha:(∃ e c,a=.obj id g e c)\/∃ k e n,a=.osl id g k e n) (hg:g=C.γ id):∃ l,C.ι id=some l:=by
 rcases ha with ⟨e,c,rfl⟩ | ⟨k,e,n,rfl⟩
 · cases h with
   | obj _ _ _ _ _ ad hle hl=>obtain ⟨l,b,h1,_⟩:=hl hg; exact ⟨l,h1⟩
 · obtain ⟨l,h1,_⟩:=vT h hg
   exact ⟨l,h1⟩
section
variable {P:Program} {G:Nat->Prop} {w:World} {C:Cx} {H:Heap}
theorem HR.a3D (hH:HR G w C H) {id e c:Nat} {o:Ob} {l:Loc} (ho:H[id]?=some o) (hl:C.ι id=some l) (he:e < o.els.length) (hc:c < (o.els.getD e []).length) :
 ∃ b cs et,l.b=some b/\w.heap[b]?=some (.cells cs et (0,0))/\VR G w C ((o.els.getD e []).getD c .skip) (cs.getD (l.sh+e * l.k+c) undef):=by
 have hob:=hH.ob id o l ho hl
 cases hb:l.b with
 | none=>have:=hob.no hb; have:=hob.len; omega
 | some b =>
  obtain ⟨cs,et,h1,h2,h3⟩:=hob.cells b hb
  exact ⟨b,cs,et,rfl,h1,(h3 e c he (by rw [hob.row e he] at hc; exact hc)).2⟩
theorem HR.a3j (hH:HR G w C H) {id e c:Nat} {o:Ob} {l:Loc} {a':AV} {b:Nat} {cs:Array Value} {et:TypeId} (ho:H[id]?=some o) (hl:C.ι id=some l) (hb:l.b=some b) (hw:w.heap[b]?=some (.cells cs et (0,0)))
 (hv:VR G w C a' (cs.getD (l.sh+e * l.k+c) undef)):HR G w C (H.set id { o with els:=o.els.set e ((o.els.getD e []).set c a') }):=by
 refine hH.a9F ho rfl fun l' hl' hx=>?_
 obtain rfl:l=l':=by rw [hl] at hl'; simpa using hl'
 have hlen:∀ i,i < o.els.length->((o.els.set e ((o.els.getD e []).set c a')).getD i []).length=l.k:=fun i hi=>by
  by_cases h':e=i
  · subst h'
    rw [List.getD_eq_getElem?_getD,List.getElem?_set_self hi,Option.getD_some,List.length_set]
    exact hx.row e hi
  · rw [List.getD_eq_getElem?_getD,List.getElem?_set_ne h',<- List.getD_eq_getElem?_getD]
    exact hx.row i hi
 refine ⟨hx.k,hx.rm,hx.no,by simpa using hx.len,fun i hi=>hlen i yb_,fun b' hb'=>?_⟩
 obtain rfl:b=b':=by rw [hb] at hb'; simpa using hb'
 obtain ⟨cs',et',h1,h2,h3⟩:=hx.cells b hb
 rw [hw] at h1
 simp only [Option.some.injEq,Obj.cells.injEq] at h1
 obtain ⟨rfl,rfl,_⟩:=h1
 refine ⟨cs,et,hw,h2,fun i j hi hj=>?_⟩
 simp only [List.length_set] at hi
 obtain ⟨h4,h5⟩:=h3 i j hi hj
 refine ⟨h4,?_⟩
 by_cases h':e=i
 · subst h'
   rw [List.getD_eq_getElem?_getD (l:=o.els.set _ _),List.getElem?_set_self hi,Option.getD_some]
   have hlr:=hx.row e hi
   by_cases hj':c=j
   · subst hj'
     rw [List.getD_eq_getElem?_getD,List.getElem?_set_self ya_,Option.getD_some]
     exact hv
   · rw [List.getD_eq_getElem?_getD,List.getElem?_set_ne hj',<- List.getD_eq_getElem?_getD]
     exact h5
 · rw [List.getD_eq_getElem?_getD (l:=o.els.set _ _),List.getElem?_set_ne h',<- List.getD_eq_getElem?_getD]
   exact h5
theorem a6x (hH:HR G w C H) {id e c id2 g2 k e2 n2:Nat} {o:Ob} {a:AV} {v:Value} {xs:List (List AV)} (ho:H[id]?=some o) (hne:id≠id2) (he:e < o.els.length) (hc:c < (o.els.getD e []).length)
 (hcell:(o.els.getD e []).getD c .skip=.osl id2 g2 k e2 n2) (hr:I5 H k (.osl id2 g2 k e2 n2)=some xs) (hb:AV.F3 0 xs=true) (hv:VR G w C a v) (hl:∃ l,C.ι id=some l) :
 ∃ G' C',Ev G w C G' w C'/\HR G' w C' ((H.modify id2 fun o=>{ gen:=o.gen+1,k:=o.k,els:=[] }).set id { o with els:=o.els.set e ((o.els.getD e []).set c (.sl .any k xs)) })/\VR G' w C' a v /\
  Pd V5 C H C' ((H.modify id2 fun o=>{ gen:=o.gen+1,k:=o.k,els:=[] }).set id { o with els:=o.els.set e ((o.els.getD e []).set c (.sl .any k xs)) }):=by
 obtain ⟨l,hl⟩:=hl
 obtain ⟨b,cs,et,h1,h2,h3⟩:=hH.a3D ho hl he hc
 rw [hcell] at h3
 obtain ⟨G',C',hev,hh,hvv,hp⟩:=gN hH h3 hr hb
 have ho':(H.modify id2 fun o=>{ gen:=o.gen+1,k:=o.k,els:=[] })[id]?=some o:=by
  rw [List.getElem?_modify]; simp [ho,Ne.symm hne]
 have hl':C'.ι id=some l:=(hev.cx id).2 (by rw [<- hh.gen id o ho',<- hH.gen id o ho]) l hl
 refine ⟨G',C',hev,hh.a3j ho' hl' h1 h2 hvv,hv.ev hev,by simp,fun j hj hs hi=>?_⟩
 obtain ⟨p1,p2,p3⟩:=hp.2 j hj hs hi
 have hne':id≠j:=fun e=>by subst e; rw [hl] at hi; simp at hi
 exact ⟨p1,p2,by rw [List.getElem?_set_ne hne']; exact p3⟩
end
theorem a0D {G:Nat->Prop} {w:World} {C:Cx} {H:Heap} (hH:HR G w C H) {id e c:Nat} {o:Ob} {a a':AV} {v:Value} (ho:H[id]?=some o) (he:e < o.els.length) (hc:c < (o.els.getD e []).length)
 (hcell:AV.wk ((o.els.getD e []).getD c .skip) a') (hv:VR G w C a v) (hl:∃ l,C.ι id=some l) :
 ∃ G' C',Ev G w C G' w C'/\HR G' w C' (H.set id { o with els:=o.els.set e ((o.els.getD e []).set c a') })/\VR G' w C' a v/\Pd V5 C H C' (H.set id { o with els:=o.els.set e ((o.els.getD e []).set c a') }):=by
 obtain ⟨l,hl⟩:=hl
 obtain ⟨b,cs,et,h1,h2,h3⟩:=hH.a3D ho hl he hc
 refine ⟨G,C,Ev.refl ..,hH.a3j ho hl h1 h2 (h3.wk hcell),hv,by simp,fun j hj hs hi=>⟨hi,rfl,?_⟩⟩
 have hne':id≠j:=fun e=>by subst e; rw [hl] at hi; simp at hi
 exact List.getElem?_set_ne hne'
section
variable {P:Program} {X:Env} {G G':Nat->Prop} {w w':World} {C C':Cx} {F F':Fr} {act:Act} {H H':Heap}
theorem a7e (hH:HR G w C H) {k0:Nat} {v:Value} (hv:VR G w C (.sl .nil k0 []) v) (k:Nat) :
 ∃ C',Ev G w C G w C'/\HR G w C' (H++[{ gen:=0,k:=k,els:=[] }])/\VR G w C' (.osl H.length 0 k 0 0) v/\Pd V5 C H C' (H++[{ gen:=0,k:=k,els:=[] }]):=by
 obtain ⟨C',h1,h2,h3,h4⟩:=hH.virt k none
 cases hv with
 | nils _ _ _ hg=>exact ⟨C',h1,h2,h3,h4⟩
 | sl _ _ _ _ _ _ hg=>exact absurd rfl hg
theorem nQ (hH:HR G w C H) {id e c k0:Nat} (k:Nat) {o:Ob} {a:AV} {v:Value} (ho:H[id]?=some o) (he:e < o.els.length) (hc:c < (o.els.getD e []).length)
 (hcell:(o.els.getD e []).getD c .skip=.sl .nil k0 []) (hv:VR G w C a v) (hl:∃ l,C.ι id=some l) :
 ∃ G' C',Ev G w C G' w C'/\HR G' w C' (H.set id { o with els:=o.els.set e ((o.els.getD e []).set c (.osl H.length 0 k 0 0)) }++[{ gen:=0,k:=k,els:=[] }])/\VR G' w C' a v /\
  Pd V5 C H C' (H.set id { o with els:=o.els.set e ((o.els.getD e []).set c (.osl H.length 0 k 0 0)) }++[{ gen:=0,k:=k,els:=[] }]):=by
 obtain ⟨l,hl⟩:=hl
 obtain ⟨b,cs,et,h1,h2,h3⟩:=hH.a3D ho hl he hc
 rw [hcell] at h3
 obtain ⟨C',hev,hh,hvv,hp⟩:=a7e hH h3 k
 have hlt:=uD ho
 have ho':(H++[({ gen:=0,k:=k,els:=[] }:Ob)])[id]?=some o:=by rw [List.getElem?_append_left hlt]; exact ho
 have hl':C'.ι id=some l:=(hev.cx id).2 (by rw [<- hh.gen id o ho',<- hH.gen id o ho]) l hl
 have hset:(H++[({ gen:=0,k:=k,els:=[] }:Ob)]).set id { o with els:=o.els.set e ((o.els.getD e []).set c (.osl H.length 0 k 0 0)) }=H.set id { o with els:=o.els.set e ((o.els.getD e []).set c (.osl H.length 0 k 0 0)) }++[{ gen:=0,k:=k,els:=[] }]:=List.set_append_left _ _ hlt
 rw [<- hset]
 refine ⟨G,C',hev,hh.a3j ho' hl' h1 h2 hvv,hv.ev hev,by simp,fun j hj hs hi=>?_⟩
 obtain ⟨p1,p2,p3⟩:=hp.2 j hj hs hi
 have hne':id≠j:=fun e=>by subst e; rw [hl] at hi; simp at hi
 exact ⟨p1,p2,by rw [List.getElem?_set_ne hne']; exact p3⟩
theorem a7R (hH:HR G w C H) {id g k e n:Nat} {v:Value} (hv:VR G w C (.osl id g k e n) v) {o:Ob} (ho:H[id]?=some o) (hg:o.gen=g) {g':Nat} (hgg:g<=g') :
 ∃ C',Ev G w C G w C'/\HR G w C' (H.set id { o with gen:=g' })/\VR G w C' (.osl id g' k e n) v/\Pd V5 C H C' (H.set id { o with gen:=g' }):=by
 have hγ:=hH.gen id o ho
 have hloc:∃ l,C.ι id=some l:=by
  cases hv with
  | osl _ _ _ _ _ _ ad cap hnc hle hl=>obtain ⟨l,b,h,_⟩:=hl ya_; exact ⟨l,h⟩
  | osl0 _ _ _ _ _ base hle hl=>obtain ⟨l,h,_⟩:=hl ya_; exact ⟨l,h⟩
 obtain ⟨l,hι⟩:=hloc
 have hlt:=hH.lt hι
 have hCle:Y5 C (C.lay id (some l) g'):=fun j=>by
  by_cases e':j=id
  · subst e'
    rw [Cx.bG,Cx.U3]
    exact ⟨by omega,fun _ l2 hl2=>by rw [hι] at hl2; exact hl2⟩
  · rw [(Cx.L6 _ _ _ _ e').1,(Cx.L6 _ _ _ _ e').2]; exact ⟨Nat.le_refl _,fun _ _ h=>h⟩
 have hHH:=hH.upd (G':=G) (w':=w) (C':=C.lay id (some l) g') (H':=H.set id { o with gen:=g' }) id { o with gen:=g' } rfl rfl rfl
  (fun j hj=>Cx.L6 _ _ _ _ hj) yl_ (fun _ l2 hl2=>by rw [Cx.U3]; rw [hι] at hl2; exact hl2) (fun j hj=>by rw [List.getElem?_set_ne (Ne.symm hj)]) (by rw [List.getElem?_set_self hlt]) ye_ ya_
  (by rw [Cx.bG]) (fun _ h=>h) (fun b hb=>.inl hb) (fun _ _ _=>rfl) (Nat.le_refl _) (fun b hb=>hH.gsz b hb) (fun l' b hl' hb=>by rw [Cx.U3] at hl'; simp at hl'; subst hl'; exact .inl ⟨l,hι,hb⟩) (fun _=>rfl)
  (fun l' hl'=>by
   rw [Cx.U3] at hl'
   simp only [Option.some.injEq] at hl'
   subst hl'
   obtain ⟨hk,hrm,hno,hlen,hrow,hcs⟩:=hH.ob id o l ho hι
   refine ⟨fun b hb=>⟨(hH.own id l b hι hb).1,(hH.own id l b hι hb).2,fun j hj l2 hl2 e'=>hj (hH.inj _ _ _ _ b hl2 hι e' hb)⟩,hk,hrm,hno,hlen,hrow,fun b hb=>?_⟩
   obtain ⟨cs,t,hc,hcs,hcell⟩:=hcs b hb
   exact ⟨cs,t,hc,hcs,fun i j hi hj=>⟨(hcell i j hi hj).1,(hcell i j hi hj).2.mono (fun _ h=>h) (fun _ _=>rfl) hCle⟩⟩)
 refine ⟨_,hHH.1,hHH.2,?_,⟨by simp,fun j hj _ hi=>?_⟩⟩
 · cases hv with
   | osl _ _ _ _ _ _ ad cap hnc hle hl =>
    refine .osl _ _ _ _ _ _ _ _ hnc yi_ fun _=>?_
    rw [Cx.U3]
    obtain ⟨l2,b,h,hr⟩:=hl ya_
    exact ⟨l,b,rfl,by rw [hι] at h; simp at h; subst h; exact hr⟩
   | osl0 _ _ _ _ _ base hle hl =>
    refine .osl0 _ _ _ _ _ _ yi_ fun _=>?_
    rw [Cx.U3]
    obtain ⟨l2,h,hr⟩:=hl ya_
    exact ⟨l,rfl,by rw [hι] at h; simp at h; subst h; exact hr⟩
 · have hne:j≠id:=fun e=>by subst e; rw [hι] at hi; simp at hi
   exact ⟨by rw [(Cx.L6 _ _ _ _ hne).1]; exact hi,(Cx.L6 _ _ _ _ hne).2,by rw [List.getElem?_set_ne (Ne.symm hne)]⟩
def dY (n:Nat):Heap->Bool
 | []=>true
 | o :: H=>AV.F3 n o.els&&dY n H
theorem nX {n:Nat}:∀ {H:Heap},dY n H=true->∀ {id:Nat} {o:Ob},H[id]?=some o->AV.F3 n o.els=true
 | [],_,id,o,ho=>by simp at ho
 | o1 :: H,h,0,o,ho=>by
  simp only [dY,Bool.and_eq_true] at h
  simp at ho
  subst ho
  exact h.1
 | o1 :: H,h,id+1,o,ho=>by
  simp only [dY,Bool.and_eq_true] at h
  exact nX h.2 (by simpa using ho)
def tC (n:Nat):Fr->Fr
 | []=>[]
 | a :: F=>(match a with
  | some v=>match AV.bdd n v with
   | true=>some v
   | false=>none
  | none=>none) :: tC n F
theorem a7X (n:Nat):∀ (F:Fr),(tC n F).length=F.length
 | []=>rfl
 | a :: F=>by simp [tC,a7X n F]
theorem a7Y (n:Nat):∀ (F:Fr) (t:Nat) (a:AV),(tC n F)[t]?=some (some a)->F[t]?=some (some a)/\AV.bdd n a=true
 | [],t,a,h=>by simp [tC] at h
 | x :: F,0,a,h=>by
  simp only [tC,List.getElem?_cons_zero,Option.some.injEq] at h ⊢
  split at h
  · rename_i v
    split at h
    · rename_i hb
      simp only [Option.some.injEq] at h
      subst h
      exact ⟨rfl,hb⟩
    · simp at h
  · simp at h
 | x :: F,t+1,a,h=>by
  simp only [tC,List.getElem?_cons_succ] at h ⊢
  exact a7Y n F t a h
theorem a8b {G0:Nat->Prop} {w0:World} {C0:Cx} {H0:Heap} (hH0:HR G0 w0 C0 H0) (he:Ev G0 w0 C0 G w C) (hp:Pd V5 C0 H0 C H) (hF:FrR G w C F act.tmps) (hH:HR G w C H) {n:Nat} (hn:H0.length<=n) (hb:dY n (H.take n)=true) :
 Ev G0 w0 C0 G w (C.cut n)/\FrR G w (C.cut n) (tC n F) act.tmps/\HR G w (C.cut n) (H.take n)/\Pd V5 C0 H0 (C.cut n) (H.take n):=by
 have hcle:Y5 C0 (C.cut n):=fun id=>by
  have h1:=he.cx id
  simp only [Cx.cut]
  by_cases hid:id < n
  · simp only [hid,if_true]; exact h1
  · simp only [hid,if_false]
    obtain ⟨h2,h3⟩:=hH0.out id ya_
    exact ⟨by omega,fun _ l hl=>by rw [h3] at hl; simp at hl⟩
 have hι:∀ id l,(C.cut n).ι id=some l->id < n/\C.ι id=some l:=fun id l hl=>by
  simp only [Cx.cut] at hl
  split at hl
  · rename_i h; exact ⟨h,hl⟩
  · simp at hl
 have hget:∀ id,id < n->(H.take n)[id]?=H[id]?:=fun id hid=>by rw [List.getElem?_take,if_pos hid]
 refine ⟨⟨he.os,he.tape,he.output,he.size,he.lock,he.same,hcle,he.rest,he.grow,fun id l b hl hlb=>he.own id l b (hι id l hl).2 hlb,he.frz⟩,⟨by rw [a7X]; exact hF.1,fun t a ht=>?_⟩,⟨fun id o ho=>?_,fun id hid=>?_,fun id l b hl hlb=>hH.own id l b (hι id l hl).2 hlb,fun i j l l' b h1 h2=>hH.inj i j l l' b (hι i l h1).2 (hι j l' h2).2,fun id o l ho hl=>?_,hH.gsz⟩,⟨?_,fun id hid hs hi=>?_⟩⟩
 · obtain ⟨h1,h2⟩:=a7Y n F t a ht
   exact (hF.2 t a h1).cut n h2
 · have hid:id < n:=by
    rcases Nat.lt_or_ge id n with h' | h'
    · exact h'
    · rw [List.getElem?_eq_none yg_] at ho; simp at ho
   simp only [Cx.cut,hid,if_true]
   exact hH.gen id o (by rw [<- hget id hid]; exact ho)
 · simp only [Cx.cut]
   by_cases h:id < n
   · simp only [h,if_true]
     exact hH.out id (by simp at hid; omega)
   · simp [h]
 · obtain ⟨hid,hl'⟩:=hι id l hl
   obtain ⟨hk,hrm,hno,hlen',hrow,hcs0⟩:=hH.ob id o l (by rw [<- hget id hid]; exact ho) hl'
   have hbo:=nX hb ho
   refine ⟨hk,hrm,hno,hlen',hrow,fun b hlb=>?_⟩
   obtain ⟨cs,e,hc,hcs,hcell⟩:=hcs0 b hlb
   refine ⟨cs,e,hc,hcs,fun i j hi hj=>⟨(hcell i j hi hj).1,(hcell i j hi hj).2.cut _ ?_⟩⟩
   exact bI _ (qU _ hbo i hi) j (by rw [hrow i hi]; exact hj)
 · have:=hp.1
   simp
   omega
 · obtain ⟨h1,h2,h3⟩:=hp.2 id hid hs hi
   have:id < n:=by omega
   simp only [Cx.cut,this,if_true]
   exact ⟨h1,h2,by rw [hget id this]; exact h3⟩
def iR (base:Nat) (rows:List (Nat × List (List AV))) (s:Gh) (K:Fr->Heap->Prop) (F:Fr) (H:Heap):Prop :=
 match s with
 | .frz t=>match F[t]? with
  | some (some (.osl id g k e n))=>match aK t rows with
   | some xs=>(I5 H k (.osl id g k e n)=some xs/\AV.F3 0 xs=true)/\K (F.set t (some (.sl .any k xs))) (H.modify id fun o=>{ gen:=o.gen+1,k:=o.k,els:=[] })
   | none=>match I5 H k (.osl id g k e n) with
    | some xs=>match AV.F3 0 xs with
     | true=>K (F.set t (some (.sl .any k xs))) (H.modify id fun o=>{ gen:=o.gen+1,k:=o.k,els:=[] })
     | false=>False
    | none=>False
  | some (some (.sl _ _ _))=>K F H
  | _=>False
 | .vir t k=>match F[t]? with
  | some (some (.sl .nil _ []))=>K (F.set t (some (.osl H.length 0 k 0 0))) (H++[{ gen:=0,k:=k,els:=[] }])
  | some (some (.osl _ _ _ _ _))=>K F H
  | _=>False
 | .gen t g'=>match F[t]? with
  | some (some (.osl id g k e n))=>match H[id]? with
   | some o=>(o.gen=g/\g<=g')/\K (F.set t (some (.osl id g' k e n))) (H.set id { o with gen:=g' })
   | none=>False
  | some (some (.sl _ _ _))=>K F H
  | _=>False
 | .any t k=>match F[t]? with
  | some (some (.sl _ k' xs))=>match Nat.beq k' k with
   | true=>K (F.set t (some (.sl .any k xs))) H
   | false=>match xs with
    | []=>K (F.set t (some (.sl .any k []))) H
    | _=>False
  | _=>False
 | .virf t c k=>match F[t]? with
  | some (some (.obj id g _ _))=>match H[id]? with
   | some o=>match Nat.blt 0 o.els.length&&Nat.blt c (o.els.getD 0 []).length with
    | true=>match (o.els.getD 0 []).getD c .skip with
     | .sl .nil _ []=>o.gen=g/\K F (H.set id { o with els:=o.els.set 0 ((o.els.getD 0 []).set c (.osl H.length 0 k 0 0)) }++[{ gen:=0,k:=k,els:=[] }])
     | .osl _ _ _ _ _=>K F H
     | _=>False
    | false=>False
   | none=>False
  | some (some (.osl id g _ _ _))=>match H[id]? with
   | some o=>match Nat.blt c o.els.length&&Nat.blt 0 (o.els.getD c []).length with
    | true=>match (o.els.getD c []).getD 0 .skip with
     | .sl .nil _ []=>o.gen=g/\K F (H.set id { o with els:=o.els.set c ((o.els.getD c []).set 0 (.osl H.length 0 k 0 0)) }++[{ gen:=0,k:=k,els:=[] }])
     | .osl _ _ _ _ _=>K F H
     | _=>False
    | false=>False
   | none=>False
  | _=>False
 | .frzf t c k=>match F[t]? with
  | some (some (.obj id g _ _))=>match H[id]? with
   | some o=>match Nat.blt 0 o.els.length&&Nat.blt c (o.els.getD 0 []).length with
    | true=>match (o.els.getD 0 []).getD c .skip with
     | .osl id2 g2 k2 e2 n2=>match Nat.beq id id2 with
      | true=>False
      | false=>match aK t rows with
       | some xs=>(o.gen=g/\I5 H k2 (.osl id2 g2 k2 e2 n2)=some xs/\AV.F3 0 xs=true)/\K F ((H.modify id2 fun o=>{ gen:=o.gen+1,k:=o.k,els:=[] }).set id { o with els:=o.els.set 0 ((o.els.getD 0 []).set c (.sl .any k2 xs)) })
       | none=>False
     | .sl _ k' xs=>match Nat.beq k' k with
      | true=>o.gen=g/\K F (H.set id { o with els:=o.els.set 0 ((o.els.getD 0 []).set c (.sl .any k xs)) })
      | false=>match xs with
       | []=>o.gen=g/\K F (H.set id { o with els:=o.els.set 0 ((o.els.getD 0 []).set c (.sl .any k [])) })
       | _=>False
     | _=>False
    | false=>False
   | none=>False
  | _=>False
 | .cut n=>match Nat.ble base n with
  | true=>dY n (H.take n)=true/\K (tC n F) (H.take n)
  | false=>False
def ghP (base:Nat) (rows:List (Nat × List (List AV))):List (Nat × Gh)->Nat->(Fr->Heap->Prop)->Fr->Heap->Prop
 | [],_,K,F,H=>K F H
 | (r,s) :: l,id,K,F,H=>match Nat.beq r id with
  | true=>iR base rows s (ghP base rows l id K) F H
  | false=>ghP base rows l id K F H
section
variable {G0:Nat->Prop} {w0:World} {C0:Cx} {H0:Heap}
theorem ys_ {p:Prop} (h:p:=by rw [<- hg]; exact hH.gen id o ho):p:=h
theorem b7C {base:Nat} {rows:List (Nat × List (List AV))} (hH0:HR G0 w0 C0 H0) (hb0:H0.length<=base) (he:Ev G0 w0 C0 G w C) (hp:Pd V5 C0 H0 C H) (hF:FrR G w C F act.tmps) (hH:HR G w C H) {s:Gh} {K:Fr->Heap->Prop} (h:iR base rows s K F H) :
 ∃ G' C' F' H',Ev G0 w0 C0 G' w C'/\FrR G' w C' F' act.tmps/\HR G' w C' H'/\Pd V5 C0 H0 C' H'/\K F' H':=by
 cases s with
 | frz t =>
  simp only [iR] at h
  split at h
  · rename_i id g k e n hs
    split at h
    · rename_i xs _
      obtain ⟨⟨hr,hb⟩,hk⟩:=h
      obtain ⟨G',C',h1,h2,h3,h4⟩:=gN hH (hF.2 t _ hs) hr hb
      exact ⟨G',C',_,_,he.trans h1,(hF.ev h1).told t _ h3,h2,hp.trans h4,hk⟩
    · split at h
      case h_2=>exact h.elim
      rename_i xs hr
      split at h
      case h_2=>exact h.elim
      rename_i hb
      obtain ⟨G',C',h1,h2,h3,h4⟩:=gN hH (hF.2 t _ hs) hr hb
      exact ⟨G',C',_,_,he.trans h1,(hF.ev h1).told t _ h3,h2,hp.trans h4,h⟩
  · exact ⟨G,C,F,H,he,hF,hH,hp,h⟩
  · exact h.elim
 | vir t k =>
  simp only [iR] at h
  split at h
  · rename_i hs
    obtain ⟨C',h1,h2,h3,h4⟩:=a7e hH (hF.2 t _ hs) k
    exact ⟨G,C',_,_,he.trans h1,(hF.ev h1).told t _ h3,h2,hp.trans h4,h⟩
  · exact ⟨G,C,F,H,he,hF,hH,hp,h⟩
  · exact h.elim
 | gen t g' =>
  simp only [iR] at h
  split at h
  · rename_i id g k e n hs
    split at h
    case h_2=>exact h.elim
    rename_i o ho
    obtain ⟨⟨hg,hgg⟩,h⟩:=h
    obtain ⟨C',h1,h2,h3,h4⟩:=a7R hH (hF.2 t _ hs) ho hg hgg
    exact ⟨G,C',_,_,he.trans h1,(hF.ev h1).told t _ h3,h2,hp.trans h4,h⟩
  · exact ⟨G,C,F,H,he,hF,hH,hp,h⟩
  · exact h.elim
 | any t k =>
  simp only [iR] at h
  split at h
  case h_2=>exact h.elim
  rename_i g k' xs hs
  have hle:g.le .any=true:=by cases g <;> rfl
  split at h
  · rename_i hk
    exact ⟨G,C,_,_,he,hF.told t _ ((hF.2 t _ hs).wk (b:=.sl .any k xs) ⟨hle,rfl,.inl (Nat.eq_of_beq_eq_true hk)⟩),hH,hp,h⟩
  · split at h
    · exact ⟨G,C,_,_,he,hF.told t _ ((hF.2 t _ hs).wk (b:=.sl .any k []) ⟨hle,rfl,.inr rfl⟩),hH,hp,h⟩
    · exact h.elim
 | virf t c k =>
  simp only [iR] at h
  split at h
  case h_3=>exact h.elim
  · rename_i id g e0 c0 hs
    split at h
    case h_2=>exact h.elim
    rename_i o ho
    split at h
    case h_2=>exact h.elim
    rename_i hlen
    have hsh:o.gen=g->∃ l,C.ι id=some l:=fun hg=>VR.shows (hF.2 t _ hs) (.inl ⟨_,_,rfl⟩) ys_
    rw [Bool.and_eq_true] at hlen
    have h0:0 < o.els.length:=Nat.le_of_ble_eq_true hlen.1
    have hc:c < (o.els.getD 0 []).length:=Nat.le_of_ble_eq_true hlen.2
    split at h
    · rename_i k' hcell
      obtain ⟨hg,hk⟩:=h
      obtain ⟨G',C',h1,h2,_,h4⟩:=nQ (e:=0) hH k ho h0 hc hcell (hF.2 t _ hs) (hsh hg)
      exact ⟨G',C',_,_,he.trans h1,hF.ev h1,h2,hp.trans h4,hk⟩
    · exact ⟨G,C,F,H,he,hF,hH,hp,h⟩
    · exact h.elim
  · rename_i id g k0 e0 n0 hs
    split at h
    case h_2=>exact h.elim
    rename_i o ho
    split at h
    case h_2=>exact h.elim
    rename_i hlen
    have hsh:o.gen=g->∃ l,C.ι id=some l:=fun hg=>VR.shows (hF.2 t _ hs) (.inr ⟨_,_,_,rfl⟩) ys_
    rw [Bool.and_eq_true] at hlen
    have h0:c < o.els.length:=Nat.le_of_ble_eq_true hlen.1
    have hc:0 < (o.els.getD c []).length:=Nat.le_of_ble_eq_true hlen.2
    split at h
    · rename_i k' hcell
      obtain ⟨hg,hk⟩:=h
      obtain ⟨G',C',h1,h2,_,h4⟩:=nQ (e:=c) hH k ho h0 hc hcell (hF.2 t _ hs) (hsh hg)
      exact ⟨G',C',_,_,he.trans h1,hF.ev h1,h2,hp.trans h4,hk⟩
    · exact ⟨G,C,F,H,he,hF,hH,hp,h⟩
    · exact h.elim
 | frzf t c k =>
  simp only [iR] at h
  split at h
  case h_2=>exact h.elim
  rename_i id g e0 c0 hs
  split at h
  case h_2=>exact h.elim
  rename_i o ho
  split at h
  case h_2=>exact h.elim
  rename_i hlen
  have hsh:o.gen=g->∃ l,C.ι id=some l:=fun hg=>VR.shows (hF.2 t _ hs) (.inl ⟨_,_,rfl⟩) ys_
  rw [Bool.and_eq_true] at hlen
  have h0:0 < o.els.length:=Nat.le_of_ble_eq_true hlen.1
  have hc:c < (o.els.getD 0 []).length:=Nat.le_of_ble_eq_true hlen.2
  split at h
  · rename_i id2 g2 k2 e2 n2 hcell
    split at h
    · exact h.elim
    · rename_i hne
      split at h
      case h_2=>exact h.elim
      rename_i xs _
      obtain ⟨⟨hg,hr,hb⟩,hk⟩:=h
      obtain ⟨G',C',h1,h2,_,h4⟩:=a6x (e:=0) hH ho (fun e=>by subst e; rw [Nat.beq_refl] at hne; simp at hne) h0 hc hcell hr hb (hF.2 t _ hs) (hsh hg)
      exact ⟨G',C',_,_,he.trans h1,hF.ev h1,h2,hp.trans h4,hk⟩
  · rename_i g' k' xs hcell
    have hle:g'.le .any=true:=by cases g' <;> rfl
    split at h
    · rename_i hk'
      obtain ⟨hg,hk⟩:=h
      obtain ⟨G',C',h1,h2,_,h4⟩:=a0D (e:=0) (a':=.sl .any k xs) hH ho h0 hc (by rw [hcell]; exact ⟨hle,rfl,.inl (Nat.eq_of_beq_eq_true hk')⟩) (hF.2 t _ hs) (hsh hg)
      exact ⟨G',C',_,_,he.trans h1,hF.ev h1,h2,hp.trans h4,hk⟩
    · split at h
      · obtain ⟨hg,hk⟩:=h
        obtain ⟨G',C',h1,h2,_,h4⟩:=a0D (e:=0) (a':=.sl .any k []) hH ho h0 hc (by rw [hcell]; exact ⟨hle,rfl,.inr rfl⟩) (hF.2 t _ hs) (hsh hg)
        exact ⟨G',C',_,_,he.trans h1,hF.ev h1,h2,hp.trans h4,hk⟩
      · exact h.elim
  · exact h.elim
 | cut n =>
  simp only [iR] at h
  split at h
  · rename_i hn
    obtain ⟨h1,h2,h3,h4⟩:=a8b (n:=n) hH0 he hp hF hH (Nat.le_trans hb0 (Nat.le_of_ble_eq_true hn)) h.1
    exact ⟨G,_,_,_,h1,h2,h3,h4,h.2⟩
  · exact h.elim
theorem wB {base:Nat} {rows:List (Nat × List (List AV))} {K:Fr->Heap->Prop} (hH0:HR G0 w0 C0 H0) (hb0:H0.length<=base):∀ (l:List (Nat × Gh)) (id:Nat) (G:Nat->Prop) (C:Cx) (F:Fr) (H:Heap),Ev G0 w0 C0 G w C->Pd V5 C0 H0 C H->FrR G w C F act.tmps->HR G w C H->ghP base rows l id K F H ->
 ∃ G' C' F' H',Ev G0 w0 C0 G' w C'/\FrR G' w C' F' act.tmps/\HR G' w C' H'/\Pd V5 C0 H0 C' H'/\K F' H'
 | [],id,G,C,F,H,he,hp,hF,hH,h=>⟨G,C,F,H,he,hF,hH,hp,h⟩
 | (r,t) :: l,id,G,C,F,H,he,hp,hF,hH,h=>by
  unfold ghP at h
  split at h
  · obtain ⟨G1,C1,F1,H1,a1,a2,a3,a4,a5⟩:=b7C hH0 hb0 he hp hF hH h
    exact wB hH0 hb0 l id G1 C1 F1 H1 a1 a4 a2 a3 a5
  · exact wB hH0 hb0 l id G C F H he hp hF hH h
end
theorem a7H (live:List Nat):∀ (F:Fr) (i t:Nat) (a:AV),(sV live i F)[t]?=some (some a)->F[t]?=some (some a)
 | [],i,t,a,h=>by simp [sV] at h
 | x :: F,i,0,a,h=>by
  simp only [sV,List.getElem?_cons_zero,Option.some.injEq] at h ⊢
  split at h
  · exact h
  · simp at h
 | x :: F,i,t+1,a,h=>by
  simp only [sV,List.getElem?_cons_succ] at h ⊢
  exact a7H live F (i+1) t a h
theorem a7G (live:List Nat):∀ (F:Fr) (i:Nat),(sV live i F).length=F.length
 | [],_=>rfl
 | x :: F,i=>by simp [sV,a7G live F]
theorem FrR.keep {tmps:Array Value} (h:FrR G w C F tmps) (live:List Nat):FrR G w C (sV live 0 F) tmps:=⟨by rw [a7G]; exact h.1,fun t a ht=>h.2 t a (a7H _ _ _ _ _ ht)⟩
theorem FrR.cut {tmps:Array Value} (h:FrR G w C F tmps) (out:Option (List Nat)):FrR G w C (jJ out F) tmps:=by
 cases out with
 | none=>exact h
 | some l=>exact h.keep l
def kP (run:(Ex->Fr->Heap->Prop)->Fr->Heap->Prop) (live out:Option (List Nat)):Nat->(Ex->Fr->Heap->Prop)->Fr->Heap->Prop
 | 0,_,_,_=>False
 | n+1,K,F,H=>run (fun e F H=>match e with
  | .normal=>kP run live out n K (jJ live F) H
  | e=>K e (jJ out F) H) F H
def l6 (run:(Ex->Fr->Heap->Prop)->Fr->Heap->Prop) (live out:Option (List Nat)) (F:Fr) (H:Heap) (e:Ex) (F':Fr) (H':Heap):Prop :=
 ∀ K:Ex->Fr->Heap->Prop,K e F' H'->∃ n,kP run live out n K F H
def eZ (X:Env) (c:Code):Option (List Nat):=aK (oH c) X.ann.live
def pE (X:Env) (c:Code):Option (List Nat):=aK (oH c) X.ann.out
def a0U (P:Program) (X:Env) (id:Nat) (ops:Array Oper) (draw:Bool) (hs:Hs) (rows rows':List (Nat × List (List AV))) (K:Fr->Heap->Prop) (F:Fr) (H:Heap):Prop :=
 ghP X.ann.base rows X.ann.gh id (fun F H=>match iK X.T ops.toList with
  | some al=>match draw with
   | false=>Z9 P X ops.toList H.length hs ops.toList 0 0 (ghP X.ann.base rows' X.ann.gha id K) F (qV H al)
   | true=>X3 P X ops.toList (needs ops.toList []) H.length hs ops.toList 0 0 ⟨[qV H al],[],[]⟩ (ghP X.ann.base rows' X.ann.gha id K) F (qV H al)
  | none=>False) F H
def E9 (P:Program) (X:Env):Code->(Ex->Fr->Heap->Prop)->Fr->Heap->Prop
 | .skip,K,F,H=>K .normal F H
 | .region id ops draw,K,F,H=>∃ hs rows rows',a0U P X id ops draw hs rows rows' (K .normal) F H
 | .seq a b,K,F,H=>E9 P X a (fun e F H=>match e with
  | .normal=>E9 P X b K F H
  | e=>K e F H) F H
 | .cond c x y,K,F,H=>match opv F c with
  | some (.bool b)=>match b with
   | true=>E9 P X x K F H
   | false=>E9 P X y K F H
  | _=>False
 | .block id c,K,F,H=>E9 P X c (fun e F H=>match e with
  | .exit j=>match Nat.beq j id with
   | true=>K .normal F H
   | false=>K (.exit j) F H
  | e=>K e F H) F H
 | .loop c,K,F,H=>∃ n,kP (E9 P X c) (eZ X c) (pE X c) n K (jJ (eZ X c) F) H
 | .exit id,K,F,H=>K (.exit id) F H
 | .ret,K,F,H=>K .ret F H
 | _,_,_,_=>False
section
variable {G0:Nat->Prop} {w0:World} {C0:Cx} {H0:Heap}
def Good (P:Program) (defers:List Deferred) (G0:Nat->Prop) (w0:World) (C0:Cx) (H0:Heap) (K:Ex->Fr->Heap->Prop) (Q:Exit->Act->World->Prop):Prop :=
 ∀ (e:Ex) (F':Fr) (H':Heap) (act':Act) (w':World) (G':Nat->Prop) (C':Cx),Ev G0 w0 C0 G' w' C'->FrR G' w' C' F' act'.tmps->HR G' w' C' H'->Pd V5 C0 H0 C' H'->act'.defers=defers->K e F' H'->Q e.exit' act' w'
theorem b6b (hT:TOk P X.T) (hM:Mok P X.M) (hmo:P.follows .mixedOrders=true) {defers:List Deferred} {id:Nat} {ops:Array Oper} {draw:Bool} {hs:Hs} {rows rows':List (Nat × List (List AV))} (hok:codeOk (.region id ops draw)=true)
 (hH0:HR G0 w0 C0 H0) (hb0:H0.length<=X.ann.base) (he:Ev G0 w0 C0 G w C) (hp:Pd V5 C0 H0 C H)
 {K:Ex->Fr->Heap->Prop} {Q:Exit->Act->World->Prop} (hF:FrR G w C F act.tmps) (hH:HR G w C H) (hd:act.defers=defers) (h:a0U P X id ops draw hs rows rows' (K .normal) F H) (hg:Good P defers G0 w0 C0 H0 K Q):(Code.region id ops draw).wp P Q act w:=by
 unfold a0U at h
 obtain ⟨G1,C1,F1,H1,a1,a2,a3,a4,h⟩:=wB hH0 hb0 _ id G C F H he hp hF hH h
 split at h
 case h_2=>exact h.elim
 rename_i al hal
 have hadd:qV H1 al=H1++al:=by cases al <;> simp [qV]
 rw [hadd] at h
 have hH2:HR G1 w C1 (H1++al):=a3.add al (a0q hal)
 have hout:∀ m,C1.ι (H1.length+m)=none:=fun m=>(a3.out _ ya_).2
 have hpend:sM X.T ops.toList H1.length (H1++al) C1:=⟨al,hal,fun m o hm=>⟨by rw [List.getElem?_append_right ya_]; simpa using hm,hout m⟩⟩
 have hpd:∀ {C':Cx} {H':Heap},Pd (fun id=>id < H1.length) C1 (H1++al) C' H'->Pd V5 C1 H1 C' H':=fun {C' H'} hp =>
  ⟨Nat.le_trans ye_ hp.1,fun j hj _ hi=>by
   obtain ⟨h1,h2,h3⟩:=hp.2 j yg_ hj hi
   exact ⟨h1,h2,by rw [h3,List.getElem?_append_left hj]⟩⟩
 have fin:∀ (F':Fr) (H':Heap) (act':Act) (w':World) (G':Nat->Prop) (C':Cx),Ev G1 w C1 G' w' C'->FrR G' w' C' F' act'.tmps->HR G' w' C' H'->Pd (fun id=>id < H1.length) C1 (H1++al) C' H'->act'.defers=defers->ghP X.ann.base rows' X.ann.gha id (K .normal) F' H'->Q .normal act' w':=by
  intro F' H' act' w' G' C' h1 h2 h3 h4 h5 h6
  obtain ⟨G2,C2,F2,H2,b1,b2,b3,b4,h6⟩:=wB (act:=act') hH0 hb0 _ id G' C' F' H' (a1.trans h1) (a4.trans (hpd h4)) h2 h3 h6
  exact hg .normal F2 H2 act' w' G2 C2 b1 b2 b3 b4 h5 h6
 split at h
 · -- in the text's order
   refine wp_region ?_
   have:=zU (P:=P) (Q:=Q) (defers:=defers) (ops:=ops) (ab:=H1.length) hT hM ops.toList 0 0 G1 w C1 F1 act (H1++al) ye_ (by simpa using hpend) a2 hH2 hd h
    fun F' H' act' w' G' C' h1 h2 h3 h4 h5 h6=>fin F' H' act' w' G' C' h1 h2 h3 h4 h5 h6
   rwa [Nat.sub_zero,<- List.range_eq_range'] at this
 · -- drawn
   refine wp_region_any hmo ?_
   have hev0:Ev G1 w C1 G1 { w with drawn:=w.drawn+1 } C1:=⟨rfl,rfl,rfl,Nat.le_refl _,fun _ h=>h,fun _ _=>rfl,Y5.refl _,fun _ _ _=>rfl,fun _ h=>.inl h,fun id l b hl hb=>.inl ⟨id,l,hl,hb⟩,fun _=>rfl⟩
   refine b6L (P:=P) (defers:=defers) (G0:=G1) (C0:=C1) (w0:={ w with drawn:=w.drawn+1 }) hT hM hok hpend (a2.world rfl) (hH2.world rfl) hd h
    fun F' H' act' w' G' C' h1 h2 h3 h4 h5 h6=>fin F' H' act' w' G' C' (hev0.trans h1) h2 h3 h4 h5 h6
theorem fV (hT:TOk P X.T) (hM:Mok P X.M) (hmo:P.follows .mixedOrders=true) {defers:List Deferred} (hH0:HR G0 w0 C0 H0) (hb0:H0.length<=X.ann.base) :
 ∀ (c:Code),codeOk c=true->∀ (K:Ex->Fr->Heap->Prop) (F:Fr) (H:Heap) (G:Nat->Prop) (w:World) (C:Cx) (act:Act) (Q:Exit->Act->World->Prop),Ev G0 w0 C0 G w C->Pd V5 C0 H0 C H->FrR G w C F act.tmps->HR G w C H->act.defers=defers ->
  E9 P X c K F H->Good P defers G0 w0 C0 H0 K Q->c.wp P Q act w
 | .skip,_,K,F,H,G,w,C,act,Q,he,hp,hF,hH,hd,h,hg=>wp_skip (hg .normal F H act w G C he hF hH hp hd h)
 | .exit id,_,K,F,H,G,w,C,act,Q,he,hp,hF,hH,hd,h,hg=>wp_exit (hg (.exit id) F H act w G C he hF hH hp hd h)
 | .ret,_,K,F,H,G,w,C,act,Q,he,hp,hF,hH,hd,h,hg=>wp_ret (hg .ret F H act w G C he hF hH hp hd h)
 | .seq a b,hok,K,F,H,G,w,C,act,Q,he,hp,hF,hH,hd,h,hg=>by
  simp only [E9] at h
  simp only [codeOk] at hok
  split at hok
  case h_2=>simp at hok
  rename_i hoa
  refine wp_seq (fV hT hM hmo hH0 hb0 a hoa _ F H G w C act _ he hp hF hH hd h fun e F' H' act' w' G' C' h1 h2 h3 h4 h5 h6=>?_)
  cases e with
  | normal=>exact fV hT hM hmo hH0 hb0 b hok K F' H' G' w' C' act' Q h1 h4 h2 h3 h5 h6 hg
  | exit id=>exact hg (.exit id) F' H' act' w' G' C' h1 h2 h3 h4 h5 h6
  | ret=>exact hg .ret F' H' act' w' G' C' h1 h2 h3 h4 h5 h6
 | .cond c x y,hok,K,F,H,G,w,C,act,Q,he,hp,hF,hH,hd,h,hg=>by
  simp only [E9] at h
  simp only [codeOk] at hok
  split at hok
  case h_2=>simp at hok
  rename_i hox
  split at h
  case h_2=>exact h.elim
  rename_i b hb
  have hv:=H8 (act:=act) hF hb
  generalize hu:act.eval c=u at hv
  cases hv
  split at h
  · exact wp_cond_true hu (fV hT hM hmo hH0 hb0 x hox K F H G w C act Q he hp hF hH hd h hg)
  · exact wp_cond_false hu (fV hT hM hmo hH0 hb0 y hok K F H G w C act Q he hp hF hH hd h hg)
 | .block id c,hok,K,F,H,G,w,C,act,Q,he,hp,hF,hH,hd,h,hg=>by
  simp only [E9] at h
  simp only [codeOk] at hok
  refine wp_block (fV hT hM hmo hH0 hb0 c hok _ F H G w C act _ he hp hF hH hd h fun e F' H' act' w' G' C' h1 h2 h3 h4 h5 h6=>?_)
  cases e with
  | normal=>exact hg .normal F' H' act' w' G' C' h1 h2 h3 h4 h5 h6
  | ret=>exact hg .ret F' H' act' w' G' C' h1 h2 h3 h4 h5 h6
  | exit j =>
   simp only at h6
   simp only [Ex.exit',Exit.inBlock]
   split at h6
   · rename_i hj
     rw [if_pos (Nat.eq_of_beq_eq_true hj)]
     exact hg .normal F' H' act' w' G' C' h1 h2 h3 h4 h5 h6
   · rename_i hj
     rw [if_neg (fun e=>by subst e; rw [Nat.beq_refl] at hj; simp at hj)]
     exact hg (.exit j) F' H' act' w' G' C' h1 h2 h3 h4 h5 h6
 | .loop c,hok,K,F,H,G,w,C,act,Q,he,hp,hF,hH,hd,h,hg=>by
  simp only [E9] at h
  simp only [codeOk] at hok
  have key:∀ (n:Nat) (F:Fr) (H:Heap) (G:Nat->Prop) (w:World) (C:Cx) (act:Act),Ev G0 w0 C0 G w C->Pd V5 C0 H0 C H->FrR G w C F act.tmps->HR G w C H->act.defers=defers ->
   kP (E9 P X c) (eZ X c) (pE X c) n K F H->Good P defers G0 w0 C0 H0 K Q->Code.rounds P c Q n act w:=by
   intro n
   induction n with
   | zero=>intro F H G w C act he hp hF hH hd h hg; exact h.elim
   | succ n ih =>
    intro F H G w C act he hp hF hH hd h hg
    simp only [kP] at h
    rw [rounds_succ]
    refine fV hT hM hmo hH0 hb0 c hok _ _ H G w C act _ he hp hF hH hd h fun e F' H' act' w' G' C' h1 h2 h3 h4 h5 h6=>?_
    cases e with
    | normal=>exact ih _ H' G' w' C' act' h1 h4 (h2.cut _) h3 h5 h6 hg
    | exit id=>exact hg (.exit id) _ H' act' w' G' C' h1 (h2.cut _) h3 h4 h5 h6
    | ret=>exact hg .ret _ H' act' w' G' C' h1 (h2.cut _) h3 h4 h5 h6
  obtain ⟨n,h⟩:=h
  exact wp_loop_rounds n (key n _ H G w C act he hp (hF.cut _) hH hd h hg)
 | .region id ops draw,hok,K,F,H,G,w,C,act,Q,he,hp,hF,hH,hd,h,hg=>by
  simp only [E9] at h
  obtain ⟨hs,rows,rows',h⟩:=h
  exact b6b hT hM hmo hok hH0 hb0 he hp hF hH hd h hg
 | .label _,_,K,F,H,G,w,C,act,Q,he,hp,hF,hH,hd,h,hg=>by simp [E9] at h
 | .goto _,_,K,F,H,G,w,C,act,Q,he,hp,hF,hH,hd,h,hg=>by simp [E9] at h
 | .rangeFunc ..,_,K,F,H,G,w,C,act,Q,he,hp,hF,hH,hd,h,hg=>by simp [E9] at h
 | .refuse _,_,K,F,H,G,w,C,act,Q,he,hp,hF,hH,hd,h,hg=>by simp [E9] at h
 | .scope ..,_,K,F,H,G,w,C,act,Q,he,hp,hF,hH,hd,h,hg=>by simp [E9] at h
end
end
inductive Tr where
 | nil
 | reg (hs:Hs) (rows rows':List (Nat × List (List AV))) (t:Tr)
 | two (a b:Tr)
 | loop (e:Ex) (F:Fr) (H:Heap) (t:Tr)
 | roll (n:Nat) (t:Tr)
abbrev Tr.r1 (hs:Hs) (t:Tr):Tr:=.reg hs [] [] t
def Tr.l:Tr->Tr
 | .two a _=>a
 | t=>t
def Tr.r:Tr->Tr
 | .two _ b=>b
 | t=>t
def zT (P:Program) (X:Env) (all:List Oper) (ab:Nat) (hs:Hs):List Oper->Nat->Nat->(Tr->Fr->Heap->Prop)->Tr->Fr->Heap->Prop
 | [],_,_,K,t,F,H=>K t F H
 | o :: rest,i,r,K,t,F,H =>
  match o.guard with
  | none=>doP P X (aK i hs) F H (ab+r) o fun a H'=>zT P X all ab hs rest (i+1) (up o r) K t (R6 F o.dst a) H'
  | some (j,want)=>match pJ all j with
   | some d=>match F[d]? with
    | some (some (.bool c))=>match c with
     | true=>match want with
      | true=>doP P X (aK i hs) (F.set d (some (.bool true))) H (ab+r) o fun a H'=>zT P X all ab hs rest (i+1) (up o r) K t.l (R6 (F.set d (some (.bool true))) o.dst a) H'
      | false=>zT P X all ab hs rest (i+1) (up o r) K t.l (R6 (F.set d (some (.bool true))) o.dst .skip) H
     | false=>match want with
      | true=>zT P X all ab hs rest (i+1) (up o r) K t.r (R6 (F.set d (some (.bool false))) o.dst .skip) H
      | false=>doP P X (aK i hs) (F.set d (some (.bool false))) H (ab+r) o fun a H'=>zT P X all ab hs rest (i+1) (up o r) K t.r (R6 (F.set d (some (.bool false))) o.dst a) H'
    | some (some .skip)=>zT P X all ab hs rest (i+1) (up o r) K t (R6 F o.dst .skip) H
    | _=>False
   | none=>False
def pG (P:Program) (X:Env) (all:List Oper) (nd:List Nat) (ab:Nat) (hs:Hs):List Oper->Nat->Nat->Dr->(Tr->Fr->Heap->Prop)->Tr->Fr->Heap->Prop
 | [],_,_,D,K,t,F,H=>match chain nd D.es with
  | true=>qK X nd D D.rs (K t F H)
  | false=>False
 | o :: rest,i,r,D,K,t,F,H =>
  match o.guard with
  | none=>doP P X (aK i hs) F H (ab+r) o fun a H'=>pG P X all nd ab hs rest (i+1) (up o r) (dD X F i o a H' D) K t (R6 F o.dst a) H'
  | some (j,want)=>match pJ all j with
   | some d=>match F[d]? with
    | some (some (.bool c))=>match c with
     | true=>match want with
      | true=>doP P X (aK i hs) (F.set d (some (.bool true))) H (ab+r) o fun a H'=>pG P X all nd ab hs rest (i+1) (up o r) (dD X (F.set d (some (.bool true))) i o a H' D) K t.l (R6 (F.set d (some (.bool true))) o.dst a) H'
      | false=>pG P X all nd ab hs rest (i+1) (up o r) D K t.l (R6 (F.set d (some (.bool true))) o.dst .skip) H
     | false=>match want with
      | true=>pG P X all nd ab hs rest (i+1) (up o r) D K t.r (R6 (F.set d (some (.bool false))) o.dst .skip) H
      | false=>doP P X (aK i hs) (F.set d (some (.bool false))) H (ab+r) o fun a H'=>pG P X all nd ab hs rest (i+1) (up o r) (dD X (F.set d (some (.bool false))) i o a H' D) K t.r (R6 (F.set d (some (.bool false))) o.dst a) H'
    | some (some .skip)=>pG P X all nd ab hs rest (i+1) (up o r) D K t (R6 F o.dst .skip) H
    | _=>False
   | none=>False
def a8D (run:(Tr->Ex->Fr->Heap->Prop)->Tr->Fr->Heap->Prop) (live out:Option (List Nat)):Nat->(Tr->Ex->Fr->Heap->Prop)->Tr->Fr->Heap->Prop
 | 0,_,_,_,_=>False
 | n+1,K,t,F,H=>run (fun t e F H=>match e with
  | .normal=>a8D run live out n K t (jJ live F) H
  | e=>K t e (jJ out F) H) t F H
def b6a (P:Program) (X:Env) (id:Nat) (ops:Array Oper) (draw:Bool) (hs:Hs) (rows rows':List (Nat × List (List AV))) (K:Tr->Fr->Heap->Prop) (t:Tr) (F:Fr) (H:Heap):Prop :=
 ghP X.ann.base rows X.ann.gh id (fun F H=>match iK X.T ops.toList with
  | some al=>match draw with
   | false=>zT P X ops.toList H.length hs ops.toList 0 0 (fun t=>ghP X.ann.base rows' X.ann.gha id (K t)) t F (qV H al)
   | true=>pG P X ops.toList (needs ops.toList []) H.length hs ops.toList 0 0 ⟨[qV H al],[],[]⟩ (fun t=>ghP X.ann.base rows' X.ann.gha id (K t)) t F (qV H al)
  | none=>False) F H
def H6 (P:Program) (X:Env):Code->(Tr->Ex->Fr->Heap->Prop)->Tr->Fr->Heap->Prop
 | .skip,K,t,F,H=>K t .normal F H
 | .region id ops draw,K,t,F,H=>match t with
  | .reg hs rows rows' t=>b6a P X id ops draw hs rows rows' (fun t=>K t .normal) t F H
  | _=>b6a P X id ops draw [] [] [] (fun t=>K t .normal) t F H
 | .seq a b,K,t,F,H=>H6 P X a (fun t e F H=>match e with
  | .normal=>H6 P X b K t F H
  | e=>K t e F H) t F H
 | .cond c x y,K,t,F,H=>match opv F c with
  | some (.bool b)=>match b with
   | true=>H6 P X x K t.l F H
   | false=>H6 P X y K t.r F H
  | _=>False
 | .block id c,K,t,F,H=>H6 P X c (fun t e F H=>match e with
  | .exit j=>match Nat.beq j id with
   | true=>K t .normal F H
   | false=>K t (.exit j) F H
  | e=>K t e F H) t F H
 | .loop c,K,t,F,H=>match t with
  | .loop e F' H' t=>l6 (E9 P X c) (eZ X c) (pE X c) (jJ (eZ X c) F) H e F' H'/\K t e F' H'
  | .roll n t=>a8D (H6 P X c) (eZ X c) (pE X c) n K t (jJ (eZ X c) F) H
  | _=>False
 | .exit id,K,t,F,H=>K t (.exit id) F H
 | .ret,K,t,F,H=>K t .ret F H
 | _,_,_,_,_=>False
section
variable {P:Program} {X:Env}
theorem iH {α:Sort _} {t:Option (AV × Heap)} {F:Fr} {H:Heap} {ar:Nat} {o:Oper} {K:AV->Heap->Prop} {K':α->AV->Heap->Prop} (hk:∀ a H,K a H->∃ x,K' x a H) (h:doP P X t F H ar o K):∃ x,doP P X t F H ar o (K' x):=by
 unfold doP at h
 split at h
 · obtain ⟨x,hx⟩:=hk _ _ h.2
   exact ⟨x,h.1,hx⟩
 · split at h
   · rename_i a H' he
     obtain ⟨x,hx⟩:=hk _ _ h
     refine ⟨x,?_⟩
     unfold doP
     simp only [he]
     exact hx
   · exact h.elim
theorem b4v {α:Sort _} {all:List Oper} {ab:Nat} {hs:Hs} {K:Fr->Heap->Prop} {K':α->Fr->Heap->Prop} (hk:∀ F H,K F H->∃ x,K' x F H) (rest:List Oper):∀ {i r:Nat} {F:Fr} {H:Heap},Z9 P X all ab hs rest i r K F H->∃ x,Z9 P X all ab hs rest i r (K' x) F H:=by
 induction rest with
 | nil=>exact fun h=>hk _ _ h
 | cons o rest ih =>
  intro i r F H h
  unfold Z9 at h
  split at h
  · obtain ⟨x,hx⟩:=iH (K':=fun x a H'=>Z9 P X all ab hs rest (i+1) (up o r) (K' x) (R6 F o.dst a) H') (fun _ _=>ih) h
    refine ⟨x,?_⟩
    unfold Z9
    split
    · exact hx
    · simp_all
  · rename_i j want hgd
    split at h
    case h_2=>exact h.elim
    rename_i d hd
    split at h
    · rename_i c hc
      split at h
      · split at h
        · obtain ⟨x,hx⟩:=iH (K':=fun x a H'=>Z9 P X all ab hs rest (i+1) (up o r) (K' x) (R6 (F.set d (some (.bool true))) o.dst a) H') (fun _ _=>ih) h
          exact ⟨x,by unfold Z9; simp only [hgd,hd,hc]; exact hx⟩
        · obtain ⟨x,hx⟩:=ih h
          exact ⟨x,by unfold Z9; simp only [hgd,hd,hc]; exact hx⟩
      · split at h
        · obtain ⟨x,hx⟩:=ih h
          exact ⟨x,by unfold Z9; simp only [hgd,hd,hc]; exact hx⟩
        · obtain ⟨x,hx⟩:=iH (K':=fun x a H'=>Z9 P X all ab hs rest (i+1) (up o r) (K' x) (R6 (F.set d (some (.bool false))) o.dst a) H') (fun _ _=>ih) h
          exact ⟨x,by unfold Z9; simp only [hgd,hd,hc]; exact hx⟩
    · rename_i hc
      obtain ⟨x,hx⟩:=ih h
      exact ⟨x,by unfold Z9; simp only [hgd,hd,hc]; exact hx⟩
    · exact h.elim
theorem d5U {all:List Oper} {ab:Nat} {hs:Hs} {K:Tr->Fr->Heap->Prop} (rest:List Oper):∀ {i r:Nat} {t:Tr} {F:Fr} {H:Heap},zT P X all ab hs rest i r K t F H->∃ t,Z9 P X all ab hs rest i r (K t) F H:=by
 induction rest with
 | nil=>exact fun {i r t F H} h=>⟨t,h⟩
 | cons o rest ih =>
  intro i r t F H h
  unfold zT at h
  split at h
  · obtain ⟨x,hx⟩:=iH (K':=fun x a H'=>Z9 P X all ab hs rest (i+1) (up o r) (K x) (R6 F o.dst a) H') (fun _ _=>ih) h
    refine ⟨x,?_⟩
    unfold Z9
    split
    · exact hx
    · simp_all
  · rename_i j want hgd
    split at h
    case h_2=>exact h.elim
    rename_i d hd
    split at h
    · rename_i c hc
      split at h
      · split at h
        · obtain ⟨x,hx⟩:=iH (K':=fun x a H'=>Z9 P X all ab hs rest (i+1) (up o r) (K x) (R6 (F.set d (some (.bool true))) o.dst a) H') (fun _ _=>ih) h
          exact ⟨x,by unfold Z9; simp only [hgd,hd,hc]; exact hx⟩
        · obtain ⟨x,hx⟩:=ih h
          exact ⟨x,by unfold Z9; simp only [hgd,hd,hc]; exact hx⟩
      · split at h
        · obtain ⟨x,hx⟩:=ih h
          exact ⟨x,by unfold Z9; simp only [hgd,hd,hc]; exact hx⟩
        · obtain ⟨x,hx⟩:=iH (K':=fun x a H'=>Z9 P X all ab hs rest (i+1) (up o r) (K x) (R6 (F.set d (some (.bool false))) o.dst a) H') (fun _ _=>ih) h
          exact ⟨x,by unfold Z9; simp only [hgd,hd,hc]; exact hx⟩
    · rename_i hc
      obtain ⟨x,hx⟩:=ih h
      exact ⟨x,by unfold Z9; simp only [hgd,hd,hc]; exact hx⟩
    · exact h.elim
theorem c8O {α:Sort _} {r:Rd} {lo hi:Nat} {Q:Prop} {Q':α->Prop} (hq:Q->∃ x,Q' x) (hs:List Heap):∀ {k:Nat},iZ X r lo hi hs k Q->∃ x,iZ X r lo hi hs k (Q' x):=by
 induction hs with
 | nil=>exact fun h=>hq h
 | cons H hs ih =>
  intro k h
  unfold iZ at h
  split at h
  · rename_i hc
    obtain ⟨x,hx⟩:=ih h.2
    exact ⟨x,by unfold iZ; simp only [hc]; exact ⟨h.1,hx⟩⟩
  · rename_i hc
    obtain ⟨x,hx⟩:=ih h
    exact ⟨x,by unfold iZ; simp only [hc]; exact hx⟩
theorem c2L {α:Sort _} {nd:List Nat} {D:Dr} {Q:Prop} {Q':α->Prop} (hq:Q->∃ x,Q' x) (rs:List Rd):qK X nd D rs Q->∃ x,qK X nd D rs (Q' x):=by
 induction rs with
 | nil=>exact fun h=>hq h
 | cons r rs ih=>exact fun h=>c8O ih _ h
theorem b4w {α:Sort _} {all:List Oper} {nd:List Nat} {ab:Nat} {hs:Hs} {K:Fr->Heap->Prop} {K':α->Fr->Heap->Prop} (hk:∀ F H,K F H->∃ x,K' x F H) (rest:List Oper):∀ {i r:Nat} {D:Dr} {F:Fr} {H:Heap},X3 P X all nd ab hs rest i r D K F H->∃ x,X3 P X all nd ab hs rest i r D (K' x) F H:=by
 induction rest with
 | nil =>
  intro i r D F H h
  unfold X3 at h
  split at h
  · rename_i hc
    obtain ⟨x,hx⟩:=c2L (hk _ _) _ h
    exact ⟨x,by unfold X3; simp only [hc]; exact hx⟩
  · exact h.elim
 | cons o rest ih =>
  intro i r D F H h
  unfold X3 at h
  split at h
  · obtain ⟨x,hx⟩:=iH (K':=fun x a H'=>X3 P X all nd ab hs rest (i+1) (up o r) (dD X F i o a H' D) (K' x) (R6 F o.dst a) H') (fun _ _=>ih) h
    refine ⟨x,?_⟩
    unfold X3
    split
    · exact hx
    · simp_all
  · rename_i j want hgd
    split at h
    case h_2=>exact h.elim
    rename_i d hd
    split at h
    · rename_i c hc
      split at h
      · split at h
        · obtain ⟨x,hx⟩:=iH (K':=fun x a H'=>X3 P X all nd ab hs rest (i+1) (up o r) (dD X (F.set d (some (.bool true))) i o a H' D) (K' x) (R6 (F.set d (some (.bool true))) o.dst a) H') (fun _ _=>ih) h
          exact ⟨x,by unfold X3; simp only [hgd,hd,hc]; exact hx⟩
        · obtain ⟨x,hx⟩:=ih h
          exact ⟨x,by unfold X3; simp only [hgd,hd,hc]; exact hx⟩
      · split at h
        · obtain ⟨x,hx⟩:=ih h
          exact ⟨x,by unfold X3; simp only [hgd,hd,hc]; exact hx⟩
        · obtain ⟨x,hx⟩:=iH (K':=fun x a H'=>X3 P X all nd ab hs rest (i+1) (up o r) (dD X (F.set d (some (.bool false))) i o a H' D) (K' x) (R6 (F.set d (some (.bool false))) o.dst a) H') (fun _ _=>ih) h
          exact ⟨x,by unfold X3; simp only [hgd,hd,hc]; exact hx⟩
    · rename_i hc
      obtain ⟨x,hx⟩:=ih h
      exact ⟨x,by unfold X3; simp only [hgd,hd,hc]; exact hx⟩
    · exact h.elim
theorem c8U {all:List Oper} {nd:List Nat} {ab:Nat} {hs:Hs} {K:Tr->Fr->Heap->Prop} (rest:List Oper):∀ {i r:Nat} {D:Dr} {t:Tr} {F:Fr} {H:Heap},pG P X all nd ab hs rest i r D K t F H->∃ t,X3 P X all nd ab hs rest i r D (K t) F H:=by
 induction rest with
 | nil =>
  intro i r D t F H h
  unfold pG at h
  split at h
  · rename_i hc
    exact ⟨t,by unfold X3; simp only [hc]; exact h⟩
  · exact h.elim
 | cons o rest ih =>
  intro i r D t F H h
  unfold pG at h
  split at h
  · obtain ⟨x,hx⟩:=iH (K':=fun x a H'=>X3 P X all nd ab hs rest (i+1) (up o r) (dD X F i o a H' D) (K x) (R6 F o.dst a) H') (fun _ _=>ih) h
    refine ⟨x,?_⟩
    unfold X3
    split
    · exact hx
    · simp_all
  · rename_i j want hgd
    split at h
    case h_2=>exact h.elim
    rename_i d hd
    split at h
    · rename_i c hc
      split at h
      · split at h
        · obtain ⟨x,hx⟩:=iH (K':=fun x a H'=>X3 P X all nd ab hs rest (i+1) (up o r) (dD X (F.set d (some (.bool true))) i o a H' D) (K x) (R6 (F.set d (some (.bool true))) o.dst a) H') (fun _ _=>ih) h
          exact ⟨x,by unfold X3; simp only [hgd,hd,hc]; exact hx⟩
        · obtain ⟨x,hx⟩:=ih h
          exact ⟨x,by unfold X3; simp only [hgd,hd,hc]; exact hx⟩
      · split at h
        · obtain ⟨x,hx⟩:=ih h
          exact ⟨x,by unfold X3; simp only [hgd,hd,hc]; exact hx⟩
        · obtain ⟨x,hx⟩:=iH (K':=fun x a H'=>X3 P X all nd ab hs rest (i+1) (up o r) (dD X (F.set d (some (.bool false))) i o a H' D) (K x) (R6 (F.set d (some (.bool false))) o.dst a) H') (fun _ _=>ih) h
          exact ⟨x,by unfold X3; simp only [hgd,hd,hc]; exact hx⟩
    · rename_i hc
      obtain ⟨x,hx⟩:=ih h
      exact ⟨x,by unfold X3; simp only [hgd,hd,hc]; exact hx⟩
    · exact h.elim
theorem d6n {α:Sort _} {base:Nat} {rows:List (Nat × List (List AV))} {s:Gh} {K:Fr->Heap->Prop} {K':α->Fr->Heap->Prop} (hk:∀ F H,K F H->∃ x,K' x F H) {F:Fr} {H:Heap} (h:iR base rows s K F H):∃ x,iR base rows s (K' x) F H:=by
 have hk':=hk
 cases s with
 | frz t =>
  simp only [iR] at h ⊢
  split at h
  · rename_i hs
    try simp only [hs]
    split at h
    · rename_i hr
      try simp only [hr]
      obtain ⟨x,hx⟩:=hk _ _ h.2
      exact ⟨x,h.1,hx⟩
    · rename_i hr
      try simp only [hr]
      split at h
      case h_2=>exact h.elim
      rename_i hi
      try simp only [hi]
      split at h
      case h_2=>exact h.elim
      rename_i hb
      try simp only [hb]
      exact hk _ _ h
  · rename_i hs
    try simp only [hs]
    exact hk _ _ h
  · exact h.elim
 | vir t k =>
  simp only [iR] at h ⊢
  split at h
  · rename_i hs
    try simp only [hs]
    exact hk _ _ h
  · rename_i hs
    try simp only [hs]
    exact hk _ _ h
  · exact h.elim
 | gen t g =>
  simp only [iR] at h ⊢
  split at h
  · rename_i hs
    try simp only [hs]
    split at h
    case h_2=>exact h.elim
    rename_i ho
    try simp only [ho]
    obtain ⟨x,hx⟩:=hk _ _ h.2
    exact ⟨x,h.1,hx⟩
  · rename_i hs
    try simp only [hs]
    exact hk _ _ h
  · exact h.elim
 | any t k =>
  simp only [iR] at h ⊢
  split at h
  case h_2=>exact h.elim
  rename_i hs
  try simp only [hs]
  split at h
  · rename_i hk
    try simp only [hk]
    exact hk' _ _ h
  · rename_i hk
    try simp only [hk]
    split at h
    · exact hk' _ _ h
    · exact h.elim
 | virf t c k =>
  simp only [iR] at h ⊢
  split at h
  case h_3=>exact h.elim
  · rename_i hs
    try simp only [hs]
    split at h
    case h_2=>exact h.elim
    rename_i ho
    try simp only [ho]
    split at h
    case h_2=>exact h.elim
    rename_i hlen
    try simp only [hlen]
    split at h
    · rename_i hcell
      try simp only [hcell]
      obtain ⟨x,hx⟩:=hk _ _ h.2
      exact ⟨x,h.1,hx⟩
    · rename_i hcell
      try simp only [hcell]
      exact hk' _ _ h
    · exact h.elim
  · rename_i hs
    try simp only [hs]
    split at h
    case h_2=>exact h.elim
    rename_i ho
    try simp only [ho]
    split at h
    case h_2=>exact h.elim
    rename_i hlen
    try simp only [hlen]
    split at h
    · rename_i hcell
      try simp only [hcell]
      obtain ⟨x,hx⟩:=hk _ _ h.2
      exact ⟨x,h.1,hx⟩
    · rename_i hcell
      try simp only [hcell]
      exact hk' _ _ h
    · exact h.elim
 | frzf t c k =>
  simp only [iR] at h ⊢
  split at h
  case h_2=>exact h.elim
  rename_i hs
  try simp only [hs]
  split at h
  case h_2=>exact h.elim
  rename_i ho
  try simp only [ho]
  split at h
  case h_2=>exact h.elim
  rename_i hlen
  try simp only [hlen]
  split at h
  · rename_i hcell
    try simp only [hcell]
    split at h
    · exact h.elim
    · rename_i hne
      try simp only [hne]
      split at h
      case h_2=>exact h.elim
      rename_i hr
      try simp only [hr]
      obtain ⟨x,hx⟩:=hk _ _ h.2
      exact ⟨x,h.1,hx⟩
  · rename_i hcell
    try simp only [hcell]
    split at h
    · rename_i hb
      try simp only [hb]
      obtain ⟨x,hx⟩:=hk' _ _ h.2
      exact ⟨x,h.1,hx⟩
    · rename_i hb
      try simp only [hb]
      split at h
      · obtain ⟨x,hx⟩:=hk' _ _ h.2
        exact ⟨x,h.1,hx⟩
      · exact h.elim
  · exact h.elim
 | cut n =>
  simp only [iR] at h ⊢
  split at h
  · rename_i hs
    try simp only [hs]
    obtain ⟨x,hx⟩:=hk _ _ h.2
    exact ⟨x,h.1,hx⟩
  · exact h.elim
theorem yJ {α:Sort _} {base:Nat} {rows:List (Nat × List (List AV))}:∀ (l:List (Nat × Gh)) {id:Nat} {K:Fr->Heap->Prop} {K':α->Fr->Heap->Prop} (hk:∀ F H,K F H->∃ x,K' x F H) {F:Fr} {H:Heap},ghP base rows l id K F H->∃ x,ghP base rows l id (K' x) F H
 | [],id,K,K',hk,F,H,h=>hk _ _ h
 | (r,s) :: l,id,K,K',hk,F,H,h=>by
  unfold ghP at h
  split at h
  · rename_i hc
    obtain ⟨x,hx⟩:=d6n (fun _ _=>yJ l hk) h
    exact ⟨x,by unfold ghP; simp only [hc]; exact hx⟩
  · rename_i hc
    obtain ⟨x,hx⟩:=yJ l hk h
    exact ⟨x,by unfold ghP; simp only [hc]; exact hx⟩
theorem d5M {α:Sort _} {id:Nat} {ops:Array Oper} {draw:Bool} {hs:Hs} {rows rows':List (Nat × List (List AV))} {K:Fr->Heap->Prop} {K':α->Fr->Heap->Prop} (hk:∀ F H,K F H->∃ x,K' x F H) {F:Fr} {H:Heap}
 (h:a0U P X id ops draw hs rows rows' K F H):∃ x,a0U P X id ops draw hs rows rows' (K' x) F H:=by
 unfold a0U at h ⊢
 refine yJ _ (fun F H h=>?_) h
 split at h
 case h_2=>exact h.elim
 rename_i hal
 try simp only [hal]
 split at h
 · exact b4v (fun _ _=>yJ _ hk) _ h
 · exact b4w (fun _ _=>yJ _ hk) _ h
theorem b4t {id:Nat} {ops:Array Oper} {draw:Bool} {hs:Hs} {rows rows':List (Nat × List (List AV))} {K:Tr->Fr->Heap->Prop} {t:Tr} {F:Fr} {H:Heap}
 (h:b6a P X id ops draw hs rows rows' K t F H):a0U P X id ops draw hs rows rows' (fun F H=>∃ t,K t F H) F H:=by
 unfold b6a at h
 unfold a0U
 have mono1:∀ {K K':Fr->Heap->Prop} {base:Nat} {rows:List (Nat × List (List AV))} {l:List (Nat × Gh)} {id:Nat} {F:Fr} {H:Heap},(∀ F H,K F H->K' F H)->ghP base rows l id K F H->ghP base rows l id K' F H:=fun hk h=>by
  obtain ⟨_,h⟩:=yJ (α:=Unit) (K':=fun _=>_) _ (fun F H h=>⟨(),hk F H h⟩) h
  exact h
 refine mono1 (fun F H h=>?_) h
 split at h
 case h_2=>exact h.elim
 rename_i hal
 try simp only [hal]
 split at h
 · obtain ⟨t,h⟩:=d5U _ h
   obtain ⟨_,h⟩:=b4v (α:=Unit) (K':=fun _=>_) (fun F H h=>⟨(),mono1 (fun F H h=>(⟨t,h⟩:∃ t,K t F H)) h⟩) _ h
   exact h
 · obtain ⟨t,h⟩:=c8U _ h
   obtain ⟨_,h⟩:=b4w (α:=Unit) (K':=fun _=>_) (fun F H h=>⟨(),mono1 (fun F H h=>(⟨t,h⟩:∃ t,K t F H)) h⟩) _ h
   exact h
theorem jK:∀ (c:Code) {α:Sort _} {K:Ex->Fr->Heap->Prop} {K':α->Ex->Fr->Heap->Prop} (hk:∀ e F H,K e F H->∃ x,K' x e F H) {F:Fr} {H:Heap},E9 P X c K F H->∃ x,E9 P X c (K' x) F H
 | .skip,α,K,K',hk,F,H,h=>hk _ _ _ h
 | .exit id,α,K,K',hk,F,H,h=>hk _ _ _ h
 | .ret,α,K,K',hk,F,H,h=>hk _ _ _ h
 | .seq a b,α,K,K',hk,F,H,h=>by
  simp only [E9] at h ⊢
  refine jK a (K':=fun x e F H=>match e with | .normal=>E9 P X b (K' x) F H | e=>K' x e F H) (fun e F H h=>?_) h
  cases e with
  | normal=>exact jK b hk h
  | exit id=>exact hk _ _ _ h
  | ret=>exact hk _ _ _ h
 | .cond c x y,α,K,K',hk,F,H,h=>by
  simp only [E9] at h
  split at h
  · rename_i b hb
    split at h
    · obtain ⟨x,hx⟩:=jK x hk h
      exact ⟨x,by simp only [E9,hb]; exact hx⟩
    · obtain ⟨x,hx⟩:=jK y hk h
      exact ⟨x,by simp only [E9,hb]; exact hx⟩
  · exact h.elim
 | .block id c,α,K,K',hk,F,H,h=>by
  simp only [E9] at h ⊢
  refine jK c (K':=fun x e F H=>match e with | .exit j=>(match Nat.beq j id with | true=>K' x .normal F H | false=>K' x (.exit j) F H) | e=>K' x e F H) (fun e F H h=>?_) h
  cases e with
  | normal=>exact hk _ _ _ h
  | ret=>exact hk _ _ _ h
  | exit j =>
   simp only at h ⊢
   split at h
   · rename_i hj
     try simp only [hj]
     exact hk _ _ _ h
   · rename_i hj
     try simp only [hj]
     exact hk _ _ _ h
 | .loop c,α,K,K',hk,F,H,h=>by
  simp only [E9] at h ⊢
  obtain ⟨n,h⟩:=h
  have key:∀ (n:Nat) {F:Fr} {H:Heap},kP (E9 P X c) (eZ X c) (pE X c) n K F H->∃ x,kP (E9 P X c) (eZ X c) (pE X c) n (K' x) F H:=by
   intro n
   induction n with
   | zero=>exact fun h=>h.elim
   | succ n ih =>
    intro F H h
    simp only [kP] at h ⊢
    refine jK c (K':=fun x e F H=>match e with | .normal=>kP (E9 P X c) (eZ X c) (pE X c) n (K' x) (jJ (eZ X c) F) H | e=>K' x e (jJ (pE X c) F) H) (fun e F H h=>?_) h
    cases e with
    | normal=>exact ih h
    | exit id=>exact hk _ _ _ h
    | ret=>exact hk _ _ _ h
  obtain ⟨x,hx⟩:=key n h
  exact ⟨x,n,hx⟩
 | .region id ops draw,α,K,K',hk,F,H,h=>by
  simp only [E9] at h ⊢
  obtain ⟨hs,rows,rows',h⟩:=h
  obtain ⟨x,hx⟩:=d5M (hk .normal) h
  exact ⟨x,hs,rows,rows',hx⟩
 | .label _,α,K,K',hk,F,H,h=>by simp [E9] at h
 | .goto _,α,K,K',hk,F,H,h=>by simp [E9] at h
 | .rangeFunc ..,α,K,K',hk,F,H,h=>by simp [E9] at h
 | .refuse _,α,K,K',hk,F,H,h=>by simp [E9] at h
 | .scope ..,α,K,K',hk,F,H,h=>by simp [E9] at h
theorem tJ (c:Code) {K K':Ex->Fr->Heap->Prop} (hk:∀ e F H,K e F H->K' e F H) {F:Fr} {H:Heap} (h:E9 P X c K F H):E9 P X c K' F H:=by
 obtain ⟨_,h⟩:=jK c (α:=Unit) (K':=fun _=>K') (fun e F H h=>⟨(),hk e F H h⟩) h
 exact h
theorem lX:∀ (c:Code) {K:Tr->Ex->Fr->Heap->Prop} {t:Tr} {F:Fr} {H:Heap},H6 P X c K t F H->E9 P X c (fun e F H=>∃ t,K t e F H) F H
 | .skip,K,t,F,H,h=>⟨t,h⟩
 | .exit id,K,t,F,H,h=>⟨t,h⟩
 | .ret,K,t,F,H,h=>⟨t,h⟩
 | .seq a b,K,t,F,H,h=>by
  simp only [H6] at h
  simp only [E9]
  refine tJ a (fun e F H h=>?_) (lX a h)
  obtain ⟨t,h⟩:=h
  cases e with
  | normal=>exact lX b h
  | exit id=>exact ⟨t,h⟩
  | ret=>exact ⟨t,h⟩
 | .cond c x y,K,t,F,H,h=>by
  simp only [H6] at h
  split at h
  · rename_i b hb
    split at h
    · simp only [E9,hb]; exact lX x h
    · simp only [E9,hb]; exact lX y h
  · exact h.elim
 | .block id c,K,t,F,H,h=>by
  simp only [H6] at h
  simp only [E9]
  refine tJ c (fun e F H h=>?_) (lX c h)
  obtain ⟨t,h⟩:=h
  cases e with
  | normal=>exact ⟨t,h⟩
  | ret=>exact ⟨t,h⟩
  | exit j =>
   simp only at h ⊢
   split at h
   · rename_i hj
     try simp only [hj]
     exact ⟨t,h⟩
   · rename_i hj
     try simp only [hj]
     exact ⟨t,h⟩
 | .loop c,K,t,F,H,h=>by
  simp only [H6] at h
  simp only [E9]
  split at h
  · rename_i e F' H' t
    exact h.1 _ ⟨t,h.2⟩
  · rename_i n t
    refine ⟨n,?_⟩
    generalize jJ (eZ X c) F=F1 at h ⊢
    have key:∀ (n:Nat) {t:Tr} {F:Fr} {H:Heap},a8D (H6 P X c) (eZ X c) (pE X c) n K t F H->kP (E9 P X c) (eZ X c) (pE X c) n (fun e F H=>∃ t,K t e F H) F H:=by
     intro n
     induction n with
     | zero=>exact fun h=>h
     | succ n ih =>
      intro t F H h
      simp only [a8D] at h
      simp only [kP]
      refine tJ c (fun e F H h=>?_) (lX c h)
      obtain ⟨t,h⟩:=h
      cases e with
      | normal=>exact ih h
      | exit id=>exact ⟨t,h⟩
      | ret=>exact ⟨t,h⟩
    exact key n h
  · exact h.elim
 | .region id ops draw,K,t,F,H,h=>by
  simp only [H6] at h
  simp only [E9]
  split at h
  · exact ⟨_,_,_,b4t h⟩
  · exact ⟨_,_,_,b4t h⟩
 | .label _,K,t,F,H,h=>by simp [H6] at h
 | .goto _,K,t,F,H,h=>by simp [H6] at h
 | .rangeFunc ..,K,t,F,H,h=>by simp [H6] at h
 | .refuse _,K,t,F,H,h=>by simp [H6] at h
 | .scope ..,K,t,F,H,h=>by simp [H6] at h
theorem l6.step {c:Code} {live out:Option (List Nat)} {F F':Fr} {H H':Heap} {e:Ex} (t:Tr)
 (h:H6 P X c (fun _ e2 F2 H2=>match e2 with | .normal=>l6 (E9 P X c) live out (jJ live F2) H2 e F' H' | e2=>(e2,jJ out F2,H2)=(e,F',H')) t F H):l6 (E9 P X c) live out F H e F' H':=by
 intro K hk
 have h1:=lX c h
 obtain ⟨n,h2⟩:=jK c (K':=fun n e2 F2 H2=>match e2 with | .normal=>kP (E9 P X c) live out n K (jJ live F2) H2 | e2=>K e2 (jJ out F2) H2) (fun e2 F2 H2 h=>by
  obtain ⟨_,h⟩:=h
  cases e2 with
  | normal=>exact h K hk
  | exit id =>
   simp only [Prod.mk.injEq] at h
   obtain ⟨rfl,rfl,rfl⟩:=h
   exact ⟨0,hk⟩
  | ret =>
   simp only [Prod.mk.injEq] at h
   obtain ⟨rfl,rfl,rfl⟩:=h
   exact ⟨0,hk⟩) h1
 exact ⟨n+1,h2⟩
end
section
variable {P:Program} {X:Env} {G G':Nat->Prop} {w w':World} {C C':Cx} {F F':Fr} {act:Act} {H H':Heap}
def tV (tmps:Array Value):ResultVar->Sem Value
 | .tmp t=>pure (tmps.getD t undef)
 | .cell a t=>do loadVar t (<- asAddr (tmps.getD a undef))
theorem a8q (hT:TOk P X.T) (hF:FrR G w C F act.tmps) (hH:HR G w C H) {r:ResultVar} {a:AV} (h:a2m X F H r=some a):∃ v,(tV act.tmps r).run P w=.ok v w/\VR G w C a v:=by
 have same:∀ (t:TypeId) (u:Value) (v:Value),(Instr.loadAt t u).run P w=.ok v w->(∃ ad,u=.pointer (some ad))->(do loadVar t (<- asAddr u):Sem Value).run P w=.ok v w:=by
  rintro t u v hr ⟨ad,rfl⟩
  simpa [Instr.loadAt,Instr.sureAddr,asAddr] using hr
 cases r with
 | tmp t =>
  simp only [a2m] at h
  exact ⟨_,rfl,H8 (act:=act) hF h⟩
 | cell x t =>
  simp only [a2m] at h
  split at h
  · rename_i cs c hx
    have hv:=H8 (act:=act) hF hx
    obtain ⟨v,h1,h2⟩:=yG hT hv h
    refine ⟨v,?_,h2⟩
    simp only [tV]
    refine same t _ v h1 ?_
    generalize hu:act.eval (.tmp x)=u at hv
    have:act.tmps.getD x undef=u:=hu
    rw [this]
    cases hv
    exact ⟨_,rfl⟩
  · rename_i id g e c hx
    split at h
    case h_2=>simp at h
    rename_i cs hr
    have hv:=H8 (act:=act) hF hx
    obtain ⟨v,h1,h2⟩:=yH hT hH hv hr h
    refine ⟨v,?_,h2⟩
    simp only [tV]
    refine same t _ v h1 ?_
    generalize hu:act.eval (.tmp x)=u at hv
    have:act.tmps.getD x undef=u:=hu
    rw [this]
    cases hv
    exact ⟨_,rfl⟩
  · simp at h
theorem vQ (hT:TOk P X.T) (hF:FrR G w C F act.tmps) (hH:HR G w C H):∀ {rs:List ResultVar} {as_:List AV},lT X F H rs=some as_ ->
 ∃ vs:List Value,(rs.mapM (tV act.tmps)).run P w=.ok vs w/\vs.length=as_.length/\∀ i,i < as_.length->VR G w C (as_.getD i .skip) (vs.getD i undef)
 | [],as_,h=>by
  simp [lT] at h
  subst h
  exact ⟨[],by simp,rfl,fun i hi=>by simp at hi⟩
 | r :: rs,as_,h=>by
  simp only [lT] at h
  split at h
  case h_2=>simp at h
  rename_i a l h1 h2
  simp only [Option.some.injEq] at h
  subst h
  obtain ⟨v,h3,h4⟩:=a8q hT hF hH h1
  obtain ⟨vs,h5,h6,h7⟩:=vQ hT hF hH h2
  refine ⟨v :: vs,by simp [List.mapM_cons,h3,h5],by simp [h6],fun i hi=>?_⟩
  cases i with
  | zero=>simpa using h4
  | succ i=>simpa using h7 i yb_
theorem b5Z (fn:Func) (tmps:Array Value):results fn tmps=(do let vs <- fn.results.mapM (tV tmps); pure (if h:vs.size=1 then vs[0] else .tuple vs)):=rfl
theorem a8p (hT:TOk P X.T) (hF:FrR G w C F act.tmps) (hH:HR G w C H) {fn:Func} {as_:List AV} (h:lT X F H fn.results.toList=some as_) :
 ∃ v,(results fn act.tmps).run P w=.ok v w/\VR G w C (a4M as_) v:=by
 obtain ⟨vs,h1,h2,h3⟩:=vQ (act:=act) hT hF hH h
 have hm:(fn.results.mapM (tV act.tmps)).run P w=.ok vs.toArray w:=by
  rw [Array.mapM_eq_mapM_toList]
  simp [h1]
 rw [b5Z]
 simp only [Sem.run_bind,hm,Result.andThen_ok,Sem.run_pure]
 refine ⟨_,rfl,?_⟩
 unfold a4M
 split
 · rename_i a
   have hv:vs.length=1:=h2
   obtain ⟨v,rfl⟩:=List.length_eq_one_iff.1 hv
   simpa using h3 0 ye_
 · rename_i hne
   have hv:¬ vs.toArray.size=1:=fun e=>by
    have:as_.length=1:=by rw [<- h2]; simpa using e
    obtain ⟨a,rfl⟩:=List.length_eq_one_iff.1 this
    exact hne a rfl
   rw [dif_neg hv]
   refine .tup _ _ _ (by simpa using h2) fun i hi=>?_
   have:=h3 i hi
   simpa [Array.getD_eq_getD_getElem?,List.getD_eq_getElem?_getD] using this
mutual
theorem a4T:∀ {n0:Nat} (a:AV) {G:Nat->Prop} {C:Cx} {H:Heap} {v:Value} {a':AV} {H':Heap},VR G w C a v->HR G w C H->gM n0 a H=some (a',H')->∃ G' C',Ev G w C G' w C'/\HR G' w C' H'/\VR G' w C' a' v/\Pd V5 C H C' H'
 | n0,.osl id g k e n,G,C,H,v,a',H',hv,hH,h=>by
  simp only [gM] at h
  split at h
  · split at h
    case h_2=>simp at h
    rename_i xs hr
    split at h
    case isFalse=>simp at h
    rename_i hb
    simp only [Option.some.injEq,Prod.mk.injEq] at h
    obtain ⟨rfl,rfl⟩:=h
    exact gN hH hv hr hb
  · simp only [Option.some.injEq,Prod.mk.injEq] at h
    obtain ⟨rfl,rfl⟩:=h
    exact ⟨G,C,Ev.refl ..,hH,hv,Pd.refl⟩
 | n0,.agg cs,G,C,H,v,a',H',hv,hH,h=>by
  simp only [gM] at h
  split at h
  case h_2=>simp at h
  rename_i cs' H2 hc
  simp only [Option.some.injEq,Prod.mk.injEq] at h
  obtain ⟨rfl,rfl⟩:=h
  cases hv with
  | agg _ _ vs hs h1 hv =>
   obtain ⟨G',C',a1,a2,a3,a4,a5⟩:=xE cs (f:=fun i=>vs.getD i undef) hv hH hc
   exact ⟨G',C',a1,a2,.agg _ _ _ ya_ (fun i hi=>h1 i ya_) a4,a5⟩
 | n0,.tup cs,G,C,H,v,a',H',hv,hH,h=>by
  simp only [gM] at h
  split at h
  case h_2=>simp at h
  rename_i cs' H2 hc
  simp only [Option.some.injEq,Prod.mk.injEq] at h
  obtain ⟨rfl,rfl⟩:=h
  cases hv with
  | tup _ _ vs hs hv =>
   obtain ⟨G',C',a1,a2,a3,a4,a5⟩:=xE cs (f:=fun i=>vs.getD i undef) hv hH hc
   exact ⟨G',C',a1,a2,.tup _ _ _ ya_ a4,a5⟩
 | n0,.skip,G,C,H,v,a',H',hv,hH,h=>by simp only [gM,Option.some.injEq,Prod.mk.injEq] at h; obtain ⟨rfl,rfl⟩:=h; exact ⟨G,C,Ev.refl ..,hH,hv,Pd.refl⟩
 | n0,.unk,G,C,H,v,a',H',hv,hH,h=>by simp only [gM,Option.some.injEq,Prod.mk.injEq] at h; obtain ⟨rfl,rfl⟩:=h; exact ⟨G,C,Ev.refl ..,hH,hv,Pd.refl⟩
 | n0,.bool ..,G,C,H,v,a',H',hv,hH,h=>by simp only [gM,Option.some.injEq,Prod.mk.injEq] at h; obtain ⟨rfl,rfl⟩:=h; exact ⟨G,C,Ev.refl ..,hH,hv,Pd.refl⟩
 | n0,.int ..,G,C,H,v,a',H',hv,hH,h=>by simp only [gM,Option.some.injEq,Prod.mk.injEq] at h; obtain ⟨rfl,rfl⟩:=h; exact ⟨G,C,Ev.refl ..,hH,hv,Pd.refl⟩
 | n0,.str ..,G,C,H,v,a',H',hv,hH,h=>by simp only [gM,Option.some.injEq,Prod.mk.injEq] at h; obtain ⟨rfl,rfl⟩:=h; exact ⟨G,C,Ev.refl ..,hH,hv,Pd.refl⟩
 | n0,.nilp,G,C,H,v,a',H',hv,hH,h=>by simp only [gM,Option.some.injEq,Prod.mk.injEq] at h; obtain ⟨rfl,rfl⟩:=h; exact ⟨G,C,Ev.refl ..,hH,hv,Pd.refl⟩
 | n0,.nilf,G,C,H,v,a',H',hv,hH,h=>by simp only [gM,Option.some.injEq,Prod.mk.injEq] at h; obtain ⟨rfl,rfl⟩:=h; exact ⟨G,C,Ev.refl ..,hH,hv,Pd.refl⟩
 | n0,.nili,G,C,H,v,a',H',hv,hH,h=>by simp only [gM,Option.some.injEq,Prod.mk.injEq] at h; obtain ⟨rfl,rfl⟩:=h; exact ⟨G,C,Ev.refl ..,hH,hv,Pd.refl⟩
 | n0,.func ..,G,C,H,v,a',H',hv,hH,h=>by simp only [gM,Option.some.injEq,Prod.mk.injEq] at h; obtain ⟨rfl,rfl⟩:=h; exact ⟨G,C,Ev.refl ..,hH,hv,Pd.refl⟩
 | n0,.iface ..,G,C,H,v,a',H',hv,hH,h=>by simp only [gM,Option.some.injEq,Prod.mk.injEq] at h; obtain ⟨rfl,rfl⟩:=h; exact ⟨G,C,Ev.refl ..,hH,hv,Pd.refl⟩
 | n0,.ref ..,G,C,H,v,a',H',hv,hH,h=>by simp only [gM,Option.some.injEq,Prod.mk.injEq] at h; obtain ⟨rfl,rfl⟩:=h; exact ⟨G,C,Ev.refl ..,hH,hv,Pd.refl⟩
 | n0,.sl ..,G,C,H,v,a',H',hv,hH,h=>by simp only [gM,Option.some.injEq,Prod.mk.injEq] at h; obtain ⟨rfl,rfl⟩:=h; exact ⟨G,C,Ev.refl ..,hH,hv,Pd.refl⟩
 | n0,.obj ..,G,C,H,v,a',H',hv,hH,h=>by simp only [gM,Option.some.injEq,Prod.mk.injEq] at h; obtain ⟨rfl,rfl⟩:=h; exact ⟨G,C,Ev.refl ..,hH,hv,Pd.refl⟩
theorem xE:∀ {n0:Nat} (as_:List AV) {G:Nat->Prop} {C:Cx} {H:Heap} {f:Nat->Value} {as':List AV} {H':Heap},(∀ i,i < as_.length->VR G w C (as_.getD i .skip) (f i))->HR G w C H->a2v n0 as_ H=some (as',H') ->
 ∃ G' C',Ev G w C G' w C'/\HR G' w C' H'/\as'.length=as_.length/\(∀ i,i < as'.length->VR G' w C' (as'.getD i .skip) (f i))/\Pd V5 C H C' H'
 | n0,[],G,C,H,f,as',H',hv,hH,h=>by
  simp only [a2v,Option.some.injEq,Prod.mk.injEq] at h
  obtain ⟨rfl,rfl⟩:=h
  exact ⟨G,C,Ev.refl ..,hH,rfl,fun i hi=>by simp at hi,Pd.refl⟩
 | n0,a :: as_,G,C,H,f,as',H',hv,hH,h=>by
  simp only [a2v] at h
  split at h
  case h_2=>simp at h
  rename_i a1 H1 h1
  split at h
  case h_2=>simp at h
  rename_i as1 H2 h2
  simp only [Option.some.injEq,Prod.mk.injEq] at h
  obtain ⟨rfl,rfl⟩:=h
  obtain ⟨G1,C1,b1,b2,b3,b4⟩:=a4T a (by simpa using hv 0 ye_) hH h1
  obtain ⟨G2,C2,c1,c2,c3,c4,c5⟩:=xE as_ (f:=fun i=>f (i+1)) (fun i hi=>by simpa using (hv (i+1) yb_).ev b1) b2 h2
  refine ⟨G2,C2,b1.trans c1,c2,by simp [c3],fun i hi=>?_,b4.trans c5⟩
  cases i with
  | zero=>simpa using b3.ev c1
  | succ i=>simpa using c4 i yb_
end
def b7K (X:Env) (fn:Func) (r:AV × Heap) (e:Ex) (F:Fr) (H:Heap):Prop :=
 match e with
 | .exit _=>False
 | _=>match lT X F H fn.results.toList with
  | some vs=>match X.ann.fin with
   | none=>(a4M vs,H)=r
   | some n=>match Nat.ble X.ann.base n with
    | true=>(AV.bdd n (a4M vs)=true/\dY n (H.take n)=true)/\(a4M vs,H.take n)=r
    | false=>False
  | none=>False
theorem b7J (hT:TOk P X.T) {G0:Nat->Prop} {w0:World} {C0:Cx} {H0:Heap} (hH0:HR G0 w0 C0 H0) (hb0:H0.length<=X.ann.base) (he:Ev G0 w0 C0 G w C) (hp:Pd V5 C0 H0 C H) (hF:FrR G w C F act.tmps) (hH:HR G w C H) {fn:Func} {r:AV × Heap} {e:Ex} (h:b7K X fn r e F H) :
 (∀ id,e≠.exit id)/\∃ v,(results fn act.tmps).run P w=.ok v w/\After G0 w0 C0 H0 r v w:=by
 unfold b7K at h
 split at h
 · exact h.elim
 · rename_i hne
   split at h
   case h_2=>exact h.elim
   rename_i as_ has
   obtain ⟨v,h1,h2⟩:=a8p (act:=act) hT hF hH has
   split at h
   · subst h
     exact ⟨fun id he=>hne id he,v,h1,G,C,he,hH,h2,hp⟩
   · split at h
     case h_2=>exact h.elim
     rename_i n _ _ hn
     obtain ⟨⟨h3,h4⟩,h5⟩:=h
     subst h5
     obtain ⟨c1,c2,c3,c4⟩:=a8b (n:=n) hH0 he hp hF hH (Nat.le_trans hb0 (Nat.le_of_ble_eq_true hn)) h4
     exact ⟨fun id he=>hne id he,v,h1,G,_,c1,c3,h2.cut n h3,c4⟩
end
structure Has (P:Program) (f:FuncId) (fn:Func):Prop where
 get:P.funcs[f]?=some fn
 body:fn.body.isNone=false
 name : (fn.name == "runtime.NumGoroutine") = false
 ok:fn.body.all codeOk=true
def a4U (fn:Func) (args:List AV):Fr:=args.map some++List.replicate (fn.ntmps - args.length) none
def c9X (P:Program) (X:Env) (fn:Func) (args:List AV) (H:Heap) (r:AV × Heap):Prop :=
 match fn.body with
 | some c=>E9 P X c (b7K X fn r) (a4U fn args) H
 | none=>False
def K5 (P:Program) (X:Env) (fn:Func) (t:Tr) (args:List AV) (H:Heap) (r:AV × Heap):Prop :=
 match fn.body with
 | some c=>H6 P X c (fun _=>b7K X fn r) t (a4U fn args) H
 | none=>False
theorem b7H {P:Program} {X:Env} {f:FuncId} {fn:Func} (hT:TOk P X.T) (hM:Mok P X.M) (hmo:P.follows .mixedOrders=true) (hf:Has P f fn)
 {args:List AV} {H:Heap} {r:AV × Heap} (hb:H.length<=X.ann.base) (h:c9X P X fn args H r):j5 P f args H r:=by
 intro G w C vs hsz hargs hH
 unfold c9X at h
 cases hbd:fn.body with
 | none=>have:=hf.body; simp [hbd] at this
 | some c =>
  rw [hbd] at h
  simp only at h
  have hcf:(callFunc f vs).run P w=.ok (.enter f vs) w:=by
   simp only [callFunc,Sem.run_bind,run_program,Result.andThen_ok,hf.get]
   simp [hf.name,hf.body]
  unfold fI
  rw [hcf]
  simp only
  refine calls_of_wp hf.get hbd ?_
  refine fV (X:=X) (defers:=[]) hT hM hmo hH hb c (by have:=hf.ok; simpa [hbd] using this) _ _ H G w C _ _ (Ev.refl ..) Pd.refl ⟨by simp [a4U,hsz],fun t a ht=>?_⟩ hH rfl h ?_
  · unfold a4U at ht
    rcases Nat.lt_or_ge t args.length with h' | h'
    · rw [List.getElem?_append_left (by simpa using h')] at ht
      simp only [List.getElem?_map,Option.map_eq_some_iff] at ht
      obtain ⟨b,hb1,hb2⟩:=ht
      simp only [Option.some.injEq] at hb2
      subst hb2
      have:=hargs t h'
      rw [List.getD_eq_getElem?_getD,hb1] at this
      simp only [Array.getD_eq_getD_getElem?]
      rw [Array.getElem?_append_left ya_]
      simpa [Array.getD_eq_getD_getElem?] using this
    · rw [List.getElem?_append_right (by simpa using h')] at ht
      rw [List.getElem?_replicate] at ht
      split at ht <;> simp at ht
  · intro e F' H' act' w' G' C' h1 h2 h3 h4 h5 h6
    obtain ⟨hne,v,hr,ha⟩:=b7J (act:=act') hT hH hb h1 h4 h2 h3 h6
    have fin:act'.defers=[]/\∃ v,(results fn act'.tmps).run P w'=.ok v w'/\∃ v',Ending.returned v=.returned v'/\After G w C H r v' w':=⟨h5,v,hr,v,rfl,ha⟩
    cases e with
    | normal=>exact fin
    | ret=>exact fin
    | exit id=>exact absurd rfl (hne id)
theorem b7G {P:Program} {X:Env} {f:FuncId} {fn:Func} (hT:TOk P X.T) (hM:Mok P X.M) (hmo:P.follows .mixedOrders=true) (hf:Has P f fn)
 {t:Tr} {args:List AV} {H:Heap} {r:AV × Heap} (hb:H.length<=X.ann.base) (h:K5 P X fn t args H r):j5 P f args H r:=by
 refine b7H (X:=X) hT hM hmo hf hb ?_
 unfold K5 at h
 unfold c9X
 split at h
 · rename_i c _
   exact tJ c (fun e F H ⟨_,h⟩=>h) (lX c h)
 · exact h
theorem fI.mono {P:Program} {f:FuncId} {vs:Array Value} {w:World} {R R':Value->World->Prop} (h:fI P f vs w R) (hr:∀ v w',R v w'->R' v w'):fI P f vs w R':=by
 unfold fI at *
 split at h
 · exact Calls.mono h fun e w' ⟨v,he,hR⟩=>⟨v,he,hr _ _ hR⟩
 · exact hr _ _ h
 · exact h.elim
mutual
theorem b1D {b c:Nat} (h:b<=c):∀ (a:AV),AV.bdd b a=true->AV.bdd c a=true
 | .func _ xs,ha=>by simp only [AV.bdd] at ha ⊢; exact wD h xs ha
 | .iface _ v,ha=>by simp only [AV.bdd] at ha ⊢; exact b1D h v ha
 | .agg cs,ha=>by simp only [AV.bdd] at ha ⊢; exact wD h cs ha
 | .tup vs,ha=>by simp only [AV.bdd] at ha ⊢; exact wD h vs ha
 | .obj id _ _ _,ha=>by simp only [AV.bdd,decide_eq_true_eq] at ha ⊢; omega
 | .osl id _ _ _ _,ha=>by simp only [AV.bdd,decide_eq_true_eq] at ha ⊢; omega
 | .skip,_=>rfl
 | .unk,_=>rfl
 | .bool _,_=>rfl
 | .int _ _,_=>rfl
 | .str _,_=>rfl
 | .nilp,_=>rfl
 | .nilf,_=>rfl
 | .nili,_=>rfl
 | .ref _ _,_=>rfl
 | .sl _ _ _,_=>rfl
theorem wD {b c:Nat} (h:b<=c):∀ (as_:List AV),AV.bdds b as_=true->AV.bdds c as_=true
 | [],_=>rfl
 | a :: as_,ha=>by
  simp only [AV.bdds,Bool.and_eq_true] at ha ⊢
  exact ⟨b1D h a ha.1,wD h as_ ha.2⟩
end
theorem yQ:∀ {xs:List AV} {b:Nat},(∀ i,i < xs.length->AV.bdd b (xs.getD i .skip)=true)->AV.bdds b xs=true
 | [],_,_=>rfl
 | x :: xs,b,h=>by
  simp only [AV.bdds,Bool.and_eq_true]
  exact ⟨by simpa using h 0 ye_,yQ fun i hi=>by simpa using h (i+1) yb_⟩
mutual
def AV.ren (τ:Nat->Nat):AV->AV
 | .func f xs=>.func f (AV.rens τ xs)
 | .iface t v=>.iface t (AV.ren τ v)
 | .agg cs=>.agg (AV.rens τ cs)
 | .tup vs=>.tup (AV.rens τ vs)
 | .obj id g e c=>.obj (τ id) g e c
 | .osl id g k e n=>.osl (τ id) g k e n
 | a=>a
def AV.rens (τ:Nat->Nat):List AV->List AV
 | []=>[]
 | a :: as_=>AV.ren τ a :: AV.rens τ as_
end
mutual
theorem a9T {τ:Nat->Nat}:∀ (a:AV),AV.bdd 0 a=true->AV.ren τ a=a
 | .func _ xs,ha=>by simp only [AV.bdd] at ha; simp only [AV.ren]; rw [nS xs ha]
 | .iface _ v,ha=>by simp only [AV.bdd] at ha; simp only [AV.ren]; rw [a9T v ha]
 | .agg cs,ha=>by simp only [AV.bdd] at ha; simp only [AV.ren]; rw [nS cs ha]
 | .tup vs,ha=>by simp only [AV.bdd] at ha; simp only [AV.ren]; rw [nS vs ha]
 | .obj id _ _ _,ha=>by simp [AV.bdd] at ha
 | .osl id _ _ _ _,ha=>by simp [AV.bdd] at ha
 | .skip,_=>rfl
 | .unk,_=>rfl
 | .bool _,_=>rfl
 | .int _ _,_=>rfl
 | .str _,_=>rfl
 | .nilp,_=>rfl
 | .nilf,_=>rfl
 | .nili,_=>rfl
 | .ref _ _,_=>rfl
 | .sl _ _ _,_=>rfl
theorem nS {τ:Nat->Nat}:∀ (as_:List AV),AV.bdds 0 as_=true->AV.rens τ as_=as_
 | [],_=>rfl
 | a :: as_,ha=>by
  simp only [AV.bdds,Bool.and_eq_true] at ha
  simp only [AV.rens]
  rw [a9T a ha.1,nS as_ ha.2]
end
theorem aT {τ:Nat->Nat}:∀ (as_:List AV),(AV.rens τ as_).length=as_.length
 | []=>rfl
 | a :: as_=>by simp [AV.rens,aT as_]
theorem fJ {τ:Nat->Nat}:∀ (as_:List AV) (i:Nat),i < as_.length->(AV.rens τ as_).getD i .skip=AV.ren τ (as_.getD i .skip)
 | [],i,h=>by simp at h
 | a :: as_,0,_=>rfl
 | a :: as_,i+1,h=>by simpa [AV.rens] using fJ as_ i yj_
section
variable {P:Program} {G G':Nat->Prop} {w w':World} {C C':Cx} {H H':Heap}
theorem VR.bdd {a:AV} {v:Value} (h:VR G w C a v) (n:Nat) (hC:∀ id,n<=id->C.γ id=0/\C.ι id=none):a.bdd n=true:=by
 induction h with
 | func C f xs vs hs h ih=>simp only [AV.bdd]; exact yQ fun i hi=>ih i hi hC
 | iface C t a v h ih=>simp only [AV.bdd]; exact ih hC
 | agg C xs vs hs h1 h ih=>simp only [AV.bdd]; exact yQ fun i hi=>ih i hi hC
 | tup C xs vs hs h ih=>simp only [AV.bdd]; exact yQ fun i hi=>ih i hi hC
 | obj C id g e c ad hle h =>
  simp only [AV.bdd,decide_eq_true_eq]
  rcases Nat.lt_or_ge id n with h' | h'
  · exact h'
  · obtain ⟨h1,h2⟩:=hC id h'
    obtain ⟨l,b,hl,_⟩:=h ya_
    rw [h2] at hl; simp at hl
 | osl C id g k e m ad cap hnc hle h =>
  simp only [AV.bdd,decide_eq_true_eq]
  rcases Nat.lt_or_ge id n with h' | h'
  · exact h'
  · obtain ⟨h1,h2⟩:=hC id h'
    obtain ⟨l,b,hl,_⟩:=h ya_
    rw [h2] at hl; simp at hl
 | osl0 C id g k e base hle h =>
  simp only [AV.bdd,decide_eq_true_eq]
  rcases Nat.lt_or_ge id n with h' | h'
  · exact h'
  · obtain ⟨h1,h2⟩:=hC id h'
    obtain ⟨l,hl,_⟩:=h ya_
    rw [h2] at hl; simp at hl
 | _=>rfl
theorem VR.ren {τ:Nat->Nat} {n:Nat} {a:AV} {v:Value} (h:VR G w C (a.ren τ) v) (ha:a.bdd n=true) (hC:∀ i,i < n->C'.ι i=C.ι (τ i)/\C'.γ i=C.γ (τ i)):VR G w C' a v:=by
 have key:∀ {C:Cx} {b:AV} {v:Value},VR G w C b v->∀ (a:AV) (C':Cx),b=a.ren τ->a.bdd n=true->(∀ i,i < n->C'.ι i=C.ι (τ i)/\C'.γ i=C.γ (τ i))->VR G w C' a v:=by
  intro C b v h
  induction h with
  | skip=>intro a C' e _ _; cases a <;> simp [AV.ren] at e; exact .skip _
  | unk=>intro a C' e _ _; cases a <;> simp [AV.ren] at e; exact .unk ..
  | bool=>intro a C' e _ _; cases a <;> simp [AV.ren] at e; subst e; exact .bool ..
  | int=>intro a C' e _ _; cases a <;> simp [AV.ren] at e; obtain ⟨rfl,rfl⟩:=e; exact .int ..
  | str=>intro a C' e _ _; cases a <;> simp [AV.ren] at e; subst e; exact .str ..
  | nilp=>intro a C' e _ _; cases a <;> simp [AV.ren] at e; exact .nilp _
  | nilf=>intro a C' e _ _; cases a <;> simp [AV.ren] at e; exact .nilf _
  | nili=>intro a C' e _ _; cases a <;> simp [AV.ren] at e; exact .nili _
  | func C f xs vs hs h ih =>
   intro a C' e hb hC
   cases a <;> simp [AV.ren] at e
   obtain ⟨rfl,rfl⟩:=e
   simp only [AV.bdd] at hb
   rw [aT] at hs ih
   exact .func _ _ _ _ hs fun i hi=>ih i hi _ _ (fJ _ i hi) (bI _ hb i hi) hC
  | iface C t b v h ih =>
   intro a C' e hb hC
   cases a <;> simp [AV.ren] at e
   obtain ⟨rfl,rfl⟩:=e
   exact .iface _ _ _ _ (ih _ _ rfl yc_ hC)
  | agg C xs vs hs h1 h ih =>
   intro a C' e hb hC
   cases a <;> simp [AV.ren] at e
   subst e
   simp only [AV.bdd] at hb
   rw [aT] at hs ih h1
   exact .agg _ _ _ hs h1 fun i hi=>ih i hi _ _ (fJ _ i hi) (bI _ hb i hi) hC
  | tup C xs vs hs h ih =>
   intro a C' e hb hC
   cases a <;> simp [AV.ren] at e
   subst e
   simp only [AV.bdd] at hb
   rw [aT] at hs ih
   exact .tup _ _ _ hs fun i hi=>ih i hi _ _ (fJ _ i hi) (bI _ hb i hi) hC
  | ref C cs c b o hG cv hc h1 h ih =>
   intro a C' e _ _
   cases a <;> simp [AV.ren] at e
   obtain ⟨rfl,rfl⟩:=e
   exact .ref _ _ _ _ _ hG cv hc h1 h
  | nils C g k hg =>
   intro a C' e _ _
   cases a <;> simp [AV.ren] at e
   obtain ⟨rfl,rfl,rfl⟩:=e
   exact .nils _ _ _ hg
  | sl C g xs k ad cap hg hclip hle hs cv hk hc h1 h ih =>
   intro a C' e _ _
   cases a <;> simp [AV.ren] at e
   obtain ⟨rfl,rfl,rfl⟩:=e
   exact .sl _ _ _ _ _ _ hg hclip hle hs cv hk hc h1 h
  | obj C id g e c ad hle h =>
   intro a C' e' hb hC
   cases a <;> simp [AV.ren] at e'
   obtain ⟨rfl,rfl,rfl,rfl⟩:=e'
   simp only [AV.bdd,decide_eq_true_eq] at hb
   obtain ⟨h1,h2⟩:=hC _ hb
   exact .obj _ _ _ _ _ _ (by rw [h2]; exact hle) fun hg=>by rw [h1]; exact h (by rw [<- h2]; exact hg)
  | osl C id g k e m ad cap hnc hle h =>
   intro a C' e' hb hC
   cases a <;> simp [AV.ren] at e'
   obtain ⟨rfl,rfl,rfl,rfl,rfl⟩:=e'
   simp only [AV.bdd,decide_eq_true_eq] at hb
   obtain ⟨h1,h2⟩:=hC _ hb
   exact .osl _ _ _ _ _ _ _ _ hnc (by rw [h2]; exact hle) fun hg=>by rw [h1]; exact h (by rw [<- h2]; exact hg)
  | osl0 C id g k e base hle h =>
   intro a C' e' hb hC
   cases a <;> simp [AV.ren] at e'
   obtain ⟨rfl,rfl,rfl,rfl,rfl⟩:=e'
   simp only [AV.bdd,decide_eq_true_eq] at hb
   obtain ⟨h1,h2⟩:=hC _ hb
   exact .osl0 _ _ _ _ _ _ (by rw [h2]; exact hle) fun hg=>by rw [h1]; exact h (by rw [<- h2]; exact hg)
 exact key h a C' rfl ha hC
theorem VR.d2D {τ:Nat->Nat} {a:AV} {v:Value} (h:VR G w C' a v) (hC:∀ i,C'.ι i=C.ι (τ i)/\C'.γ i=C.γ (τ i)):VR G w C (a.ren τ) v:=by
 induction h with
 | skip=>exact .skip _
 | unk=>exact .unk ..
 | bool=>exact .bool ..
 | int=>exact .int ..
 | str=>exact .str ..
 | nilp=>exact .nilp _
 | nilf=>exact .nilf _
 | nili=>exact .nili _
 | nils _ _ _ hg=>exact .nils _ _ _ hg
 | func C' f xs vs hs h ih=>exact .func _ _ _ _ (by rw [aT]; exact hs) fun i hi=>by rw [aT] at hi; rw [fJ _ i hi]; exact ih i hi hC
 | iface C' t a v h ih=>exact .iface _ _ _ _ (ih hC)
 | agg C' xs vs hs h1 h ih=>exact .agg _ _ _ (by rw [aT]; exact hs) (fun i hi=>h1 i (by rw [aT] at hi; exact hi)) fun i hi=>by rw [aT] at hi; rw [fJ _ i hi]; exact ih i hi hC
 | tup C' xs vs hs h ih=>exact .tup _ _ _ (by rw [aT]; exact hs) fun i hi=>by rw [aT] at hi; rw [fJ _ i hi]; exact ih i hi hC
 | ref C' cs c b o hG cv hc h1 h ih=>exact .ref _ _ _ _ _ hG cv hc h1 h
 | sl C' g xs k ad cap hg hclip hle hs cv hk hc h1 h ih=>exact .sl _ _ _ _ _ _ hg hclip hle hs cv hk hc h1 h
 | obj C' id g e c ad hle h =>
  obtain ⟨h1,h2⟩:=hC id
  exact .obj _ _ _ _ _ _ (by rw [<- h2]; exact hle) fun hg=>by rw [<- h1]; exact h (by rw [h2]; exact hg)
 | osl C' id g k e m ad cap hnc hle h =>
  obtain ⟨h1,h2⟩:=hC id
  exact .osl _ _ _ _ _ _ _ _ hnc (by rw [<- h2]; exact hle) fun hg=>by rw [<- h1]; exact h (by rw [h2]; exact hg)
 | osl0 C' id g k e base hle h =>
  obtain ⟨h1,h2⟩:=hC id
  exact .osl0 _ _ _ _ _ _ (by rw [<- h2]; exact hle) fun hg=>by rw [<- h1]; exact h (by rw [h2]; exact hg)
theorem c2J {xs:List (List AV)} {b:Nat} (h:∀ i,i < xs.length->AV.bdds b (xs.getD i [])=true):AV.F3 b xs=true:=by
 induction xs with
 | nil=>rfl
 | cons x xs ih =>
  simp only [AV.F3,Bool.and_eq_true]
  exact ⟨by simpa using h 0 ye_,ih fun i hi=>by simpa using h (i+1) yb_⟩
theorem j5.forget {f:FuncId} {args:List AV} {a:AV} {H2 X:Heap} (h:j5 P f args H (a,H2++X)) (hlen:H2.length=H.length) (ha:a.bdd H.length=true)
 (hr:∀ (id:Nat) (o:Ob),H2[id]?=some o->H[id]?=some o\/AV.F3 H.length o.els=true):j5 P f args H (a,H2):=by
 intro G w C vs hsz hargs hH
 refine (h G w C vs hsz hargs hH).mono fun v w' ⟨G',C',he,hh,hv,hp⟩=>?_
 have hcle:Y5 C (C'.cut H.length):=fun id=>by
  have h1:=he.cx id
  simp only [Cx.cut]
  by_cases hid:id < H.length
  · simp only [hid,if_true]; exact h1
  · simp only [hid,if_false]
    obtain ⟨h2,h3⟩:=hH.out id ya_
    exact ⟨by omega,fun _ l hl=>by rw [h3] at hl; simp at hl⟩
 have hι:∀ id l,(C'.cut H.length).ι id=some l->id < H.length/\C'.ι id=some l:=fun id l hl=>by
  simp only [Cx.cut] at hl
  split at hl
  · rename_i h; exact ⟨h,hl⟩
  · simp at hl
 have hget:∀ id,id < H.length->(H2++X)[id]?=H2[id]?:=fun id hid=>by rw [List.getElem?_append_left ya_]
 refine ⟨G',C'.cut H.length,⟨he.os,he.tape,he.output,he.size,he.lock,he.same,hcle,he.rest,he.grow,fun id l b hl hb=>he.own id l b (hι id l hl).2 hb,he.frz⟩,?_,hv.cut _ ha,?_⟩
 · refine ⟨fun id o ho=>?_,fun id hid=>?_,fun id l b hl hb=>hh.own id l b (hι id l hl).2 hb,fun i j l l' b h1 h2=>hh.inj i j l l' b (hι i l h1).2 (hι j l' h2).2,fun id o l ho hl=>?_,hh.gsz⟩
   · have hid:id < H.length:=by
      rcases Nat.lt_or_ge id H2.length with h' | h'
      · omega
      · rw [List.getElem?_eq_none h'] at ho; simp at ho
     simp only [Cx.cut,hid,if_true]
     exact hh.gen id o (by rw [hget id hid]; exact ho)
   · simp only at hid
     have:¬ id < H.length:=by omega
     simp [Cx.cut,this]
   · obtain ⟨hid,hl'⟩:=hι id l hl
     obtain ⟨hk,hrm,hno,hlen',hrow,hcs0⟩:=hh.ob id o l (by rw [hget id hid]; exact ho) hl'
     have hb:AV.F3 H.length o.els=true:=by
      rcases hr id o ho with h1 | h1
      · -- it is as it was
        have hCι:∃ l0,C.ι id=some l0:=by
         cases hc0:C.ι id with
         | some l0=>exact ⟨l0,rfl⟩
         | none =>
          have:=(hp.2 id hid trivial hc0).1
          rw [hl'] at this; simp at this
        obtain ⟨l0,hl0⟩:=hCι
        obtain ⟨hk0,hrm0,hno0,hlen0,hrow0,hcs0'⟩:=hH.ob id o l0 h1 hl0
        cases hb0:l0.b with
        | none =>
         have h0:=hno0 hb0
         have:o.els=[]:=List.eq_nil_of_length_eq_zero ya_
         rw [this]; rfl
        | some b0 =>
         obtain ⟨cs0,e0,hc0,hcs0,hcell0⟩:=hcs0' b0 hb0
         refine c2J fun i hi=>yQ fun j hj=>?_
         rw [hrow0 i hi] at hj
         exact (hcell0 i j hi hj).2.bdd _ fun id hid=>hH.out id hid
      · exact h1
     refine ⟨hk,hrm,hno,hlen',hrow,fun b hlb=>?_⟩
     obtain ⟨cs,e,hc,hcs,hcell⟩:=hcs0 b hlb
     refine ⟨cs,e,hc,hcs,fun i j hi hj=>⟨(hcell i j hi hj).1,(hcell i j hi hj).2.cut _ ?_⟩⟩
     exact bI _ (qU _ hb i hi) j (by rw [hrow i hi]; exact hj)
 · refine ⟨by rw [hlen]; exact Nat.le_refl _,fun id hid hs hi=>?_⟩
   obtain ⟨h1,h2,h3⟩:=hp.2 id hid hs hi
   simp only [Cx.cut,hid,if_true]
   exact ⟨h1,h2,by rw [<- hget id hid]; exact h3⟩
theorem j5.frz {f:FuncId} {args:List AV} {a a':AV} {H1 H2:Heap} {n0:Nat} (h:j5 P f args H (a,H1)) (hf:gM n0 a H1=some (a',H2)):j5 P f args H (a',H2):=by
 intro G w C vs hsz hargs hH
 refine (h G w C vs hsz hargs hH).mono fun v w' ⟨G',C',he,hh,hv,hp⟩=>?_
 obtain ⟨G2,C2,h1,h2,h3,h4⟩:=a4T a hv hh hf
 exact ⟨G2,C2,he.trans h1,h2,h3,hp.trans h4⟩
theorem j5.a6w {f:FuncId} {args:List AV} {H1:Heap} {id g k e n:Nat} {xs:List (List AV)} (h:j5 P f args H (.osl id g k e n,H1)) (hr:I5 H1 k (.osl id g k e n)=some xs) (hb:AV.F3 0 xs=true) :
 j5 P f args H (.sl .any k xs,H1.modify id fun o=>{ gen:=o.gen+1,k:=o.k,els:=[] }) :=
 h.frz (n0:=0) (by simp only [gM,Nat.zero_le,if_true]; rw [hr]; simp [hb])
end
def Ob.ren (τ:Nat->Nat) (o:Ob):Ob:={ o with els:=o.els.map (AV.rens τ) }
structure Emb (τ:Nat->Nat) (Hs Hb:Heap):Prop where
 lt:∀ i,i < Hs.length->τ i < Hb.length
 new:∀ i,Hs.length<=i->τ i=Hb.length+(i - Hs.length)
 inj:∀ i j,i < Hs.length->j < Hs.length->τ i=τ j->i=j
 get:∀ (i:Nat) (o:Ob),Hs[i]?=some o->Hb[τ i]?=some (o.ren τ)
section
variable {P:Program} {τ:Nat->Nat} {Hs Hb:Heap}
theorem Emb.inj' (h:Emb τ Hs Hb) {i j:Nat} (e:τ i=τ j):i=j:=by
 rcases Nat.lt_or_ge i Hs.length with h1 | h1 <;> rcases Nat.lt_or_ge j Hs.length with h2 | h2
 · exact h.inj i j h1 h2 e
 · have:=h.lt i h1; have:=h.new j h2; omega
 · have:=h.lt j h2; have:=h.new i h1; omega
 · have:=h.new i h1; have:=h.new j h2; omega
theorem d1n {b:Nat} {o:List (List AV)} (h:AV.F3 b o=true) (i:Nat):AV.bdds b (o.getD i [])=true:=by
 rcases Nat.lt_or_ge i o.length with h' | h'
 · exact qU _ h i h'
 · rw [List.getD_eq_getElem?_getD,List.getElem?_eq_none h']; rfl
theorem j5.frame {f:FuncId} {args:List AV} {a:AV} {Hs' Hb':Heap} (h:j5 P f args Hs (a,Hs')) (hem:Emb τ Hs Hb) (hargs:AV.bdds Hs.length args=true)
 (hbs:∀ (i:Nat) (o:Ob),Hs[i]?=some o->AV.F3 Hs.length o.els=true)
 (hlen:Hb'.length=Hb.length+(Hs'.length - Hs.length)) (hnew:∀ (i:Nat) (o:Ob),Hs'[i]?=some o->Hb'[τ i]?=some (o.ren τ)) (hrest:∀ j,j < Hb.length->(∀ i,i < Hs.length->τ i≠j)->Hb'[j]?=Hb[j]?) :
 j5 P f (AV.rens τ args) Hb (a.ren τ,Hb'):=by
 intro G w C vs hsz hav hH
 rw [aT] at hsz hav
 have hCs:∀ i,i < Hs.length->(Cx.mk (fun i=>if i < Hs.length then C.ι (τ i) else none) (fun i=>if i < Hs.length then C.γ (τ i) else 0)).ι i=C.ι (τ i)/\(Cx.mk (fun i=>if i < Hs.length then C.ι (τ i) else none) (fun i=>if i < Hs.length then C.γ (τ i) else 0)).γ i=C.γ (τ i):=fun i hi=>by simp [hi]
 generalize hCd:(Cx.mk (fun i=>if i < Hs.length then C.ι (τ i) else none) (fun i=>if i < Hs.length then C.γ (τ i) else 0))=Cs at hCs
 have hCn:∀ i,Hs.length<=i->Cs.γ i=0/\Cs.ι i=none:=fun i hi=>by
  rw [<- hCd]
  have:¬ i < Hs.length:=by omega
  simp [this]
 have hCl:∀ i l,Cs.ι i=some l->i < Hs.length/\C.ι (τ i)=some l:=fun i l hl=>by
  rcases Nat.lt_or_ge i Hs.length with h' | h'
  · exact ⟨h',by rw [<- (hCs i h').1]; exact hl⟩
  · rw [(hCn i h').2] at hl; simp at hl
 have hHs:HR G w Cs Hs:=by
  refine ⟨fun i o ho=>?_,hCn,fun i l b hl hb=>hH.own _ l b (hCl i l hl).2 hb,fun i j l l' b h1 h2 e e2=>?_,fun i o l ho hl=>?_,hH.gsz⟩
  · have hi:i < Hs.length:=by
     rcases Nat.lt_or_ge i Hs.length with h' | h'
     · exact h'
     · rw [List.getElem?_eq_none h'] at ho; simp at ho
    rw [(hCs i hi).2]
    have:=hH.gen _ _ (hem.get i o ho)
    exact this
  · exact hem.inj' (hH.inj _ _ _ _ b (hCl i l h1).2 (hCl j l' h2).2 e e2)
  · obtain ⟨hi,hl'⟩:=hCl i l hl
    obtain ⟨hk,hrm,hno,hlen',hrow,hcs0⟩:=hH.ob _ _ l (hem.get i o ho) hl'
    have hbo:=hbs i o ho
    have hel:∀ q,(o.ren τ).els.getD q []=AV.rens τ (o.els.getD q []):=fun q=>by
     simp only [Ob.ren,List.getD_eq_getElem?_getD,List.getElem?_map]
     cases o.els[q]? <;> rfl
    have hln:(o.ren τ).els.length=o.els.length:=by simp [Ob.ren]
    refine ⟨hk,hrm,hno,by rw [<- hln]; exact hlen',fun q hq=>?_,fun b hlb=>?_⟩
    · have:=hrow q (by rw [hln]; exact hq)
      rwa [hel,aT] at this
    · obtain ⟨cs,e,hc,hcs,hcell⟩:=hcs0 b hlb
      refine ⟨cs,e,hc,hcs,fun q j hq hj=>?_⟩
      obtain ⟨h1,h2⟩:=hcell q j (by rw [hln]; exact hq) hj
      have hrl:=hrow q (by rw [hln]; exact hq)
      rw [hel,aT] at hrl
      rw [hel,fJ _ j (by rw [hrl]; exact hj)] at h2
      exact ⟨h1,h2.ren (bI _ (d1n hbo q) j (by rw [hrl]; exact hj)) hCs⟩
 refine (h G w Cs vs hsz (fun i hi=>?_) hHs).mono fun v w' ⟨G',Cs',he,hh,hv,hp⟩=>?_
 · have:=hav i hi
   rw [fJ _ i hi] at this
   exact this.ren (bI _ hargs i hi) hCs
 · have hC':∃ C':Cx,(∀ i,C'.ι (τ i)=Cs'.ι i/\C'.γ (τ i)=Cs'.γ i)/\∀ j,(∀ i,τ i≠j)->C'.ι j=C.ι j/\C'.γ j=C.γ j:=by
    classical
    refine ⟨⟨fun j=>if h:∃ i,τ i=j then Cs'.ι (Classical.choose h) else C.ι j,fun j=>if h:∃ i,τ i=j then Cs'.γ (Classical.choose h) else C.γ j⟩,fun i=>?_,fun j hj=>?_⟩
    · have hx:∃ i',τ i'=τ i:=⟨i,rfl⟩
      have:Classical.choose hx=i:=hem.inj' (Classical.choose_spec hx)
      simp only [hx,dif_pos,this]
      exact ⟨trivial,trivial⟩
    · have:¬ ∃ i,τ i=j:=fun ⟨i,hi⟩=>hj i hi
      simp [this]
   obtain ⟨C',hτ,hno⟩:=hC'
   have himg:∀ j,(∃ i,τ i=j)\/(∀ i,τ i≠j):=fun j=>by
    by_cases h:∃ i,τ i=j
    · exact .inl h
    · exact .inr fun i hi=>h ⟨i,hi⟩
   have hbig:∀ j,Hb.length<=j->τ (Hs.length+(j - Hb.length))=j:=fun j hj=>by rw [hem.new _ ya_]; omega
   have hcle:Y5 C C':=fun j=>by
    rcases himg j with ⟨i,rfl⟩ | hj
    · rw [(hτ i).1,(hτ i).2]
      have hci:=he.cx i
      rcases Nat.lt_or_ge i Hs.length with h' | h'
      · rw [(hCs i h').1,(hCs i h').2] at hci; exact hci
      · obtain ⟨h1,h2⟩:=hH.out (τ i) (by rw [hem.new i h']; omega)
        exact ⟨by omega,fun _ l hl=>by rw [h2] at hl; simp at hl⟩
    · rw [(hno j hj).1,(hno j hj).2]; exact ⟨Nat.le_refl _,fun _ _ h=>h⟩
   have hownC:∀ i l b,Cs'.ι i=some l->l.b=some b->(∃ j k,C.ι j=some k/\k.b=some b/\∃ q,τ q=j)\/w.heap.size<=b:=fun i l b hl hb=>(he.own i l b hl hb).imp (fun ⟨q,k,hk,e⟩=>⟨τ q,k,(hCl q k hk).2,e,q,rfl⟩) fun h=>h
   have hev:Ev G w C G' w' C':=by
    refine ⟨he.os,he.tape,he.output,he.size,he.lock,he.same,hcle,fun b hb hn=>he.rest b hb fun i l hl=>hn _ l (hCl i l hl).2,fun b hb=>?_,fun j l b hl hlb=>?_,he.frz⟩
    · exact (he.grow b hb).imp (fun h=>h) fun h=>h.imp (fun ⟨i,l,hl,e⟩=>⟨τ i,l,(hCl i l hl).2,e⟩) fun h=>h
    · rcases himg j with ⟨i,rfl⟩ | hj
      · rw [(hτ i).1] at hl
        exact (hownC i l b hl hlb).imp (fun ⟨q,k,hk,e,_⟩=>⟨q,k,hk,e⟩) fun h=>h
      · rw [(hno j hj).1] at hl
        exact .inl ⟨j,l,hl,hlb⟩
   have hkept:∀ j l,(∀ i,τ i≠j)->C.ι j=some l->∀ b,l.b=some b->w'.heap[b]?=w.heap[b]?:=fun j l hj hl b hlb=>he.rest _ (hH.own j l b hl hlb).1 fun i k hk e=>hj i (hH.inj _ _ _ _ b (hCl i k hk).2 hl e hlb)
   have hHb':∀ (j:Nat) (ob:Ob),Hb'[j]?=some ob->(∃ i,τ i=j/\∃ o,Hs'[i]?=some o/\ob=o.ren τ)\/((∀ i,τ i≠j)/\Hb[j]?=some ob):=fun j ob ho=>by
    have hjl:j < Hb'.length:=by
     rcases Nat.lt_or_ge j Hb'.length with h' | h'
     · exact h'
     · rw [List.getElem?_eq_none h'] at ho; simp at ho
    rcases himg j with ⟨i,rfl⟩ | hj
    · have hi:i < Hs'.length:=by
       rcases Nat.lt_or_ge i Hs.length with h' | h'
       · have:=hp.1; simp only at this; omega
       · have:=hem.new i h'; have:=hp.1; simp only at this; omega
      have hg:=List.getElem?_eq_getElem hi
      have:=hnew i _ hg
      rw [ho] at this
      simp only [Option.some.injEq] at this
      exact .inl ⟨i,rfl,_,hg,this⟩
    · have hjb:j < Hb.length:=by
       rcases Nat.lt_or_ge j Hb.length with h' | h'
       · exact h'
       · exact absurd (hbig j h') (hj _)
      rw [hrest j hjb fun i _=>hj i] at ho
      exact .inr ⟨hj,ho⟩
   refine ⟨G',C',hev,?_,hv.d2D fun i=>⟨(hτ i).1.symm,(hτ i).2.symm⟩,?_⟩
   · refine ⟨fun j ob ho=>?_,fun j hj=>?_,fun j l b hl hlb=>?_,fun j k l l' b h1 h2 e1 e2=>?_,fun j ob l ho hl=>?_,hh.gsz⟩
     · rcases hHb' j ob ho with ⟨i,rfl,o,ho',rfl⟩ | ⟨hj,ho'⟩
       · rw [(hτ i).2]; exact hh.gen i o ho'
       · rw [(hno j hj).2]; exact hH.gen j ob ho'
     · have hjb:Hb.length<=j:=by simp only at hj; omega
       rw [<- hbig j hjb,(hτ _).1,(hτ _).2]
       refine hh.out _ ?_
       have:=hp.1
       simp only at hj this ⊢
       omega
     · rcases himg j with ⟨i,rfl⟩ | hj
       · rw [(hτ i).1] at hl; exact hh.own i l b hl hlb
       · rw [(hno j hj).1] at hl
         obtain ⟨h1,h2⟩:=hH.own j l b hl hlb
         refine ⟨Nat.lt_of_lt_of_le h1 he.size,fun hg=>?_⟩
         rcases he.grow _ hg with h3 | ⟨i,k,hk,e⟩ | h3
         · exact h2 h3
         · exact hj i (hH.inj _ _ _ _ b (hCl i k hk).2 hl e hlb)
         · omega
     · rcases himg j with ⟨i,rfl⟩ | hj <;> rcases himg k with ⟨q,rfl⟩ | hk
       · rw [(hτ i).1] at h1
         rw [(hτ q).1] at h2
         rw [hh.inj i q l l' b h1 h2 e1 e2]
       · rw [(hτ i).1] at h1
         rw [(hno k hk).1] at h2
         rcases hownC i l b h1 e1 with ⟨x,y,hy,e3,z,hz⟩ | h3
         · have:=hH.inj _ _ _ _ b hy h2 e3 e2
           exact absurd (hz.trans this) (hk z)
         · have:=(hH.own k l' b h2 e2).1; omega
       · rw [(hno j hj).1] at h1
         rw [(hτ q).1] at h2
         rcases hownC q l' b h2 e2 with ⟨x,y,hy,e3,z,hz⟩ | h3
         · have:=hH.inj _ _ _ _ b hy h1 e3 e1
           exact absurd (hz.trans this) (hj z)
         · have:=(hH.own j l b h1 e1).1; omega
       · rw [(hno j hj).1] at h1
         rw [(hno k hk).1] at h2
         exact hH.inj _ _ _ _ b h1 h2 e1 e2
     · rcases hHb' j ob ho with ⟨i,rfl,o,ho',rfl⟩ | ⟨hj,ho'⟩
       · rw [(hτ i).1] at hl
         obtain ⟨hk,hrm,hno,hlen',hrow,hcs0⟩:=hh.ob i o l ho' hl
         have hel:∀ q,(o.ren τ).els.getD q []=AV.rens τ (o.els.getD q []):=fun q=>by
          simp only [Ob.ren,List.getD_eq_getElem?_getD,List.getElem?_map]
          cases o.els[q]? <;> rfl
         have hln:(o.ren τ).els.length=o.els.length:=by simp [Ob.ren]
         refine ⟨hk,hrm,hno,by rw [hln]; exact hlen',fun q hq=>?_,fun b hlb=>?_⟩
         · rw [hel,aT]; exact hrow q (by rw [<- hln]; exact hq)
         · obtain ⟨cs,e,hc,hcs,hcell⟩:=hcs0 b hlb
           refine ⟨cs,e,hc,hcs,fun q x hq hx=>?_⟩
           obtain ⟨h1,h2⟩:=hcell q x (by rw [<- hln]; exact hq) hx
           rw [hel,fJ _ x (by rw [hrow q (by rw [<- hln]; exact hq)]; exact hx)]
           exact ⟨h1,h2.d2D fun i=>⟨(hτ i).1.symm,(hτ i).2.symm⟩⟩
       · rw [(hno j hj).1] at hl
         exact (hH.ob j ob l ho' hl).ev hev (hkept j l hj hl)
   · refine ⟨by simp only; omega,fun j hj _ hi=>?_⟩
     rcases himg j with ⟨i,rfl⟩ | hj'
     · have hil:i < Hs.length:=by
        rcases Nat.lt_or_ge i Hs.length with h' | h'
        · exact h'
        · have:=hem.new i h'; omega
       obtain ⟨h1,h2,h3⟩:=hp.2 i hil trivial (by rw [(hCs i hil).1]; exact hi)
       refine ⟨by rw [(hτ i).1]; exact h1,by rw [(hτ i).2,h2,(hCs i hil).2],?_⟩
       have hg:=List.getElem?_eq_getElem hil
       rw [hem.get i _ hg,hnew i _ (h3.trans hg)]
     · exact ⟨by rw [(hno j hj').1]; exact hi,(hno j hj').2,hrest j hj fun i _=>hj' i⟩
end
mutual
theorem AV.beq_eq:∀ (a b:AV),AV.beq a b=true->a=b
 | .skip,b,h=>by cases b <;> simp [AV.beq] at h; rfl
 | .unk,b,h=>by cases b <;> simp [AV.beq] at h; rfl
 | .bool x,b,h=>by cases b <;> simp [AV.beq] at h; subst h; rfl
 | .int k x,b,h=>by cases b <;> simp [AV.beq] at h; obtain ⟨rfl,rfl⟩:=h; rfl
 | .str s,b,h=>by cases b <;> simp [AV.beq] at h; subst h; rfl
 | .nilp,b,h=>by cases b <;> simp [AV.beq] at h; rfl
 | .nilf,b,h=>by cases b <;> simp [AV.beq] at h; rfl
 | .nili,b,h=>by cases b <;> simp [AV.beq] at h; rfl
 | .func f xs,b,h=>by cases b <;> simp [AV.beq] at h; obtain ⟨rfl,h⟩:=h; rw [AV.oP _ _ h]
 | .iface t a,b,h=>by cases b <;> simp [AV.beq] at h; obtain ⟨rfl,h⟩:=h; rw [AV.beq_eq _ _ h]
 | .agg xs,b,h=>by cases b <;> simp [AV.beq] at h; rw [AV.oP _ _ h]
 | .tup xs,b,h=>by cases b <;> simp [AV.beq] at h; rw [AV.oP _ _ h]
 | .ref xs c,b,h=>by cases b <;> simp [AV.beq] at h; obtain ⟨h,rfl⟩:=h; rw [AV.oP _ _ h]
 | .sl g k xs,b,h=>by cases b <;> simp [AV.beq] at h; obtain ⟨⟨rfl,rfl⟩,h⟩:=h; rw [AV.b1C _ _ h]
 | .obj ..,b,h=>by cases b <;> simp [AV.beq] at h; obtain ⟨⟨⟨rfl,rfl⟩,rfl⟩,rfl⟩:=h; rfl
 | .osl ..,b,h=>by cases b <;> simp [AV.beq] at h; obtain ⟨⟨⟨⟨rfl,rfl⟩,rfl⟩,rfl⟩,rfl⟩:=h; rfl
theorem AV.oP:∀ (a b:List AV),AV.beqs a b=true->a=b
 | [],b,h=>by cases b <;> simp [AV.beqs] at h; rfl
 | a :: as_,b,h=>by
  cases b with
  | nil=>simp [AV.beqs] at h
  | cons b bs =>
   simp only [AV.beqs,Bool.and_eq_true] at h
   rw [AV.beq_eq _ _ h.1,AV.oP _ _ h.2]
theorem AV.b1C:∀ (a b:List (List AV)),AV.a2x a b=true->a=b
 | [],b,h=>by cases b <;> simp [AV.a2x] at h; rfl
 | a :: as_,b,h=>by
  cases b with
  | nil=>simp [AV.a2x] at h
  | cons b bs =>
   simp only [AV.a2x,Bool.and_eq_true] at h
   rw [AV.oP _ _ h.1,AV.b1C _ _ h.2]
end
def oI:List Field->List (TypeId × Nat)->Bool
 | [],[]=>true
 | f :: fs,(t,o) :: l=>Nat.beq f.type t&&(Nat.beq f.offset o&&oI fs l)
 | _,_=>false
def d6s (P:Program) (t:TypeId) (d:TD) (u:TypeDesc):Bool :=
 match d,u with
 | .int k,.int j=>decide (k=j)
 | .bool,.bool=>true
 | .string,.string=>true
 | .ptr e,.pointer e'=>Nat.beq e e'
 | .slice e,.slice e'=>Nat.beq e e'
 | .struct fs, .struct l => oI l.toList fs && l.toList.all (fun f => !decide (f.name = "_")) && l.toList.all (fun f => (P.info? f.type).isSome)
 | .array n e,.array n' e'=>Nat.beq n n'&&Nat.beq e e'
 | .iface,.interface _=>true
 | .func,.func _ _ _=>true
 | _,_=>false
def a7I:TD->Bool
 | .struct _=>true
 | _=>false
def c3Z:Value->Bool
 | .agg _=>true
 | _=>false
def c7W (P:Program) (t:TypeId) (ti:TI):Bool :=
 match P.info? t,P.underlying t with
 | some i,some u=>Nat.beq i.size ti.size&&Nat.beq i.bytes ti.bytes&&Nat.beq ti.zero.length ti.size&&(match i.zero with
  | some z=>(match aW z.cells.toList with
   | some l=>AV.beqs l ti.zero
   | none=>false)&&(c3Z z == ti.agg)
  | none=>false)&&d6s P t ti.d u&&(!ti.eqok || !a7I ti.d || (!P.stoodInHeld t&&!P.eqGuardType P.depth t))
 | _,_=>false
theorem a1j:∀ {fs:List Field} {l:List (TypeId × Nat)},oI fs l=true->fs.map (fun f=>(f.type,f.offset))=l
 | [],[],_=>rfl
 | f :: fs,(t,o) :: l,h=>by
  simp only [oI,Bool.and_eq_true] at h
  rw [List.map_cons,a1j h.2.2,Nat.eq_of_beq_eq_true h.1,Nat.eq_of_beq_eq_true h.2.1]
 | [],_ :: _,h=>by simp [oI] at h
 | _ :: _,[],h=>by simp [oI] at h
theorem b5b {P:Program} {t:TypeId} {ti:TI} (h:c7W P t ti=true):sK P t ti:=by
 unfold c7W at h
 split at h
 case h_2=>simp at h
 rename_i i u hi hu
 simp only [Bool.and_eq_true] at h
 obtain ⟨⟨⟨⟨⟨h1,h2⟩,h3⟩,h4⟩,h5⟩,heq⟩:=h
 have hd:b2H P t ti.d/\∀ {fields:Array Field},P.underlying t=some (.struct fields)->∀ f∈fields.toList,P.info? f.type≠none:=by
  revert h5
  generalize ti.d=d
  intro h5
  unfold d6s at h5
  split at h5
  · simp only [decide_eq_true_eq] at h5; subst h5; exact ⟨hu,fun hf=>by rw [hu] at hf; simp at hf⟩
  · exact ⟨hu,fun hf=>by rw [hu] at hf; simp at hf⟩
  · exact ⟨hu,fun hf=>by rw [hu] at hf; simp at hf⟩
  · rw [Nat.eq_of_beq_eq_true h5]; exact ⟨hu,fun hf=>by rw [hu] at hf; simp at hf⟩
  · rw [Nat.eq_of_beq_eq_true h5]; exact ⟨hu,fun hf=>by rw [hu] at hf; simp at hf⟩
  · rename_i fs l
    simp only [Bool.and_eq_true] at h5
    obtain ⟨⟨h6,h7⟩,h10⟩:=h5
    refine ⟨⟨l,hu,a1j h6,fun f hf=>?_⟩,fun hf=>?_⟩
    · have:=List.all_eq_true.1 h7 f hf
      simpa using this
    · rw [hu] at hf
      simp only [Option.some.injEq,TypeDesc.struct.injEq] at hf
      subst hf
      intro f hf hn
      have:=List.all_eq_true.1 h10 f hf
      rw [hn] at this; simp at this
  · simp only [Bool.and_eq_true] at h5
    rw [Nat.eq_of_beq_eq_true h5.1,Nat.eq_of_beq_eq_true h5.2]; exact ⟨hu,fun hf=>by rw [hu] at hf; simp at hf⟩
  · exact ⟨⟨_,hu⟩,fun hf=>by rw [hu] at hf; simp at hf⟩
  · exact ⟨⟨_,_,_,hu⟩,fun hf=>by rw [hu] at hf; simp at hf⟩
  · simp at h5
 refine ⟨⟨i,hi,Nat.eq_of_beq_eq_true h1,Nat.eq_of_beq_eq_true h2,?_⟩,hd.1,hd.2,fun fs hfs hok=>by
  rw [hok,hfs] at heq
  simpa [a7I] using heq⟩
 split at h4
 case h_2=>simp at h4
 rename_i z hz
 simp only [Bool.and_eq_true] at h4
 obtain ⟨h6,h7⟩:=h4
 split at h6
 case h_2=>simp at h6
 rename_i l hl
 refine ⟨z,hz,by rw [hl,AV.oP _ _ h6],Nat.eq_of_beq_eq_true h3,?_⟩
 rw [<- (beq_iff_eq.1 h7)]
 cases z <;> simp [c3Z]
theorem TOk.of {P:Program} {l:List (Nat × TI)} (h:l.all (fun p=>c7W P p.1 p.2)=true):TOk P (fun t=>aK t l):=by
 intro t ti ht
 have key:∀ (l:List (Nat × TI)),aK t l=some ti->(t,ti)∈l:=by
  intro l
  induction l with
  | nil=>intro h; simp [aK] at h
  | cons p l ih =>
   intro h
   obtain ⟨m,a⟩:=p
   simp only [aK] at h
   split at h
   · rename_i he
     simp only [Option.some.injEq] at h
     rw [Nat.eq_of_beq_eq_true he,h]; simp
   · exact List.mem_cons_of_mem _ (ih h)
 exact b5b (List.all_eq_true.1 h _ (key l ht))
section
variable {P:Program}
theorem j5.calls {f:FuncId} {fn:Func} (hf:Has P f fn) {args:List AV} {a:AV} {H':Heap} (h:j5 P f args [] (a,H')) {vs:Array Value} {w:World} {G:Nat->Prop} (hsz:vs.size=args.length)
 (hargs:∀ i,i < args.length->VR G w Cx.none (args.getD i .skip) (vs.getD i undef)) (hG:∀ b,G b->b < w.heap.size) :
 Calls P f vs w fun e w'=>∃ v G' C',e=.returned v/\Ev G w Cx.none G' w' C'/\VR G' w' C' a v:=by
 have hH:HR G w Cx.none []:=⟨fun id o ho=>by simp at ho,fun id _=>⟨rfl,rfl⟩,fun id l b hl=>by simp [Cx.none] at hl,fun i j l l' b hl=>by simp [Cx.none] at hl,fun id o l ho=>by simp at ho,hG⟩
 have hc:=h G w Cx.none vs hsz hargs hH
 have hcf:(callFunc f vs).run P w=.ok (.enter f vs) w:=by
  simp only [callFunc,Sem.run_bind,run_program,Result.andThen_ok,hf.get]
  simp [hf.name,hf.body]
 unfold fI at hc
 rw [hcf] at hc
 exact Calls.mono hc fun e w' ⟨v,he,G',C',h1,h2,h3,h4⟩=>⟨v,G',C',he,h1,h3⟩
theorem a8l {b:Nat}:∀ {xs:List (List AV)},AV.F3 0 xs=true->xs.map (AV.rens (fun i=>b+i))=xs
 | [],_=>rfl
 | x :: xs,h=>by
  simp only [AV.F3,Bool.and_eq_true] at h
  rw [List.map_cons,nS x h.1,a8l h.2]
theorem j5.lift {f:FuncId} {args:List AV} {a:AV} (h:j5 P f args [] (a,[])) (hargs:AV.bdds 0 args=true) (ha:AV.bdd 0 a=true) (H:Heap):j5 P f args H (a,H):=by
 have:=h.frame (τ:=fun i=>H.length+i) (Hb:=H) (Hb':=H) ⟨fun i hi=>by simp at hi,fun i _=>by simp,fun i j hi=>by simp at hi,fun i o ho=>by simp at ho⟩ hargs (fun i o ho=>by simp at ho) ye_ (fun i o ho=>by simp at ho) fun _ _ _=>rfl
 rwa [nS args hargs,a9T a ha] at this
theorem j5.a3y {f:FuncId} {args:List AV} {g k n:Nat} {o:Ob} (h:j5 P f args [] (.osl 0 g k 0 n,[o])) (hargs:AV.bdds 0 args=true) (ho:AV.F3 0 o.els=true) (H:Heap):j5 P f args H (.osl H.length g k 0 n,H++[o]):=by
 have:=h.frame (τ:=fun i=>H.length+i) (Hb:=H) (Hb':=H++[o]) ⟨fun i hi=>by simp at hi,fun i _=>by simp,fun i j hi=>by simp at hi,fun i o ho=>by simp at ho⟩ hargs (fun i o ho=>by simp at ho) ye_ (fun i o' ho'=>by
  cases i with
  | zero =>
   simp at ho'
   subst ho'
   simp [Ob.ren,a8l ho]
  | succ i=>simp at ho') fun j hj _=>by rw [List.getElem?_append_left hj]
 rw [nS args hargs] at this
 simpa [AV.ren] using this
end
section
variable {P:Program} {f:FuncId} {args args':List AV} {a a':AV} {H H':Heap}
theorem j5.pre (h:j5 P f args H (a,H')) (hw:AV.wks args' args):j5 P f args' H (a,H'):=by
 intro G w C vs hsz hargs hH
 obtain ⟨h1,h2⟩:=AV.a2b hw
 exact h G w C vs ya_ (fun i hi=>(hargs i ya_).wk (h2 i ya_)) hH
theorem j5.post (h:j5 P f args H (a,H')) (hw:AV.wk a a'):j5 P f args H (a',H'):=by
 intro G w C vs hsz hargs hH
 exact (h G w C vs hsz hargs hH).mono fun v w' ⟨G',C',h1,h2,h3,h4⟩=>⟨G',C',h1,h2,h3.wk hw,h4⟩
end
def mkF (n:Nat) (l:List (Nat × AV)):Fr:=(List.range n).map fun i=>aK i l
def oC:Code->List Code
 | .seq a b=>oC a++oC b
 | .cond _ a b=>oC a++oC b
 | .block _ c=>oC c
 | .loop c=>c :: oC c
 | _=>[]
def d6J (fn:Func) (i:Nat):Code:=((fn.body.map oC).getD []).getD i .skip
abbrev Yes (a:AV) (H:Heap) (b:AV):Prop:=some (a,H)=some (b,H)
theorem a1f {n:Int} (h1:-9223372036854775808<=n) (h2:n<=9223372036854775807):IntKind.i64.wrap n=n:=by
 simp only [IntKind.wrap,IntKind.bits,IntKind.signed]
 simp
 split <;> omega
theorem Yes.int {k:IntKind} {m n:Int} {H:Heap} (h:m=n):Yes (.int k m) H (.int k n):=by rw [h]
theorem Yes.add {m n:Int} {H:Heap} (h1:-9223372036854775808<=n) (h2:n<=9223372036854775807) (h:m=n):Yes (.int .i64 (IntKind.i64.wrap m)) H (.int .i64 n):=by rw [h,a1f h1 h2]
theorem Yes.b {b c:Bool} {H:Heap} (h:b=c):Yes (.bool b) H (.bool c):=by rw [h]
theorem Yes.len {α:Type} (l:List α) (row:α->List AV) (H:Heap):Yes (.int .i64 ((l.map row).length:Nat)) H (.int .i64 (l.length:Nat)):=by simp
def nth {α:Type} [Inhabited α] (l:List α) (i:Nat):α:=l.getD i default
theorem d6F {α:Type} [Inhabited α] {l:List α} {i:Nat} {x:α} (h:l[i]?=some x):nth l i=x:=by simp [nth,List.getD_eq_getElem?_getD,h]
theorem yE {α:Type} [Inhabited α] {l:List α} {i:Nat} (h:i < l.length):l[i]?=some (nth l i):=by simp [nth,List.getD_eq_getElem?_getD,List.getElem?_eq_getElem h]
abbrev N7 (k k':Nat) (rows:List (List AV)) (i:Int) (H:Heap) (cs:List AV):Prop:=Option.map (fun a=>(a,H)) (if 0<=i/\k=k' then (rows[i.toNat]?).map fun cs=>AV.ref cs 0 else none)=some (.ref cs 0,H)
theorem N7.mk {α:Type} [Inhabited α] {l:List α} {row:α->List AV} {k:Nat} {i:Int} {j:Nat} (H:Heap) (hi:i=(j:Int)) (hj:j < l.length):N7 k k (l.map row) i H (row (nth l j)):=by
 subst hi
 simp [N7,yE hj]
abbrev I7 (id g k k' e0 n:Nat) (i:Int) (H:Heap) (j:Nat):Prop:=Option.map (fun a=>(a,H)) (if 0<=i/\i < (n:Int)/\k=k' then some (AV.obj id g (e0+i.toNat) 0) else none)=some (.obj id g j 0,H)
theorem I7.mk {id g k n:Nat} {i:Int} {j:Nat} (H:Heap) (hi:i=(j:Int)) (hj:j < n):I7 id g k k 0 n i H j:=by
 subst hi
 have:(j:Int) < (n:Int):=by omega
 simp [I7,this]
theorem a6o {α:Type} [Inhabited α] (l:List α) (x:α) (m:List α):nth (l++x :: m) l.length=x:=by simp [nth,List.getD_eq_getElem?_getD]
theorem I4 {T:TT} {H H':Heap} {t e:TypeId} {te:TI} {α:Type} {row:α->List AV} {id g k n n':Nat} {l:List α} {x:α} {z:Nat} {b:Nat} {y:List AV}
 (ht:T t=some { d:=.slice e,size:=z,bytes:=b,zero:=y }) (hte:T e=some te) (hsz:te.size=k) (hk:0 < k) (hb:0 < te.bytes)
 (ho:H[id]?=some ⟨g,k,l.map row,none⟩) (hn:n=l.length) (hn':n'=n+1) (hH':H'=H.set id ⟨g+1,k,(l++[x]).map row,none⟩) (hlen:(n+1) * te.bytes<=140737488355328) :
 dZ T H t (.osl id g k 0 n) (.sl .clip k [row x])=some (.osl id (g+1) k 0 n',H'):=by
 subst hn hn' hH' hsz
 simp only [dZ,ht,hte,I5,true_or,if_true]
 simp only [ho,hk,and_self,if_true,List.length_map,Nat.zero_add]
 simp [most,hlen,hb]
theorem aI {T:TT} {H H':Heap} {t e:TypeId} {te:TI} {α:Type} {row:α->List AV} {g:Tg} {id k k0 n:Nat} {l:List α} {x:AV} {z:Nat} {b:Nat} {y:List AV}
 (ht:T t=some { d:=.slice e,size:=z,bytes:=b,zero:=y }) (hte:T e=some te) (hsz:te.size=k) (hk:0 < k) (hb:0 < te.bytes) (hg:g=.nil\/g=.clip\/g=.cn)
 (hx:I5 H k x=some (l.map row)) (hn:n=l.length) (hid:id=H.length) (hH':H'=H++[⟨0,k,l.map row,none⟩]) (hlen:l.length * te.bytes<=140737488355328) :
 fC T H t (.sl g k0 []) x=some (.osl id 0 k 0 n,H'):=by
 subst hn hid hH' hsz
 simp only [fC,ht,hte,hx]
 rcases hg with rfl | rfl | rfl <;> simp [most,hlen,hb,hk]
theorem I8 {T:TT} {H H':Heap} {t e:TypeId} {te:TI} {α:Type} {row:α->List AV} {id g k n n':Nat} {l m:List α} {x:AV} {z:Nat} {b:Nat} {y:List AV}
 (ht:T t=some { d:=.slice e,size:=z,bytes:=b,zero:=y }) (hte:T e=some te) (hsz:te.size=k) (hk:0 < k) (hb:0 < te.bytes)
 (ho:H[id]?=some ⟨g,k,l.map row,none⟩) (hx:I5 H k x=some (m.map row)) (hn:n=l.length) (hn':n'=n+m.length) (hH':H'=H.set id ⟨g+1,k,(l++m).map row,none⟩) (hlen:(n+m.length) * te.bytes<=140737488355328) :
 fC T H t (.osl id g k 0 n) x=some (.osl id (g+1) k 0 n',H'):=by
 subst hn hn' hH' hsz
 simp only [fC,ht,hte,hx,ho]
 simp [most,hlen,hb,hk]
theorem G5 {α:Type} {row:α->List AV} {H:Heap} {id g k n:Nat} {l:List α} {room:Option Nat} (ho:H[id]?=some ⟨g,k,l.map row,room⟩) (hn:n=l.length):I5 H k (.osl id g k 0 n)=some (l.map row):=by
 subst hn
 simp [I5,ho,List.take_of_length_le]
def maskN (x:Int) (m:Nat):Nat:=(BitVec.ofInt 64 x &&& BitVec.ofInt 64 m).toNat
theorem a3x (x:Int) (m:Nat) (h:m < 4611686018427387904):maskN x m<=m:=by
 unfold maskN
 rw [BitVec.toNat_and]
 have h1:(BitVec.ofInt 64 (m:Int)).toNat=m:=by
  simp [BitVec.toNat_ofInt]
  omega
 rw [h1]
 exact Nat.and_le_right
theorem Yes.mask {x:Int} {m:Nat} {H:Heap} (h:m < 4611686018427387904):Yes (.int .i64 (IntKind.i64.wrap ((BitVec.ofInt 64 x &&& BitVec.ofInt 64 (m:Int)).toNat))) H (.int .i64 ((maskN x m:Nat):Int)):=by
 have h1:=a3x x m h
 rw [a1f]
 · rfl
 · omega
 · have:(BitVec.ofInt 64 x &&& BitVec.ofInt 64 (m:Int)).toNat<=m:=h1
   omega
def iter {σ:Type} (f:Nat->σ->σ):Nat->Nat->σ->σ
 | 0,_,s=>s
 | r+1,i,s=>iter f r (i+1) (f i s)
theorem c3X {σ:Type} (f:Nat->σ->σ) (r:Nat):∀ (i:Nat) (s:σ),iter f (r+1) i s=f (i+r) (iter f r i s):=by
 induction r with
 | zero=>intro i s; rfl
 | succ r ih =>
  intro i s
  show iter f (r+1) (i+1) (f i s)=_
  rw [ih (i+1) (f i s),Nat.add_assoc,Nat.add_comm 1 r]
  rfl
theorem qN {σ:Type} (f:Nat->σ->σ) (r:Nat) (s:σ):iter f (r+1) 0 s=f r (iter f r 0 s):=by
 rw [c3X,Nat.zero_add]
theorem b7q {α σ:Type} [Inhabited α] (f:Nat->σ->σ) (g:σ->α->σ) (l:List α) (h:∀ i s,i < l.length->f i s=g s (nth l i)) (r:Nat):∀ (i:Nat) (s:σ),i+r=l.length->iter f r i s=(l.drop i).foldl g s:=by
 induction r with
 | zero =>
  intro i s hi
  rw [List.drop_of_length_le ya_]
  rfl
 | succ r ih =>
  intro i s hi
  have hd:l.drop i=nth l i :: l.drop (i+1):=by
   rw [List.drop_eq_getElem_cons ya_]
   congr 1
   simp [nth,List.getD_eq_getElem?_getD,List.getElem?_eq_getElem (show i < l.length by omega)]
  rw [hd,List.foldl_cons,<- h i s ya_]
  exact ih (i+1) (f i s) ya_
theorem fO {α σ:Type} [Inhabited α] (f:Nat->σ->σ) (g:σ->α->σ) (l:List α) (h:∀ i s,i < l.length->f i s=g s (nth l i)) (s:σ):iter f l.length 0 s=l.foldl g s:=by
 simpa using b7q f g l h l.length 0 s ya_
mutual
theorem ren_fix {τ:Nat->Nat} {b:Nat} (hτ:∀ i,i < b->τ i=i):∀ (a:AV),AV.bdd b a=true->AV.ren τ a=a
 | .func _ xs,ha=>by simp only [AV.bdd] at ha; simp only [AV.ren]; rw [nT hτ xs ha]
 | .iface _ v,ha=>by simp only [AV.bdd] at ha; simp only [AV.ren]; rw [ren_fix hτ v ha]
 | .agg cs,ha=>by simp only [AV.bdd] at ha; simp only [AV.ren]; rw [nT hτ cs ha]
 | .tup vs,ha=>by simp only [AV.bdd] at ha; simp only [AV.ren]; rw [nT hτ vs ha]
 | .obj id _ _ _,ha=>by simp only [AV.bdd,decide_eq_true_eq] at ha; simp only [AV.ren]; rw [hτ _ ha]
 | .osl id _ _ _ _,ha=>by simp only [AV.bdd,decide_eq_true_eq] at ha; simp only [AV.ren]; rw [hτ _ ha]
 | .skip,_=>rfl
 | .unk,_=>rfl
 | .bool _,_=>rfl
 | .int _ _,_=>rfl
 | .str _,_=>rfl
 | .nilp,_=>rfl
 | .nilf,_=>rfl
 | .nili,_=>rfl
 | .ref _ _,_=>rfl
 | .sl _ _ _,_=>rfl
theorem nT {τ:Nat->Nat} {b:Nat} (hτ:∀ i,i < b->τ i=i):∀ (as_:List AV),AV.bdds b as_=true->AV.rens τ as_=as_
 | [],_=>rfl
 | a :: as_,ha=>by
  simp only [AV.bdds,Bool.and_eq_true] at ha
  simp only [AV.rens]
  rw [ren_fix hτ a ha.1,nT hτ as_ ha.2]
end
theorem a7q {τ:Nat->Nat} {b:Nat} (hτ:∀ i,i < b->τ i=i):∀ (xs:List (List AV)),AV.F3 b xs=true->xs.map (AV.rens τ)=xs
 | [],_=>rfl
 | x :: xs,h=>by
  simp only [AV.F3,Bool.and_eq_true] at h
  rw [List.map_cons,nT hτ x h.1,a7q hτ xs h.2]
theorem Ob.ren_fix {τ:Nat->Nat} {b:Nat} (hτ:∀ i,i < b->τ i=i) (o:Ob) (h:AV.F3 b o.els=true):o.ren τ=o:=by
 obtain ⟨g,k,els,room⟩:=o
 simp only [Ob.ren]
 rw [a7q hτ els h]
theorem j5.ext {P : Program} {f : FuncId} {args : List AV} {a : AV} {Hs Hs' : Heap} (h : j5 P f args Hs (a, Hs')) (hargs : AV.bdds Hs.length args = true) (ha : AV.bdd Hs.length a = true) (hbs : dY Hs.length Hs = true) (hbs' : dY Hs.length Hs' = true) (hlen : Hs'.length = Hs.length) (E : Heap) :
    j5 P f args (Hs ++ E) (a, Hs' ++ E) := by
  have hτ : ∀ i, i < Hs.length → (fun i => if i < Hs.length then i else i + E.length) i = i := fun i hi => by simp [hi]
  have lt_of : ∀ {l : Heap} {i : Nat} {o : Ob}, l[i]? = some o → i < l.length := fun {l i o} ho => by
    rcases Nat.lt_or_ge i l.length with h' | h'
    · exact h'
    · rw [List.getElem?_eq_none h'] at ho; simp at ho
  have := h.frame (τ := fun i => if i < Hs.length then i else i + E.length) (Hb := Hs ++ E) (Hb' := Hs' ++ E)
    ⟨fun i hi => by simp [hi]; omega, fun i hi => by have : ¬ i < Hs.length := by omega
                                                     simp [this]; omega, fun i j hi hj e => by simpa [hi, hj] using e, fun i o ho => by
      have hi := lt_of ho
      simp only [hi, if_true]
      rw [List.getElem?_append_left hi, Ob.ren_fix hτ o (nX hbs ho)]
      exact ho⟩ hargs (fun i o ho => nX hbs ho) (by simp [hlen]) (fun i o ho => by
      have hi : i < Hs.length := by have := lt_of ho; omega
      simp only [hi, if_true]
      rw [List.getElem?_append_left ya_, Ob.ren_fix hτ o (nX hbs' ho)]
      exact ho) fun j hj hn => by
      have hj' : Hs.length ≤ j := by
        rcases Nat.lt_or_ge j Hs.length with h' | h'
        · exact absurd (hτ j h') (hn j h')
        · exact h'
      rw [List.getElem?_append_right ya_, List.getElem?_append_right ya_, hlen]
  rwa [nT hτ args hargs, ren_fix hτ a ha] at this
theorem d5V {α β:Type} [Inhabited α] {l:List α} (f:α->β) {i:Nat} (h:i < l.length):(l.map f)[i]?=some (f (nth l i)):=by
 rw [List.getElem?_map,yE h]; rfl
def M6 (T:TT) (t:TypeId) (c:Nat) (H:Heap) (r:Option (List AV)):Option (AV × Heap) :=
 match r with
 | some cs=>Option.map (fun a=>(a,H)) (AM.part T t cs c)
 | none=>none
def a2F (H:Heap) (id e k c:Nat) (r u:Option (List AV)):Option (AV × Heap) :=
 match r,u with
 | some cs,some us=>if c+k<=cs.length then some (AV.skip,setAt H id e (dI cs c us)) else none
 | _,_=>none
theorem J6 {H:Heap} {t:TypeId} {T:TT} {c:Nat} {cs:List AV} {a:AV} {r:Option (List AV)} (h:r=some cs) (hp:AM.part T t cs c=some a):M6 T t c H r=some (a,H):=by
 subst h
 simp [M6,hp]
theorem U0 {H H':Heap} {id e k c:Nat} {cs us:List AV} {r u:Option (List AV)} (h:r=some cs) (hu:u=some us) (hc:c+k<=cs.length) (hH:H'=setAt H id e (dI cs c us)):a2F H id e k c r u=some (AV.skip,H'):=by
 subst h hu hH
 simp [a2F,hc]
theorem F7 {α:Type} [Inhabited α] {row:α->List AV} {H:Heap} {id g k e:Nat} {l:List α} {room:Option Nat} (hid:H[id]?=some ⟨g,k,l.map row,room⟩) (h:e < l.length):rowAt H id g e=some (row (nth l e)):=by
 simp only [rowAt,hid,if_true]
 exact d5V _ h
theorem Yes.rem {k:IntKind} {x y:Nat} {H:Heap}:Yes (.int k (Int.tmod (x:Int) (y:Int))) H (.int k ((x % y:Nat):Int)):=by
 rw [Int.ofNat_tmod]
theorem d5L {k:IntKind} {x y:Nat} {H:Heap} (h:(y:Int)≠0):Option.map (fun a=>(a,H)) (if (y:Int)=0 then none else some (AV.int k (Int.tmod (x:Int) (y:Int))))=some (.int k ((x % y:Nat):Int),H):=by
 rw [if_neg h,Option.map_some,Int.ofNat_tmod]
theorem Yes.quo {x y:Nat} {H:Heap} (h:(x:Int)<=9223372036854775807):Yes (.int .i64 (IntKind.i64.wrap (Int.tdiv (x:Int) (y:Int)))) H (.int .i64 ((x / y:Nat):Int)):=by
 have h1:x / y<=x:=Nat.div_le_self ..
 rw [<- Int.ofNat_tdiv]
 generalize x / y=q at *
 rw [a1f ya_ ya_]
theorem a3n {k:IntKind} {y z r:Int} {H:Heap} (h:y≠0) (e:z=r):Option.map (fun a=>(a,H)) (if y=0 then none else some (AV.int k z))=some (.int k r,H):=by
 rw [if_neg h,e]; rfl
theorem d6A {x y:Int} {H:Heap} (h:y≠0) (h1:-9223372036854775808<=Int.tdiv x y) (h2:Int.tdiv x y<=9223372036854775807):Option.map (fun a=>(a,H)) (if y=0 then none else some (AV.int .i64 (IntKind.i64.wrap (Int.tdiv x y))))=some (.int .i64 (Int.tdiv x y),H):=a3n h (a1f h1 h2)
theorem zD {H:Heap} {k:Nat} {rows xs:List (List AV)} {g:Tg} {lo hi:Int} {l h:Nat} (hlo:lo=(l:Int)) (hhi:hi=(h:Int)) (h1:l<=h) (h2:h<=rows.length) (hx:(rows.take h).drop l=xs) :
 Option.map (fun a=>(a,H)) (if k=k\/rows.isEmpty=true then (bounds lo hi rows.length).map fun p=>AV.sl g k ((List.take p.2 rows).drop p.1) else none)=some (.sl g k xs,H):=by
 subst hlo hhi hx
 rw [if_pos (.inl rfl)]
 unfold bounds
 rw [if_pos ⟨by omega,by omega,by omega⟩]
 simp
theorem P7 {H:Heap} {id g k e n e2 n2:Nat} {lo hi:Int} {l h:Nat} (hlo:lo=(l:Int)) (hhi:hi=(h:Int)) (h1:l<=h) (h2:h<=n) (he:e2=e+l) (hn:n2=h - l) :
 Option.map (fun a=>(a,H)) ((bounds lo hi n).map fun p=>AV.osl id g k (e+p.1) (p.2 - p.1))=some (.osl id g k e2 n2,H):=by
 subst hlo hhi he hn
 unfold bounds
 rw [if_pos ⟨by omega,by omega,by omega⟩]
 simp
open Go.Proofs.YtmghjcbabebanaaGreat
theorem dV:TOk Tryz.prog tt:=TOk.of (l:=ttl) (by kernel_rfl)
theorem mo:Tryz.prog.follows .mixedOrders=true:=by kernel_rfl
def noM:TypeId->String->Option FuncId:=fun _ _=>none
theorem d9P:Mok Tryz.prog noM:=fun t m f h=>by simp [noM] at h
def X (ann:Ann):Env:={ T:=tt,M:=noM,ann:=ann }
abbrev C8 (a:Ann) (f:Func) (k:Nat):=E9 Tryz.prog (X a) (d6J f k)
theorem spec {f:FuncId} {fn:Func} {ann:Ann} {t:Tr} {args:List AV} {H:Heap} {r:AV × Heap} (hb:H.length<=ann.base) (hf:Has Tryz.prog f fn) (h:K5 Tryz.prog (X ann) fn t args H r):j5 Tryz.prog f args H r :=
 @b7G Tryz.prog (X ann) f fn dV d9P mo hf t args H r hb h
theorem j5.a2q {P:Program} {f:FuncId} {k:Nat} {xs:List (List AV)} {as_:List AV} {H:Heap} {r:AV × Heap} (h1:xs=[]->j5 P f (.sl .nil 0 [] :: as_) H r) (h2:j5 P f (.sl .op k xs :: as_) H r) :
 j5 P f (.sl .any k xs :: as_) H r:=by
 intro G w C vs hsz hargs hH
 have h0:=hargs 0 ye_
 have hr:∀ i,0 < i->i < as_.length+1->∀ v:AV,(v :: as_).getD i .skip=(AV.sl .any k xs :: as_).getD i .skip:=by
  intro i hi _ v
  cases i with
  | zero=>omega
  | succ i=>rfl
 have key:∀ v:AV,VR G w C v (vs.getD 0 undef)->∀ i,i < (v :: as_).length->VR G w C ((v :: as_).getD i .skip) (vs.getD i undef):=by
  intro v hv i hi
  cases i with
  | zero=>exact hv
  | succ i =>
   have:=hargs (i+1) yb_
   rw [hr (i+1) ya_ yb_ v]
   exact this
 simp only [List.getD_cons_zero] at h0
 generalize hv0:vs.getD 0 undef=v0 at h0
 cases h0 with
 | nils _ _ _ hg=>exact h1 rfl G w C vs (by simpa using hsz) (key _ (by rw [hv0]; exact .nils _ _ _ (.inl rfl))) hH
 | sl _ _ _ _ ad cap hg hclip hle hs cv hk hc h1' h=>exact h2 G w C vs (by simpa using hsz) (key _ (by rw [hv0]; exact .sl _ _ _ _ ad cap ye_ ye_ hle hs cv hk hc h1' h)) hH
theorem a7i {H:Heap} {k:Nat} {rows xs:List (List AV)} {g:Tg} {lo hi mx:Int} {l h:Nat} (hlo:lo=(l:Int)) (hhi:hi=(h:Int)) (h1:l<=h) (h2:h<=rows.length) (hx:(rows.take h).drop l=xs) (hm:hi=mx) :
 Option.map (fun a=>(a,H)) (if k=k\/rows.isEmpty=true then (if hi=mx then (bounds lo hi rows.length).map fun p=>AV.sl g k ((List.take p.2 rows).drop p.1) else none) else none)=some (.sl g k xs,H):=by
 rw [if_pos hm]
 exact zD hlo hhi h1 h2 hx
def AV.scal:AV->Bool
 | .bool _ | .int _ _ | .str _=>true
 | _=>false
theorem VR.scal {G G':Nat->Prop} {w w':World} {C C':Cx} {a:AV} {v:Value} (h:VR G w C a v) (ha:a.scal=true):VR G' w' C' a v:=by
 cases h <;> simp [AV.scal] at ha
 · exact .bool ..
 · exact .int ..
 · exact .str ..
def Br (H:Heap) (a' a:AV):Prop:=(a'=a/\AV.bdd 0 a=true)\/∃ id g k e n rows,a'=.osl id g k e n/\a=.sl .any k rows/\I5 H k (.osl id g k e n)=some rows/\AV.F3 0 rows=true
theorem Br.same {H:Heap} {a:AV} (h:AV.bdd 0 a=true):Br H a a:=.inl ⟨rfl,h⟩
theorem Br.osl {H:Heap} {id g k e n:Nat} {rows:List (List AV)} (h:I5 H k (.osl id g k e n)=some rows) (hb:AV.F3 0 rows=true):Br H (.osl id g k e n) (.sl .any k rows):=.inr ⟨id,g,k,e,n,rows,rfl,rfl,h,hb⟩
def Brs (H:Heap):List AV->List AV->Prop
 | [],[]=>True
 | a :: l,b :: m=>Br H a b/\Brs H l m
 | _,_=>False
theorem Brs.get {H:Heap}:∀ {l m:List AV},Brs H l m->l.length=m.length/\∀ i,i < m.length->Br H (l.getD i .skip) (m.getD i .skip)
 | [],[],_=>⟨rfl,fun i hi=>by simp at hi⟩
 | [],_ :: _,h=>h.elim
 | _ :: _,[],h=>h.elim
 | a :: l,b :: m,h=>by
  obtain ⟨h1,h2⟩:=Brs.get h.2
  refine ⟨by simp [h1],fun i hi=>?_⟩
  cases i with
  | zero=>simpa using h.1
  | succ i=>simpa using h2 i yb_
theorem j5.borrow {P:Program} {f:FuncId} {args args':List AV} {a:AV} (h:j5 P f args [] (a,[])) (ha:a.scal=true) {H:Heap} (hb:Brs H args' args):j5 P f args' H (a,H):=by
 intro G w C vs hsz hargs hH
 obtain ⟨hl,hbr⟩:=hb.get
 have key:∀ i,i < args.length->VR (fun b=>G b\/∃ id l,C.ι id=some l/\l.b=some b) w Cx.none (args.getD i .skip) (vs.getD i undef):=by
  intro i hi
  have hv:=hargs i ya_
  rcases hbr i hi with ⟨e,h0⟩ | ⟨id,g,k,e,n,rows,h1,h2,h3,h4⟩
  · rw [e] at hv
    have:=hv.cut 0 h0
    rw [vE] at this
    exact this.mono (fun b hb=>.inl hb) (fun _ _=>rfl) (Y5.refl _)
  · rw [h1] at hv
    rw [h2]
    obtain ⟨G',C',e1,e2,e3,_⟩:=gN hH hv h3 h4
    have:=e3.cut 0 rfl
    rw [vE] at this
    refine this.mono (fun b hb=>?_) (fun _ _=>rfl) (Y5.refl _)
    rcases e1.grow b hb with h5 | h5 | h5
    · exact .inl h5
    · exact .inr h5
    · have:=e2.gsz b hb; omega
 have hE:HR (fun b=>G b\/∃ id l,C.ι id=some l/\l.b=some b) w Cx.none [] :=
  ⟨fun id o ho=>by simp at ho,fun id _=>⟨rfl,rfl⟩,fun id l b hl=>by simp [Cx.none] at hl,fun i j l l' b hl=>by simp [Cx.none] at hl,fun id o l ho=>by simp at ho,
   fun b hb=>hb.elim (hH.gsz b) fun ⟨id,l,h1,h2⟩=>(hH.own id l b h1 h2).1⟩
 refine (h _ w Cx.none vs ya_ key hE).mono fun v w' ⟨G',C',he,hh,hv,hp⟩=>?_
 have hall:∀ b,b < w.heap.size->w'.heap[b]?=w.heap[b]?:=fun b hb=>he.rest b hb fun id l hl=>by simp [Cx.none] at hl
 have hev:Ev G w C G w' C:=⟨he.os,he.tape,he.output,he.size,fun _ h=>h,fun b hb=>hall b (hH.gsz b hb),Y5.refl _,fun b hb _=>hall b hb,fun _ h=>.inl h,fun id l b h1 h2=>.inl ⟨id,l,h1,h2⟩,he.frz⟩
 refine ⟨G,C,hev,⟨hH.gen,hH.out,fun id l b h1 h2=>⟨Nat.lt_of_lt_of_le (hH.own id l b h1 h2).1 he.size,(hH.own id l b h1 h2).2⟩,hH.inj,fun id o l ho hl'=>(hH.ob id o l ho hl').ev hev fun b hb=>hall b (hH.own id l b hl' hb).1,fun b hb=>Nat.lt_of_lt_of_le (hH.gsz b hb) he.size⟩,hv.scal ha,Pd.refl⟩
theorem j5.room {P:Program} {f:FuncId} {args:List AV} {H:Heap} {r:AV × Heap} {id i g k e n:Nat} {els:List (List AV)} (ho:H[id]?=some ⟨g,k,els,none⟩) (hi:args[i]?=some (.osl id g k e n))
 (h:∀ rm,els.length<=rm->j5 P f args (H.set id ⟨g,k,els,some rm⟩) r):j5 P f args H r:=by
 intro G w C vs hsz hargs hH
 have hlt:i < args.length:=by
  rcases Nat.lt_or_ge i args.length with h' | h'
  · exact h'
  · rw [List.getElem?_eq_none h'] at hi; simp at hi
 have hv:=hargs i hlt
 rw [List.getD_eq_getElem?_getD,hi] at hv
 have hgen:=hH.gen id _ ho
 obtain ⟨l,hl,_⟩:=vT hv hgen
 have hob:=hH.ob id _ l ho hl
 have hH2:HR G w C (H.set id ⟨g,k,els,some l.room⟩):=hH.a9F ho rfl fun l' hl' hx=>by
  obtain rfl:l=l':=by rw [hl] at hl'; simpa using hl'
  exact ⟨hx.k,fun r hr=>by simpa using hr,hx.no,hx.len,hx.row,hx.cells⟩
 refine (h l.room hob.len G w C vs hsz hargs hH2).mono fun v w' ⟨G',C',he,hh,hv',hp⟩=>⟨G',C',he,hh,hv',by simpa using hp.1,fun j hj hs hι=>?_⟩
 obtain ⟨h1,h2,h3⟩:=hp.2 j yr_ hs hι
 have hne:id≠j:=fun e=>by subst e; rw [hl] at hι; simp at hι
 rw [List.getElem?_set_ne hne] at h3
 exact ⟨h1,h2,h3⟩
theorem j5.shrink {P:Program} {f:FuncId} {args:List AV} {H H1:Heap} {id g k e n m:Nat} {els:List (List AV)} {room:Option Nat} (h:j5 P f args H (.osl id g k e n,H1)) (ho:H1[id]?=some ⟨g,k,els,room⟩) :
 j5 P f args H (.osl id g k e n,H1.set id ⟨g,k,els.take m,none⟩):=by
 intro G w C vs hsz hargs hH
 refine (h G w C vs hsz hargs hH).mono fun v w' ⟨G',C',he,hh,hv,hp⟩=>?_
 obtain ⟨l,hl,_⟩:=vT hv (hh.gen id _ ho)
 have hget:∀ i,i < (els.take m).length->(els.take m).getD i []=els.getD i []:=fun i hi=>by
  simp only [List.length_take] at hi
  rw [List.getD_eq_getElem?_getD,List.getD_eq_getElem?_getD,List.getElem?_take_of_lt ya_]
 have hlen:(els.take m).length<=els.length:=by simp; omega
 refine ⟨G',C',he,hh.a9F ho rfl fun l' hl' hx=>?_,hv,by simpa using hp.1,fun j hj hs hι=>?_⟩
 · refine ⟨hx.k,fun r hr=>by simp at hr,hx.no,Nat.le_trans hlen hx.len,fun i hi=>by rw [hget i hi]; exact hx.row i (by simp only at hi ⊢; omega),fun b hb=>?_⟩
   obtain ⟨cs,t,h1,h2,h3⟩:=hx.cells b hb
   exact ⟨cs,t,h1,h2,fun i j hi hj=>by rw [hget i hi]; exact h3 i j (by simp only at hi ⊢; omega) hj⟩
 · obtain ⟨h1,h2,h3⟩:=hp.2 j hj hs hι
   have hne:id≠j:=fun e=>by subst e; rw [hl] at h1; simp at h1
   exact ⟨h1,h2,by rw [List.getElem?_set_ne hne]; exact h3⟩
theorem c8f {P:Program} {F:Fr} {H:Heap} {dst:Option Tmp} {x:Operand} {t e0:TypeId} {type:TypeId} {pos:String} {after:Array Edge} {guard:Option (Nat × Bool)} {id g k e n r:Nat} {els:List (List AV)}
 (ht:P.underlying t=some (.slice e0)) (hx:opv F x=some (.osl id g k e n)) (ho:H[id]?=some ⟨g,k,els,some r⟩) :
 lS P F H ⟨dst,.call { callee:=.builtin .cap,args:=#[x],argTypes:=#[t] },type,pos,after,guard⟩ (.int .i64 ((r - e:Nat):Int),H):=by
 intro G w C f hf hH
 have hv:=hf x yp_ _ hx
 have hgen:g=C.γ id:=hH.gen id _ ho
 have key:∀ c:Nat,c=r - e->∀ base m,f x=.slice base m c->∃ v w',(execOp f (⟨dst,.call { callee:=.builtin .cap,args:=#[x],argTypes:=#[t] },type,pos,after,guard⟩:Oper)).run P w=.ok (.value v) w'/\After G w C H (.int .i64 ((r - e:Nat):Int),H) v w':=by
  intro c hc base m hfx
  have hr:(Builtin.cap_ #[t] type #[f x]).run P w=.ok (.int .i64 ((r - e:Nat):Int)) w:=by
   rw [hfx,<- hc]; simp [Builtin.cap_,run_underlying ht,goInt]
  refine ⟨_,w,?_,G,C,Ev.refl ..,hH,.int ..,Pd.refl⟩
  simp [execOp,resolve,invoke,builtin,hr]
 generalize hu:f x=u at hv
 cases hv with
 | osl _ _ _ _ _ _ ad cap hnc hle h =>
  obtain ⟨l,b,h1,h2,h3,h4,h5,_⟩:=h hgen
  have:=(hH.ob id _ l ho h1).rm r rfl
  exact key cap ya_ _ _ hu
 | osl0 _ _ _ _ _ base hle h =>
  obtain ⟨l,h1,h2,h3⟩:=h hgen
  have hob:=hH.ob id _ l ho h1
  have h4:=hob.no h2
  have h5:=hob.rm r rfl
  exact key 0 ya_ _ _ hu
theorem lH {G:Nat->Prop} {w:World} {C:Cx} {F:Fr} {o:Option Operand} {d n:Int} {f:Operand->Value} (h:M5 F o d=some n) (hf:∀ x,o=some x->∀ a,opv F x=some a->VR G w C a (f x)):(o=none/\n=d)\/∃ x k,o=some x/\f x=.int k n:=by
 cases o with
 | none=>simp [M5] at h; exact .inl ⟨rfl,h.symm⟩
 | some x =>
  simp only [M5] at h
  split at h
  · rename_i k m hx
    have hv:=hf x rfl _ hx
    simp only [Option.some.injEq] at h
    subst h
    generalize hu:f x=u at hv
    cases hv
    exact .inr ⟨x,k,rfl,hu⟩
  · simp at h
theorem yt_ {p:Prop} (h:p:=by simp [Op.operands]; simp at hz; simp [hz]):p:=h
theorem b5m {P:Program} {F:Fr} {H:Heap} {dst:Option Tmp} {x y:Operand} {lo:Option Operand} {t e0:TypeId} {type:TypeId} {pos:String} {after:Array Edge} {guard:Option (Nat × Bool)} {id g k e n r l h:Nat} {els:List (List AV)}
 (ht:P.underlying t=some (.slice e0)) (hk:∀ w:World,(Go.sizeOf e0).run P w=.ok k w) (hx:opv F x=some (.osl id g k e n)) (ho:H[id]?=some ⟨g,k,els,some r⟩)
 (hlo:M5 F lo 0=some (l:Int)) (hhi:M5 F (some y) 0=some (h:Int)) (h1:l<=h) (h2:e+h<=r) :
 lS P F H ⟨dst,.slice t x lo (some y) none,type,pos,after,guard⟩ (.osl id g k (e+l) (h - l),H):=by
 intro G w C f hf hH
 have hv:=hf x yo_ _ hx
 have hgen:g=C.γ id:=hH.gen id _ ho
 have hl:=lH (G:=G) (w:=w) (C:=C) (f:=f) hlo fun z hz a ha=>hf z (by simp [Op.operands,hz]) a ha
 have hh:=lH (G:=G) (w:=w) (C:=C) (f:=f) hhi fun z hz a ha=>hf z yt_ a ha
 have hb:∀ len cap:Nat,h<=cap->(Instr.sliceBounds true len cap (lo.map f) (some (f y)) none).run P w=.ok (l,h,cap) w:=by
  intro len cap hc
  rcases hh with ⟨hh,_⟩ | ⟨z,kz,hz,hfz⟩
  · simp at hh
  · simp only [Option.some.injEq] at hz
    subst hz
    rcases hl with ⟨rfl,h0⟩ | ⟨z,kz',rfl,hz⟩
    · have:l=0:=by omega
      subst this
      simp [Instr.sliceBounds,hfz,run_sliceBound,hc]
    · simp [Instr.sliceBounds,hz,hfz,run_sliceBound,hc,h1]
 generalize hu:f x=u at hv
 cases hv with
 | osl _ _ _ _ _ _ ad cap hnc hle hl' =>
  obtain ⟨L,b,hι,hLb,hLk,hen,hcap,had⟩:=hl' hgen
  have hrm:=(hH.ob id _ L ho hι).rm r rfl
  have hr:(Instr.sliceAt t (f x) (lo.map f) (some (f y)) none).run P w=.ok (.slice (if cap=l then some ad else (some ad).map (·.add (l * k))) (h - l) (cap - l)) w:=by
   rw [hu]
   simp only [Instr.sliceAt,Instr.slice,Sem.run_bind,run_underlying ht,Result.andThen_ok]
   rw [hb n cap ya_]
   simp only [Result.andThen_ok,hk w,Sem.run_pure,Sem.run_bind]
  refine ⟨.slice (if cap=l then some ad else (some ad).map (·.add (l * k))) (h - l) (cap - l),w,?_,G,C,Ev.refl ..,hH,?_,Pd.refl⟩
  · simp only [execOp,Option.map_some,Option.map_none,Sem.run_bind,hr,Result.andThen_ok,Sem.run_pure]
  · have hif:(if cap=l then some ad else (some ad).map (·.add (l * k)))=some (if cap=l then ad else ad.add (l * k)):=by split <;> rfl
    rw [hif]
    refine .osl _ _ _ _ _ _ _ _ ya_ hle fun hg=>?_
    refine ⟨L,b,hι,hLb,hLk,by omega,by omega,fun hlt=>?_⟩
    rw [if_neg ya_,had ya_,Z6,Nat.add_assoc,<- Nat.add_mul]
 | osl0 _ _ _ _ _ base hle hl' =>
  obtain ⟨L,hι,hLb,hLk⟩:=hl' hgen
  have hob:=hH.ob id _ L ho hι
  have h4:=hob.no hLb
  have h5:=hob.rm r rfl
  have hl0:l=0:=by omega
  have hh0:h=0:=by omega
  have hr:(Instr.sliceAt t (f x) (lo.map f) (some (f y)) none).run P w=.ok (.slice base 0 0) w:=by
   rw [hu]
   simp only [Instr.sliceAt,Instr.slice,Sem.run_bind,run_underlying ht,Result.andThen_ok]
   rw [hb 0 0 ya_]
   simp [hk w,hl0,hh0]
  subst hl0; subst hh0
  refine ⟨.slice base 0 0,w,?_,G,C,Ev.refl ..,hH,.osl0 _ _ _ _ _ base hle hl',Pd.refl⟩
  simp only [execOp,Option.map_some,Option.map_none,Sem.run_bind,hr,Result.andThen_ok,Sem.run_pure]
end Go.Proofs.YtmghjcbabebanaaGreat.AM
