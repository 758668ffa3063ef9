/-
  Texts of this claim, part 3 of 7: an abstract machine over the model; what functions come to; plain laws.
-/
import Derived.Test.YtmghjcbabebanaaGreatMServerPairs2
import Derived.Laws.Externs
set_option linter.unusedVariables false
set_option linter.unusedSimpArgs false
set_option maxRecDepth 100000
namespace Go.Proofs.YtmghjcbabebanaaGreat.AM
open Go
theorem a3C {xs new:List (List AV)} {q:Nat} (hq:q<=xs.length) (r:Nat) (hr:r < (xs.take q++new++xs.drop (q+new.length)).length) :
 if q<=r/\r < q+new.length then (xs.take q++new++xs.drop (q+new.length)).getD r []=new.getD (r - q) [] else r < xs.length/\(xs.take q++new++xs.drop (q+new.length)).getD r []=xs.getD r []:=by
 have hl:(xs.take q).length=q:=by simp; omega
 simp only [List.getD_eq_getElem?_getD]
 split
 · rename_i h
   rw [List.append_assoc,List.getElem?_append_right ya_,hl,List.getElem?_append_left ya_]
 · rename_i h
   simp only [List.length_append,hl,List.length_drop] at hr
   rcases Nat.lt_or_ge r q with h1 | h1
   · refine ⟨by omega,?_⟩
     rw [List.append_assoc,List.getElem?_append_left ya_,List.getElem?_take_of_lt h1]
   · have h2:q+new.length<=r:=by omega
     refine ⟨by omega,?_⟩
     rw [List.getElem?_append_right (by simp [hl]; omega),List.getElem?_drop]
     congr 2
     simp [hl]; omega
theorem qM {G:Nat->Prop} {w:World} {C:Cx} {H:Heap} (hH:HR G w C H) {id:Nat} {o:Ob} {l:Loc} {bb k q:Nat} (ho:H[id]?=some o) (hι:C.ι id=some l) (hlb:l.b=some bb) (hlk:l.k=k)
 {new:List (List AV)} {nv:List Value} (hlen0:nv.length=new.length * k) (hrow0:∀ i,i < new.length->(new.getD i []).length=k) (hrel0:∀ i j,i < new.length->j < k->(nv.getD (i * k+j) undef).oneCell'=true/\VR G w C ((new.getD i []).getD j .skip) (nv.getD (i * k+j) undef)) (hq:q<=o.els.length) (hroom:q+new.length<=l.room) {cur:Array Value} {et:TypeId} (hcur:w.heap[bb]?=some (.cells cur et (0,0))) :
 Ev G w C G (w.setRow bb (cur.toList.take (l.sh+q * l.k)++nv++cur.toList.drop (l.sh+q * l.k+nv.length)).toArray) C /\
 HR G (w.setRow bb (cur.toList.take (l.sh+q * l.k)++nv++cur.toList.drop (l.sh+q * l.k+nv.length)).toArray) C (H.set id { o with els:=o.els.take q++new++o.els.drop (q+new.length) }):=by
 have hob:=hH.ob id o l ho hι
 have hgγ:=hH.gen id o ho
 obtain ⟨hk1,hrm1,hno1,hlen1,hrow1,hcs1⟩:=hob
 obtain ⟨cur',et',hcur',hcsz,hcell⟩:=hcs1 bb hlb
 obtain ⟨rfl,rfl⟩:cur'=cur/\et'=et:=by rw [hcur] at hcur'; simp at hcur'; exact ⟨hcur'.1.symm,hcur'.2.symm⟩
 have hlt:id < H.length:=by
  rcases Nat.lt_or_ge id H.length with h' | h'
  · exact h'
  · rw [List.getElem?_eq_none h'] at ho; simp at ho
 have hm:(q+new.length) * l.k<=l.room * l.k:=Nat.mul_le_mul_right _ hroom
 rw [Nat.add_mul] at hm
 have hnvl:nv.length=new.length * l.k:=by rw [hlen0,hlk]
 have hev:Mv G w C G (w.setRow bb (cur'.toList.take (l.sh+q * l.k)++nv++cur'.toList.drop (l.sh+q * l.k+nv.length)).toArray) C :=
  ⟨fun _ h=>h,fun b' hb'=>setRow_other w _ _ _ fun e'=>(hH.own id l bb hι hlb).2 (e' ▸ hb'),R9.refl _⟩
 refine hH.upd (G':=G) (C':=C) id { o with els:=o.els.take q++new++o.els.drop (q+new.length) } rfl rfl rfl (fun j hj=>⟨rfl,rfl⟩) (Nat.le_refl _) (fun _ l2 hl2=>hl2)
  (fun j hj=>List.getElem?_set_ne (Ne.symm hj)) (List.getElem?_set_self hlt) yf_ ya_ hgγ (fun _ h=>h) (fun _ h=>.inl h)
  (fun b' _ hb'=>setRow_other w _ _ _ fun e'=>hb' l hι (by rw [hlb,e'])) yf_ (fun b' hb'=>by simpa using hH.gsz b' hb') (fun l2 b2 hl2 hb2=>.inl ⟨l2,hl2,hb2⟩) (mR w _ _ _ _ _ hcur) fun l2 hl2=>?_
 obtain rfl:l=l2:=by rw [hι] at hl2; simpa using hl2
 have hlsz:(cur'.toList.take (l.sh+q * l.k)++nv++cur'.toList.drop (l.sh+q * l.k+nv.length)).length=cur'.size:=by simp; omega
 have hlb':∀ b2,l.b=some b2->b2=bb:=fun b2 h2=>by rw [hlb] at h2; simpa using h2.symm
 refine ⟨fun b2 hb2=>?_,hk1,hrm1,hno1,by simp only [List.length_append,List.length_take,List.length_drop]; omega,fun r hr'=>?_,fun b2 hb2=>?_⟩
 · rw [hlb' b2 hb2]
   exact ⟨by simpa using (hH.own id l bb hι hlb).1,(hH.own id l bb hι hlb).2,fun j hj l2 hl2 e'=>hj (hH.inj _ _ _ _ bb hl2 hι e' hlb)⟩
 · have:=a3C hq r hr'
   split at this
   · rw [this,hlk]; exact hrow0 _ ya_
   · rw [this.2]; exact hrow1 _ this.1
 · rw [hlb' b2 hb2]
   refine ⟨_,et',setRow_heap w _ _ _ _ _ hcur,?_,fun r j hr' hj=>?_⟩
   · have h2:(cur'.toList.take (l.sh+q * l.k)++nv++cur'.toList.drop (l.sh+q * l.k+nv.length)).toArray.size=cur'.size:=by simpa using hlsz
     rw [h2]; exact hcsz
   · have hA2:((cur'.toList.take (l.sh+q * l.k)++nv++cur'.toList.drop (l.sh+q * l.k+nv.length)).toArray).getD (l.sh+r * l.k+j) undef=if q<=r/\r < q+new.length then nv.getD ((r - q) * l.k+j) undef else cur'.toList.getD (l.sh+r * l.k+j) undef:=by
      rw [<- a5D (xs:=new) hnvl (by rw [hnvl]; simp; omega) hj]
      simp [Array.getD_eq_getD_getElem?,List.getD_eq_getElem?_getD]
     rw [hA2]
     have:=a3C hq r hr'
     split at this
     · rename_i hin
       rw [if_pos hin,this]
       obtain ⟨h3,h4⟩:=hrel0 (r - q) j ya_ ya_
       rw [<- hlk] at h3 h4
       exact ⟨h3,h4.mv hev⟩
     · rename_i hin
       rw [if_neg hin,this.2]
       have hcg:cur'.toList.getD (l.sh+r * l.k+j) undef=cur'.getD (l.sh+r * l.k+j) undef:=by simp [Array.getD_eq_getD_getElem?,List.getD_eq_getElem?_getD]
       rw [hcg]
       obtain ⟨h3,h4⟩:=hcell r j this.1 hj
       exact ⟨h3,h4.mv hev⟩
theorem b3V {P:Program} {F:Fr} {H:Heap} {dst:Option Tmp} {x y:Operand} {t t' e0:TypeId} {type:TypeId} {pos:String} {after:Array Edge} {guard:Option (Nat × Bool)} {id g k e n:Nat} {els new:List (List AV)} {room:Option Nat} {s:AV}
 (ht:P.underlying t=some (.slice e0)) (hk:∀ w:World,(Go.sizeOf e0).run P w=.ok k w) (hx:opv F x=some (.osl id g k e n)) (ho:H[id]?=some ⟨g,k,els,room⟩) (hy:opv F y=some s) (hs:F5 H k s=some new)
 (h0:0 < new.length) (hn:new.length<=n) (he:e<=els.length) :
 iL P F H ⟨dst,.call { callee:=.builtin .copy,args:=#[x,y],argTypes:=#[t,t'] },type,pos,after,guard⟩ (.int .i64 (new.length:Int),H.set id ⟨g,k,els.take e++new++els.drop (e+new.length),room⟩):=by
 intro G w C f hf hH
 have hv:=hf x yq_ _ hx
 have hvs:=hf y yq_ _ hy
 have hgen:g=C.γ id:=hH.gen id _ ho
 obtain ⟨nv,hsrc⟩:=gD (P:=P) hH hvs hs
 generalize hu:f x=u at hv
 cases hv with
 | osl0=>omega
 | osl _ _ _ _ _ _ ad cap hnc hle h =>
  obtain ⟨l,bb,hι,hlb,hlk,hen,hcap,had⟩:=h hgen
  have had':=had ya_
  subst had'
  have hob:=hH.ob id _ l ho hι
  obtain ⟨cur,et,hcur,hcsz,_⟩:=hob.cells bb hlb
  obtain ⟨h1,h2⟩:=qM hH ho hι hlb hlk hsrc.length hsrc.row hsrc.rel he ya_ hcur
  have hm:(e+new.length) * l.k<=l.room * l.k:=Nat.mul_le_mul_right _ ya_
  rw [Nat.add_mul] at hm
  have hnvl:nv.length=new.length * l.k:=by rw [hsrc.length,hlk]
  have hst:=run_storeCells_at P bb (l.sh+e * k) et nv 0 cur w hcur (by rw [<- hlk]; simp; omega) hsrc.oneCell
  simp only [Nat.add_zero] at hst
  have hmin:Nat.min new.length n=new.length:=Nat.min_eq_left hn
  have hr:(Builtin.copy_ #[t,t'] type #[f x,f y]).run P w=.ok (.int .i64 (new.length:Int)) (w.setRow bb (cur.toList.take (l.sh+e * l.k)++nv++cur.toList.drop (l.sh+e * l.k+nv.length)).toArray):=by
   rw [hu,hlk]
   simp [Builtin.copy_,run_underlying ht,hsrc.len w,hmin,hk w,hsrc.cells w rfl,hst,goInt]
  refine ⟨_,_,?_,G,C,h1,h2,.int ..,?_⟩
  · simp [execOp,resolve,invoke,builtin,hr]
  · refine ⟨by simp,fun j hj _ hιj=>⟨hιj,rfl,?_⟩⟩
    have hne:id≠j:=fun e'=>by subst e'; rw [hι] at hιj; simp at hιj
    exact List.getElem?_set_ne hne
theorem a9U {P:Program} {F:Fr} {H:Heap} {dst:Option Tmp} {x:Operand} {t e0:TypeId} {type:TypeId} {pos:String} {after:Array Edge} {guard:Option (Nat × Bool)} {id g k e n:Nat} {els:List (List AV)} {room:Option Nat} {z:Value}
 (ht:P.underlying t=some (.slice e0)) (hz:∀ w:World,(zeroValue e0).run P w=.ok z w) (hzs:z.cells.size=k) (hz1:∀ v∈z.cells.toList,v.oneCell'=true) (hk0:0 < k) (hx:opv F x=some (.osl id g k e n)) (ho:H[id]?=some ⟨g,k,els,room⟩)
 (h0:0 < n) (he:e<=els.length) :
 iL P F H ⟨dst,.call { callee:=.builtin .clear,args:=#[x],argTypes:=#[t] },type,pos,after,guard⟩ (.unk,H.set id ⟨g,k,els.take e++List.replicate n (List.replicate k .unk)++els.drop (e+n),room⟩):=by
 intro G w C f hf hH
 have hv:=hf x yq_ _ hx
 have hgen:g=C.γ id:=hH.gen id _ ho
 generalize hu:f x=u at hv
 cases hv with
 | osl0=>omega
 | osl _ _ _ _ _ _ ad cap hnc hle h =>
  obtain ⟨l,bb,hι,hlb,hlk,hen,hcap,had⟩:=h hgen
  have had':=had ya_
  subst had'
  have hob:=hH.ob id _ l ho hι
  obtain ⟨cur,et,hcur,hcsz,_⟩:=hob.cells bb hlb
  have hzl:(Builtin.zeroCells z.cells n).toList.length=n * k:=by simp [Builtin.zeroCells,hzs]
  have hone:∀ v∈(Builtin.zeroCells z.cells n).toList,v.oneCell'=true:=fun v hv=>by
   simp only [Builtin.zeroCells,Array.toList_map,List.mem_map] at hv
   obtain ⟨i,hi,rfl⟩:=hv
   refine hz1 _ ?_
   have hlt:i % z.cells.size < z.cells.size:=Nat.mod_lt _ ya_
   rw [getElem!_pos z.cells _ hlt]
   simp
  have hl2:(List.replicate n (List.replicate k AV.unk)).length=n:=by simp
  obtain ⟨h1,h2⟩:=qM (new:=List.replicate n (List.replicate k AV.unk)) (nv:=(Builtin.zeroCells z.cells n).toList) hH ho hι hlb hlk (by rw [hl2,hzl]) (fun i hi=>by
   rw [hl2] at hi
   simp [List.getD_eq_getElem?_getD,List.getElem?_replicate,hi]) (fun i j hi hj=>by
   rw [hl2] at hi
   have hlt:=gU hi hj
   refine ⟨?_,?_⟩
   · rw [List.getD_eq_getElem?_getD,List.getElem?_eq_getElem (by rw [hzl]; exact hlt)]
     exact hone _ (List.getElem_mem _)
   · simp only [List.getD_eq_getElem?_getD,List.getElem?_replicate,hi,hj,if_true,Option.getD_some]
     exact .unk ..) he (by rw [hl2]; omega) hcur
  rw [hl2] at h2
  have hm:(e+n) * l.k<=l.room * l.k:=Nat.mul_le_mul_right _ ya_
  rw [Nat.add_mul] at hm
  have hst:=run_storeCells_at P bb (l.sh+e * k) et (Builtin.zeroCells z.cells n).toList 0 cur w hcur (by rw [hzl,<- hlk]; simp; omega) hone
  simp only [Nat.add_zero] at hst
  have hn0:n≠0:=by omega
  have hr:(Builtin.clear_ #[t] type #[f x]).run P w=.ok (.tuple #[]) (w.setRow bb (cur.toList.take (l.sh+e * l.k)++(Builtin.zeroCells z.cells n).toList++cur.toList.drop (l.sh+e * l.k+(Builtin.zeroCells z.cells n).toList.length)).toArray):=by
   rw [hu,hlk]
   simp only [Builtin.clear_]
   cases n with
   | zero=>omega
   | succ n=>simp [run_underlying ht,hz w,hst]
  refine ⟨.tuple #[],_,?_,G,C,h1,h2,.unk ..,?_⟩
  · simp [execOp,resolve,invoke,builtin,hr]
  · refine ⟨by simp,fun j hj _ hιj=>⟨hιj,rfl,?_⟩⟩
    have hne:id≠j:=fun e'=>by subst e'; rw [hι] at hιj; simp at hιj
    exact List.getElem?_set_ne hne
theorem a1q {P:Program} {G:Nat->Prop} {w:World} {C:Cx} {t t' ty e:TypeId} {i:TypeInfo} {z:Value} {kk kx:IntKind} (ht:P.underlying t=some (.slice e)) (ht':P.underlying t'=some (.int kk)) (hi:P.info? e=some i) (hz:i.zero=some z)
 (c:Nat) {ys:List (List AV)} {ov:List Value} (base:Option Addr) (sLen sCap:Nat) (ho:Src P G w C i.size (.slice base sLen sCap) ys ov) (hlen:ys.length=sLen)
 (hg:sCap < sLen+c) (hb:0 < i.bytes) (hs:0 < i.size) (hc:0 < c) (hby:(sLen+c) * i.bytes<=140737488355328) :
 (Builtin.append_ #[t,t'] ty #[.slice base sLen sCap,.int kx (c:Int)]).run P w =
  .ok (.slice (some ⟨w.heap.size,0,none⟩) (sLen+c) (grownCap w (sLen+c) sCap e))
   (w.drew.alloc (.cells (ov.toArray++Builtin.zeroCells z.cells c++Builtin.zeroCells z.cells (grownCap w (sLen+c) sCap e - (sLen+c))) e)):=by
 subst hlen
 have hn:¬ (ys.length+c<=sCap):=by omega
 have hfit:=growslice_fits hg hby
 have h48':¬ (281474976710656 < Builtin.nextslicecap (ys.length+c) sCap * i.bytes):=by omega
 have hb0:¬ i.bytes=0:=by omega
 have hfo:=ho.cells w.drew rfl
 have hcb:c * 1<=c * i.bytes:=Nat.mul_le_mul_left _ hb
 have hcm:c * i.bytes<=(ys.length+c) * i.bytes:=Nat.mul_le_mul_right _ ya_
 have hcs:c<=140737488355328:=by omega
 have hw:IntKind.i64.wrap (c:Int)=(c:Int):=a6d ya_ ya_
 have hcs0:¬ (c * i.size=0):=by
  have:=Nat.mul_pos hc hs; omega
 have h0:¬ ((c:Int) < 0):=by omega
 have h48:¬ ((281474976710656:Int) < (c:Int) * (i.bytes:Int)):=by
  have:((c * i.bytes:Nat):Int)<=140737488355328:=by omega
  rw [Int.natCast_mul] at this; omega
 have hmx:¬ ((9223372036854775807:Int) < (ys.length:Int)+(c:Int)):=by
  have:(ys.length+c) * 1<=(ys.length+c) * i.bytes:=Nat.mul_le_mul_left _ hb
  omega
 simp [Builtin.append_,run_underlying ht,run_underlying ht',Go.sizeOf,typeInfo,zeroValue,hi,hz,asInt,asIntOf,hw,h0,h48,hn,hb0,h48',hmx,hcs0,Question.forced,hfo,newRow,grownCap]
theorem b8k {z:Value} {k c:Nat} (hzs:z.cells.size=k) (hk0:0 < k) (hz1:∀ v∈z.cells.toList,v.oneCell'=true):(Builtin.zeroCells z.cells c).size=c * k/\∀ v∈(Builtin.zeroCells z.cells c).toList,v.oneCell'=true:=by
 refine ⟨by simp [Builtin.zeroCells,hzs],fun v hv=>?_⟩
 simp only [Builtin.zeroCells,Array.toList_map,List.mem_map] at hv
 obtain ⟨i,hi,rfl⟩:=hv
 refine hz1 _ ?_
 have hlt:i % z.cells.size < z.cells.size:=Nat.mod_lt _ ya_
 rw [getElem!_pos z.cells _ hlt]
 simp
theorem b5G {P:Program} {G:Nat->Prop} {w:World} {C:Cx} {H:Heap} (hH:HR G w C H) {t t' ty e:TypeId} {i:TypeInfo} {z:Value} {kk kx:IntKind} (ht:P.underlying t=some (.slice e)) (ht':P.underlying t'=some (.int kk)) (hi:P.info? e=some i) (hz:i.zero=some z)
 (hzs:z.cells.size=i.size) (hz1:∀ v∈z.cells.toList,v.oneCell'=true) (c:Nat) {ys:List (List AV)} {ov:List Value} (base:Option Addr) (sLen sCap:Nat) (ho:Src P G w C i.size (.slice base sLen sCap) ys ov) (hlen:ys.length=sLen)
 (hg:sCap < sLen+c) (hb:0 < i.bytes) (hs:0 < i.size) (hc:0 < c) (hby:(sLen+c) * i.bytes<=140737488355328) :
 ∃ v w',(Builtin.append_ #[t,t'] ty #[.slice base sLen sCap,.int kx (c:Int)]).run P w=.ok v w'/\After G w C H (.osl H.length 0 i.size 0 (sLen+c),H++[⟨0,i.size,ys++List.replicate c (List.replicate i.size .unk),none⟩]) v w':=by
 have hr:=a1q (ty:=ty) (kx:=kx) ht ht' hi hz c base sLen sCap ho hlen hg hb hs hc hby
 subst hlen
 have hge:=grownCap_ge w (ys.length+c) sCap e
 generalize grownCap w (ys.length+c) sCap e=cap at hr hge
 obtain ⟨z1,z2⟩:=b8k (c:=c) hzs hs hz1
 have hl2:(List.replicate c (List.replicate i.size AV.unk)).length=c:=by simp
 have hnone:=hH.out H.length (Nat.le_refl _)
 have hcells:∀ q,(ov.toArray++Builtin.zeroCells z.cells c++Builtin.zeroCells z.cells (cap - (ys.length+c))).getD q undef=(ov++(Builtin.zeroCells z.cells c).toList++(Builtin.zeroCells z.cells (cap - (ys.length+c))).toList).getD q undef:=fun q=>by
  rw [List.getD_eq_getElem?_getD,Array.getD_eq_getD_getElem?]
  congr 1
  rw [<- Array.getElem?_toList]
  simp
 have hrow2:∀ q,q < c->((List.replicate c (List.replicate i.size AV.unk)).getD q [])=List.replicate i.size AV.unk:=fun q hq=>by simp [List.getD_eq_getElem?_getD,List.getElem?_replicate,hq]
 have hm:=hH.made (w':=w.drew.alloc (.cells (ov.toArray++Builtin.zeroCells z.cells c++Builtin.zeroCells z.cells (cap - (ys.length+c))) e)) (H':=H++[⟨0,i.size,ys++List.replicate c (List.replicate i.size .unk),none⟩]) H.length i.size (ys++List.replicate c (List.replicate i.size .unk))
  (ov.toArray++Builtin.zeroCells z.cells c++Builtin.zeroCells z.cells (cap - (ys.length+c))) e rfl rfl rfl rfl cap 0 (by simpa using hge) ?_ (fun q hq=>?_) ya_ (fun _=>hnone.2) (fun j hj=>by
   rcases Nat.lt_or_ge j H.length with h' | h'
   · rw [List.getElem?_append_left h']
   · rw [List.getElem?_eq_none yh_,List.getElem?_eq_none ya_]) yf_ yf_ (Nat.le_refl _) fun q j hq hj=>?_
 · refine ⟨_,_,hr,G,_,hm.1,hm.2,.osl _ _ _ _ _ _ _ _ hge yj_ fun _=>⟨_,_,Cx.M7 ..,rfl,rfl,by simpa using hge,by simp,fun _=>by simp⟩,by simp,fun id hl _ hιd=>?_⟩
   have hne:id≠H.length:=by omega
   exact ⟨by rw [(Cx.H8 _ _ _ _ hne).1]; exact hιd,(Cx.H8 _ _ _ _ hne).2,by rw [List.getElem?_append_left hl]⟩
 · simp only [Array.size_append,List.size_toArray,size_zeroCells,hzs,ho.length,<- Nat.add_mul]
   refine Nat.mul_le_mul_right _ ?_
   omega
 · simp only [List.length_append,hl2] at hq
   rw [sJ]
   split
   · rename_i h; exact ho.row _ h
   · rw [hrow2 _ ya_]; simp
 · simp only [List.length_append,hl2] at hq
   rw [hcells,a9m (xs:=List.replicate c (List.replicate i.size AV.unk)) ho.length (by rw [hl2]; simpa using z1) (by rw [hl2]; exact hq) hj,sJ]
   split
   · rename_i h; exact ho.rel _ _ h hj
   · rename_i h
     rw [hrow2 _ ya_]
     have hlt:=gU (show q - ys.length < c by omega) hj
     refine ⟨?_,?_⟩
     · rw [List.getD_eq_getElem?_getD,List.getElem?_eq_getElem (show _ < (Builtin.zeroCells z.cells c).size by rw [z1]; exact hlt)]
       exact z2 _ (List.getElem_mem _)
     · simp only [List.getD_eq_getElem?_getD,List.getElem?_replicate,hj,if_true,Option.getD_some]
       exact .unk ..
theorem b3U {P:Program} {F:Fr} {H:Heap} {dst:Option Tmp} {x y:Operand} {t t' e0:TypeId} {type:TypeId} {pos:String} {after:Array Edge} {guard:Option (Nat × Bool)} {id g e n r c:Nat} {els ys:List (List AV)} {i:TypeInfo} {z:Value} {kk kx:IntKind}
 (ht:P.underlying t=some (.slice e0)) (ht':P.underlying t'=some (.int kk)) (hi:P.info? e0=some i) (hz:i.zero=some z) (hzs:z.cells.size=i.size) (hz1:∀ v∈z.cells.toList,v.oneCell'=true)
 (hx:opv F x=some (.osl id g i.size e n)) (ho:H[id]?=some ⟨g,i.size,els,some r⟩) (hrows:F5 H i.size (.osl id g i.size e n)=some ys) (hlen:ys.length=n) (hy:opv F y=some (.int kx (c:Int)))
 (hg:r - e < n+c) (hb:0 < i.bytes) (hs:0 < i.size) (hc:0 < c) (hby:(n+c) * i.bytes<=140737488355328) :
 iL P F H ⟨dst,.call { callee:=.builtin .append,args:=#[x,y],argTypes:=#[t,t'] },type,pos,after,guard⟩ (.osl H.length 0 i.size 0 (n+c),H++[⟨0,i.size,ys++List.replicate c (List.replicate i.size .unk),none⟩]):=by
 intro G w C f hf hH
 have hv:=hf x yq_ _ hx
 have hvy:=hf y yq_ _ hy
 have hgen:g=C.γ id:=hH.gen id _ ho
 obtain ⟨ov,hsrc⟩:=gD (P:=P) hH hv hrows
 generalize huy:f y=uy at hvy
 cases hvy
 have fin:∀ base sCap,f x=.slice base n sCap->sCap < n+c->∃ v w',(execOp f (⟨dst,.call { callee:=.builtin .append,args:=#[x,y],argTypes:=#[t,t'] },type,pos,after,guard⟩:Oper)).run P w=.ok (.value v) w'/\After G w C H (.osl H.length 0 i.size 0 (n+c),H++[⟨0,i.size,ys++List.replicate c (List.replicate i.size .unk),none⟩]) v w':=by
  intro base sCap hfx hcap
  rw [hfx] at hsrc
  obtain ⟨v,w',h1,h2⟩:=b5G (ty:=type) (kx:=kx) hH ht ht' hi hz hzs hz1 c base n sCap hsrc hlen hcap hb hs hc hby
  refine ⟨v,w',?_,h2⟩
  simp [execOp,resolve,invoke,builtin,hfx,huy,h1]
 generalize hu:f x=u at hv
 cases hv with
 | osl _ _ _ _ _ _ ad cap hnc hle h =>
  obtain ⟨l,bb,hι,hlb,hlk,hen,hcap,_⟩:=h hgen
  have:=(hH.ob id _ l ho hι).rm r rfl
  exact fin _ _ hu ya_
 | osl0 _ _ _ _ _ base hle h=>exact fin _ _ hu ya_
theorem a7L {P:Program} {F:Fr} {H:Heap} {dst:Option Tmp} {x y m:Operand} {lo:Option Operand} {t e0:TypeId} {type:TypeId} {pos:String} {after:Array Edge} {guard:Option (Nat × Bool)} {id g k e n l h c:Nat}
 (ht:P.underlying t=some (.slice e0)) (hk:∀ w:World,(Go.sizeOf e0).run P w=.ok k w) (hx:opv F x=some (.osl id g k e n))
 (hlo:I4 F lo 0=some (l:Int)) (hhi:I4 F (some y) 0=some (h:Int)) (hmx:I4 F (some m) 0=some (c:Int)) (h1:l<=h) (h2:h<=c) (h3:c<=n) :
 iL P F H ⟨dst,.slice t x lo (some y) (some m),type,pos,after,guard⟩ (.unk,H):=by
 intro G w C f hf hH
 have hv:=hf x yp_ _ hx
 have hl:=iE (G:=G) (w:=w) (C:=C) (f:=f) hlo fun z hz a ha=>hf z (by simp [Op.operands,hz]) a ha
 have hh:=iE (G:=G) (w:=w) (C:=C) (f:=f) hhi fun z hz a ha=>hf z yu_ a ha
 have hm:=iE (G:=G) (w:=w) (C:=C) (f:=f) hmx fun z hz a ha=>hf z yu_ a ha
 have hb:∀ len cap:Nat,c<=cap->(Instr.sliceBounds true len cap (lo.map f) (some (f y)) (some (f m))).run P w=.ok (l,h,c) w:=by
  intro len cap hc
  rcases hm with ⟨hm,_⟩ | ⟨z,kz,hz,hfm⟩
  · simp at hm
  · simp only [Option.some.injEq] at hz
    subst hz
    rcases hh with ⟨hh,_⟩ | ⟨z,kz,hz,hfz⟩
    · simp at hh
    · simp only [Option.some.injEq] at hz
      subst hz
      rcases hl with ⟨rfl,h0⟩ | ⟨z,kz',rfl,hz⟩
      · have:l=0:=by omega
        subst this
        simp [Instr.sliceBounds,hfz,hfm,run_sliceBound,hc,h2]
      · simp [Instr.sliceBounds,hz,hfz,hfm,run_sliceBound,hc,h1,h2]
 have fin:∀ base cap,f x=.slice base n cap->n<=cap->∃ v,(Instr.sliceAt t (f x) (lo.map f) (some (f y)) (some (f m))).run P w=.ok v w:=by
  intro base cap hu hcap
  rw [hu]
  simp only [Instr.sliceAt,Instr.slice,Sem.run_bind,run_underlying ht,Result.andThen_ok]
  rw [hb n cap ya_]
  simp only [Result.andThen_ok,hk w,Sem.run_pure,Sem.run_bind]
  exact ⟨_,rfl⟩
 have done:(∃ v,(Instr.sliceAt t (f x) (lo.map f) (some (f y)) (some (f m))).run P w=.ok v w)->∃ v w',(execOp f (⟨dst,.slice t x lo (some y) (some m),type,pos,after,guard⟩:Oper)).run P w=.ok (.value v) w'/\After G w C H (.unk,H) v w':=by
  intro ⟨v,hr⟩
  refine ⟨v,w,?_,G,C,Ev.refl ..,hH,.unk ..,Pd.refl⟩
  simp only [execOp,Option.map_some,Option.map_none,Sem.run_bind,hr,Result.andThen_ok,Sem.run_pure]
 generalize hu:f x=u at hv
 cases hv with
 | osl _ _ _ _ _ _ ad cap hnc hle h=>exact done (fin _ _ hu hnc)
 | osl0 _ _ _ _ _ base hle h=>exact done (fin _ _ hu (Nat.le_refl _))
theorem j6.ghost {P:Program} {f:FuncId} {args:List AV} {H H1 H2:Heap} {a a' x:AV} {i id g:Nat} {o o1:Ob} (h:j6 P f args H (a,H1)) (hi:args[i]?=some x) (hx:(∃ e c,x=.obj id g e c)\/∃ k e n,x=.osl id g k e n)
 (ho:H[id]?=some o) (hg:o.gen=g) (ho1:H1[id]?=some o1) (hg1:o1.gen=g)
 (k:∀ (G:Nat->Prop) (w:World) (C:Cx) (v:Value),HR G w C H1->VR G w C a v->(∃ l,C.ι id=some l)->∃ G' C',Ev G w C G' w C'/\HR G' w C' H2/\VR G' w C' a' v/\Pd P5 C H1 C' H2):j6 P f args H (a',H2):=by
 intro G w C vs hsz hargs hH
 have hlt:i < args.length:=by
  rcases Nat.lt_or_ge i args.length with h' | h'
  · exact h'
  · rw [List.getElem?_eq_none h'] at hi; simp at hi
 have hv:=hargs i hlt
 rw [List.getD_eq_getElem?_getD,hi] at hv
 have hγ:=hH.gen id o ho
 obtain ⟨l,hl⟩:=VR.shows hv hx ya_
 refine (h G w C vs hsz hargs hH).mono fun v w' ⟨G',C',he,hh,hv,hp⟩=>?_
 have hγ1:=hh.gen id o1 ho1
 have hl':C'.ι id=some l:=(he.cx id).2 ya_ l hl
 obtain ⟨G2,C2,h1,h2,h3,h4⟩:=k G' w' C' v hh hv ⟨l,hl'⟩
 exact ⟨G2,C2,he.trans h1,h2,h3,hp.trans h4⟩
theorem j6.b5I {P:Program} {f:FuncId} {args:List AV} {H H1 H2:Heap} {a a':AV} (h:j6 P f args H (a,H1))
 (k:∀ (G:Nat->Prop) (w:World) (C:Cx) (v:Value),HR G w C H1->VR G w C a v->∃ G' C',Ev G w C G' w C'/\HR G' w C' H2/\VR G' w C' a' v/\Pd P5 C H1 C' H2):j6 P f args H (a',H2):=by
 intro G w C vs hsz hargs hH
 refine (h G w C vs hsz hargs hH).mono fun v w' ⟨G',C',he,hh,hv,hp⟩=>?_
 obtain ⟨G2,C2,h1,h2,h3,h4⟩:=k G' w' C' v hh hv
 exact ⟨G2,C2,he.trans h1,h2,h3,hp.trans h4⟩
section
variable {P:Program} {G:Nat->Prop} {w:World} {C:Cx} {H:Heap}
theorem zD (hH:HR G w C H) {id j g gj k n:Nat} {o oj:Ob} {v:Value} (hne:id≠j) (ho:H[id]?=some o) (hoj:H[j]?=some oj) (hgo:o.gen=g) (hgj:oj.gen=gj) (hv:VR G w C (.osl j gj k 0 n) v) (hl:∃ l,C.ι id=some l) :
 ∃ G' C',Ev G w C G' w C'/\HR G' w C' ((H.set id { oj with gen:=g+1 }).set j ⟨gj+1,k,[],none⟩)/\VR G' w C' (.osl id (g+1) k 0 n) v/\Pd P5 C H C' ((H.set id { oj with gen:=g+1 }).set j ⟨gj+1,k,[],none⟩):=by
 obtain ⟨l,hl⟩:=hl
 have hγ:=hH.gen id o ho
 have hγj:=hH.gen j oj hoj
 have hlt:=nY ho
 have hltj:=nY hoj
 obtain ⟨lj,hlj,hlk⟩:=pK hv ya_
 have hC1:((C.lay id (C.ι j) (g+1)).lay j none (gj+1)).ι j=none:=Cx.M7 ..
 have hC2:((C.lay id (C.ι j) (g+1)).lay j none (gj+1)).γ j=gj+1:=Cx.X8 ..
 have hC3:((C.lay id (C.ι j) (g+1)).lay j none (gj+1)).ι id=some lj:=by rw [(Cx.H8 _ _ _ _ hne).1,Cx.M7,hlj]
 have hC4:((C.lay id (C.ι j) (g+1)).lay j none (gj+1)).γ id=g+1:=by rw [(Cx.H8 _ _ _ _ hne).2,Cx.X8]
 have hC5:∀ i,i≠id->i≠j->((C.lay id (C.ι j) (g+1)).lay j none (gj+1)).ι i=C.ι i/\((C.lay id (C.ι j) (g+1)).lay j none (gj+1)).γ i=C.γ i:=fun i h1 h2=>by
  rw [(Cx.H8 _ _ _ _ h2).1,(Cx.H8 _ _ _ _ h2).2,(Cx.H8 _ _ _ _ h1).1,(Cx.H8 _ _ _ _ h1).2]; exact ⟨rfl,rfl⟩
 generalize (C.lay id (C.ι j) (g+1)).lay j none (gj+1)=C' at hC1 hC2 hC3 hC4 hC5
 have hcx:R9 C C':=fun i=>by
  by_cases h1:i=id
  · subst h1; rw [hC4]; exact ⟨by omega,fun e=>by omega⟩
  · by_cases h2:i=j
    · subst h2; rw [hC2]; exact ⟨by omega,fun e=>by omega⟩
    · rw [(hC5 i h1 h2).1,(hC5 i h1 h2).2]; exact ⟨Nat.le_refl _,fun _ l hl=>hl⟩
 have hback:∀ i m,C'.ι i=some m->∃ i',C.ι i'=some m/\(i=id->i'=j)/\(i≠id->i'=i)/\i≠j:=fun i m hm=>by
  by_cases h2:i=j
  · subst h2; rw [hC1] at hm; simp at hm
  · by_cases h1:i=id
    · subst h1; rw [hC3] at hm; exact ⟨j,by rw [hlj]; exact hm,fun _=>rfl,fun h=>absurd rfl h,h2⟩
    · rw [(hC5 i h1 h2).1] at hm; exact ⟨i,hm,fun h=>absurd h h1,fun _=>rfl,h2⟩
 have hev:Ev G w C G w C':=⟨rfl,rfl,rfl,Nat.le_refl _,fun _ h=>h,fun _ _=>rfl,hcx,fun _ _ _=>rfl,fun _ h=>.inl h,fun i m b hm hb=>by
  obtain ⟨i',h1,_⟩:=hback i m hm
  exact .inl ⟨i',m,h1,hb⟩,fun _=>rfl⟩
 have hget1:((H.set id { oj with gen:=g+1 }).set j ⟨gj+1,k,[],none⟩)[j]?=some ⟨gj+1,k,[],none⟩:=List.getElem?_set_self (by simpa using hltj)
 have hget2:((H.set id { oj with gen:=g+1 }).set j ⟨gj+1,k,[],none⟩)[id]?=some { oj with gen:=g+1 }:=by rw [List.getElem?_set_ne (Ne.symm hne),List.getElem?_set_self hlt]
 have hget3:∀ i,i≠id->i≠j->((H.set id { oj with gen:=g+1 }).set j ⟨gj+1,k,[],none⟩)[i]?=H[i]?:=fun i h1 h2=>by rw [List.getElem?_set_ne (Ne.symm h2),List.getElem?_set_ne (Ne.symm h1)]
 refine ⟨G,C',hev,⟨fun i oi hi=>?_,fun i hi=>?_,fun i m b hm hb=>?_,fun i i2 m m2 b hi hi2 hb hb2=>?_,fun i oi m hi hm=>?_,hH.gsz⟩,?_,by simp,fun i hi hs hi0=>?_⟩
 · by_cases h2:i=j
   · subst h2; rw [hget1] at hi; simp at hi; subst hi; exact hC2.symm
   · by_cases h1:i=id
     · subst h1; rw [hget2] at hi; simp at hi; subst hi; exact hC4.symm
     · rw [hget3 i h1 h2] at hi; rw [(hC5 i h1 h2).2]; exact hH.gen i oi hi
 · simp only [List.length_set] at hi
   have h1:i≠id:=by omega
   have h2:i≠j:=by omega
   rw [(hC5 i h1 h2).1,(hC5 i h1 h2).2]; exact hH.out i hi
 · obtain ⟨i',h1,_⟩:=hback i m hm
   exact hH.own i' m b h1 hb
 · obtain ⟨i',p1,p2,p3,p4⟩:=hback i m hi
   obtain ⟨i2',q1,q2,q3,q4⟩:=hback i2 m2 hi2
   have:=hH.inj _ _ _ _ b p1 q1 hb hb2
   by_cases h1:i=id <;> by_cases h2:i2=id
   · omega
   · have:=p2 h1; have:=q3 h2; omega
   · have:=p3 h1; have:=q2 h2; omega
   · have:=p3 h1; have:=q3 h2; omega
 · obtain ⟨i',p1,p2,p3,p4⟩:=hback i m hm
   by_cases h1:i=id
   · have e:=p2 h1
     subst e h1
     rw [hget2] at hi
     simp only [Option.some.injEq] at hi
     subst hi
     have:=(hH.ob i' oj m hoj p1).ev hev (fun _ _=>rfl)
     exact ⟨this.k,this.rm,this.no,this.len,this.row,this.cells⟩
   · have e:=p3 h1
     subst e
     rw [hget3 i' h1 p4] at hi
     exact (hH.ob i' oi m hi p1).ev hev (fun _ _=>rfl)
 · cases hv with
   | osl _ _ _ _ _ _ ad cap hnc hle hl2 =>
    refine .osl _ _ _ _ _ _ _ _ hnc ya_ fun _=>?_
    obtain ⟨l2,b,q1,q2⟩:=hl2 ya_
    rw [hlj] at q1
    simp only [Option.some.injEq] at q1
    subst q1
    exact ⟨lj,b,hC3,q2⟩
   | osl0 _ _ _ _ _ base hle hl2 =>
    refine .osl0 _ _ _ _ _ _ ya_ fun _=>?_
    obtain ⟨l2,q1,q2⟩:=hl2 ya_
    rw [hlj] at q1
    simp only [Option.some.injEq] at q1
    subst q1
    exact ⟨lj,hC3,q2⟩
 · have h1:i≠id:=fun e=>by subst e; rw [hl] at hi0; simp at hi0
   have h2:i≠j:=fun e=>by subst e; rw [hlj] at hi0; simp at hi0
   exact ⟨by rw [(hC5 i h1 h2).1]; exact hi0,(hC5 i h1 h2).2,hget3 i h1 h2⟩
end
def eP (ids:List Nat) (n:Nat) (i:Nat):Nat:=if i < ids.length then ids.getD i 0 else n+(i - ids.length)
def aK (τ:Nat->Nat):Heap->Heap->Prop
 | [],[]=>True
 | o :: l,o' :: l'=>o.ren τ=o'/\aK τ l l'
 | _,_=>False
theorem aK.get {τ:Nat->Nat}:∀ {l l':Heap},aK τ l l'->l.length=l'.length/\∀ (i:Nat) (o:Ob),l[i]?=some o->l'[i]?=some (o.ren τ)
 | [],[],_=>⟨rfl,fun i o h=>by simp at h⟩
 | o :: l,o' :: l',h=>by
  obtain ⟨h1,h2⟩:=aK.get h.2
  refine ⟨by simp [h1],fun i oi hi=>?_⟩
  cases i with
  | zero=>simp at hi; subst hi; simp [h.1]
  | succ i=>simpa using h2 i oi yc_
def bJ (H:Heap):List Nat->Heap->Heap
 | i :: ids,o :: os=>bJ (H.set i o) ids os
 | _,_=>H
theorem fZ:∀ (ids:List Nat) (os:Heap) (H:Heap),(bJ H ids os).length=H.length
 | [],_,H=>by simp [bJ]
 | _ :: _,[],H=>by simp [bJ]
 | i :: ids,o :: os,H=>by rw [bJ,fZ ids os]; simp
theorem oF:∀ (ids:List Nat) (os:Heap) (H:Heap) (j:Nat),(∀ i∈ids,i≠j)->(bJ H ids os)[j]?=H[j]?
 | [],_,H,j,_=>by simp [bJ]
 | _ :: _,[],H,j,_=>by simp [bJ]
 | i :: ids,o :: os,H,j,h=>by
  rw [bJ,oF ids os _ j (fun i hi=>h i (by simp [hi])),List.getElem?_set_ne (h i yf_)]
def nodupB:List Nat->Bool
 | []=>true
 | i :: ids=>!ids.contains i&&nodupB ids
theorem a1j:∀ (ids:List Nat) (os:Heap) (H:Heap),nodupB ids=true->(∀ i∈ids,i < H.length)->ids.length=os.length->∀ (q:Nat) (o:Ob),os[q]?=some o->(bJ H ids os)[ids.getD q 0]?=some o
 | [],[],H,_,_,_,q,o,hq=>by simp at hq
 | i :: ids,o :: os,H,hn,hlt,hlen,q,o',hq=>by
  simp only [nodupB,Bool.and_eq_true,Bool.not_eq_true',List.contains_eq_mem,decide_eq_false_iff_not] at hn
  simp only [bJ]
  cases q with
  | zero =>
   simp at hq; subst hq
   simp only [List.getD_cons_zero]
   rw [oF ids os _ i (fun j hj e=>hn.1 (e ▸ hj)),List.getElem?_set_self (hlt i yf_)]
  | succ q =>
   simp only [List.getD_cons_succ]
   exact a1j ids os _ hn.2 (fun j hj=>by simpa using hlt j (by simp [hj])) (by simpa using hlen) q o' (by simpa using hq)
theorem a3E:∀ (ids:List Nat),nodupB ids=true->∀ i j,i < ids.length->j < ids.length->ids.getD i 0=ids.getD j 0->i=j
 | [],_,i,_,hi,_,_=>by simp at hi
 | a :: ids,hn,i,j,hi,hj,e=>by
  simp only [nodupB,Bool.and_eq_true,Bool.not_eq_true',List.contains_eq_mem,decide_eq_false_iff_not] at hn
  have hmem:∀ q,q < ids.length->ids.getD q 0∈ids:=fun q hq=>by
   rw [List.getD_eq_getElem?_getD,List.getElem?_eq_getElem hq]; exact List.getElem_mem _
  cases i with
  | zero =>
   cases j with
   | zero=>rfl
   | succ j=>simp only [List.getD_cons_zero,List.getD_cons_succ] at e; exact absurd (e ▸ hmem j ys_) hn.1
  | succ i =>
   cases j with
   | zero=>simp only [List.getD_cons_zero,List.getD_cons_succ] at e; exact absurd (e.symm ▸ hmem i yc_) hn.1
   | succ j=>simp only [List.getD_cons_succ] at e; rw [a3E ids hn.2 i j yc_ ys_ e]
theorem Ob.ren0 {τ:Nat->Nat} {o:Ob} (h:AV.D5 0 o.els=true):o.ren τ=o:=Ob.ren_fix (fun i hi=>absurd hi (Nat.not_lt_zero i)) o h
theorem j6.put {P:Program} {f:FuncId} {args args':List AV} {a a':AV} {Hs H1 N Hb Hg H1' N':Heap} (ids:List Nat) (h:j6 P f args Hs (a,H1++N)) (hids:(nodupB ids&&ids.all (fun i=>decide (i < Hb.length)))=true)
 (hlen:ids.length=Hs.length) (hn:H1.length=Hs.length) (hargs:AV.bdds Hs.length args=true) (hbs:aU Hs.length Hs=true) (hg:(ids.map fun i=>Hb.getD i default)=Hg) (hget:aK (eP ids Hb.length) Hs Hg)
 (h1:aK (eP ids Hb.length) H1 H1') (h2:aK (eP ids Hb.length) N N') (ha:AV.rens (eP ids Hb.length) args=args') (hr:a.ren (eP ids Hb.length)=a'):j6 P f args' Hb (a',bJ Hb ids H1'++N'):=by
 simp only [Bool.and_eq_true,List.all_eq_true,decide_eq_true_eq] at hids
 obtain ⟨hnd,hlt⟩:=hids
 subst ha hr hg
 have hτ:∀ i,i < Hs.length->eP ids Hb.length i=ids.getD i 0:=fun i hi=>by simp [eP,hlen,hi]
 have hτ2:∀ i,Hs.length<=i->eP ids Hb.length i=Hb.length+(i - Hs.length):=fun i hi=>by
  have:¬ i < Hs.length:=by omega
  simp [eP,hlen,this]
 have hmem:∀ q,q < Hs.length->ids.getD q 0∈ids:=fun q hq=>by
  rw [List.getD_eq_getElem?_getD,List.getElem?_eq_getElem ya_]; exact List.getElem_mem _
 obtain ⟨g1,g2⟩:=hget.get
 obtain ⟨p1,p2⟩:=h1.get
 obtain ⟨n1,n2⟩:=h2.get
 refine h.frame (τ:=eP ids Hb.length) (Hb:=Hb) (Hb':=bJ Hb ids H1'++N') ⟨fun i hi=>by rw [hτ i hi]; exact hlt _ (hmem i hi),hτ2,fun i j hi hj e=>by
  rw [hτ i hi,hτ j hj] at e; exact a3E ids hnd i j ya_ ya_ e,fun i o ho=>?_⟩ hargs (fun i o ho=>kM hbs ho) (by simp [fZ,hn,n1]) (fun i o ho=>?_) fun j hj hj2=>?_
 · have hi:=nY ho
   rw [hτ i hi]
   have:=g2 i o ho
   rw [List.getElem?_map] at this
   have hi':i < ids.length:=by omega
   rw [List.getElem?_eq_getElem hi'] at this
   simp only [Option.map_some,Option.some.injEq] at this
   have hlt':=hlt _ (List.getElem_mem hi')
   rw [List.getD_eq_getElem?_getD (l:=ids),List.getElem?_eq_getElem hi',Option.getD_some,<- this,List.getD_eq_getElem?_getD,List.getElem?_eq_getElem hlt',Option.getD_some]
 · rcases Nat.lt_or_ge i H1.length with hi | hi
   · rw [List.getElem?_append_left hi] at ho
     rw [hτ i ya_,List.getElem?_append_left (by rw [fZ]; exact hlt _ (hmem i ya_))]
     exact a1j ids H1' Hb hnd hlt ya_ i _ (p2 i o ho)
   · rw [List.getElem?_append_right hi] at ho
     rw [hτ2 i ya_,List.getElem?_append_right (by rw [fZ]; omega),fZ]
     have:Hb.length+(i - Hs.length) - Hb.length=i - H1.length:=by omega
     rw [this]
     exact n2 _ o ho
 · rw [List.getElem?_append_left (by rw [fZ]; exact hj)]
   refine oF ids H1' Hb j fun i hi e=>?_
   obtain ⟨q,hq,e2⟩:=List.getElem_of_mem hi
   refine hj2 q ya_ ?_
   rw [hτ q ya_,List.getD_eq_getElem?_getD,List.getElem?_eq_getElem hq,Option.getD_some,e2,e]
open Go.Proofs.YtmghjcbabebanaaGreat
theorem om {p:Prop} (h:p:=by first | omega | (simp; done) | (simp; omega)):p:=h
theorem oa {p:Prop} (h:p:=by first | omega | assumption | (simp; done) | (simp; omega) | (simp_all; done) | (simp_all; omega)):p:=h
theorem ow {p:Prop} (h:p:=by omega):p:=h
theorem kr {α:Sort _} {a b:α} (h:a=b:=by kernel_rfl):a=b:=h
theorem ob {p:Prop} (h:p:=by first | (simp [aU,AV.D5,AV.bdds,AV.bdd]; done) | simp [aU,AV.D5,AV.bdds,AV.bdd,-List.map_append,-List.map_set,-List.map_take,-List.map_drop,-List.map_cons,-List.map_map]):p:=h
theorem Has.o {P : Program} {f : FuncId} {fn : Func} (h1 : P.funcs[f]? = some fn) (h2 : fn.body.isNone = false := by kernel_rfl) (h3 : (fn.name == "runtime.NumGoroutine") = false := by kernel_rfl) (h4 : fn.body.all codeOk = true := by kernel_rfl) : Has P f fn := ⟨h1, h2, h3, h4⟩
class IsP (c:Bool) (p q:outParam Prop):Prop where
 t:c=true->p
 f:c=false->q
instance (priority:=10) isP0 (c:Bool):IsP c (c=true) (c=false):=⟨id,id⟩
instance isPd (p:Prop) [Decidable p]:IsP (decide p) p (¬ p):=⟨decide_eq_true_iff.1,decide_eq_false_iff_not.1⟩
instance isPe (x y:Int):IsP (x == y) (x=y) (¬ x=y):=⟨beq_iff_eq.1,beq_eq_false_iff_ne.1⟩
instance isPne (x y:Int):IsP (x != y) (¬ x=y) (x=y):=⟨bne_iff_ne.1,fun h=>by simpa using h⟩
instance isPn (c:Bool) (p q:Prop) [h:IsP c p q]:IsP (!c) q p:=⟨fun e=>h.f (by simpa using e),fun e=>h.t (by simpa using e)⟩
instance isPa (c d:Bool) (p q p' q':Prop) [h:IsP c p q] [k:IsP d p' q']:IsP (c&&d) (p/\p') (q\/q'):=⟨fun e=>by rw [Bool.and_eq_true] at e; exact ⟨h.t e.1,k.t e.2⟩,fun e=>by rw [Bool.and_eq_false_iff] at e; exact e.imp h.f k.f⟩
instance isPo (c d:Bool) (p q p' q':Prop) [h:IsP c p q] [k:IsP d p' q']:IsP (c || d) (p\/p') (q/\q'):=⟨fun e=>by rw [Bool.or_eq_true] at e; exact e.imp h.t k.t,fun e=>by rw [Bool.or_eq_false_iff] at e; exact ⟨h.f e.1,k.f e.2⟩⟩
structure OK (H:Heap) (r:AV × Heap) (t:Tr) (p:Prop):Prop where
 h:p
structure RK (H:Heap) (r:AV × Heap) (hs:Hs) (a b:List (Nat × List (List AV))) (t:Tr) (p:Prop):Prop where
 h:p
section
variable {H H' H0:Heap} {zr:AV × Heap} {tr tA tB:Tr} {p pA pB q:Prop} {hs hs':Hs} {ra rb ra' rb':List (Nat × List (List AV))}
theorem OK.l (h:p):OK H zr .nil p:=⟨h⟩
theorem OK.e (v:AV) (h:(v,H)=zr:=by rfl):OK H zr .nil ((v,H)=zr):=⟨h⟩
theorem OK.f (n:Nat) (v:AV) (k:OK H zr tr p) (h:AV.bdd n v=true/\aU n H=true:=by exact ob):OK H zr tr ((AV.bdd n v=true/\aU n H=true)/\p):=⟨⟨h,k.h⟩⟩
theorem OK.h' (H':Heap) (k:OK H' zr tr p):OK H zr tr p:=⟨k.h⟩
theorem OK.two (c:Bool) {u u':Prop} [i:IsP c u u'] (x:c=true->u->OK H zr tA pA) (y:c=false->u'->OK H zr tB pB):OK H zr (.two tA tB) (cond c pA pB):=by
 cases hc:c with
 | true=>exact ⟨(x hc (i.t hc)).h⟩
 | false=>exact ⟨(y hc (i.f hc)).h⟩
theorem OK.yes (k:OK H zr tr p):OK H zr (.two tr .nil) p:=⟨k.h⟩
theorem OK.no (k:OK H zr tr p):OK H zr (.two .nil tr) p:=⟨k.h⟩
theorem OK.roll (n:Nat) (k:OK H zr tr p):OK H zr (.roll n tr) p:=⟨k.h⟩
theorem OK.loop {Q:(Ex->Fr->Heap->Prop)->Fr->Heap->Prop} {l o:Option (List Nat)} {F F':Fr} {e:Ex} (F'':Fr) (h:l7 Q l o F H0 e F' H') (k:OK H' zr tr p):OK H zr (.loop e F'' H' tr) (l7 Q l o F H0 e F' H'/\p):=⟨⟨h,k.h⟩⟩
theorem OK.r (k:RK H zr hs ra rb tr p):OK H zr (.reg hs ra rb tr) p:=⟨k.h⟩
theorem RK.g (k:OK H zr tr p):RK H zr [] [] [] tr p:=⟨k.h⟩
theorem RK.h' (H':Heap) (k:RK H' zr hs ra rb tr p):RK H zr hs ra rb tr p:=⟨k.h⟩
theorem RK.o (h:q) (k:RK H zr hs ra rb tr p):RK H zr hs ra rb tr (q/\p):=⟨⟨h,k.h⟩⟩
theorem RK.t (i:Nat) (v:AV) (H':Heap) (h:q) (k:RK H zr hs ra rb tr p):RK H zr ((i,(v,H')) :: hs) ra rb tr (q/\p):=⟨⟨h,k.h⟩⟩
theorem RK.c (i:Nat) {P:Program} {f:FuncId} {args:List AV} {v:AV} (h:j6 P f args H0 (v,H')) (k:RK H zr hs ra rb tr p):RK H zr ((i,(v,H')) :: hs) ra rb tr (j6 P f args H0 (v,H')/\p):=⟨⟨h,k.h⟩⟩
theorem RK.ch (i:Nat) (H1:Heap) {P:Program} {f:FuncId} {args:List AV} {v:AV} (h:j6 P f args H0 (v,H')) (k:RK H1 zr hs ra rb tr p):RK H zr ((i,(v,H1)) :: hs) ra rb tr (j6 P f args H0 (v,H')/\p):=⟨⟨h,k.h⟩⟩
theorem RK.y (i:Nat) (v w:AV) (h:Yes v H w) (k:RK H zr hs ra rb tr p):RK H zr ((i,(w,H)) :: hs) ra rb tr (Yes v H w/\p):=⟨⟨h,k.h⟩⟩
theorem RK.rd (v:AV) (H':Heap) (k:RK H zr hs ra rb tr p):RK H zr hs ra rb tr ((some (v,H')=some (v,H'))/\p):=⟨⟨rfl,k.h⟩⟩
theorem RK.b (n:Nat) (k:RK H zr hs ra rb tr p) (h:aU n H=true:=by exact ob):RK H zr hs ra rb tr ((aU n H=true)/\p):=⟨⟨h,k.h⟩⟩
theorem RK.is (i k' k2:Nat) (rows:List (List AV)) (e:Int) (cs:List AV) (h:O9 k' k2 rows e H cs) (k:RK H zr hs ra rb tr p):RK H zr ((i,(.ref cs 0,H)) :: hs) ra rb tr (O9 k' k2 rows e H cs/\p):=⟨⟨h,k.h⟩⟩
theorem RK.io (i id g k' k2 e0 n:Nat) (e:Int) (j:Nat) (h:G6 id g k' k2 e0 n e H j) (k:RK H zr hs ra rb tr p):RK H zr ((i,(.obj id g j 0,H)) :: hs) ra rb tr (G6 id g k' k2 e0 n e H j/\p):=⟨⟨h,k.h⟩⟩
theorem RK.st (i id g j n c:Nat) (u:AV) (H':Heap) (h:yX H id j n c (rowAt H id g j) (AV.fit u n)=some (AV.skip,H')) (k:RK H' zr hs ra rb tr p):RK H zr ((i,(AV.skip,H')) :: hs) ra rb tr (yX H id j n c (rowAt H id g j) (AV.fit u n)=some (AV.skip,H')/\p):=⟨⟨h,k.h⟩⟩
theorem RK.ap (i:Nat) (T:TypeId) (u v w:AV) (H':Heap) (h:aX tt H T u v=some (w,H')) (k:RK H' zr hs ra rb tr p):RK H zr ((i,(w,H')) :: hs) ra rb tr (aX tt H T u v=some (w,H')/\p):=⟨⟨h,k.h⟩⟩
theorem RK.ao (i:Nat) (T:TypeId) (u v w:AV) (H':Heap) (h:Z5 tt H T u v=some (w,H')) (k:RK H' zr hs ra rb tr p):RK H zr ((i,(w,H')) :: hs) ra rb tr (Z5 tt H T u v=some (w,H')/\p):=⟨⟨h,k.h⟩⟩
theorem RK.so (i id g n e m:Nat) (lo hi:Int) (w:AV) (h:Option.map (fun a=>(a,H)) ((bounds lo hi m).map fun p=>AV.osl id g n (e+p.1) (p.2 - p.1))=some (w,H)) (k:RK H zr hs ra rb tr p):RK H zr ((i,(w,H)) :: hs) ra rb tr (Option.map (fun a=>(a,H)) ((bounds lo hi m).map fun p=>AV.osl id g n (e+p.1) (p.2 - p.1))=some (w,H)/\p):=⟨⟨h,k.h⟩⟩
theorem RK.two (c:Bool) {u u':Prop} [i:IsP c u u'] (x:c=true->u->RK H zr hs ra rb tA pA) (y:c=false->u'->RK H zr hs' ra' rb' tB pB):RK H zr (hs++hs') (ra++ra') (rb++rb') (.two tA tB) (cond c pA pB):=by
 cases hc:c with
 | true=>exact ⟨(x hc (i.t hc)).h⟩
 | false=>exact ⟨(y hc (i.f hc)).h⟩
theorem RK.yes (k:RK H zr hs ra rb tr p):RK H zr hs ra rb (.two tr .nil) p:=⟨k.h⟩
theorem RK.no (k:RK H zr hs ra rb tr p):RK H zr hs ra rb (.two .nil tr) p:=⟨k.h⟩
theorem RK.w (s:Nat) (xs:List (List AV)) (h:q) (k:RK H zr hs ra rb tr p):RK H zr hs ((s,xs) :: ra) rb tr (q/\p):=⟨⟨h,k.h⟩⟩
theorem RK.w' (s:Nat) (xs:List (List AV)) (h:q) (k:RK H zr hs ra rb tr p):RK H zr hs ra ((s,xs) :: rb) tr (q/\p):=⟨⟨h,k.h⟩⟩
end
theorem aK.split {τ:Nat->Nat}:∀ {l a b:Heap},aK τ l (a++b)->aK τ (l.take a.length) a/\aK τ (l.drop a.length) b
 | l,[],b,h=>by simpa [aK] using h
 | [],o :: a,b,h=>by simp [aK] at h
 | x :: l,o :: a,b,h=>by
  simp only [List.cons_append,aK] at h
  obtain ⟨h1,h2⟩:=aK.split h.2
  exact ⟨⟨h.1,h1⟩,h2⟩
theorem j6.put2 {P:Program} {f:FuncId} {args:List AV} {v:AV} {Hs HsR:Heap} (ids:List Nat) (Hb:Heap) (v':AV) (Hb':Heap) (h:j6 P f args Hs (v,HsR))
 (hget:aK (eP ids Hb.length) Hs (ids.map fun i=>Hb.getD i default)) (hnew:aK (eP ids Hb.length) HsR ((ids.map fun i=>Hb'.getD i default)++Hb'.drop Hb.length))
 (hids:(nodupB ids&&ids.all (fun i=>decide (i < Hb.length)))=true:=by kernel_rfl) (hlen:ids.length=Hs.length:=by kernel_rfl) (hargs:AV.bdds Hs.length args=true:=by kernel_rfl)
 (hbs:aU Hs.length Hs=true:=by exact ob) (hr:v.ren (eP ids Hb.length)=v':=by rfl) (hH:bJ Hb ids (ids.map fun i=>Hb'.getD i default)++Hb'.drop Hb.length=Hb':=by kernel_rfl) :
 j6 P f (AV.rens (eP ids Hb.length) args) Hb (v',Hb'):=by
 obtain ⟨h1,h2⟩:=aK.split hnew
 have e:HsR.take (ids.map fun i=>Hb'.getD i default).length++HsR.drop (ids.map fun i=>Hb'.getD i default).length=HsR:=List.take_append_drop _ _
 rw [<- e] at h
 have hl:=h1.get.1
 rw [<- hH]
 exact j6.put ids h hids hlen (by rw [hl]; simpa using hlen) hargs hbs rfl hget h1 h2 rfl hr
attribute [local irreducible] j6 G7 D7 l9 l7
theorem q9 {f:FuncId} {fn:Func} {ann:Ann} {t:Tr} {args:List AV} {H:Heap} {r:AV × Heap} {p:Prop} (hf:Has Tryz.prog f fn) (k:OK H r t p) (e:p=G7 Tryz.prog (X ann) fn t args H r:=by kernel_rfl) (hb:H.length<=ann.base:=by exact Nat.le_of_ble_eq_true (by kernel_rfl)):j6 Tryz.prog f args H r :=
 spec hb hf (Eq.mp e k.h)
theorem K7 {P:Program} {X:Env} {c:Code} {live out:Option (List Nat)} {F F':Fr} {H H':Heap} {e:Ex} {t:Tr} {p:Prop} (k:OK H (.skip,[]) t p)
 (h:p=D7 P X c (fun _ e2 F2 H2=>match e2 with | .normal=>l7 (l9 P X c) live out (fJ live F2) H2 e F' H' | e2=>(e2,fJ out F2,H2)=(e,F',H')) t F H:=by kernel_rfl):l7 (l9 P X c) live out F H e F' H' :=
 l7.step t (Eq.mp h k.h)
structure Key where
 app:ByteArray
 id:ByteArray
 deriving Inhabited
def Key.row (x:Key):List AV:=[(AV.str x.app),(AV.str x.id)]
@[simp] theorem Key.O4 (n:Nat) (x:Key):AV.bdds n x.row=true:=by simp [Key.row,AV.bdds,AV.bdd]
@[simp] theorem Key.y8 (n:Nat) (l:List Key):AV.D5 n (l.map Key.row)=true:=by induction l with | nil=>rfl | cons x l ih=>simp [AV.D5,Key.O4,ih]
structure l8 where
 t:Int
 node:Int
 n:Int
 deriving Inhabited
def l8.row (x:l8):List AV:=[(AV.int .i64 x.t),(AV.int .i64 x.node),(AV.int .i64 x.n)]
@[simp] theorem l8.O4 (n:Nat) (x:l8):AV.bdds n x.row=true:=by simp [l8.row,AV.bdds,AV.bdd]
@[simp] theorem l8.y8 (n:Nat) (l:List l8):AV.D5 n (l.map l8.row)=true:=by induction l with | nil=>rfl | cons x l ih=>simp [AV.D5,l8.O4,ih]
structure j5 where
 key:Key
 status:Int
 over:Int
 lease:Int
 stamp:l8
 gone:Bool
 deriving Inhabited
def j5.row (x:j5):List AV:=[(AV.str x.key.app),(AV.str x.key.id),(AV.int .i64 x.status),(AV.int .i64 x.over),(AV.int .i64 x.lease),(AV.int .i64 x.stamp.t),(AV.int .i64 x.stamp.node),(AV.int .i64 x.stamp.n),(AV.bool x.gone)]
@[simp] theorem j5.O4 (n:Nat) (x:j5):AV.bdds n x.row=true:=by simp [j5.row,AV.bdds,AV.bdd]
@[simp] theorem j5.y8 (n:Nat) (l:List j5):AV.D5 n (l.map j5.row)=true:=by induction l with | nil=>rfl | cons x l ih=>simp [AV.D5,j5.O4,ih]
structure Entry where
 card:j5
 seen:Int
 deriving Inhabited
def Entry.row (x:Entry):List AV:=[(AV.str x.card.key.app),(AV.str x.card.key.id),(AV.int .i64 x.card.status),(AV.int .i64 x.card.over),(AV.int .i64 x.card.lease),(AV.int .i64 x.card.stamp.t),(AV.int .i64 x.card.stamp.node),(AV.int .i64 x.card.stamp.n),(AV.bool x.card.gone),(AV.int .i64 x.seen)]
@[simp] theorem Entry.O4 (n:Nat) (x:Entry):AV.bdds n x.row=true:=by simp [Entry.row,AV.bdds,AV.bdd]
@[simp] theorem Entry.y8 (n:Nat) (l:List Entry):AV.D5 n (l.map Entry.row)=true:=by induction l with | nil=>rfl | cons x l ih=>simp [AV.D5,Entry.O4,ih]
def x9 (n:Int):List AV:=[.int .i64 n]
def rU8 (n:Int):List AV:=[.int .u8 n]
def a0p (s:ByteArray):List AV:=[.str s]
def b0z (b:Bool):List AV:=[.bool b]
@[simp] theorem iC (n:Nat) (l:List Int):AV.D5 n (l.map x9)=true:=by induction l with | nil=>rfl | cons x l ih=>simp [AV.D5,x9,AV.bdds,AV.bdd,ih]
@[simp] theorem rP (n:Nat) (l:List Int):AV.D5 n (l.map rU8)=true:=by induction l with | nil=>rfl | cons x l ih=>simp [AV.D5,rU8,AV.bdds,AV.bdd,ih]
@[simp] theorem c7A (n:Nat) (l:List ByteArray):AV.D5 n (l.map a0p)=true:=by induction l with | nil=>rfl | cons x l ih=>simp [AV.D5,a0p,AV.bdds,AV.bdd,ih]
@[simp] theorem c7x (n:Nat) (l:List Bool):AV.D5 n (l.map b0z)=true:=by induction l with | nil=>rfl | cons x l ih=>simp [AV.D5,b0z,AV.bdds,AV.bdd,ih]
def Key.eqb (a b:Key):Bool:=(a.app.toList == b.app.toList)&&((a.id.toList == b.id.toList)&&true)
def cZ (a b:ByteArray):Int:=if Op.bytesLess a.toList b.toList then -1 else if a.toList == b.toList then 0 else 1
def Z6 (a b:Int):Int:=if a < b then -1 else if a > b then 1 else 0
def N8 (a b:Key):Int:=if cZ a.app b.app=0 then cZ a.id b.id else cZ a.app b.app
def pQ (a b:Key):Bool:=decide (N8 a b < 0)
def b1l:Ann:={ fin:=some 0 }
theorem zM (s : ByteArray)  : j6 Tryz.prog 217 [(AV.str s)] ([] : Heap) ((AV.bool false), ([] : Heap)) :=
  q9 (fn := Tryz.f217) (ann := b1l) (Has.o Tryz.func217) (.r (.g (.r (.g (.f 0 (AV.bool (!(s.toList == s.toList))) (.e (AV.bool (!(s.toList == s.toList))) (by
        simp)))))))
def a6r:Ann:={ fin:=some 0 }
theorem vK (a b : ByteArray)  : j6 Tryz.prog 207 [(AV.str a), (AV.str b)] ([] : Heap) ((AV.int .i64 (cZ a b)), ([] : Heap)) :=
  q9 (fn := Tryz.f207) (ann := a6r) (Has.o Tryz.func207) (.r (.g (.r (.c 1 ((zM a).lift kr kr ([] : Heap)) (.g (.r (.c 1 ((zM b).lift kr kr ([] : Heap)) (.g (.r (.g (.no (.r (.g (.no (.r (.g (.two (Op.bytesLess a.toList b.toList) (fun h1 h1' => (.r (.g (.f 0 (AV.int .i64 (-1)) (.e (AV.int .i64 (-1)) (by
        simp_all [cZ])))))) (fun h1 h1' => (.r (.g (.two (!(Op.bytesLess a.toList b.toList || a.toList == b.toList)) (fun h2 h2' => (.r (.g (.f 0 (AV.int .i64 1) (.e (AV.int .i64 1) (by
        simp_all [cZ])))))) (fun h2 h2' => (.r (.g (.f 0 (AV.int .i64 0) (.e (AV.int .i64 0) (by
        simp_all [cZ])))))))))))))))))))))))))))
def b1n:Ann:={ fin:=some 0 }
theorem zO (n : Int)  : j6 Tryz.prog 167 [(AV.int .i64 n)] ([] : Heap) ((AV.bool false), ([] : Heap)) :=
  q9 (fn := Tryz.f167) (ann := b1n) (Has.o Tryz.func167) (.r (.g (.r (.g (.f 0 (AV.bool (n != n)) (.e (AV.bool (n != n)) (by
        simp)))))))
def a6t:Ann:={ fin:=some 0 }
theorem yv_ {p : Prop} (h : p := by
        simp_all [Z6] <;> omega) : p := h
theorem vL (a b:Int) :j6 Tryz.prog 123 [(AV.int .i64 a),(AV.int .i64 b)] ([]:Heap) ((AV.int .i64 (Z6 a b)),([]:Heap)) :=
 q9 (fn:=Tryz.f123) (ann:=a6t) (Has.o Tryz.func123) (.r (.g (.r (.c 1 ((zO a).lift kr kr ([]:Heap)) (.g (.r (.c 1 ((zO b).lift kr kr ([]:Heap)) (.g (.r (.g (.no (.r (.g (.no (.r (.g (.two (decide (a < b)) (fun h1 h1'=>(.r (.g (.f 0 (AV.int .i64 (-1)) (.e (AV.int .i64 (-1)) yv_))))) (fun h1 h1'=>(.r (.g (.two (decide (a > b)) (fun h2 h2'=>(.r (.g (.f 0 (AV.int .i64 1) (.e (AV.int .i64 1) yv_))))) (fun h2 h2'=>(.r (.g (.f 0 (AV.int .i64 0) (.e (AV.int .i64 0) yv_))))))))))))))))))))))))))
def c4r:Ann:={ fin:=some 0 }
theorem b9i (x y : Int)  : j6 Tryz.prog 122 [(AV.sl .any 1 [[(AV.int .i64 x)], [(AV.int .i64 y)]])] ([] : Heap) ((AV.int .i64 (if x = 0 then y else x)), ([] : Heap)) :=
  q9 (fn := Tryz.f122) (ann := c4r) (Has.o Tryz.func122) (.r (.g (.r (.g (.r (.g (.roll 3 (.r (.g (.yes (.r (.g (.r (.g (.two (x != 0) (fun h1 h1' => (.r (.g (.f 0 (AV.int .i64 x) (.e (AV.int .i64 x) (by
        simp_all)))))) (fun h1 h1' => (.r (.g (.r (.g (.yes (.r (.g (.r (.g (.two (y != 0) (fun h2 h2' => (.r (.g (.f 0 (AV.int .i64 y) (.e (AV.int .i64 y) (by
        simp_all)))))) (fun h2 h2' => (.r (.g (.r (.g (.no (.r (.g (.f 0 (AV.int .i64 0) (.e (AV.int .i64 0) (by
        simp_all)))))))))))))))))))))))))))))))))))))
def b1b:Ann:={ refs:=[2,3],fin:=some 0 }
theorem zL (a b : Key)  : j6 Tryz.prog 174 [(AV.agg (Key.row a)), (AV.agg (Key.row b))] ([] : Heap) ((AV.int .i64 (N8 a b)), ([] : Heap)) :=
  q9 (fn := Tryz.f174) (ann := b1b) (Has.o Tryz.func174) (.r (.g (.r (.c 4 ((vK a.app b.app).lift kr kr ([] : Heap)) (.c 9 ((vK a.id b.id).lift kr kr ([] : Heap)) (.c 11 (j6.pre (args := [(AV.sl .any 1 [[(AV.int .i64 (cZ a.app b.app))], [(AV.int .i64 (cZ a.id b.id))]])]) (args' := [(AV.sl .clip 1 [[(AV.int .i64 (cZ a.app b.app))], [(AV.int .i64 (cZ a.id b.id))]])]) ((b9i (cZ a.app b.app) (cZ a.id b.id)).lift kr kr ([] : Heap)) ⟨⟨rfl, rfl, .inl rfl⟩, trivial⟩) (.g (.f 0 (AV.int .i64 (if (cZ a.app b.app) = 0 then (cZ a.id b.id) else (cZ a.app b.app))) (.e (AV.int .i64 (if (cZ a.app b.app) = 0 then (cZ a.id b.id) else (cZ a.app b.app))) (by
        simp [N8]))))))))))
def a8m:Ann:={ refs:=[2,3],fin:=some 0 }
theorem a6a (a b:Key) :j6 Tryz.prog 166 [(AV.agg (Key.row a)),(AV.agg (Key.row b))] ([]:Heap) ((AV.bool (pQ a b)),([]:Heap)) :=
 q9 (fn:=Tryz.f166) (ann:=a8m) (Has.o Tryz.func166) (.r (.g (.r (.c 2 ((zL a b).lift kr kr ([]:Heap)) (.g (.f 0 (AV.bool (decide ((N8 a b) < 0))) (.e (AV.bool (decide ((N8 a b) < 0))))))))))
theorem rlA {τ:Nat->Nat} {o0 o1 o2 o3 o4 o5 p0 p2 p3 p5:Ob} (h0:o0.ren τ=p0:=by rfl) (h1:AV.D5 0 o1.els=true:=by exact Entry.y8 0 _) (h2:o2.ren τ=p2:=by rfl) (h3:o3.ren τ=p3:=by rfl) (h4:AV.D5 0 o4.els=true:=by exact Key.y8 0 _) (h5:o5.ren τ=p5:=by rfl):aK τ [o0,o1,o2,o3,o4,o5] [p0,o1,p2,p3,o4,p5]:=⟨h0,⟨Ob.ren0 h1,⟨h2,⟨h3,⟨Ob.ren0 h4,⟨h5,trivial⟩⟩⟩⟩⟩⟩
theorem rlB {τ:Nat->Nat} {o0 o1 o2 o3 o4 o5 o6 o7 o8 o9 o10 o11 p0 p2 p3 p5 p6 p8 p10 p11:Ob} (h0:o0.ren τ=p0:=by rfl) (h1:AV.D5 0 o1.els=true:=by exact Entry.y8 0 _) (h2:o2.ren τ=p2:=by rfl) (h3:o3.ren τ=p3:=by rfl) (h4:AV.D5 0 o4.els=true:=by exact Key.y8 0 _) (h5:o5.ren τ=p5:=by rfl) (h6:o6.ren τ=p6:=by rfl) (h7:AV.D5 0 o7.els=true:=by exact iC 0 _) (h8:o8.ren τ=p8:=by rfl) (h9:AV.D5 0 o9.els=true:=by exact j5.y8 0 _) (h10:o10.ren τ=p10:=by rfl) (h11:o11.ren τ=p11:=by rfl):aK τ [o0,o1,o2,o3,o4,o5,o6,o7,o8,o9,o10,o11] [p0,o1,p2,p3,o4,p5,p6,o7,p8,o9,p10,p11]:=⟨h0,⟨Ob.ren0 h1,⟨h2,⟨h3,⟨Ob.ren0 h4,⟨h5,⟨h6,⟨Ob.ren0 h7,⟨h8,⟨Ob.ren0 h9,⟨h10,⟨h11,trivial⟩⟩⟩⟩⟩⟩⟩⟩⟩⟩⟩⟩
theorem rlC {τ:Nat->Nat} {o0 o1 o2 o3 p0 p2:Ob} (h0:o0.ren τ=p0:=by rfl) (h1:AV.D5 0 o1.els=true:=by exact iC 0 _) (h2:o2.ren τ=p2:=by rfl) (h3:AV.D5 0 o3.els=true:=by exact j5.y8 0 _):aK τ [o0,o1,o2,o3] [p0,o1,p2,o3]:=⟨h0,⟨Ob.ren0 h1,⟨h2,⟨Ob.ren0 h3,trivial⟩⟩⟩⟩
theorem rlD {τ:Nat->Nat} {o0 o1 p0:Ob} (h0:o0.ren τ=p0:=by rfl) (h1:AV.D5 0 o1.els=true:=by exact Key.y8 0 _):aK τ [o0,o1] [p0,o1]:=⟨h0,⟨Ob.ren0 h1,trivial⟩⟩
theorem rlE {τ:Nat->Nat} {o0 o1 o2 o3 p0 p2:Ob} (h0:o0.ren τ=p0:=by rfl) (h1:AV.D5 0 o1.els=true:=by exact Entry.y8 0 _) (h2:o2.ren τ=p2:=by rfl) (h3:AV.D5 0 o3.els=true:=by exact Key.y8 0 _):aK τ [o0,o1,o2,o3] [p0,o1,p2,o3]:=⟨h0,⟨Ob.ren0 h1,⟨h2,⟨Ob.ren0 h3,trivial⟩⟩⟩⟩
theorem rlF {τ:Nat->Nat} {o0 o1 p0:Ob} (h0:o0.ren τ=p0:=by rfl) (h1:AV.D5 0 o1.els=true:=by exact Entry.y8 0 _):aK τ [o0,o1] [p0,o1]:=⟨h0,⟨Ob.ren0 h1,trivial⟩⟩
theorem OK.q {H:Heap} {zr:AV × Heap} (n:Nat) (v:AV) (h:(v,H)=zr:=by rfl) (h2:AV.bdd n v=true/\aU n H=true:=by exact ob):OK H zr .nil ((AV.bdd n v=true/\aU n H=true)/\((v,H)=zr)):=⟨⟨h2,h⟩⟩
theorem RK.q {H:Heap} {zr:AV × Heap} (n:Nat) (v:AV) (h:(v,H)=zr:=by rfl) (h2:AV.bdd n v=true/\aU n H=true:=by exact ob):RK H zr [] [] [] .nil ((AV.bdd n v=true/\aU n H=true)/\((v,H)=zr)):=⟨⟨h2,h⟩⟩
theorem OK.qr {H:Heap} {zr:AV × Heap} (n:Nat) (v:AV) (h:(v,H)=zr:=by rfl) (h2:AV.bdd n v=true/\aU n H=true:=by exact ob):OK H zr (.reg [] [] [] .nil) ((AV.bdd n v=true/\aU n H=true)/\((v,H)=zr)):=⟨⟨h2,h⟩⟩
section
variable {H:Heap} {zr:AV × Heap} {tr:Tr} {p:Prop} {hs:Hs} {ra rb:List (Nat × List (List AV))}
theorem RK.s (k:RK H zr hs ra rb tr p):RK H zr [] [] [] (.reg hs ra rb tr) p:=⟨k.h⟩
theorem RK.n (k:RK H zr hs ra rb tr p):RK H zr hs ra rb (.two .nil tr) p:=⟨k.h⟩
theorem OK.n (k:OK H zr tr p):OK H zr (.two .nil tr) p:=⟨k.h⟩
theorem RK.n2 (k:RK H zr hs ra rb tr p):RK H zr hs ra rb (.two .nil (.two .nil tr)) p:=⟨k.h⟩
theorem OK.n2 (k:OK H zr tr p):OK H zr (.two .nil (.two .nil tr)) p:=⟨k.h⟩
theorem RK.n3 (k:RK H zr hs ra rb tr p):RK H zr hs ra rb (.two .nil (.two .nil (.two .nil tr))) p:=⟨k.h⟩
theorem OK.n3 (k:OK H zr tr p):OK H zr (.two .nil (.two .nil (.two .nil tr))) p:=⟨k.h⟩
theorem RK.n4 (k:RK H zr hs ra rb tr p):RK H zr hs ra rb (.two .nil (.two .nil (.two .nil (.two .nil tr)))) p:=⟨k.h⟩
theorem OK.n4 (k:OK H zr tr p):OK H zr (.two .nil (.two .nil (.two .nil (.two .nil tr)))) p:=⟨k.h⟩
theorem RK.n5 (k:RK H zr hs ra rb tr p):RK H zr hs ra rb (.two .nil (.two .nil (.two .nil (.two .nil (.two .nil tr))))) p:=⟨k.h⟩
theorem OK.n5 (k:OK H zr tr p):OK H zr (.two .nil (.two .nil (.two .nil (.two .nil (.two .nil tr))))) p:=⟨k.h⟩
theorem RK.n6 (k:RK H zr hs ra rb tr p):RK H zr hs ra rb (.two .nil (.two .nil (.two .nil (.two .nil (.two .nil (.two .nil tr)))))) p:=⟨k.h⟩
theorem OK.n6 (k:OK H zr tr p):OK H zr (.two .nil (.two .nil (.two .nil (.two .nil (.two .nil (.two .nil tr)))))) p:=⟨k.h⟩
theorem RK.u (k:RK H zr hs ra rb tr p):RK H zr hs ra rb (.two tr .nil) p:=⟨k.h⟩
theorem OK.u (k:OK H zr tr p):OK H zr (.two tr .nil) p:=⟨k.h⟩
theorem RK.u2 (k:RK H zr hs ra rb tr p):RK H zr hs ra rb (.two (.two tr .nil) .nil) p:=⟨k.h⟩
theorem OK.u2 (k:OK H zr tr p):OK H zr (.two (.two tr .nil) .nil) p:=⟨k.h⟩
theorem RK.u3 (k:RK H zr hs ra rb tr p):RK H zr hs ra rb (.two (.two (.two tr .nil) .nil) .nil) p:=⟨k.h⟩
theorem OK.u3 (k:OK H zr tr p):OK H zr (.two (.two (.two tr .nil) .nil) .nil) p:=⟨k.h⟩
theorem RK.u4 (k:RK H zr hs ra rb tr p):RK H zr hs ra rb (.two (.two (.two (.two tr .nil) .nil) .nil) .nil) p:=⟨k.h⟩
theorem OK.u4 (k:OK H zr tr p):OK H zr (.two (.two (.two (.two tr .nil) .nil) .nil) .nil) p:=⟨k.h⟩
theorem RK.u5 (k:RK H zr hs ra rb tr p):RK H zr hs ra rb (.two (.two (.two (.two (.two tr .nil) .nil) .nil) .nil) .nil) p:=⟨k.h⟩
theorem OK.u5 (k:OK H zr tr p):OK H zr (.two (.two (.two (.two (.two tr .nil) .nil) .nil) .nil) .nil) p:=⟨k.h⟩
theorem RK.u6 (k:RK H zr hs ra rb tr p):RK H zr hs ra rb (.two (.two (.two (.two (.two (.two tr .nil) .nil) .nil) .nil) .nil) .nil) p:=⟨k.h⟩
theorem OK.u6 (k:OK H zr tr p):OK H zr (.two (.two (.two (.two (.two (.two tr .nil) .nil) .nil) .nil) .nil) .nil) p:=⟨k.h⟩
theorem RK.rn (k:RK H zr hs ra rb tr p):RK H zr [] [] [] (.two .nil (.reg hs ra rb tr)) p:=⟨k.h⟩
theorem OK.rn (k:RK H zr hs ra rb tr p):OK H zr (.two .nil (.reg hs ra rb tr)) p:=⟨k.h⟩
theorem RK.rn2 (k:RK H zr hs ra rb tr p):RK H zr [] [] [] (.two .nil (.two .nil (.reg hs ra rb tr))) p:=⟨k.h⟩
theorem OK.rn2 (k:RK H zr hs ra rb tr p):OK H zr (.two .nil (.two .nil (.reg hs ra rb tr))) p:=⟨k.h⟩
theorem RK.ru (k:RK H zr hs ra rb tr p):RK H zr [] [] [] (.two (.reg hs ra rb tr) .nil) p:=⟨k.h⟩
theorem OK.ru (k:RK H zr hs ra rb tr p):OK H zr (.two (.reg hs ra rb tr) .nil) p:=⟨k.h⟩
theorem RK.ru2 (k:RK H zr hs ra rb tr p):RK H zr [] [] [] (.two (.two (.reg hs ra rb tr) .nil) .nil) p:=⟨k.h⟩
theorem OK.ru2 (k:RK H zr hs ra rb tr p):OK H zr (.two (.two (.reg hs ra rb tr) .nil) .nil) p:=⟨k.h⟩
end
abbrev AC:=j6 Tryz.prog
@[simp] abbrev e_:AV:=AV.str ⟨#[]⟩
@[simp] abbrev bF:AV:=AV.bool false
@[simp] abbrev bT:AV:=AV.bool true
@[simp] abbrev iW (n:Int):AV:=AV.int .i64 (IntKind.i64.wrap n)
@[simp] abbrev o_ (g k:Nat) (l:List (List AV)):Ob:=⟨g,k,l,none⟩
theorem Yes.o {m n:Int} {H:Heap} (h1:-9223372036854775808<=n:=by omega) (h2:n<=9223372036854775807:=by omega) (h:m=n:=by omega):Yes (.int .i64 (IntKind.i64.wrap m)) H (.int .i64 n):=Yes.add h1 h2 h
@[simp] abbrev z_:AV:=AV.int .i64 0
@[simp] abbrev iI (n:Int):AV:=AV.int .i64 n
@[simp] abbrev iN (n:Nat):AV:=AV.int .i64 (n:Int)
@[simp] abbrev bB (b:Bool):AV:=AV.bool b
@[simp] abbrev sA (k:Nat) (l:List (List AV)):AV:=AV.sl .any k l
@[simp] abbrev oO (i g e c:Nat):AV:=AV.obj i g e c
structure Tp where
 l:List Int
 pos:Nat
 deriving Inhabited
def Tp.row (x:Tp):List AV:=[(sA 1 (List.map x9 x.l)),(iN x.pos)]
@[simp] theorem Tp.O4 (n:Nat) (x:Tp):AV.bdds n x.row=true:=by simp [Tp.row,AV.bdds,AV.bdd]
@[simp] theorem Tp.y8 (n:Nat) (l:List Tp):AV.D5 n (l.map Tp.row)=true:=by induction l with | nil=>rfl | cons x l ih=>simp [AV.D5,Tp.O4,ih]
def held (n:Int):Int:=max 0 (min n 4611686018427387904)
def M0 (e:Entry) (now:Int):Int:=if e.card.gone=true then 0 else max 0 (held now - held e.seen - held e.card.lease)
def M5 (a b:Key):Int:=if pQ a b=true then -1 else if pQ b a=true then 1 else 0
def wN (x:Int) (hi:Nat):Nat:=if 0<=x/\x<=hi then x.toNat else if Int.tmod x (((hi+1:Nat):Int)) < 0 then (Int.tmod x (((hi+1:Nat):Int))+hi+1).toNat else (Int.tmod x (((hi+1:Nat):Int))).toNat
theorem c4d (x:Int) (n:Nat) (h:0 < n):-(n:Int) < Int.tmod x n/\Int.tmod x n < n:=by
 have h1:=Int.tmod_lt_of_pos x (show (0:Int) < n by omega)
 have h2:=Int.tmod_lt_of_pos (-x) (show (0:Int) < n by omega)
 rw [Int.neg_tmod] at h2
 omega
def a9E:Ann:={ fin:=some 0 }
theorem yw_ {p:Prop} (h:p:=by simp_all [wN]; all_goals first | done | omega | (split <;> omega) | (split <;> first | omega | (split <;> omega))):p:=h
@[simp] abbrev ca_ (a:Nat):=(IntKind.i64.wrap ((a:Int)+1))
@[simp] abbrev cb_ (a:Int) (b:Nat):=(iI (Int.tmod a ((b+1:Nat):Int)))
@[simp] abbrev cc_ (a:Int) (b:Nat):=(iI (0+((((Int.tmod a ((b+1:Nat):Int))+(b:Int)) - 0)+1)))
@[simp] abbrev cd_ (a:Int) (b:Nat):=(iI (0+(Int.tmod a ((b+1:Nat):Int))))
theorem a7D (x:Int) (hi:Nat) (hh:hi < 1099511627776):AC 23 [(iI x),z_,(iN hi)] [] ((iN (wN x hi)),[]):=by
 have hb:=c4d x (hi+1) ow
 exact q9 (fn:=Tryz.f23) (ann:=a9E) (Has.o Tryz.func23) (.r (.s (.two (decide (x >= 0)) (fun h1 h1'=>(.u2 (.g (.two (decide (x<=(hi:Int))) (fun h2 h2'=>(.qr 0 (iI x) yw_)) (fun h2 h2'=>(.r (.y 3 (iW ((hi:Int) - 0)) (iN hi) Yes.o (.y 4 (.int .i64 (ca_ hi)) (iN (hi+1)) Yes.o (.t 5 (cb_ x hi) [] (a5z ow rfl:Option.map (fun a=>(a,([]:Heap))) (if (((hi+1:Nat):Int):Int)=0 then none else some (cb_ x hi))=some ((cb_ x hi),([]:Heap))) (.s (.g (.two (decide ((Int.tmod x ((hi+1:Nat):Int)) < 0)) (fun h3 h3'=>(.r (.y 2 (iW ((Int.tmod x ((hi+1:Nat):Int))+(hi:Int))) (iI ((Int.tmod x ((hi+1:Nat):Int))+(hi:Int))) Yes.o (.y 4 (iW (((Int.tmod x ((hi+1:Nat):Int))+(hi:Int)) - 0)) (iI (((Int.tmod x ((hi+1:Nat):Int))+(hi:Int)) - 0)) Yes.o (.y 5 (iW ((((Int.tmod x ((hi+1:Nat):Int))+(hi:Int)) - 0)+1)) (iI ((((Int.tmod x ((hi+1:Nat):Int))+(hi:Int)) - 0)+1)) Yes.o (.s (.y 2 (iW (0+((((Int.tmod x ((hi+1:Nat):Int))+(hi:Int)) - 0)+1))) (cc_ x hi) Yes.o (.q 0 (cc_ x hi) yw_)))))))) (fun h3 h3'=>(.r (.y 2 (iW (0+(Int.tmod x ((hi+1:Nat):Int)))) (cd_ x hi) Yes.o (.q 0 (cd_ x hi) yw_)))))))))))))))) (fun h1 h1'=>(.n2 (.rn (.y 3 (iW ((hi:Int) - 0)) (iN hi) Yes.o (.y 4 (.int .i64 (ca_ hi)) (iN (hi+1)) Yes.o (.t 5 (cb_ x hi) [] (a5z ow rfl:Option.map (fun a=>(a,([]:Heap))) (if (((hi+1:Nat):Int):Int)=0 then none else some (cb_ x hi))=some ((cb_ x hi),([]:Heap))) (.s (.g (.two (decide ((Int.tmod x ((hi+1:Nat):Int)) < 0)) (fun h2 h2'=>(.r (.y 2 (iW ((Int.tmod x ((hi+1:Nat):Int))+(hi:Int))) (iI ((Int.tmod x ((hi+1:Nat):Int))+(hi:Int))) Yes.o (.y 4 (iW (((Int.tmod x ((hi+1:Nat):Int))+(hi:Int)) - 0)) (iI (((Int.tmod x ((hi+1:Nat):Int))+(hi:Int)) - 0)) Yes.o (.y 5 (iW ((((Int.tmod x ((hi+1:Nat):Int))+(hi:Int)) - 0)+1)) (iI ((((Int.tmod x ((hi+1:Nat):Int))+(hi:Int)) - 0)+1)) Yes.o (.s (.y 2 (iW (0+((((Int.tmod x ((hi+1:Nat):Int))+(hi:Int)) - 0)+1))) (cc_ x hi) Yes.o (.q 0 (cc_ x hi) yw_)))))))) (fun h2 h2'=>(.r (.y 2 (iW (0+(Int.tmod x ((hi+1:Nat):Int)))) (cd_ x hi) Yes.o (.q 0 (cd_ x hi) yw_))))))))))))))))
def Tp.next (t:Tp) (n:Nat):Nat:=if t.l.length<=t.pos\/n < 1 then 0 else wN (nth t.l t.pos) 1073741824 % n
def Tp.step (t:Tp) (n:Nat):Tp:=if t.l.length<=t.pos\/n < 1 then t else ⟨t.l,t.pos+1⟩
theorem Tp.next_lt (t:Tp) (n:Nat) (h:0 < n):t.next n < n:=by
 unfold Tp.next
 split
 · omega
 · exact Nat.mod_lt _ h
def b9k:Ann:={ base:=1,fin:=some 1 }
@[simp] abbrev yZ (a:Tp):Heap:=[(o_ 0 2 [[(sA 1 (List.map x9 a.l)),(iN (a.pos+1))]])]
theorem yx_ {p:Prop} (h:p:=by (try delta yZ); (simp only [Tp.next,Tp.step]); (first | rw [if_pos ow,if_pos ow] | rw [if_neg ow,if_neg ow]); first | rfl | simp [Tp.row]):p:=h
theorem aO (t:Tp) (n:Nat) (hl:t.l.length < 9223372036854775808):AC 27 [(AV.obj 0 0 0 0),(AV.int .i64 (n:Int))] [(o_ 0 2 [(Tp.row t)])] ((AV.int .i64 (t.next n:Int)),[(o_ 0 2 [(Tp.row (t.step n))])]) :=
 q9 (fn:=Tryz.f27) (ann:=b9k) (Has.o Tryz.func27) (.r (.s (.y 8 (.int .i64 ((List.length (List.map x9 t.l):Nat):Int)) (AV.int .i64 (t.l.length:Int)) (Yes.len _ _ _) (.two (decide ((t.pos:Int) >= (t.l.length:Int))) (fun h1 h1'=>(.u (.g (.u (.qr 1 (AV.int .i64 0) yx_))))) (fun h1 h1'=>(.n (.g (.two (decide ((n:Int) < 1)) (fun h2 h2'=>(.qr 1 (AV.int .i64 0) yx_)) (fun h2 h2'=>(.r (.y 4 (iW ((t.pos:Int)+1)) (AV.int .i64 ((t.pos+1:Nat):Int)) Yes.o (.s (.h' (yZ t) (.y 8 (iW (((t.pos+1:Nat):Int) - 1)) (AV.int .i64 ((t.pos+1 - 1:Nat):Int)) Yes.o (.is 9 1 1 (List.map x9 t.l) ((t.pos+1 - 1:Nat):Int) (x9 (nth t.l (t.pos+1 - 1))) (O9.mk _ ow ow) (.c 11 ((a7D (nth t.l (t.pos+1 - 1)) 1073741824 oa).lift kr kr (yZ t)) (.t 13 (AV.int .i64 (((wN (nth t.l (t.pos+1 - 1)) 1073741824) % n:Nat):Int)) (yZ t) (c4k ow:Option.map (fun a=>(a,(yZ t))) (if ((n:Int):Int)=0 then none else some (AV.int .i64 (Int.tmod ((wN (nth t.l (t.pos+1 - 1)) 1073741824:Nat):Int) (n:Int))))=some ((AV.int .i64 (((wN (nth t.l (t.pos+1 - 1)) 1073741824) % n:Nat):Int)),(yZ t))) (.q 1 (AV.int .i64 (((wN (nth t.l (t.pos+1 - 1)) 1073741824) % n:Nat):Int)) yx_))))))))))))))))))
theorem Tp.rH (t:Tp) (n:Nat):(t.step n).l=t.l:=by unfold Tp.step; split <;> rfl
def c7Z:List ByteArray:=[(ByteArray.mk #[97,112,112]),(ByteArray.mk #[98]),(ByteArray.mk #[97,112,112,49]),(ByteArray.mk #[122,57])]
def c7G:List ByteArray:=[(ByteArray.mk #[105,100]),(ByteArray.mk #[97]),(ByteArray.mk #[105,100,50]),(ByteArray.mk #[120,48]),(ByteArray.mk #[109])]
def Tp.key (t:Tp):Key:=⟨nth c7Z (t.next 4),nth c7G ((t.step 4).next 5)⟩
def Tp.keyT (t:Tp):Tp:=(t.step 4).step 5
def Tp.stamp (t:Tp):l8:=⟨(t.next 40:Nat),((t.step 40).next 6:Nat),(((t.step 40).step 6).next 9:Nat)⟩
def Tp.gT (t:Tp):Tp:=((t.step 40).step 6).step 9
theorem Tp.a5Z (t:Tp):t.keyT.l=t.l:=by simp [Tp.keyT,Tp.rH]
theorem Tp.a0d (t:Tp):t.gT.l=t.l:=by simp [Tp.gT,Tp.rH]
def Tp.c1 (t:Tp):Tp:=t.keyT.step 2
def Tp.c2 (t:Tp):Tp:=t.c1.step 7
def Tp.c3 (t:Tp):Tp:=t.c2.step 60
def Tp.c4 (t:Tp):Tp:=t.c3.gT
def Tp.card (t:Tp):j5:=⟨t.key,(1+t.keyT.next 2:Nat),(t.c1.next 7 / 2:Nat),(1+t.c2.next 60:Nat),t.c3.stamp,((t.c4.next 4:Nat):Int) == 0⟩
def Tp.G8 (t:Tp):Tp:=t.c4.step 4
theorem Tp.a3c (t:Tp):t.G8.l=t.l:=by simp [Tp.G8,Tp.c4,Tp.c3,Tp.c2,Tp.c1,Tp.a5Z,Tp.a0d,Tp.rH]
def c4C:Ann:={ base:=1,fin:=some 1 }
@[simp] abbrev c3U :Ob:=(o_ 0 2 [[e_,e_]])
@[simp] abbrev c2n (a:Tp):Heap:=[(o_ 0 2 [(Tp.row (a.step 4))]),c3U]
@[simp] abbrev c6V (a:Tp):Heap:=[(o_ 0 2 [(Tp.row ((a.step 4).step 5))]),c3U]
theorem yy_ {p:Prop} (h:p:=by first | omega | (simp [Tp.rH,Tp.a5Z,Tp.a0d,Tp.a3c]; omega)):p:=h
@[simp] abbrev ce_ (a:Tp):=(AV.agg [(AV.str (nth ([(ByteArray.mk #[97,112,112]),(ByteArray.mk #[98]),(ByteArray.mk #[97,112,112,49]),(ByteArray.mk #[122,57])]) (a.next 4))),(AV.str (nth ([(ByteArray.mk #[105,100]),(ByteArray.mk #[97]),(ByteArray.mk #[105,100,50]),(ByteArray.mk #[120,48]),(ByteArray.mk #[109])]) ((a.step 4).next 5)))])
theorem b9P (t:Tp) (hl:t.l.length < 9223372036854775808):AC 52 [(oO 0 0 0 0)] [(o_ 0 2 [(Tp.row t)])] ((AV.agg (Key.row t.key)),[(o_ 0 2 [(Tp.row t.keyT)])]):=by
 have h4:=t.next_lt 4 ow
 have h5:=(t.step 4).next_lt 5 ow
 exact q9 (fn:=Tryz.f52) (ann:=c4C) (Has.o Tryz.func52) (.r (.s (.ch 2 (c2n t) (j6.put2 [0] [(o_ 0 2 [(Tp.row t)]),(o_ 0 2 [[e_,e_]])] (iN (t.next 4)) (c2n t) (aO t 4 yy_) (⟨rfl,trivial⟩) (⟨rfl,trivial⟩)) (.is 3 1 1 (List.map a0p ([(ByteArray.mk #[97,112,112]),(ByteArray.mk #[98]),(ByteArray.mk #[97,112,112,49]),(ByteArray.mk #[122,57])])) ((t.next 4:Nat):Int) (a0p (nth ([(ByteArray.mk #[97,112,112]),(ByteArray.mk #[98]),(ByteArray.mk #[97,112,112,49]),(ByteArray.mk #[122,57])]) (t.next 4))) (O9.mk _ ow yh_) (.ch 7 (c6V t) (j6.put2 [0] (c2n t) (iN ((t.step 4).next 5)) (c6V t) (aO (t.step 4) 5 yy_) (⟨rfl,trivial⟩) (⟨rfl,trivial⟩)) (.is 8 1 1 (List.map a0p ([(ByteArray.mk #[105,100]),(ByteArray.mk #[97]),(ByteArray.mk #[105,100,50]),(ByteArray.mk #[120,48]),(ByteArray.mk #[109])])) (((t.step 4).next 5:Nat):Int) (a0p (nth ([(ByteArray.mk #[105,100]),(ByteArray.mk #[97]),(ByteArray.mk #[105,100,50]),(ByteArray.mk #[120,48]),(ByteArray.mk #[109])]) ((t.step 4).next 5))) (O9.mk _ ow yh_) (.g (.h' [(o_ 0 2 [(Tp.row ((t.step 4).step 5))])] (.q 1 (ce_ t))))))))))
def b3T:Ann:={ base:=1,fin:=some 1 }
@[simp] abbrev vF :Ob:=(o_ 0 3 [[z_,z_,z_]])
@[simp] abbrev c2m (a:Tp):Heap:=[(o_ 0 2 [(Tp.row (a.step 40))]),vF]
@[simp] abbrev c2l (a:Tp):Heap:=[(o_ 0 2 [(Tp.row ((a.step 40).step 6))]),vF]
@[simp] abbrev c6U (a:Tp):Heap:=[(o_ 0 2 [(Tp.row (((a.step 40).step 6).step 9))]),vF]
@[simp] abbrev cf_ (a:Tp):=(AV.agg [(iN (a.next 40)),(iN ((a.step 40).next 6)),(iN (((a.step 40).step 6).next 9))])
theorem a9P (t:Tp) (hl:t.l.length < 9223372036854775808):AC 82 [(oO 0 0 0 0)] [(o_ 0 2 [(Tp.row t)])] ((AV.agg (l8.row t.stamp)),[(o_ 0 2 [(Tp.row t.gT)])]) :=
 q9 (fn:=Tryz.f82) (ann:=b3T) (Has.o Tryz.func82) (.r (.s (.ch 1 (c2m t) (j6.put2 [0] [(o_ 0 2 [(Tp.row t)]),(o_ 0 3 [[z_,z_,z_]])] (iN (t.next 40)) (c2m t) (aO t 40 yy_) (⟨rfl,trivial⟩) (⟨rfl,trivial⟩)) (.ch 3 (c2l t) (j6.put2 [0] (c2m t) (iN ((t.step 40).next 6)) (c2l t) (aO (t.step 40) 6 yy_) (⟨rfl,trivial⟩) (⟨rfl,trivial⟩)) (.ch 5 (c6U t) (j6.put2 [0] (c2l t) (iN (((t.step 40).step 6).next 9)) (c6U t) (aO ((t.step 40).step 6) 9 yy_) (⟨rfl,trivial⟩) (⟨rfl,trivial⟩)) (.g (.h' [(o_ 0 2 [(Tp.row (((t.step 40).step 6).step 9))])] (.q 1 (cf_ t)))))))))
def b3P:Ann:={ base:=1,fin:=some 1 }
@[simp] abbrev yY :Ob:=(o_ 0 9 [[e_,e_,z_,z_,z_,z_,z_,z_,bF]])
@[simp] abbrev c2k (a:Tp):Heap:=[(o_ 0 2 [(Tp.row a.keyT)]),yY]
@[simp] abbrev c2j (a:Tp):Heap:=[(o_ 0 2 [(Tp.row (a.keyT.step 2))]),yY]
@[simp] abbrev c2i (a:Tp):Heap:=[(o_ 0 2 [(Tp.row ((a.keyT.step 2).step 7))]),yY]
@[simp] abbrev c2h (a:Tp):Heap:=[(o_ 0 2 [(Tp.row (((a.keyT.step 2).step 7).step 60))]),yY]
@[simp] abbrev b3D (a:Tp):Heap:=[(o_ 0 2 [(Tp.row (((a.keyT.step 2).step 7).step 60).gT)]),yY]
@[simp] abbrev c3V (a:Tp):Heap:=[(o_ 0 2 [(Tp.row ((((a.keyT.step 2).step 7).step 60).gT.step 4))]),yY]
theorem yz_ {p:Prop} (h:p:=by first | omega | (simp [Tp.c4,Tp.c3,Tp.c2,Tp.c1,Tp.rH,Tp.a5Z,Tp.a0d,Tp.a3c]; omega)):p:=h
@[simp] abbrev cg_ (a:Tp):=(AV.agg [(AV.str a.key.app),(AV.str a.key.id),(iN (1+(a.keyT.next 2))),(iN (((a.keyT.step 2).next 7) / 2)),(iN (1+(((a.keyT.step 2).step 7).next 60))),(iI (((a.keyT.step 2).step 7).step 60).stamp.t),(iI (((a.keyT.step 2).step 7).step 60).stamp.node),(iI (((a.keyT.step 2).step 7).step 60).stamp.n),(bB ((((((a.keyT.step 2).step 7).step 60).gT.next 4:Nat):Int) == 0))])
theorem a9L (t:Tp) (hl:t.l.length < 9223372036854775808):AC 39 [(oO 0 0 0 0)] [(o_ 0 2 [(Tp.row t)])] ((AV.agg (j5.row t.card)),[(o_ 0 2 [(Tp.row t.G8)])]):=by
 have h2:=t.keyT.next_lt 2 ow
 have h7:=t.c1.next_lt 7 ow
 have h60:=t.c2.next_lt 60 ow
 unfold Tp.c2 Tp.c1 at *
 exact q9 (fn:=Tryz.f39) (ann:=b3P) (Has.o Tryz.func39) (.r (.s (.ch 1 (c2k t) (j6.put2 [0] [(o_ 0 2 [(Tp.row t)]),(o_ 0 9 [[e_,e_,z_,z_,z_,z_,z_,z_,bF]])] (AV.agg (Key.row t.key)) (c2k t) (b9P t yz_) (⟨rfl,trivial⟩) (⟨rfl,trivial⟩)) (.ch 3 (c2j t) (j6.put2 [0] (c2k t) (iN (t.keyT.next 2)) (c2j t) (aO t.keyT 2 yz_) (⟨rfl,trivial⟩) (⟨rfl,trivial⟩)) (.y 4 (iW (1+((t.keyT.next 2:Nat):Int))) (iN (1+(t.keyT.next 2))) Yes.o (.ch 6 (c2i t) (j6.put2 [0] (c2j t) (iN ((t.keyT.step 2).next 7)) (c2i t) (aO (t.keyT.step 2) 7 yz_) (⟨rfl,trivial⟩) (⟨rfl,trivial⟩)) (.y 7 (iW (Int.tdiv (((t.keyT.step 2).next 7:Nat):Int) 2)) (iN (((t.keyT.step 2).next 7) / 2)) (Yes.quo ow) (.ch 9 (c2h t) (j6.put2 [0] (c2i t) (iN (((t.keyT.step 2).step 7).next 60)) (c2h t) (aO ((t.keyT.step 2).step 7) 60 yz_) (⟨rfl,trivial⟩) (⟨rfl,trivial⟩)) (.y 10 (iW (1+((((t.keyT.step 2).step 7).next 60:Nat):Int))) (iN (1+(((t.keyT.step 2).step 7).next 60))) Yes.o (.ch 12 (b3D t) (j6.put2 [0] (c2h t) (AV.agg (l8.row (((t.keyT.step 2).step 7).step 60).stamp)) (b3D t) (a9P (((t.keyT.step 2).step 7).step 60) yz_) (⟨rfl,trivial⟩) (⟨rfl,trivial⟩)) (.ch 14 (c3V t) (j6.put2 [0] (b3D t) (iN ((((t.keyT.step 2).step 7).step 60).gT.next 4)) (c3V t) (aO (((t.keyT.step 2).step 7).step 60).gT 4 yz_) (⟨rfl,trivial⟩) (⟨rfl,trivial⟩)) (.g (.h' [(o_ 0 2 [(Tp.row ((((t.keyT.step 2).step 7).step 60).gT.step 4))])] (.q 1 (cg_ t)))))))))))))))
attribute [local irreducible] Tp.G8 Tp.card Tp.next Tp.step
def Tp.cards (t:Tp):Nat->List j5
 | 0=>[]
 | n+1=>t.card :: t.G8.cards n
def Tp.F9 (t:Tp):Nat->Tp
 | 0=>t
 | n+1=>t.G8.F9 n
theorem Tp.b6t (n:Nat):∀ (t:Tp),(t.cards n).length=n:=by
 induction n with
 | zero=>intro t; rfl
 | succ n ih=>intro t; simp only [Tp.cards,List.length_cons]; rw [ih]
attribute [local irreducible] Tp.F9 Tp.cards Tp.key Tp.keyT
section
variable {α:Type} [Inhabited α]
def sink (cmp:α->α->Int) (a:Nat):Nat->List α->List α
 | 0,l=>l
 | j+1,l=>if decide (((j+1:Nat):Int) > (a:Int))=true then if decide (cmp (nth l (j+1)) (nth l j) < 0)=true then sink cmp a j ((l.set (j+1) (nth l j)).set j (nth l (j+1))) else l else l
def z8 (cmp:α->α->Int) (a:Nat):Nat->Nat->List α->List α
 | 0,_,l=>l
 | k+1,i,l=>z8 cmp a k (i+1) (sink cmp a i l)
theorem a0h (cmp:α->α->Int) (a j:Nat):∀ (l:List α),(sink cmp a j l).length=l.length:=by
 induction j with
 | zero=>intro l; simp only [sink]
 | succ j ih =>
  intro l
  simp only [sink]
  split
  · split
    · rw [ih]; simp
    · rfl
  · rfl
theorem lN (cmp:α->α->Int) (a k:Nat):∀ (i:Nat) (l:List α),(z8 cmp a k i l).length=l.length:=by
 induction k with
 | zero=>intro i l; simp only [z8]
 | succ k ih=>intro i l; simp only [z8]; rw [ih,a0h]
end
def oM:Ann:={ base:=1,fin:=some 1,live:=[(1,[0,1,2,3,8]),(4,[0,1,2,3,8,9])],out:=[(1,[0,1,2,3,8]),(4,[0,1,2,3,8])] }
abbrev l9C:=List j5
@[simp] abbrev mC (l:l9C):List (List AV):=List.map j5.row l
@[simp] abbrev b3C (a:Nat) (b:l9C) (c:Nat):Heap:=[(o_ a 9 (mC ((b.set c (nth b (c - 1))).set (c - 1) (nth b c))))]
@[simp] abbrev a3i (a:Nat) (b:Nat) (c:Nat) (d:Nat) (e:Nat) (f:List AV) (g:Nat):Fr:=(mkF 53 [(0,(AV.osl 0 a 9 0 b)),(1,(iN c)),(2,(iN d)),(3,(AV.func e f)),(8,(iN g))])
theorem iY {p:Prop} (h:p:=by simp [j5.row]):p:=h
theorem iX {p:Prop} (h:p:=by simp [setAt,aD,List.map_set,j5.row]):p:=h
@[simp] abbrev ch_ :=(l9 Tryz.prog (X oM) (y7 Tryz.f215 1))
@[simp] abbrev ci_ (a:l9C) (b:Nat):=(AV.agg (j5.row (nth a b)))
@[simp] abbrev cj_ (a:Nat):=(IntKind.i64.wrap ((a:Int) - 1))
@[simp] abbrev ck_ (a:l9C) (b:Nat):=(AV.agg (j5.row (nth a (b - 1))))
abbrev h9C (cmp:j5->j5->Int) (f:Nat) (xs:List AV):Prop:=∀ (x y:j5) (H:Heap),AC f ([AV.agg (j5.row x),AV.agg (j5.row y)]++xs) H (AV.int .i64 (cmp x y),H)
theorem a3Q (cmp:j5->j5->Int) (f:Nat) (xs:List AV) (hc:h9C cmp f xs) (a b i n g:Nat) (j:Nat) (l:l9C) (hn:n=l.length) (hb:n < 1099511627776) (hbn:b<=n) (hj:j < n) {eX:Ex} {FX:Fr} {HX:Heap} (k1:(decide ((j:Int) > (a:Int)))=true->(decide ((cmp (nth l j) (nth l (j - 1))) < 0))=true->l7 ch_ (some [0,1,2,3,8,9]) (some [0,1,2,3,8]) (mkF 53 [(0,(AV.osl 0 g 9 0 n)),(1,(iN a)),(2,(iN b)),(3,(AV.func f xs)),(8,(iN i)),(9,(iN (j - 1)))]) (b3C g l j) eX FX HX) (k2:(decide ((j:Int) > (a:Int)))=true->(decide ((cmp (nth l j) (nth l (j - 1))) < 0))=false->((.exit 2:Ex),(a3i g n a b f xs i),[(o_ g 9 (mC l))])=(eX,FX,HX)) (k3:(decide ((j:Int) > (a:Int)))=false->((.exit 2:Ex),(a3i g n a b f xs i),[(o_ g 9 (mC l))])=(eX,FX,HX)):l7 ch_ (some [0,1,2,3,8,9]) (some [0,1,2,3,8]) (mkF 53 [(0,(AV.osl 0 g 9 0 n)),(1,(iN a)),(2,(iN b)),(3,(AV.func f xs)),(8,(iN i)),(9,(iN j))]) [(o_ g 9 (mC l))] eX FX HX :=
 K7 (.r (.two (decide ((j:Int) > (a:Int))) (fun h1 h1'=>(.u3 (.io 7 0 g 9 9 0 n (j:Int) j (G6.mk _ ow ow) (.u (.t 8 (ci_ l j) [(o_ g 9 (mC l))] (K9 (F4 (row:=j5.row) (l:=l) (k:=9) (room:=none) kr om) kr:P8 tt 50 0 [(o_ g 9 (mC l))] (rowAt [(o_ g 9 (mC l))] 0 g j)=some ((ci_ l j),([(o_ g 9 (mC l))]:Heap))) (.u3 (.y 11 (.int .i64 (cj_ j)) (iN (j - 1)) Yes.o (.u (.io 12 0 g 9 9 0 n ((j - 1:Nat):Int) (j - 1) (G6.mk _ ow ow) (.u (.t 13 (ck_ l j) [(o_ g 9 (mC l))] (K9 (F4 (row:=j5.row) (l:=l) (k:=9) (room:=none) kr om) kr:P8 tt 50 0 [(o_ g 9 (mC l))] (rowAt [(o_ g 9 (mC l))] 0 g (j - 1))=some ((ck_ l j),([(o_ g 9 (mC l))]:Heap))) (.u (.c 14 (hc (nth l j) (nth l (j - 1)) [(o_ g 9 (mC l))]) (.u (.g (.two (decide ((cmp (nth l j) (nth l (j - 1))) < 0)) (fun h2 h2'=>(.r (.y 4 (.int .i64 (cj_ j)) (iN (j - 1)) Yes.o (.y 7 (.int .i64 (cj_ j)) (iN (j - 1)) Yes.o (.io 8 0 g 9 9 0 n ((j - 1:Nat):Int) (j - 1) (G6.mk _ ow ow) (.t 9 (ck_ l j) [(o_ g 9 (mC l))] (K9 (F4 (row:=j5.row) (l:=l) (k:=9) (room:=none) kr om) kr:P8 tt 50 0 [(o_ g 9 (mC l))] (rowAt [(o_ g 9 (mC l))] 0 g (j - 1))=some ((ck_ l j),([(o_ g 9 (mC l))]:Heap))) (.io 12 0 g 9 9 0 n (j:Int) j (G6.mk _ ow ow) (.t 13 (ci_ l j) [(o_ g 9 (mC l))] (K9 (F4 (row:=j5.row) (l:=l) (k:=9) (room:=none) kr om) kr:P8 tt 50 0 [(o_ g 9 (mC l))] (rowAt [(o_ g 9 (mC l))] 0 g j)=some ((ci_ l j),([(o_ g 9 (mC l))]:Heap))) (.io 14 0 g 9 9 0 n (j:Int) j (G6.mk _ ow ow) (.st 15 0 g j 9 0 (ck_ l j) [(o_ g 9 (mC (l.set j (nth l (j - 1)))))] (U1 (us:=(j5.row (nth l (j - 1)))) (F4 (row:=j5.row) (l:=l) (k:=9) (room:=none) kr om) kr iY iX) (.io 16 0 g 9 9 0 n ((j - 1:Nat):Int) (j - 1) (G6.mk _ ow ow) (.st 17 0 g (j - 1) 9 0 (ci_ l j) (b3C g l j) (U1 (us:=(j5.row (nth l j))) (F4 (row:=j5.row) (l:=l.set j (nth l (j - 1))) (k:=9) (room:=none) kr om) kr iY iX) (.s (.y 1 (.int .i64 (cj_ j)) (iN (j - 1)) Yes.o (.g (.l (k1 h1 h2))))))))))))))))) (fun h2 h2'=>(.l (k2 h1 h2))))))))))))))))))) (fun h1 h1'=>(.n6 (.n5 (.g (.n (.l (k3 h1)))))))))
theorem b1p (cmp:j5->j5->Int) (f:Nat) (xs:List AV) (hc:h9C cmp f xs) (a b i n g:Nat) (j:Nat):∀ (l lF:l9C),n=l.length->n < 1099511627776->b<=n->j < n->lF=sink cmp a j l ->
 l7 (l9 Tryz.prog (X oM) (y7 Tryz.f215 1)) (some [0,1,2,3,8,9]) (some [0,1,2,3,8]) (mkF 53 [(0,(AV.osl 0 g 9 0 n)),(1,(iN a)),(2,(iN b)),(3,(AV.func f xs)),(8,(iN i)),(9,(iN j))]) [(o_ g 9 (mC l))] (.exit 2) (mkF 53 [(0,(AV.osl 0 g 9 0 n)),(1,(iN a)),(2,(iN b)),(3,(AV.func f xs)),(8,(iN i))]) [(o_ g 9 (mC lF))]:=by
 induction j with
 | zero =>
  intro l lF hn hb hbn hj h
  refine a3Q cmp f xs hc a b i n g 0 l hn hb hbn hj (fun h1=>?_) (fun h1=>?_) (fun h1=>?_)
  · simp at h1; omega
  · simp at h1; omega
  · rw [h]; rfl
 | succ j ih =>
  intro l lF hn hb hbn hj h
  refine a3Q cmp f xs hc a b i n g (j+1) l hn hb hbn hj (fun h1 h2=>?_) (fun h1 h2=>?_) (fun h1=>?_)
  · simp only [Nat.add_sub_cancel] at h2
    exact ih ((l.set (j+1) (nth l j)).set j (nth l (j+1))) lF (by simp [hn]) hb hbn ow (by rw [h]; simp only [sink]; rw [if_pos h1,if_pos h2])
  · simp only [Nat.add_sub_cancel] at h2
    rw [h]; simp only [sink]; rw [if_pos h1,if_neg (by rw [h2]; simp)]
  · rw [h]; simp only [sink]; rw [if_neg (by rw [h1]; simp)]
@[simp] abbrev cl_ :=(l9 Tryz.prog (X oM) (y7 Tryz.f215 0))
theorem a3P (cmp:j5->j5->Int) (f:Nat) (xs:List AV) (hc:h9C cmp f xs) (a b i n g:Nat) (l:l9C) (hn:n=l.length) (hb:n < 1099511627776) (hbn:b<=n) {eX:Ex} {FX:Fr} {HX:Heap} (k1:(decide ((i:Int) < (b:Int)))=true->l7 cl_ (some [0,1,2,3,8]) (some [0,1,2,3,8]) (mkF 53 [(0,(AV.osl 0 g 9 0 n)),(1,(iN a)),(2,(iN b)),(3,(AV.func f xs)),(8,(iN (i+1)))]) [(o_ g 9 (mC (sink cmp a i l)))] eX FX HX) (k2:(decide ((i:Int) < (b:Int)))=false->((.exit 0:Ex),(a3i g n a b f xs i),[(o_ g 9 (mC l))])=(eX,FX,HX)):l7 cl_ (some [0,1,2,3,8]) (some [0,1,2,3,8]) (a3i g n a b f xs i) [(o_ g 9 (mC l))] eX FX HX :=
 K7 (.r (.g (.two (decide ((i:Int) < (b:Int))) (fun h1 h1'=>(.r (.g (.loop (a3i g n a b f xs i) (show l7 ch_ (some [0,1,2,3,8,9]) (some [0,1,2,3,8]) (mkF 53 [(0,(AV.osl 0 g 9 0 n)),(1,(iN a)),(2,(iN b)),(3,(AV.func f xs)),(8,(iN i)),(9,(iN i))]) [(o_ g 9 (mC l))] (.exit 2) (a3i g n a b f xs i) [(o_ g 9 (mC (sink cmp a i l)))] from (b1p cmp f xs hc a b i n g i l _ hn hb hbn ow rfl)) (.r (.y 1 (.int .i64 (ca_ i)) (iN (i+1)) Yes.o (.g (.l (k1 h1))))))))) (fun h1 h1'=>(.l (k2 h1))))))
theorem a2x {p:Prop} (h:p:=by simp at h; omega):p:=h
theorem b5E (cmp:j5->j5->Int) (f:Nat) (xs:List AV) (hc:h9C cmp f xs) (a b n g:Nat) (k:Nat)
 : ∀ (i:Nat) (l lF:l9C) (iF:Nat),n=l.length->n < 1099511627776->b<=n->iF=i+k->b<=i+k->i+k<=max b i->lF=z8 cmp a k i l ->
 l7 (l9 Tryz.prog (X oM) (y7 Tryz.f215 0)) (some [0,1,2,3,8]) (some [0,1,2,3,8]) (mkF 53 [(0,(AV.osl 0 g 9 0 n)),(1,(iN a)),(2,(iN b)),(3,(AV.func f xs)),(8,(iN i))]) [(o_ g 9 (mC l))] (.exit 0) (mkF 53 [(0,(AV.osl 0 g 9 0 n)),(1,(iN a)),(2,(iN b)),(3,(AV.func f xs)),(8,(iN iF))]) [(o_ g 9 (mC lF))]:=by
 induction k with
 | zero =>
  intro i l lF iF hn hb hbn h1 h2 h2' h3
  refine a3P cmp f xs hc a b i n g l hn hb hbn (fun h=>?_) (fun h=>?_)
  · simp at h; omega
  · rw [h3,h1]; simp only [z8]; rfl
 | succ k ih =>
  intro i l lF iF hn hb hbn h1 h2 h2' h3
  refine a3P cmp f xs hc a b i n g l hn hb hbn (fun h=>?_) (fun h=>?_)
  · exact ih (i+1) (sink cmp a i l) lF iF (by rw [a0h]; exact hn) hb hbn ow ow a2x (by rw [h3]; simp only [z8])
  · simp at h; omega
@[simp] abbrev c6T (a:Nat) (b:Nat) (c:Nat) (d:Nat) (e:Nat) (f:List AV):Fr:=(mkF 53 [(0,(AV.osl 0 a 9 0 b)),(1,(iN c)),(2,(iN d)),(3,(AV.func e f)),(8,(iN (((c+1)+(d - (c+1))))))])
theorem b5D (cmp:j5->j5->Int) (f:Nat) (xs:List AV) (a b n g:Nat) (l:l9C) (hc:h9C cmp f xs) (hxs:AV.bdds 1 xs=true) (hn:n=l.length) (hb:n < 1099511627776) (hbn:b<=n) (hab:a < 1099511627776):AC 215 [(AV.osl 0 g 9 0 n),(iN a),(iN b),(AV.func f xs)] [(o_ g 9 (mC l))] ((AV.tup []),[(o_ g 9 (mC (z8 cmp a (b - (a+1)) (a+1) l)))]) :=
 q9 (fn:=Tryz.f215) (ann:=oM) (Has.o Tryz.func215) (.r (.y 1 (.int .i64 (ca_ a)) (iN (a+1)) Yes.o (.g (.loop (c6T g n a b f xs) (show l7 cl_ (some [0,1,2,3,8]) (some [0,1,2,3,8]) (mkF 53 [(0,(AV.osl 0 g 9 0 n)),(1,(iN a)),(2,(iN b)),(3,(AV.func f xs)),(8,(iN (a+1)))]) [(o_ g 9 (mC l))] (.exit 0) (c6T g n a b f xs) [(o_ g 9 (mC (z8 cmp a (b - (a+1)) (a+1) l)))] from (b5E cmp f xs hc a b n g (b - (a+1)) (a+1) l _ _ hn hb hbn rfl ow ow rfl)) (.q 1 (AV.tup []))))))
theorem vQ {p:Prop} (h:p:=by simp [AV.bdds,AV.bdd, *]):p:=h
theorem a9j (cmp:j5->j5->Int) (f:Nat) (xs:List AV) (a b n g:Nat) (l:l9C) (hc:h9C cmp f xs) (hxs:AV.bdds 1 xs=true) (hn:n=l.length) (hb:n < 1099511627776) (hbn:b<=n) (hab:a < 1099511627776) (H:Heap):AC 215 [(AV.osl 0 g 9 0 n),(iN a),(iN b),(AV.func f xs)] (([(o_ g 9 (mC l))]:Heap)++H) ((AV.tup []),([(o_ g 9 (mC (z8 cmp a (b - (a+1)) (a+1) l)))]:Heap)++H):=(b5D cmp f xs a b n g l hc hxs hn hb hbn hab).ext vQ kr ob ob kr H
attribute [local irreducible] sink z8
theorem aY {α:Type} [Inhabited α] {l:List α} {i:Nat} (h:i < l.length):l.drop i=nth l i :: l.drop (i+1):=by
 rw [List.drop_eq_getElem_cons h]
 congr 1
 simp [nth,List.getD_eq_getElem?_getD,List.getElem?_eq_getElem h]
def cmpL (now:Int) (a b:Entry):Int:=if Z6 (M0 b now) (M0 a now)=0 then M5 a.card.key b.card.key else Z6 (M0 b now) (M0 a now)
def Q7 (n:Int):Nat:=(Int.tdiv (max 0 (min n 1048576) * 15+100 - 1) 100).toNat
def b9g (now late:Int) (s:Nat × List Entry × Nat) (e:Entry):Nat × List Entry × Nat :=
 (if (!e.card.gone)=true then s.1+1 else s.1,if decide (M0 e now > late)=true then s.2.1++[e] else s.2.1,if decide (M0 e now > late)=true then s.2.2+1 else s.2.2)
def O6 (l:List Entry) (now late:Int):Nat × List Entry × Nat:=l.foldl (b9g now late) (0,[],0)
def P9 (l:List Entry) (now late:Int):List Entry:=z8 (cmpL now) 0 ((O6 l now (max 0 late)).2.1.length - 1) 1 (O6 l now (max 0 late)).2.1
def Q6 (l:List Entry) (now late:Int):Nat:=min (P9 l now late).length (Q7 (O6 l now (max 0 late)).1)
def O7 (l:List Entry) (now late:Int):List Key:=((P9 l now late).take (Q6 l now late)).map (·.card.key)
attribute [local irreducible] M0 M5 O6 O7 P9 Q6 Q7 cmpL
def C9 (a b:Key):Bool:=if (!(a.app.toList == b.app.toList))=true then Op.bytesLess a.app.toList b.app.toList else Op.bytesLess a.id.toList b.id.toList
attribute [local irreducible] C9
def F7 (s:List j5 × Nat) (c:j5):List j5 × Nat :=
 if decide ((s.1.length:Int) > 0)=true then if Key.eqb (nth s.1 (s.1.length - 1)).key c.key=true then (s.1.set (s.1.length - 1) c,s.2) else (s.1++[c],s.2+1) else (s.1++[c],s.2+1)
theorem a5H (s:l9C × Nat) (c:j5):(F7 s c).1.length<=s.1.length+1:=by
 unfold F7; split
 · split <;> simp
 · simp
theorem b4L (l:l9C):∀ (s:l9C × Nat),(l.foldl F7 s).1.length<=s.1.length+l.length:=by
 induction l with
 | nil=>intro s; simp
 | cons c l ih=>intro s; have h1:=ih (F7 s c); have h2:=a5H s c; simp only [List.foldl_cons,List.length_cons]; omega
attribute [local irreducible] F7
def a8L:Ann:={ gha:=[(2,.vir 2 9)],fin:=some 1 }
theorem a6z  :AC 137 [(AV.sl .nil 0 [])] [] ((AV.osl 0 0 9 0 0),[(o_ 0 9 (mC []))]) :=
 q9 (fn:=Tryz.f137) (ann:=a8L) (Has.o Tryz.func137) (.r (.s (.ru (.g (.h' [(o_ 0 9 (mC []))] (.q 1 (AV.osl 0 0 9 0 0)))))))
def a8K:Ann:={ own:=[7],fin:=some 1 }
theorem E9 {p:Prop} (h:p:=by decide):p:=h
theorem aR {p:Prop} (h:p:=by first | (simp [F5,List.map_take,List.map_drop,List.take_of_length_le]; done) | simp [F5,rU8,x9,a0p,b0z]):p:=h
@[reducible] def bP:TI:={ d:=.struct [(28,0),(3,2),(3,3),(2,4),(48,5),(4,8)],size:=9,bytes:=88,zero:=[.str ⟨#[]⟩,.str ⟨#[]⟩,.int .i64 0,.int .i64 0,.int .i64 0,.int .i64 0,.int .i64 0,.int .i64 0,.bool false] }
theorem a6y (l:l9C) (hl:l.length < 1099511627776):AC 137 [(AV.sl .op 9 (mC l))] [] ((AV.osl 0 0 9 0 l.length),[(o_ 0 9 (mC l))]) :=
 q9 (fn:=Tryz.f137) (ann:=a8K) (Has.o Tryz.func137) (.r (.s (.rn (.ao 2 30 (AV.sl .clip 9 []) (AV.sl .op 9 (mC l)) (AV.osl 0 0 9 0 l.length) [(o_ 0 9 (mC l))] (bM (T:=tt) (e:=50) (te:=bP) (z:=1) (b:=24) (y:=[.sl .nil 0 []]) (row:=j5.row) kr kr rfl E9 E9 yf_ aR rfl rfl rfl om) (.q 1 (AV.osl 0 0 9 0 l.length))))))
theorem qX (l:l9C) (hl:l.length < 1099511627776):AC 137 [(sA 9 (mC l))] [] ((AV.osl 0 0 9 0 l.length),[(o_ 0 9 (mC l))]):=j6.a4A (fun h=>by
 have h2:l=[]:=by simpa using h
 subst h2; exact a6z) (a6y l hl)
theorem b6m (l:l9C) (hl:l.length < 1099511627776) (H:Heap):AC 137 [(sA 9 (mC l))] H (.osl H.length 0 9 0 l.length,H++([(o_ 0 9 (mC l))]:Heap)):=(qX l hl).a0z kr (by simp [AV.D5,j5.y8]) H
def a7M:Ann:={ refs:=[2,3],fin:=some 0 }
theorem a5j (a b:j5) :AC 173 [(AV.agg (j5.row a)),(AV.agg (j5.row b))] [] ((iI (N8 a.key b.key)),[]) :=
 q9 (fn:=Tryz.f173) (ann:=a7M) (Has.o Tryz.func173) (.r (.s (.c 4 ((zL a.key b.key).lift kr kr []) (.q 0 (iI (N8 a.key b.key))))))
theorem a9V (a b:j5)  (H:Heap):AC 173 [(AV.agg (j5.row a)),(AV.agg (j5.row b))] H ((iI (N8 a.key b.key)),H):=(a5j a b ).lift kr kr H
def b6n:Ann:={ fin:=some 0 }
theorem a9D {p:Prop} (h:p:=by simp [List.map_take,List.map_drop,List.take_of_length_le]):p:=h
theorem b1U (l:l9C) (hl:l.length < 1099511627776):AC 175 [(sA 9 (mC l))] [] ((AV.sl .cn 9 (mC l)),[]) :=
 q9 (fn:=Tryz.f175) (ann:=b6n) (Has.o Tryz.func175) (.r (.s (.y 2 (.int .i64 ((List.length (mC l):Nat):Int)) (iN l.length) (Yes.len _ _ _) (.y 4 (.int .i64 ((List.length (mC l):Nat):Int)) (iN l.length) (Yes.len _ _ _) (.t 5 (AV.sl .cn 9 (mC l)) [] (a3p (l:=0) (h:=l.length) om om om om a9D (by first | rfl | omega | (simp; done) | (simp; omega)):Option.map (fun a=>(a,([]:Heap))) (if 9=9\/((mC l)).isEmpty=true then (if ((l.length:Int):Int)=(l.length:Int) then (bounds 0 (l.length:Int) (List.length (mC l))).map fun p=>AV.sl .cn 9 ((List.take p.2 (mC l)).drop p.1) else none) else none)=some ((AV.sl .cn 9 (mC l)),([]:Heap))) (.q 0 (AV.sl .cn 9 (mC l))))))))
def F3 (l:List j5):List j5:=z8 (fun a b=>N8 a.key b.key) 0 (l.length - 1) 1 l
theorem lW (l:l9C):(F3 l).length=l.length:=by unfold F3; rw [lN]
def a4m:Ann:={ gha:=[(2,.frz 3)],fin:=some 0 }
def M8 (s:List j5):List j5 × Nat:=s.foldl F7 ([],0)
def A8 (l:List j5):List j5:=(M8 (F3 l)).1
theorem wH (l:l9C):(A8 l).length<=l.length:=by
 have:=b4L (F3 l) ([],0)
 rw [lW] at this
 simpa [A8,M8] using this
def a0B:Ann:={ gha:=[(1,.vir 3 9),(9,.cut 1),(10,.frz 2)],fin:=some 0,live:=[(3,[3,8,9,10])],out:=[(3,[3,8,9,10])] }
@[simp] abbrev c6S (a:Nat) (b:l9C) (c:Nat) (d:l9C) (e:Nat):Heap:=[(o_ a 9 (mC (b.set (c - 1) (nth d e))))]
@[simp] abbrev cm_ (a b:Nat):=(AV.osl 0 (a+1) 9 0 (b+1))
@[simp] abbrev c6R (a:Nat) (b:Nat) (c:l9C) (d:Nat):Fr:=(mkF 40 [(3,(cm_ a b)),(8,(sA 9 (mC c))),(9,(iN c.length)),(10,(iN (d+1)))])
@[simp] abbrev a2k (a:Nat) (b:l9C) (c:l9C) (d:Nat):Ob:=(o_ (a+1) 9 (mC (b++[(nth c d)])))
@[simp] abbrev xV (a:Nat) (b:l9C) (c:l9C) (d:Nat):Heap:=[a2k a b c d]
@[simp] abbrev c6Q (a:Nat) (b:Nat) (c:l9C) (d:Nat):Fr:=(mkF 40 [(3,(AV.osl 0 a 9 0 b)),(8,(sA 9 (mC c))),(9,(iN c.length)),(10,(iN d))])
@[simp] abbrev xU (a:Nat) (b:l9C) (c:l9C) (d:Nat):Heap:=[(o_ a 9 (mC b)),(o_ 0 9 [(j5.row (nth c d))])]
@[simp] abbrev c6P (a:Nat) (b:l9C) (c:l9C) (d:Nat):Heap:=[a2k a b c d,(o_ 0 9 [(j5.row (nth c d))])]
theorem fB {p:Prop} (h:p:=by first | assumption | omega | (simp; done) | (simp; omega)):p:=h
theorem iV {p:Prop} (h:p:=by first | omega | (show _ * 88<=_; omega) | (simp; omega)):p:=h
@[simp] abbrev cn_ :=(l9 Tryz.prog (X a0B) (y7 Tryz.f71 0))
@[simp] abbrev co_ (a:l9C) (b:Nat):=(AV.sl .clip 9 [(j5.row (nth a b))])
theorem a3I (s out:l9C) (i k g:Nat) (hk:k=out.length) (hki:k<=s.length) (hl:s.length < 1048576) {eX:Ex} {FX:Fr} {HX:Heap} (k1:(decide ((i:Int) < (s.length:Int)))=true->(decide ((k:Int) > 0))=true->(Key.eqb (nth out (k - 1)).key (nth s i).key)=true->l7 cn_ (some [3,8,9,10]) (some [3,8,9,10]) (mkF 40 [(3,(AV.osl 0 g 9 0 k)),(8,(sA 9 (mC s))),(9,(iN s.length)),(10,(iN (i+1)))]) (c6S g out k s i) eX FX HX) (k2:(decide ((i:Int) < (s.length:Int)))=true->(decide ((k:Int) > 0))=true->(Key.eqb (nth out (k - 1)).key (nth s i).key)=false->l7 cn_ (some [3,8,9,10]) (some [3,8,9,10]) (c6R g k s i) (xV g out s i) eX FX HX) (k3:(decide ((i:Int) < (s.length:Int)))=true->(decide ((k:Int) > 0))=false->l7 cn_ (some [3,8,9,10]) (some [3,8,9,10]) (c6R g k s i) (xV g out s i) eX FX HX) (k4:(decide ((i:Int) < (s.length:Int)))=false->((.exit 0:Ex),(c6Q g k s i),[(o_ g 9 (mC out))])=(eX,FX,HX)):l7 cn_ (some [3,8,9,10]) (some [3,8,9,10]) (c6Q g k s i) [(o_ g 9 (mC out))] eX FX HX :=
 K7 (.r (.g (.two (decide ((i:Int) < (s.length:Int))) (fun h1 h1'=>(.r (.h' [(o_ g 9 (mC out)),(o_ 0 9 [[e_,e_,z_,z_,z_,z_,z_,z_,bF]])] (.is 0 9 9 (mC s) (i:Int) (j5.row (nth s i)) (O9.mk _ ow ow) (.s (.s (.two (decide ((k:Int) > 0)) (fun h2 h2'=>(.u2 (.h' (xU g out s i) (.y 5 (.int .i64 (cj_ k)) (iN (k - 1)) Yes.o (.u (.io 6 0 g 9 9 0 k ((k - 1:Nat):Int) (k - 1) (G6.mk _ ow ow) (.u2 (.t 8 (AV.agg (Key.row (nth out (k - 1)).key)) (xU g out s i) (K9 (F4 (row:=j5.row) (l:=out) (k:=9) (room:=none) kr om) kr:P8 tt 28 0 (xU g out s i) (rowAt (xU g out s i) 0 g (k - 1))=some ((AV.agg (Key.row (nth out (k - 1)).key)),(xU g out s i))) (.u3 (.g (.two (Key.eqb (nth out (k - 1)).key (nth s i).key) (fun h3 h3'=>(.r (.y 2 (.int .i64 (cj_ k)) (iN (k - 1)) Yes.o (.io 4 0 g 9 9 0 k ((k - 1:Nat):Int) (k - 1) (G6.mk _ ow ow) (.st 5 0 g (k - 1) 9 0 (ci_ s i) [(o_ g 9 (mC (out.set (k - 1) (nth s i)))),(o_ 0 9 [(j5.row (nth s i))])] (U1 (us:=(j5.row (nth s i))) (F4 (row:=j5.row) (l:=out) (k:=9) (room:=none) kr om) kr iY iX) (.s (.y 0 (.int .i64 (ca_ i)) (iN (i+1)) Yes.o (.h' (c6S g out k s i) (.b 1 (.g (.l (k1 h1 h2 h3)))))))))))) (fun h3 h3'=>(.r (.ap 3 30 (AV.osl 0 g 9 0 k) (co_ s i) (cm_ g k) (c6P g out s i) (K3 (row:=j5.row) (l:=out) (x:=(nth s i)) (T:=tt) (e:=50) (te:=bP) (z:=1) (b:=24) (y:=[.sl .nil 0 []]) kr kr rfl E9 E9 kr fB rfl rfl iV) (.s (.y 0 (.int .i64 (ca_ i)) (iN (i+1)) Yes.o (.h' (xV g out s i) (.b 1 (.g (.l (k2 h1 h2 h3))))))))))))))))))))) (fun h2 h2'=>(.n6 (.n2 (.rn (.h' (xU g out s i) (.ap 3 30 (AV.osl 0 g 9 0 k) (co_ s i) (cm_ g k) (c6P g out s i) (K3 (row:=j5.row) (l:=out) (x:=(nth s i)) (T:=tt) (e:=50) (te:=bP) (z:=1) (b:=24) (y:=[.sl .nil 0 []]) kr kr rfl E9 E9 kr fB rfl rfl iV) (.s (.y 0 (.int .i64 (ca_ i)) (iN (i+1)) Yes.o (.h' (xV g out s i) (.b 1 (.g (.l (k3 h1 h2)))))))))))))))))))) (fun h1 h1'=>(.l (k4 h1))))))
theorem b5i (s:l9C) (r:Nat):∀ (out:l9C) (i k g:Nat) (sF:l9C × Nat),i+r=s.length->k=out.length->k<=i->s.length < 1048576->sF=(s.drop i).foldl F7 (out,g) ->
 l7 (l9 Tryz.prog (X a0B) (y7 Tryz.f71 0)) (some [3,8,9,10]) (some [3,8,9,10]) (mkF 40 [(3,(AV.osl 0 g 9 0 k)),(8,(sA 9 (mC s))),(9,(iN s.length)),(10,(iN i))]) [(o_ g 9 (mC out))] (.exit 0) (mkF 40 [(3,(AV.osl 0 sF.2 9 0 sF.1.length)),(8,(sA 9 (mC s))),(9,(iN s.length)),(10,(iN s.length))]) [(o_ sF.2 9 (mC sF.1))]:=by
 induction r with
 | zero =>
  intro out i k g sF hi hk hki hl h
  refine a3I s out i k g hk ow hl (fun h=>by simp at h; omega) (fun h=>by simp at h; omega) (fun h=>by simp at h; omega) fun _=>?_
  have:s.drop i=[]:=List.drop_of_length_le ow
  rw [this] at h
  have e3:i=s.length:=by omega
  rw [h,e3,hk]
  rfl
 | succ r ih =>
  intro out i k g sF hi hk hki hl h
  rw [aY ow,List.foldl_cons] at h
  refine a3I s out i k g hk ow hl (fun _ h2 h3=>?_) (fun _ h2 h3=>?_) (fun _ h2=>?_) fun h=>by simp at h; omega
  · rw [hk] at h2 h3
    exact ih (out.set (k - 1) (nth s i)) (i+1) k g sF ow (by simp [hk]) ow hl (by rw [h,hk]; simp only [F7]; rw [if_pos h2,if_pos h3])
  · rw [hk] at h2 h3
    exact ih (out++[nth s i]) (i+1) (k+1) (g+1) sF ow (by simp [hk]) ow hl (by rw [h]; simp only [F7]; rw [if_pos h2,if_neg (by rw [h3]; simp)])
  · rw [hk] at h2
    exact ih (out++[nth s i]) (i+1) (k+1) (g+1) sF ow (by simp [hk]) ow hl (by rw [h]; simp only [F7]; rw [if_neg (by rw [h2]; simp)])
def l8.eqb (a b:l8):Bool:=(a.t == b.t)&&((a.node == b.node)&&((a.n == b.n)&&true))
def j5.eqb (a b:j5):Bool:=(Key.eqb a.key b.key)&&((a.status == b.status)&&((a.over == b.over)&&((a.lease == b.lease)&&((l8.eqb a.stamp b.stamp)&&((a.gone == b.gone)&&true)))))
theorem Key.uP (a:Key):Key.eqb a a=true:=by simp [Key.eqb]
theorem b1z {α β:Type} (p:α->Bool) (f:α->β) (l:List α):∀ (out:List β) (k g:Nat),
 l.foldl (fun (s:List β × Nat × Nat) c=>if p c=true then (s.1++[f c],s.2.1+1,s.2.2+1) else s) (out,k,g)=(out++(l.filter p).map f,k+((l.filter p).map f).length,g+((l.filter p).map f).length):=by
 induction l with
 | nil=>intro out k g; simp
 | cons c l ih =>
  intro out k g
  rw [List.foldl_cons]
  by_cases h:p c=true
  · rw [if_pos h,ih]; simp [List.filter_cons,h]; omega
  · rw [if_neg h,ih]; simp [List.filter_cons,h]
end Go.Proofs.YtmghjcbabebanaaGreat.AM
namespace Go.Proofs.YtmghjcbabebanaaGreat.AM
open Go
attribute [local irreducible] Tp.F9 Tp.G8 Tp.card Tp.cards Tp.key Tp.keyT Tp.next Tp.step
theorem mD:∀ (x:List UInt8),Op.bytesLess x x=false
 | []=>rfl
 | a :: x=>by
  have:=mD x
  simp [Op.bytesLess,this]
theorem uU:∀ (x y:List UInt8),Op.bytesLess x y=true->Op.bytesLess y x=false
 | [],[],h=>by simp [Op.bytesLess] at h
 | [],b :: y,h=>rfl
 | a :: x,[],h=>by simp [Op.bytesLess] at h
 | a :: x,b :: y,h=>by
  simp only [Op.bytesLess,Bool.or_eq_true,Bool.and_eq_true,decide_eq_true_eq,beq_iff_eq] at h
  rcases h with h | ⟨rfl,h⟩
  · have h1:¬ b < a:=fun h'=>by exact absurd (UInt8.lt_trans h h') (UInt8.lt_irrefl _)
    have h2:¬ b=a:=fun e=>by subst e; exact UInt8.lt_irrefl _ h
    simp [Op.bytesLess,h1,h2]
  · have:=uU x y h
    simp [Op.bytesLess,this]
theorem a0R:∀ (x y z:List UInt8),Op.bytesLess x y=true->Op.bytesLess y z=true->Op.bytesLess x z=true
 | [],[],z,h,_=>by simp [Op.bytesLess] at h
 | [],b :: y,[],_,h=>by simp [Op.bytesLess] at h
 | [],b :: y,c :: z,_,_=>rfl
 | a :: x,[],z,h,_=>by simp [Op.bytesLess] at h
 | a :: x,b :: y,[],_,h=>by simp [Op.bytesLess] at h
 | a :: x,b :: y,c :: z,h,k=>by
  simp only [Op.bytesLess,Bool.or_eq_true,Bool.and_eq_true,decide_eq_true_eq,beq_iff_eq] at h k ⊢
  rcases h with h | ⟨rfl,h⟩
  · rcases k with k | ⟨rfl,k⟩
    · exact .inl (UInt8.lt_trans h k)
    · exact .inl h
  · rcases k with k | ⟨rfl,k⟩
    · exact .inl k
    · exact .inr ⟨rfl,a0R x y z h k⟩
theorem a6U:∀ (x y:List UInt8),Op.bytesLess x y=false->Op.bytesLess y x=false->x=y
 | [],[],_,_=>rfl
 | [],b :: y,h,_=>by simp [Op.bytesLess] at h
 | a :: x,[],_,h=>by simp [Op.bytesLess] at h
 | a :: x,b :: y,h,k=>by
  simp only [Op.bytesLess,Bool.or_eq_false_iff,decide_eq_false_iff_not] at h k
  have e:a=b:=by
   rcases UInt8.lt_or_lt_of_ne (a:=a) (b:=b) |> fun f=>Classical.em (a=b) with e | e
   · exact e
   · rcases UInt8.lt_or_lt_of_ne e with h1 | h1
     · exact absurd h1 h.1
     · exact absurd h1 k.1
  subst e
  simp only [beq_self_eq_true,Bool.true_and] at h k
  rw [a6U x y h.2 k.2]
theorem ba_eq {a b:ByteArray} (h:a.toList=b.toList):a=b:=by
 rw [ByteArray.toList_eq,ByteArray.toList_eq] at h
 obtain ⟨⟨a⟩⟩:=a
 obtain ⟨⟨b⟩⟩:=b
 simp at h
 rw [h]
theorem Key.sI (a b:Key):Key.eqb a b=true↔a=b:=by
 unfold Key.eqb
 constructor
 · intro h
   simp only [Bool.and_true,Bool.and_eq_true,beq_iff_eq] at h
   cases a; cases b
   exact congr (congrArg Key.mk (ba_eq h.1)) (ba_eq h.2)
 · intro h; subst h; simp
theorem Key.b5T {a b:Key}:Key.eqb a b=false↔a≠b:=by
 rw [Ne,<- Key.sI]; simp
theorem pX (a:Key):C9 a a=false:=by simp [C9,mD]
theorem uV {a b:Key} (h:C9 a b=true):C9 b a=false:=by
 unfold C9 at *
 by_cases e:a.app.toList=b.app.toList
 · have e':b.app.toList=a.app.toList:=e.symm
   simp [e] at h
   simp [e']
   exact uU _ _ h
 · have e':¬ b.app.toList=a.app.toList:=fun x=>e x.symm
   simp [e] at h
   simp [e']
   exact uU _ _ h
theorem a6W {a b c:Key} (h:C9 a b=true) (k:C9 b c=true):C9 a c=true:=by
 unfold C9 at *
 by_cases e:a.app.toList=b.app.toList
 · by_cases f:b.app.toList=c.app.toList
   · simp [e] at h; simp [f] at k; simp [e,f]
     exact a0R _ _ _ h k
   · simp [f] at k
     have:¬ a.app.toList=c.app.toList:=by rw [e]; exact f
     simp [this]; rw [e]; exact k
 · simp [e] at h
   by_cases f:b.app.toList=c.app.toList
   · have:¬ a.app.toList=c.app.toList:=by rw [<- f]; exact e
     simp [this]; rw [<- f]; exact h
   · simp [f] at k
     have h1:=a0R _ _ _ h k
     have:¬ a.app.toList=c.app.toList:=fun x=>by rw [x] at h; have:=uU _ _ h; rw [k] at this; simp at this
     simp [this]; exact h1
theorem a6V {a b:Key} (h:C9 a b=false) (k:C9 b a=false):a=b:=by
 unfold C9 at *
 by_cases e:a.app.toList=b.app.toList
 · have e':b.app.toList=a.app.toList:=e.symm
   simp [e] at h; simp [e'] at k
   have h2:=a6U _ _ h k
   cases a; cases b
   exact congr (congrArg Key.mk (ba_eq e)) (ba_eq h2)
 · have e':¬ b.app.toList=a.app.toList:=fun x=>e x.symm
   simp [e] at h; simp [e'] at k
   exact absurd (a6U _ _ h k) e
theorem yM {a b:Key} (h:C9 a b=true):a≠b:=fun e=>by subst e; rw [pX] at h; simp at h
theorem c1n {a b c:Key} (h:C9 a b=true) (k:C9 c b=false):C9 a c=true:=by
 cases e:C9 b c with
 | true=>exact a6W h e
 | false=>rw [<- a6V e k]; exact h
theorem zW {a b c:Key} (h:C9 b a=false) (k:C9 c b=false):C9 c a=false:=by
 cases e:C9 c a with
 | false=>rfl
 | true=>have:=c1n e h; rw [this] at k; simp at k
theorem lM (a b:Key):pQ a b=C9 a b:=by
 unfold pQ N8 cZ C9
 by_cases h1:Op.bytesLess a.app.toList b.app.toList=true
 · have:¬ a.app.toList=b.app.toList:=fun e=>by rw [e,mD] at h1; simp at h1
   simp [h1,this]
 · by_cases h2:a.app.toList=b.app.toList
   · simp [h2,mD]
     by_cases h3:Op.bytesLess a.id.toList b.id.toList=true
     · simp [h3]
     · by_cases h4:a.id.toList=b.id.toList
       · simp [h4,mD]
       · simp [h3,h4]
   · simp [h1,h2]
def StC (a b:j5):Prop:=C9 a.key b.key=true
theorem iO {α:Type} [Inhabited α] {l:List α} {i:Nat} (h:i < l.length):nth l i∈l:=List.mem_of_getElem? (rR h)
theorem X3 {α:Type} [Inhabited α] {l:List α} {i:Nat} (h:i < l.length):nth l i=l[i]:=by
 simp [nth,List.getD_eq_getElem?_getD,List.getElem?_eq_getElem h]
theorem wB {α:Type} [Inhabited α] {R:α->α->Prop} {l:List α}:List.Pairwise R l↔∀ i j,i < j->j < l.length->R (nth l i) (nth l j):=by
 rw [List.pairwise_iff_getElem]
 constructor
 · intro h i j hij hj
   rw [X3 (show i < l.length by omega),X3 hj]
   exact h i j _ _ hij
 · intro h i j hi hj hij
   have:=h i j hij hj
   rwa [X3 hi,X3 hj] at this
theorem U6 {α:Type} [Inhabited α] {l:List α} {x:α} (h:x∈l):∃ i,i < l.length/\nth l i=x:=by
 obtain ⟨i,hi,rfl⟩:=List.getElem_of_mem h
 exact ⟨i,hi,X3 hi⟩
theorem bR {α:Type} [Inhabited α] {l:List α} {i k:Nat} (h:i < k):nth (l.take k) i=nth l i:=by
 simp [nth,List.getD_eq_getElem?_getD,List.getElem?_take,h]
theorem kN {α:Type} [Inhabited α] {l:List α} {i k:Nat}:nth (l.drop k) i=nth l (k+i):=by
 simp [nth,List.getD_eq_getElem?_getD,List.getElem?_drop]
def eF {α:Type} (p:α->Bool):List α->Nat->Option Nat
 | [],_=>none
 | x :: xs,i=>if p x=true then some i else eF p xs (i+1)
def ixI {α:Type} (p:α->Bool) (l:List α):Int:=match eF p l 0 with | some n=>(n:Int) | none=>-1
theorem dD {α:Type} [Inhabited α] {p:α->Bool} (l:List α):∀ (i n:Nat),eF p l i=some n->i<=n/\n < i+l.length/\p (nth l (n - i))=true/\∀ j,j < n - i->p (nth l j)=false:=by
 induction l with
 | nil=>intro i n h; simp [eF] at h
 | cons x xs ih =>
  intro i n h
  simp only [eF] at h
  by_cases hx:p x=true
  · rw [if_pos hx] at h
    obtain rfl:i=n:=by simpa using h
    refine ⟨Nat.le_refl _,by simp,by simpa [nth] using hx,fun j hj=>by omega⟩
  · rw [if_neg hx] at h
    obtain ⟨h1,h2,h3,h4⟩:=ih (i+1) n h
    have e1:n - i=(n - (i+1))+1:=by omega
    refine ⟨by omega,by simp only [List.length_cons]; omega,by rw [e1]; simpa [nth] using h3,fun j hj=>?_⟩
    cases j with
    | zero=>simpa [nth] using hx
    | succ j=>simpa [nth] using h4 j ya_
theorem iQ {α:Type} [Inhabited α] {p:α->Bool} (l:List α):∀ (i:Nat),eF p l i=none->∀ j,j < l.length->p (nth l j)=false:=by
 induction l with
 | nil=>intro i h j hj; simp at hj
 | cons x xs ih =>
  intro i h j hj
  simp only [eF] at h
  by_cases hx:p x=true
  · rw [if_pos hx] at h; simp at h
  · rw [if_neg hx] at h
    cases j with
    | zero=>simpa [nth] using hx
    | succ j=>simpa [nth] using ih (i+1) h j ys_
theorem c5f {α:Type} [Inhabited α] (p:α->Bool) (l:List α):ixI p l < l.length:=by
 unfold ixI
 cases h:eF p l 0 with
 | none=>simp <;> omega
 | some n=>have:=dD l 0 n h; simp; omega
theorem c5g {α:Type} (p:α->Bool) (l:List α):-1<=ixI p l:=by
 unfold ixI
 cases h:eF p l 0 with
 | none=>simp
 | some n=>simp <;> omega
open Go.Proofs.YtmghjcbabebanaaGreat
attribute [local irreducible] A8 C9 D7 F3 F7 G7 M0 M5 M8 N8 O6 O7 P9 Q6 Q7 cmpL j6 l7 l9 sink z8
def iR:Ann:={ refs:=[3],fin:=some 0,live:=[(2,[0,3,7,8])],out:=[(2,[4])] }
abbrev l9K:=List Key
@[simp] abbrev mK (l:l9K):List (List AV):=List.map Key.row l
theorem nG (v:Key) (l:l9K) (i:Nat) (hl:l.length < 1099511627776) (hi:i<=l.length) {eX:Ex} {FX:Fr} {HX:Heap} (k1:(decide ((i:Int) < (l.length:Int)))=true->(Key.eqb v (nth l i))=true->((.ret:Ex),(mkF 19 [(4,(iN i))]),[])=(eX,FX,HX)) (k2:(decide ((i:Int) < (l.length:Int)))=true->(Key.eqb v (nth l i))=false->l7 (l9 Tryz.prog (X iR) (y7 Tryz.f130 0)) (some [0,3,7,8]) (some [4]) (mkF 19 [(0,(sA 2 (mK l))),(3,(AV.ref (Key.row v) 0)),(7,(iN l.length)),(8,(iN (i+1)))]) [] eX FX HX) (k3:(decide ((i:Int) < (l.length:Int)))=false->((.exit 0:Ex),(mkF 19 []),[])=(eX,FX,HX)):l7 (l9 Tryz.prog (X iR) (y7 Tryz.f130 0)) (some [0,3,7,8]) (some [4]) (mkF 19 [(0,(sA 2 (mK l))),(3,(AV.ref (Key.row v) 0)),(7,(iN l.length)),(8,(iN i))]) [] eX FX HX :=
 K7 (.r (.g (.two (decide ((i:Int) < (l.length:Int))) (fun h1 h1'=>(.r (.s (.is 3 2 2 (mK l) (i:Int) (Key.row (nth l i)) (O9.mk _ ow ow) (.g (.two (Key.eqb v (nth l i)) (fun h2 h2'=>(.r (.g (.l (k1 h1 h2))))) (fun h2 h2'=>(.r (.y 0 (.int .i64 (ca_ i)) (iN (i+1)) Yes.o (.g (.l (k2 h1 h2)))))))))))) (fun h1 h1'=>(.l (k3 h1))))))
theorem b1g (v:Key) (l:l9K) (hl:l.length < 1099511627776) (n:Nat) (hn:n < l.length) (hp:Key.eqb v (nth l n)=true) (r:Nat):∀ (i:Nat),i+r=n->(∀ j,i<=j->j < n->Key.eqb v (nth l j)=false) ->
 l7 (l9 Tryz.prog (X iR) (y7 Tryz.f130 0)) (some [0,3,7,8]) (some [4]) (mkF 19 [(0,(sA 2 (mK l))),(3,(AV.ref (Key.row v) 0)),(7,(iN l.length)),(8,(iN i))]) [] (.ret) (mkF 19 [(4,(iN n))]) []:=by
 induction r with
 | zero =>
  intro i hi h
  obtain rfl:i=n:=by omega
  refine nG v l i hl ow (fun _ _=>rfl) (fun _ h2=>?_) (fun h1=>?_)
  · rw [hp] at h2; simp at h2
  · simp at h1; omega
 | succ r ih =>
  intro i hi h
  refine nG v l i hl ow (fun _ h2=>?_) (fun _ h2=>?_) (fun h1=>?_)
  · rw [h i (Nat.le_refl _) ow] at h2; simp at h2
  · exact ih (i+1) ow (fun j h3 h4=>h j ow h4)
  · simp at h1; omega
theorem b1h (v:Key) (l:l9K) (hl:l.length < 1099511627776) (r:Nat):∀ (i:Nat),i+r=l.length->(∀ j,i<=j->j < l.length->Key.eqb v (nth l j)=false) ->
 l7 (l9 Tryz.prog (X iR) (y7 Tryz.f130 0)) (some [0,3,7,8]) (some [4]) (mkF 19 [(0,(sA 2 (mK l))),(3,(AV.ref (Key.row v) 0)),(7,(iN l.length)),(8,(iN i))]) [] (.exit 0) (mkF 19 []) []:=by
 induction r with
 | zero =>
  intro i hi h
  refine nG v l i hl ow (fun h1 _=>?_) (fun h1 h2=>?_) (fun h1=>rfl)
  · simp at h1; omega
  · simp at h1; omega
 | succ r ih =>
  intro i hi h
  refine nG v l i hl ow (fun _ h2=>?_) (fun _ h2=>?_) (fun h1=>?_)
  · rw [h i (Nat.le_refl _) ow] at h2; simp at h2
  · exact ih (i+1) ow (fun j h3 h4=>h j ow h4)
  · simp at h1; omega
@[simp] abbrev c8k (a:l9K) (b:Key):Fr:=(mkF 19 [(0,(sA 2 (mK a))),(3,(AV.ref (Key.row b) 0)),(7,(iN a.length)),(8,z_)])
theorem a8n (v:Key) (l:l9K) (n:Nat) (hl:l.length < 1099511627776) (hn:n < l.length) (hp:Key.eqb v (nth l n)=true) (h:∀ j,0<=j->j < n->Key.eqb v (nth l j)=false):AC 130 [(sA 2 (mK l)),(AV.agg (Key.row v))] [] ((iN n),[]) :=
 q9 (fn:=Tryz.f130) (ann:=iR) (Has.o Tryz.func130) (.r (.s (.y 1 (.int .i64 ((List.length (mK l):Nat):Int)) (iN l.length) (Yes.len _ _ _) (.g (.loop (mkF 19 [(4,(iN n))]) (b1g v l hl n hn hp n 0 ow h) (.q 0 (iN n)))))))
theorem a8o (v:Key) (l:l9K) (hl:l.length < 1099511627776) (h:∀ j,0<=j->j < l.length->Key.eqb v (nth l j)=false):AC 130 [(sA 2 (mK l)),(AV.agg (Key.row v))] [] ((iI (-1)),[]) :=
 q9 (fn:=Tryz.f130) (ann:=iR) (Has.o Tryz.func130) (.r (.s (.y 1 (.int .i64 ((List.length (mK l):Nat):Int)) (iN l.length) (Yes.len _ _ _) (.g (.loop (mkF 19 []) (b1h v l hl l.length 0 ow h) (.qr 0 (iI (-1))))))))
theorem b1f (v:Key) (l:l9K) (hl:l.length < 1099511627776):AC 130 [(sA 2 (mK l)),(AV.agg (Key.row v))] [] ((iI (ixI (Key.eqb v) l)),[]):=by
 unfold ixI
 cases h:eF (Key.eqb v) l 0 with
 | none=>exact a8o v l hl (fun j _ hj=>iQ l 0 h j hj)
 | some n =>
  obtain ⟨_,h2,h3,h4⟩:=dD l 0 n h
  exact a8n v l n hl ow h3 (fun j _ hj=>h4 j hj)
def aW (l:List Key) (v:Key):Bool:=decide (ixI (Key.eqb v) l >= 0)
def b1q:Ann:={ refs:=[3],fin:=some 0 }
theorem zQ (l:l9K) (v:Key) (hl:l.length < 1099511627776):AC 73 [(sA 2 (mK l)),(AV.agg (Key.row v))] [] ((bB (aW l v)),[]) :=
 q9 (fn:=Tryz.f73) (ann:=b1q) (Has.o Tryz.func73) (.r (.s (.c 2 ((b1f v l oa).lift kr kr []) (.q 0 (bB (decide ((ixI (Key.eqb v) l) >= 0)))))))
def J6:List Key->List Key
 | []=>[]
 | k :: r=>if (!(aW r k))=true then k :: J6 r else J6 r
theorem a1F (l:l9K):(J6 l).length<=l.length:=by
 induction l with
 | nil=>simp [J6]
 | cons k l ih=>simp only [J6]; split <;> simp only [List.length_cons] <;> omega
def l5 (a:List Key):List Key:=a.drop (a.length - 16)
theorem tT (a:l9K):(l5 a).length=min a.length 16:=by unfold l5; rw [List.length_drop]; omega
theorem b8o {p:Prop} (h:p:=by rw [List.length_drop]; omega):p:=h
theorem b8Z (a:l9K) (k:Key):(l5 a++[k]).drop ((l5 a).length+1 - 16)=l5 (a++[k]):=by
 rw [tT]
 unfold l5
 rw [List.length_append,List.length_singleton]
 rcases Nat.lt_or_ge a.length 16 with h | h
 · have e1:a.length - 16=0:=by omega
   have e2:min a.length 16+1 - 16=0:=by omega
   have e3:a.length+1 - 16=0:=by omega
   rw [e1,e2,e3]; simp
 · have e2:min a.length 16+1 - 16=1:=by omega
   have e3:a.length+1 - 16=(a.length - 16)+1:=by omega
   rw [e2,e3,List.drop_append_of_le_length b8o,List.drop_append_of_le_length ya_,List.drop_drop]
theorem b0t {a:l9K} {n:Nat} (h1:n<=a.length) (h2:a.length - n<=16):(l5 a).drop ((l5 a).length - (a.length - n))=a.drop n:=by
 rw [tT]
 unfold l5
 rw [List.drop_drop]
 congr 1; omega
def okS (al:List Key) (n:Int):Bool:=decide (0<=n)&&(decide (n<=(al.length:Int))&&decide ((al.length:Int) - n<=16))
def H9 (al:List Key) (n:Int):List Key:=if okS al n=true then J6 (al.drop n.toNat) else []
theorem a9f {al:l9K} {m:Nat} (h1:m<=al.length) (h2:al.length - m<=16):okS al (m:Int)=true:=by unfold okS; simp; omega
theorem a3D {al:l9K} {n:Int} (h:n < 0\/(al.length:Int) < n\/16 < (al.length:Int) - n):okS al n=false:=by unfold okS; simp; omega
theorem b0e {al:l9K} {m:Nat} (h1:m<=al.length) (h2:al.length - m<=16):H9 al (m:Int)=J6 (al.drop m):=by unfold H9; rw [if_pos (a9f h1 h2)]; rfl
theorem a5o {al:l9K} {n:Int} (h:n < 0\/(al.length:Int) < n\/16 < (al.length:Int) - n):H9 al n=[]:=by unfold H9; rw [if_neg (by rw [a3D h]; simp)]
theorem a1i (al:l9K) (n:Int):(H9 al n).length<=16:=by
 unfold H9
 split
 · rename_i h
   unfold okS at h
   simp at h
   have h1:=a1F (al.drop n.toNat)
   rw [List.length_drop] at h1
   omega
 · simp
end Go.Proofs.YtmghjcbabebanaaGreat.AM
namespace Go.Proofs.YtmghjcbabebanaaGreat.AM
open Go
theorem a7K {P:Program} {F:Fr} {H:Heap} {dst:Option Tmp} {x y:Operand} {lo:Option Operand} {t e0:TypeId} {type:TypeId} {pos:String} {after:Array Edge} {guard:Option (Nat × Bool)} {id g k e n l h:Nat} {els:List (List AV)} {room:Option Nat}
 (ht:P.underlying t=some (.slice e0)) (hk:∀ w:World,(Go.sizeOf e0).run P w=.ok k w) (hx:opv F x=some (.osl id g k e n)) (ho:H[id]?=some ⟨g,k,els,room⟩)
 (hlo:I4 F lo 0=some (l:Int)) (hhi:I4 F (some y) 0=some (h:Int)) (h1:l<=h) (h2:e+h<=els.length) :
 iL P F H ⟨dst,.slice t x lo (some y) none,type,pos,after,guard⟩ (.osl id g k (e+l) (h - l),H):=by
 intro G w C f hf hH
 have hv:=hf x yp_ _ hx
 have hgen:g=C.γ id:=hH.gen id _ ho
 have hl:=iE (G:=G) (w:=w) (C:=C) (f:=f) hlo fun z hz a ha=>hf z (by simp [Op.operands,hz]) a ha
 have hh:=iE (G:=G) (w:=w) (C:=C) (f:=f) hhi fun z hz a ha=>hf z yu_ a ha
 have hb:∀ len cap:Nat,h<=cap->(Instr.sliceBounds true len cap (lo.map f) (some (f y)) none).run P w=.ok (l,h,cap) w:=by
  intro len cap hc
  rcases hh with ⟨hh,_⟩ | ⟨z,kz,hz,hfz⟩
  · simp at hh
  · simp only [Option.some.injEq] at hz
    subst hz
    rcases hl with ⟨rfl,h0⟩ | ⟨z,kz',rfl,hz⟩
    · have:l=0:=by omega
      subst this
      simp [Instr.sliceBounds,hfz,run_sliceBound,hc]
    · simp [Instr.sliceBounds,hz,hfz,run_sliceBound,hc,h1]
 generalize hu:f x=u at hv
 cases hv with
 | osl _ _ _ _ _ _ ad cap hnc hle hl' =>
  obtain ⟨L,b,hι,hLb,hLk,hen,hcap,had⟩:=hl' hgen
  have hrm:=(hH.ob id _ L ho hι).len
  simp only at hrm
  have hr:(Instr.sliceAt t (f x) (lo.map f) (some (f y)) none).run P w=.ok (.slice (if cap=l then some ad else (some ad).map (·.add (l * k))) (h - l) (cap - l)) w:=by
   rw [hu]
   simp only [Instr.sliceAt,Instr.slice,Sem.run_bind,run_underlying ht,Result.andThen_ok]
   rw [hb n cap ya_]
   simp only [Result.andThen_ok,hk w,Sem.run_pure,Sem.run_bind]
  refine ⟨.slice (if cap=l then some ad else (some ad).map (·.add (l * k))) (h - l) (cap - l),w,?_,G,C,Ev.refl ..,hH,?_,Pd.refl⟩
  · simp only [execOp,Option.map_some,Option.map_none,Sem.run_bind,hr,Result.andThen_ok,Sem.run_pure]
  · have hif:(if cap=l then some ad else (some ad).map (·.add (l * k)))=some (if cap=l then ad else ad.add (l * k)):=by split <;> rfl
    rw [hif]
    refine .osl _ _ _ _ _ _ _ _ ya_ hle fun hg=>?_
    refine ⟨L,b,hι,hLb,hLk,by omega,by omega,fun hlt=>?_⟩
    rw [if_neg ya_,had ya_,U4,Nat.add_assoc,<- Nat.add_mul]
 | osl0 _ _ _ _ _ base hle hl' =>
  obtain ⟨L,hι,hLb,hLk⟩:=hl' hgen
  have hob:=hH.ob id _ L ho hι
  have h4:=hob.no hLb
  have h5:=hob.len
  simp only at h5
  have hl0:l=0:=by omega
  have hh0:h=0:=by omega
  have hr:(Instr.sliceAt t (f x) (lo.map f) (some (f y)) none).run P w=.ok (.slice base 0 0) w:=by
   rw [hu]
   simp only [Instr.sliceAt,Instr.slice,Sem.run_bind,run_underlying ht,Result.andThen_ok]
   rw [hb 0 0 ya_]
   simp [hk w,hl0,hh0]
  subst hl0; subst hh0
  refine ⟨.slice base 0 0,w,?_,G,C,Ev.refl ..,hH,.osl0 _ _ _ _ _ base hle hl',Pd.refl⟩
  simp only [execOp,Option.map_some,Option.map_none,Sem.run_bind,hr,Result.andThen_ok,Sem.run_pure]
theorem a9T {P:Program} {F:Fr} {H:Heap} {dst:Option Tmp} {x y:Operand} {t t' e0:TypeId} {type:TypeId} {pos:String} {after:Array Edge} {guard:Option (Nat × Bool)} {id g k e n id2 g2 e2 n2:Nat} {els els2:List (List AV)} {room room2:Option Nat}
 (ht:P.underlying t=some (.slice e0)) (hk:∀ w:World,(Go.sizeOf e0).run P w=.ok k w) (hx:opv F x=some (.osl id g k e n)) (ho:H[id]?=some ⟨g,k,els,room⟩) (hy:opv F y=some (.osl id2 g2 k e2 n2)) (ho2:H[id2]?=some ⟨g2,k,els2,room2⟩)
 (h0:0 < n) (hn:n<=n2) (he:e<=els.length) (he2:e2+n<=els2.length) :
 iL P F H ⟨dst,.call { callee:=.builtin .copy,args:=#[x,y],argTypes:=#[t,t'] },type,pos,after,guard⟩ (.int .i64 (n:Int),H.set id ⟨g,k,els.take e++(els2.drop e2).take n++els.drop (e+n),room⟩):=by
 intro G w C f hf hH
 have hv:=hf x yq_ _ hx
 have hvs:=hf y yq_ _ hy
 have hgen:g=C.γ id:=hH.gen id _ ho
 have hgen2:g2=C.γ id2:=hH.gen id2 _ ho2
 have hnl:((els2.drop e2).take n).length=n:=by simp; omega
 generalize hu2:f y=u2 at hvs
 cases hvs with
 | osl0=>omega
 | osl _ _ _ _ _ _ ad2 cap2 hnc2 hle2 hl2 =>
 have hvs':VR G w C (.osl id2 g2 k e2 n) (.slice (some ad2) n cap2):=.osl _ _ _ _ _ _ _ _ ya_ hle2 fun hg=>by
  obtain ⟨l,b,q1,q2,q3,q4,q5⟩:=hl2 hg
  exact ⟨l,b,q1,q2,q3,by omega,q5⟩
 obtain ⟨nv,hsrc⟩:=gD (P:=P) (k:=k) (xs:=(els2.drop e2).take n) hH hvs' (by simp [F5,ho2,he2])
 generalize hu:f x=u at hv
 cases hv with
 | osl0=>omega
 | osl _ _ _ _ _ _ ad cap hnc hle h =>
  obtain ⟨l,bb,hι,hlb,hlk,hen,hcap,had⟩:=h hgen
  have had':=had ya_
  subst had'
  have hob:=hH.ob id _ l ho hι
  obtain ⟨cur,et,hcur,hcsz,_⟩:=hob.cells bb hlb
  obtain ⟨h1,h2⟩:=qM hH ho hι hlb hlk hsrc.length hsrc.row hsrc.rel he ya_ hcur
  rw [hnl] at h2
  have hm:(e+n) * l.k<=l.room * l.k:=Nat.mul_le_mul_right _ ya_
  rw [Nat.add_mul] at hm
  have hnvl:nv.length=n * l.k:=by rw [hsrc.length,hlk,hnl]
  have hst:=run_storeCells_at P bb (l.sh+e * k) et nv 0 cur w hcur (by rw [<- hlk]; simp; omega) hsrc.oneCell
  simp only [Nat.add_zero] at hst
  have hmin:Nat.min n2 n=n:=Nat.min_eq_right hn
  have hfc:(Builtin.firstCells k n (.slice (some ad2) n2 cap2)).run P w=.ok nv.toArray w:=by
   have:=hsrc.cells w rfl
   rw [hnl] at this
   exact this
  have hr:(Builtin.copy_ #[t,t'] type #[f x,f y]).run P w=.ok (.int .i64 (n:Int)) (w.setRow bb (cur.toList.take (l.sh+e * l.k)++nv++cur.toList.drop (l.sh+e * l.k+nv.length)).toArray):=by
   rw [hu,hu2,hlk]
   simp [Builtin.copy_,run_underlying ht,Builtin.lenOf,hmin,hk w,hfc,hst,goInt]
  refine ⟨_,_,?_,G,C,h1,h2,.int ..,?_⟩
  · simp [execOp,resolve,invoke,builtin,hr]
  · refine ⟨by simp,fun j hj _ hιj=>⟨hιj,rfl,?_⟩⟩
    have hne:id≠j:=fun e'=>by subst e'; rw [hι] at hιj; simp at hιj
    exact List.getElem?_set_ne hne
theorem a2A {P:Program} (w:World) (tS tR e:TypeId) (ht:P.underlying tS=some (.slice e)) (size:Nat) (hz:∀ w,(Go.sizeOf e).run P w=.ok size w)
 (a b:Addr) (la ca lb cb:Nat) (hne:a.block≠b.block) (tA tB:TypeId) (kA kB:Nat)
 (hsa:w.shape? a.block=some (tA,kA)) (hsb:w.shape? b.block=some (tB,kB)) (hkB:kB≠0) (hkA:kA≠0)
 (hfb:w.frozen? b=false) (hfe:w.frozen? { block:=b.block,off:=kB }=false) :
 (Extern.SlicesOverlaps.overlaps #[tS,tS] #[tR] #[.slice (some a) la ca,.slice (some b) lb cb]).run P w=.ok (.bool false) w:=by
 have hnb:(a.block != b.block)=true:=by simpa using hne
 have hnb':(a.block == b.block)=false:=by simpa using hne
 change Sem.run P (α:=Value) (do
  let some t := (#[tS, tS] : Array TypeId)[0]? | stuck "slices.overlaps: no parameter types"
  let .slice elem ← underlying t | stuck "slices.overlaps: slice type expected"
  let size <- Go.sizeOf elem
  match (some a:Option Addr),(some b:Option Addr) with
  | some a,some b =>
   if la=0\/lb=0\/size=0 then pure (Value.bool false)
   else if a.block != b.block&&(<- frozen a)&&(<- frozen b) then unsupported .addressObserved
   else do
    if a.block != b.block then do
     noView a; noView b
     if ← mayBeOne a b then return Value.bool ((← choose (.extern "sameAddr.stringBytes" 2)) == 1)
    pure (Value.bool (a.block == b.block&&a.off < b.off+lb * size&&b.off < a.off+la * size))
  | _,_=>pure (Value.bool false)) w=_
 by_cases h0:la=0\/lb=0\/size=0
 · simp [run_underlying ht,hz,h0]
 · cases kB with
   | zero=>exact absurd rfl hkB
   | succ kB =>
    cases kA with
    | zero=>exact absurd rfl hkA
    | succ kA =>
    cases hfa:w.frozen? a <;> cases hfa2:w.frozen? { block:=a.block,off:=kA+1 } <;>
    simp [run_underlying ht,hz,h0,hnb,hnb',frozen,noView,viewAt,mayBeOne,stringish,shape,Sem.run,hsa,hsb,hfb,hfe,hfa,hfa2]
theorem a1V {P:Program} {f:FuncId} {tS tR e0:TypeId} {k:Nat} (hc:∀ vs w,(callFunc f vs).run P w=((Extern.SlicesOverlaps.overlaps #[tS,tS] #[tR] vs).run P w).andThen fun v w'=>.ok (.value v) w')
 (ht:P.underlying tS=some (.slice e0)) (hk:∀ w:World,(Go.sizeOf e0).run P w=.ok k w) (hk0:0 < k) {tg:Tg} {rows:List (List AV)} {id g e n:Nat} {H:Heap} {o:Ob} (ho:H[id]?=some o) (hg:o.gen=g) :
 j6 P f [.sl tg k rows,.osl id g k e n] H (.bool false,H):=by
 intro G w C vs hsz hargs hH
 have h0:=hargs 0 yf_
 have h1:=hargs 1 yf_
 have hvs:vs = #[vs.getD 0 undef,vs.getD 1 undef]:=by
  have hs2:vs.size=2:=by simpa using hsz
  apply Array.ext
  · simp [hs2]
  · intro i hi1 hi2
    rcases i with _ | _ | i
    · simp [Array.getD_eq_getD_getElem?,hs2]
    · simp [Array.getD_eq_getD_getElem?,hs2]
    · omega
 simp only [List.getD_cons_zero,List.getD_cons_succ] at h0 h1
 generalize vs.getD 0 undef=v0 at h0 hvs
 generalize vs.getD 1 undef=v1 at h1 hvs
 subst hvs
 have hdone:(Extern.SlicesOverlaps.overlaps #[tS,tS] #[tR] #[v0,v1]).run P w=.ok (.bool false) w->bO P f #[v0,v1] w (After G w C H (.bool false,H)):=fun hr=>by
  unfold bO
  have:=hc #[v0,v1] w
  rw [this]
  rw [hr,Result.andThen_ok]
  exact ⟨G,C,Ev.refl ..,hH,.bool ..,Pd.refl⟩
 apply hdone
 have hgen:g=C.γ id:=by rw [<- hg]; exact hH.gen id o ho
 have hsome:∀ (a:Option Addr) la ca (b:Option Addr) lb cb,(a=none\/b=none\/la=0\/lb=0)->(Extern.SlicesOverlaps.overlaps #[tS,tS] #[tR] #[.slice a la ca,.slice b lb cb]).run P w=.ok (.bool false) w:=by
  intro a la ca b lb cb h
  change Sem.run P (α:=Value) (do
   let some t := (#[tS, tS] : Array TypeId)[0]? | stuck "slices.overlaps: no parameter types"
   let .slice elem ← underlying t | stuck "slices.overlaps: slice type expected"
   let size <- Go.sizeOf elem
   match (a:Option Addr),(b:Option Addr) with
   | some a,some b =>
    if la=0\/lb=0\/size=0 then pure (Value.bool false)
    else if a.block != b.block&&(<- frozen a)&&(<- frozen b) then unsupported .addressObserved
    else do
     if a.block != b.block then do
      noView a; noView b
      if ← mayBeOne a b then return Value.bool ((← choose (.extern "sameAddr.stringBytes" 2)) == 1)
     pure (Value.bool (a.block == b.block&&a.off < b.off+lb * size&&b.off < a.off+la * size))
   | _,_=>pure (Value.bool false)) w=_
  cases a <;> cases b <;> simp [run_underlying ht,hk w]
  intro h1 h2 h3
  rcases h with h | h | h | h
  · simp at h
  · simp at h
  · exact absurd h h1
  · exact absurd h h2
 generalize hu0:v0=u0 at h0
 cases h0 with
 | nils=>
  cases h1 with
  | osl=>subst hu0; exact hsome _ _ _ _ _ _ (.inl rfl)
  | osl0=>subst hu0; exact hsome _ _ _ _ _ _ (.inl rfl)
 | sl _ _ _ _ ad cap htg hclip hle hs cv hkl hcl h1' hv =>
  subst hu0
  cases h1 with
  | osl0=>exact hsome _ _ _ _ _ _ (.inr (.inr (.inr rfl)))
  | osl _ _ _ _ _ _ ad2 cap2 hnc hle2 hl2 =>
   by_cases hr0:rows.length=0
   · exact hsome _ _ _ _ _ _ (.inr (.inr (.inl hr0)))
   by_cases hn0:n=0
   · exact hsome _ _ _ _ _ _ (.inr (.inr (.inr hn0)))
   obtain ⟨l,b,hι,hlb,hlk,hen,hcap,had⟩:=hl2 hgen
   have had':=had ya_
   have hne:rows≠[]:=fun e=>by simp [e] at hr0
   obtain ⟨hsp,hG⟩:=hs hne
   have hcell:=hcl 0 0 ya_ hk0
   obtain ⟨cs,et,hcs,hcsz,_⟩:=(hH.ob id o l ho hι).cells b hlb
   have hbG:=(hH.own id l b hι hlb).2
   have hm:(e+n) * l.k<=l.room * l.k:=Nat.mul_le_mul_right _ hen
   have hm2:1 * l.k<=(e+n) * l.k:=Nat.mul_le_mul_right _ ya_
   have hsa:∃ tA kA,w.shape? ad.block=some (tA,kA)/\kA≠0:=by
    unfold World.cell? at hcell
    unfold World.shape?
    split at hcell
    · rename_i c t fr hw
      refine ⟨t,c.size,by simp only at hw; rw [hw],fun e0=>?_⟩
      have:c = #[]:=Array.eq_empty_of_size_eq_zero e0
      simp [this] at hcell
    · simp at hcell
   obtain ⟨tA,kA,hsa,hkA⟩:=hsa
   have hb2:ad2.block=b:=by rw [had']
   refine a2A w tS tR e0 ht k hk ad ad2 _ _ _ _ (fun e'=>?_) tA et kA cs.size hsa (by rw [hb2]; simp [World.shape?,hcs]) ya_ hkA (by simp [World.frozen?,hb2,hcs]) (by simp [World.frozen?,hb2,hcs])
   rw [hb2] at e'
   exact hbG (e' ▸ hG)
def oG:Code->Nat->Option (Array Oper)
 | .region id ops _,r=>bif Nat.beq id r then some ops else none
 | .seq a b,r=>match oG a r with
  | some x=>some x
  | none=>oG b r
 | .cond _ a b,r=>match oG a r with
  | some x=>some x
  | none=>oG b r
 | .block _ c,r=>oG c r
 | .loop c,r=>oG c r
 | _,_=>none
def X6 (fn:Func) (r i:Nat):Oper:=match (fn.body.bind (oG · r)).bind (·[i]?) with
 | some o=>o
 | none => ⟨none, .move (.tmp 0), 0, "", #[], none⟩
def U8 (o:Oper) (i:Nat):Operand:=match o.op with
 | .call c=>c.args.getD i (.tmp 0)
 | .slice _ x _ _ _=>x
 | _=>.tmp 0
def loO (o:Oper):Option Operand:=match o.op with
 | .slice _ _ lo _ _=>lo
 | _=>none
def hiO (o:Oper):Operand:=match o.op with
 | .slice _ _ _ (some hi) _=>hi
 | _=>.tmp 0
def mxO (o:Oper):Operand:=match o.op with
 | .slice _ _ _ _ (some m)=>m
 | _=>.tmp 0
section
variable {P:Program} {X:Env} {F:Fr} {H H2:Heap} {ar:Nat} {o:Oper} {a:AV}
theorem Sat.sem (hs:aH X o=true) (h:iL P F H o (a,H2)):Sat P X F H ar o a H2:=by
 unfold Sat
 rw [hs]
 exact .inl h
theorem aL {T:TT} (hT:TOk P T) {t e:TypeId} {ti:TI} (ht:T t=some ti) (hd:ti.d=.slice e):P.underlying t=some (.slice e):=by
 have:=(hT t ti ht).und
 rw [hd] at this
 exact this
theorem c4c {T:TT} (hT:TOk P T) {t:TypeId} {ti:TI} {k:IntKind} (ht:T t=some ti) (hd:ti.d=.int k):P.underlying t=some (.int k):=by
 have:=(hT t ti ht).und
 rw [hd] at this
 exact this
theorem a4p {v:Value} {a:AV} (h:fF v=some a):v.oneCell'=true:=by
 unfold fF at h
 split at h <;> first | rfl | simp at h
theorem kL:∀ {vs:List Value} {as_:List AV},W9 vs=some as_->∀ v∈vs,v.oneCell'=true
 | [],_,_,v,hv=>by simp at hv
 | x :: xs,as_,h,v,hv=>by
  simp only [W9] at h
  split at h
  · rename_i a l h1 h2
    simp only [List.mem_cons] at hv
    rcases hv with rfl | hv
    · exact a4p h1
    · exact kL h2 v hv
  · simp at h
theorem qK:∀ {vs:List Value} {as_:List AV},W9 vs=some as_->vs.length=as_.length
 | [],as_,h=>by simp [W9] at h; subst h; rfl
 | x :: xs,as_,h=>by
  simp only [W9] at h
  split at h
  · rename_i a l h1 h2
    simp only [Option.some.injEq] at h
    subst h
    simp [qK h2]
  · simp at h
theorem a0m (hT:TOk P X.T) {t t' e0:TypeId} {ti te:TI} (hop:o.op=.call { callee:=.builtin .copy,args:=#[U8 o 0,U8 o 1],argTypes:=#[t,t'] }) (hsem:aH X o=true) (ht:X.T t=some ti) (htd:ti.d=.slice e0) (hte:X.T e0=some te)
 {id g k e n:Nat} {els new els':List (List AV)} {room:Option Nat} {s:AV} {c:Int} (hk:te.size=k) (hx:opv F (U8 o 0)=some (.osl id g k e n)) (ho:H[id]?=some ⟨g,k,els,room⟩) (hy:opv F (U8 o 1)=some s) (hs:F5 H k s=some new)
 (h0:0 < new.length) (hn:new.length<=n) (he:e<=els.length) (hels:els.take e++new++els.drop (e+new.length)=els') (hc:c=(new.length:Int)) (hH:H.set id ⟨g,k,els',room⟩=H2):Sat P X F H ar o (.int .i64 c) H2:=by
 refine Sat.sem hsem ?_
 subst hH hels hc hk
 obtain ⟨dst,op,type,pos,after,guard⟩:=o
 simp only at hop
 generalize U8 _ 0=x at hop hx
 generalize U8 _ 1=y at hop hy
 subst hop
 exact b3V (aL hT ht htd) (fun w=>(hT _ _ hte).sizeOf w) hx ho hy hs h0 hn he
theorem b4o (hT:TOk P X.T) {t t' e0:TypeId} {ti te:TI} (hop:o.op=.call { callee:=.builtin .copy,args:=#[U8 o 0,U8 o 1],argTypes:=#[t,t'] }) (hsem:aH X o=true) (ht:X.T t=some ti) (htd:ti.d=.slice e0) (hte:X.T e0=some te)
 {id g k e n id2 g2 e2 n2:Nat} {els els2 els':List (List AV)} {room room2:Option Nat} {c:Int} (hk:te.size=k) (hx:opv F (U8 o 0)=some (.osl id g k e n)) (ho:H[id]?=some ⟨g,k,els,room⟩) (hy:opv F (U8 o 1)=some (.osl id2 g2 k e2 n2)) (ho2:H[id2]?=some ⟨g2,k,els2,room2⟩)
 (h0:0 < n) (hn:n<=n2) (he:e<=els.length) (he2:e2+n<=els2.length) (hels:els.take e++(els2.drop e2).take n++els.drop (e+n)=els') (hc:c=(n:Int)) (hH:H.set id ⟨g,k,els',room⟩=H2):Sat P X F H ar o (.int .i64 c) H2:=by
 refine Sat.sem hsem ?_
 subst hH hels hc hk
 obtain ⟨dst,op,type,pos,after,guard⟩:=o
 simp only at hop
 generalize U8 _ 0=x at hop hx
 generalize U8 _ 1=y at hop hy
 subst hop
 exact a9T (aL hT ht htd) (fun w=>(hT _ _ hte).sizeOf w) hx ho hy ho2 h0 hn he he2
theorem a8Z (hT:TOk P X.T) {t e0:TypeId} {ti:TI} (hop:o.op=.call { callee:=.builtin .cap,args:=#[U8 o 0],argTypes:=#[t] }) (hsem:aH X o=true) (ht:X.T t=some ti) (htd:ti.d=.slice e0)
 {id g k e n r:Nat} {els:List (List AV)} {c:Int} (hx:opv F (U8 o 0)=some (.osl id g k e n)) (ho:H[id]?=some ⟨g,k,els,some r⟩) (hc:c=((r - e:Nat):Int)):Sat P X F H ar o (.int .i64 c) H:=by
 refine Sat.sem hsem ?_
 subst hc
 obtain ⟨dst,op,type,pos,after,guard⟩:=o
 simp only at hop
 generalize U8 _ 0=x at hop hx
 subst hop
 exact b8F (aL hT ht htd) hx ho
theorem a3t (hT:TOk P X.T) {t e0:TypeId} {ti te:TI} (hop:o.op=.call { callee:=.builtin .clear,args:=#[U8 o 0],argTypes:=#[t] }) (hsem:aH X o=true) (ht:X.T t=some ti) (htd:ti.d=.slice e0) (hte:X.T e0=some te)
 {id g k e n:Nat} {els els':List (List AV)} {room:Option Nat} (hk:te.size=k) (hk0:0 < k) (hx:opv F (U8 o 0)=some (.osl id g k e n)) (ho:H[id]?=some ⟨g,k,els,room⟩)
 (h0:0 < n) (he:e<=els.length) (hels:els.take e++List.replicate n (List.replicate k .unk)++els.drop (e+n)=els') (hH:H.set id ⟨g,k,els',room⟩=H2):Sat P X F H ar o .unk H2:=by
 refine Sat.sem hsem ?_
 subst hH hels hk
 obtain ⟨dst,op,type,pos,after,guard⟩:=o
 simp only at hop
 generalize U8 _ 0=x at hop hx
 subst hop
 obtain ⟨i,hi,hsz,hby,z,hz,hzs,hzl,hza⟩:=(hT _ _ hte).info
 refine a9U (aL hT ht htd) (z:=z) (fun w=>by simp [zeroValue,typeInfo,hi,hz]) (by have:=qK hzs; simp at this; omega) (kL hzs) hk0 hx ho h0 he
theorem b4m (hT:TOk P X.T) {t e0:TypeId} {ti te:TI} (hop:o.op=.slice t (U8 o 0) (loO o) (some (hiO o)) none) (hsem:aH X o=true) (ht:X.T t=some ti) (htd:ti.d=.slice e0) (hte:X.T e0=some te)
 {id g k e n r l h e' n':Nat} {els:List (List AV)} (hk:te.size=k) (hx:opv F (U8 o 0)=some (.osl id g k e n)) (ho:H[id]?=some ⟨g,k,els,some r⟩) (hlo:I4 F (loO o) 0=some (l:Int)) (hhi:I4 F (some (hiO o)) 0=some (h:Int)) (h1:l<=h) (h2:e+h<=r) (he':e'=e+l) (hn':n'=h - l) :
 Sat P X F H ar o (.osl id g k e' n') H:=by
 refine Sat.sem hsem ?_
 subst hk he' hn'
 obtain ⟨dst,op,type,pos,after,guard⟩:=o
 simp only at hop
 generalize U8 _ 0=x at hop hx
 generalize loO _=lo at hop hlo
 generalize hiO _=hi at hop hhi
 subst hop
 exact a9R (aL hT ht htd) (fun w=>(hT _ _ hte).sizeOf w) hx ho hlo hhi h1 h2
theorem b0j (hT:TOk P X.T) {t e0:TypeId} {ti te:TI} (hop:o.op=.slice t (U8 o 0) (loO o) (some (hiO o)) none) (hsem:aH X o=true) (ht:X.T t=some ti) (htd:ti.d=.slice e0) (hte:X.T e0=some te)
 {id g k e n l h e' n':Nat} {els:List (List AV)} {room:Option Nat} (hk:te.size=k) (hx:opv F (U8 o 0)=some (.osl id g k e n)) (ho:H[id]?=some ⟨g,k,els,room⟩) (hlo:I4 F (loO o) 0=some (l:Int)) (hhi:I4 F (some (hiO o)) 0=some (h:Int)) (h1:l<=h) (h2:e+h<=els.length) (he':e'=e+l) (hn':n'=h - l) :
 Sat P X F H ar o (.osl id g k e' n') H:=by
 refine Sat.sem hsem ?_
 subst hk he' hn'
 obtain ⟨dst,op,type,pos,after,guard⟩:=o
 simp only at hop
 generalize U8 _ 0=x at hop hx
 generalize loO _=lo at hop hlo
 generalize hiO _=hi at hop hhi
 subst hop
 exact a7K (aL hT ht htd) (fun w=>(hT _ _ hte).sizeOf w) hx ho hlo hhi h1 h2
theorem a1m (hT:TOk P X.T) {t e0:TypeId} {ti te:TI} (hop:o.op=.slice t (U8 o 0) (loO o) (some (hiO o)) (some (mxO o))) (hsem:aH X o=true) (ht:X.T t=some ti) (htd:ti.d=.slice e0) (hte:X.T e0=some te)
 {id g k e n l h c:Nat} (hk:te.size=k) (hx:opv F (U8 o 0)=some (.osl id g k e n)) (hlo:I4 F (loO o) 0=some (l:Int)) (hhi:I4 F (some (hiO o)) 0=some (h:Int)) (hmx:I4 F (some (mxO o)) 0=some (c:Int)) (h1:l<=h) (h2:h<=c) (h3:c<=n) :
 Sat P X F H ar o .unk H:=by
 refine Sat.sem hsem ?_
 subst hk
 obtain ⟨dst,op,type,pos,after,guard⟩:=o
 simp only at hop
 generalize U8 _ 0=x at hop hx
 generalize loO _=lo at hop hlo
 generalize hiO _=hi at hop hhi
 generalize mxO _=mx at hop hmx
 subst hop
 exact a7L (aL hT ht htd) (fun w=>(hT _ _ hte).sizeOf w) hx hlo hhi hmx h1 h2 h3
theorem b8N (hT:TOk P X.T) {t t' e0:TypeId} {ti ti' te:TI} {kk kx:IntKind} (hop:o.op=.call { callee:=.builtin .append,args:=#[U8 o 0,U8 o 1],argTypes:=#[t,t'] }) (hsem:aH X o=true) (ht:X.T t=some ti) (htd:ti.d=.slice e0) (hte:X.T e0=some te) (ht':X.T t'=some ti') (htd':ti'.d=.int kk)
 {id g k e n n' r c:Nat} {els ys els':List (List AV)} (hk:te.size=k) (hx:opv F (U8 o 0)=some (.osl id g k e n)) (ho:H[id]?=some ⟨g,k,els,some r⟩) (hrows:F5 H k (.osl id g k e n)=some ys) (hlen:ys.length=n) (hy:opv F (U8 o 1)=some (.int kx (c:Int)))
 (hg:r - e < n+c) (hb:0 < te.bytes) (hs:0 < k) (hc:0 < c) (hby:(n+c) * te.bytes<=140737488355328) (hels:ys++List.replicate c (List.replicate k .unk)=els') (hn':n'=n+c) (hH:H++[⟨0,k,els',none⟩]=H2) :
 Sat P X F H ar o (.osl H.length 0 k 0 n') H2:=by
 refine Sat.sem hsem ?_
 subst hk hels hH hn'
 obtain ⟨dst,op,type,pos,after,guard⟩:=o
 simp only at hop
 generalize U8 _ 0=x at hop hx
 generalize U8 _ 1=y at hop hy
 subst hop
 obtain ⟨i,hi,hsz,hbt,z,hz,hzs,hzl,hza⟩:=(hT _ _ hte).info
 rw [<- hsz] at hx ho hrows hs ⊢
 rw [<- hbt] at hb hby
 exact b3U (aL hT ht htd) (c4c hT ht' htd') hi hz (by have:=qK hzs; simp at this; omega) (kL hzs) hx ho hrows hlen hy hg hb hs hc hby
end
theorem a4x {T:TT} {H H2:Heap} {t e0:TypeId} {ti te:TI} {id g k i j m n':Nat} {els els':List (List AV)} (ht:T t=some ti) (htd:ti.d=.slice e0) (hte:T e0=some te) (hk:te.size=k) (hk0:0 < k) (ho:H[id]?=some ⟨g,k,els,none⟩) (hij:i < j) (hj:j+m<=els.length)
 (hels:els.take i++(els.drop j).take m++els.drop (i+m)=els') (hn:n'=i+m) (hH:H.set id ⟨g,k,els',none⟩=H2):aX T H t (.osl id g k 0 i) (.osl id g k j m)=some (.osl id g k 0 n',H2):=by
 obtain ⟨d,sz,bt,z⟩:=ti
 simp only at htd
 subst htd hk hn hels hH
 have hlt:id < H.length:=nY ho
 have hnl:((els.drop j).take m).length=m:=by simp; omega
 unfold aX
 simp only [ht,hte,F5,ho,true_and,if_pos hj]
 cases hnew:(els.drop j).take m with
 | nil =>
  simp only
  have hm:m=0:=by rw [hnew] at hnl; simpa using hnl.symm
  subst hm
  have hs:H.set id ⟨g,te.size,els,none⟩=H:=by
   apply List.ext_getElem?
   intro q
   by_cases hq:id=q
   · subst hq; rw [List.getElem?_set_self hlt,ho]
   · rw [List.getElem?_set_ne hq]
  simp [hs]
 | cons x xs =>
  rw [hnew] at hnl
  have h1:¬ (0+i=els.length):=by omega
  have h2:0+i+(x :: xs).length<=els.length:=by omega
  simp only [hk0,and_self,if_true,if_neg h1,if_pos h2,hnl,Nat.zero_add]
  simp only [Nat.zero_add] at h1 h2
  rw [hnl] at h2
  simp [h1,h2]
section
variable {α:Type} (row:α->List AV) (x:α) (u:List AV)
theorem c7F (l:List α) {i c:Nat} (hi:i<=l.length) (hc:0 < c):((l.take i).map row++List.replicate c u).take i++[row x]++((l.take i).map row++List.replicate c u).drop (i+1)=(l.take i++[x]).map row++List.replicate (c - 1) u:=by
 have hl:((l.take i).map row).length=i:=by simp; omega
 rw [List.take_append_of_le_length ya_,List.take_of_length_le ya_,List.drop_append,hl,List.drop_of_length_le ya_]
 simp
theorem c7E (l:List α) {i c:Nat} (hi:i<=l.length) (hc:c=l.length - i):((l.take i++[x]).map row++List.replicate c u).take (i+1)++(l.drop i).map row++((l.take i++[x]).map row++List.replicate c u).drop (i+1+((l.drop i).map row).length)=(l.take i++x :: l.drop i).map row:=by
 have hl:((l.take i++[x]).map row).length=i+1:=by simp; omega
 have h2:((l.take i++[x]).map row++List.replicate c u).drop (i+1+((l.drop i).map row).length)=[]:=List.drop_of_length_le (by rw [List.length_append,hl,List.length_replicate,List.length_map,List.length_drop]; omega)
 rw [h2,List.take_append_of_le_length ya_,List.take_of_length_le ya_]
 simp
theorem c7D (l:List α) {i:Nat} (hi:i < l.length):(l.map row).take (i+1)++((l.map row).drop i).take (l.length - i)++(l.map row).drop (i+1+(l.length - i))=(l.take (i+1)++l.drop i).map row:=by
 rw [List.take_of_length_le (l:=(l.map row).drop i) yf_,List.drop_of_length_le (i:=i+1+(l.length - i)) yh_]
 simp [List.map_take,List.map_drop]
theorem c7C (l:List α) {i:Nat} (hi:i < l.length):((l.take (i+1)++l.drop i).map row).take i++[row x]++((l.take (i+1)++l.drop i).map row).drop (i+1)=(l.take i++x :: l.drop i).map row:=by
 have hl:(l.take (i+1)).length=i+1:=by simp; omega
 rw [<- List.map_take,<- List.map_drop,List.take_append_of_le_length ya_,List.take_take,List.drop_append,hl,List.drop_of_length_le ya_]
 simp
end
theorem j6.insert {P:Program} {f:FuncId} {α:Type} {row:α->List AV} {k:Nat} (hrow:∀ (n:Nat) (l:List α),AV.D5 n (l.map row)=true) {l:List α} {x:α} {g i:Nat} (hi:i<=l.length)
 (hE:j6 P f [.osl 0 g k 0 l.length,.int .i64 (l.length:Int),.sl .clip k [row x]] [⟨g,k,l.map row,none⟩] (.osl 0 (g+1) k 0 (l.length+1),[⟨g+1,k,(l++[x]).map row,none⟩]))
 (hG:i < l.length->∀ r,r < l.length+1->j6 P f [.osl 0 g k 0 l.length,.int .i64 (i:Int),.sl .clip k [row x]] [⟨g,k,l.map row,some r⟩] (.osl 1 0 k 0 (l.length+1),[⟨g,k,l.map row,some r⟩,⟨0,k,(l.take i++x :: l.drop i).map row,none⟩]))
 (hR:i < l.length->∀ r,l.length+1<=r->j6 P f [.osl 0 g k 0 l.length,.int .i64 (i:Int),.sl .clip k [row x]] [⟨g,k,l.map row,some r⟩] (.osl 0 g k 0 (l.length+1),[⟨g,k,(l.take i++x :: l.drop i).map row,some r⟩])) :
 j6 P f [.osl 0 g k 0 l.length,.int .i64 (i:Int),.sl .clip k [row x]] [⟨g,k,l.map row,none⟩] (.osl 0 (g+1) k 0 (l.length+1),[⟨g+1,k,(l.take i++x :: l.drop i).map row,none⟩]):=by
 by_cases hil:i=l.length
 · subst hil
   rw [List.take_length,List.drop_length]
   exact hE
 have hlt:i < l.length:=by omega
 refine j6.room (id:=0) (i:=0) (g:=g) (k:=k) (e:=0) (n:=l.length) (els:=l.map row) rfl rfl fun r hr=>?_
 show j6 P f _ [⟨g,k,l.map row,some r⟩] _
 have hlen:(l.take i++x :: l.drop i).length=l.length+1:=by simp; omega
 rcases Nat.lt_or_ge r (l.length+1) with h | h
 · have h1:=(hG hlt r h).ghost (i:=0) (id:=0) (g:=g) (x:=.osl 0 g k 0 l.length) (a':=.osl 0 (g+1) k 0 (l.length+1)) (H2:=[⟨g+1,k,(l.take i++x :: l.drop i).map row,none⟩]++[⟨1,k,[],none⟩]) rfl (.inr ⟨_,_,_,rfl⟩) rfl rfl rfl rfl
    fun G w C v hH hv hl=>zD (id:=0) (j:=1) (g:=g) (gj:=0) hH E9 rfl rfl rfl rfl hv hl
   refine h1.forget rfl rfl fun id o ho=>.inr ?_
   cases id with
   | zero =>
    simp only [List.getElem?_cons_zero,Option.some.injEq] at ho
    subst ho
    exact hrow _ _
   | succ id=>simp at ho
 · have h1:=(hR hlt r h).b5I (a':=.osl 0 (g+1) k 0 (l.length+1)) (H2:=[⟨g+1,k,(l.take i++x :: l.drop i).map row,some r⟩]) fun G w C v hH hv=>by
    obtain ⟨C',q⟩:=a3T hH hv (o:=⟨g,k,(l.take i++x :: l.drop i).map row,some r⟩) rfl rfl (Nat.le_succ g)
    exact ⟨G,C',q⟩
   have h2:=h1.shrink (m:=l.length+1) rfl
   have e:((l.take i++x :: l.drop i).map row).take (l.length+1)=(l.take i++x :: l.drop i).map row:=List.take_of_length_le (by rw [List.length_map]; omega)
   rw [e] at h2
   exact h2
theorem j6.delete {P:Program} {f:FuncId} {args:List AV} {H:Heap} {g k n:Nat} {els els':List (List AV)} (h:j6 P f args H (.osl 0 g k 0 n,[⟨g,k,els,none⟩])) (he:els.take n=els'):j6 P f args H (.osl 0 g k 0 n,[⟨g,k,els',none⟩]):=by
 have:=h.shrink (m:=n) rfl
 rw [he] at this
 exact this
open Go.Proofs.YtmghjcbabebanaaGreat
attribute [local irreducible] C9 D7 F7 G7 M0 M5 O6 O7 P9 Q6 Q7 Tp.F9 Tp.G8 Tp.card Tp.cards Tp.key Tp.keyT Tp.next Tp.step cmpL j6 l7 l9 sink z8
theorem c5i (vs:Array Value) (w:World):(callFunc 170 vs).run Tryz.prog w=((Extern.SlicesOverlaps.overlaps #[89,89] #[4] vs).run Tryz.prog w).andThen fun v w'=>.ok (.value v) w' :=
 run_callFunc_extern (fn:=Tryz.f170) kr kr kr kr kr vs w
def b8h:Ann:={ base:=1,fin:=some 1 }
abbrev l9E:=List Entry
@[simp] abbrev mE (l:l9E):List (List AV):=List.map Entry.row l
@[simp] abbrev cp_ (a:Nat) (b:l9E):=(AV.osl 0 a 10 0 b.length)
@[simp] abbrev cq_ (a:Entry):=(AV.sl .clip 10 [(Entry.row a)])
@[reducible] def a0a:TI:={ d:=.struct [(50,0),(2,9)],size:=10,bytes:=96,zero:=[.str ⟨#[]⟩,.str ⟨#[]⟩,.int .i64 0,.int .i64 0,.int .i64 0,.int .i64 0,.int .i64 0,.int .i64 0,.bool false,.int .i64 0] }
theorem b3I (l:l9E) (x:Entry) (g:Nat) (hl:l.length < 1048576):AC 126 [(cp_ g l),(iN l.length),(cq_ x)] [(o_ g 10 (mE l))] ((AV.osl 0 (g+1) 10 0 (l.length+1)),[(o_ (g+1) 10 (mE (l++[x])))]) :=
 q9 (fn:=Tryz.f126) (ann:=b8h) (Has.o Tryz.func126) (.r (.s (.so 2 0 g 10 0 l.length (l.length:Int) (l.length:Int) (AV.osl 0 g 10 l.length (l.length - l.length)) (M4 (l:=l.length) (h:=l.length) om om om om om om) (.s (.s (.rn (.s (.y 2 (bB ((l.length:Int) == (l.length:Int))) bT (Yes.b om) (.ru (.ap 2 89 (cp_ g l) (cq_ x) (AV.osl 0 (g+1) 10 0 (l.length+1)) [(o_ (g+1) 10 (mE (l++[x])))] (K3 (row:=Entry.row) (l:=l) (x:=x) (T:=tt) (e:=93) (te:=a0a) (z:=1) (b:=24) (y:=[.sl .nil 0 []]) kr kr rfl E9 E9 kr fB rfl rfl (by first | omega | (show _ * 96<=_; omega) | (simp; omega))) (.q 1 (AV.osl 0 (g+1) 10 0 (l.length+1)))))))))))))
def mM:Ann:={ big:=[40,60],base:=1 }
@[simp] abbrev b3y (a:Nat) (b:l9E) (c:Nat) (d:Nat) (e:Entry):Heap:=[⟨a,10,(mE b),some c⟩,(o_ 0 10 (mE (b.take d++e :: b.drop d)))]
@[simp] abbrev cr_ (a b:Nat) (c:l9E):=(AV.osl 0 a 10 b (c.length - b))
@[simp] abbrev c6I (a:Nat) (b:l9E) (c:Nat) (d:Entry):Fr:=(mkF 95 [(0,(cp_ a b)),(1,(iN c)),(2,(cq_ d)),(6,(AV.sl .nil 0 [])),(7,(iI 1)),(8,(iN b.length)),(10,(cp_ a b)),(11,(iN c)),(12,(cr_ a c b)),(13,(cq_ d)),(14,(iI 1)),(15,(iI 1)),(16,bF),(18,(cp_ a b)),(19,(iN b.length)),(20,(iN c)),(21,(iN b.length)),(22,bF),(26,(iN b.length)),(27,(iI 1)),(28,(iN (b.length+1))),(29,(cp_ a b))])
@[simp] abbrev b3x (a:Nat) (b:l9E) (c:Nat) (d:Nat):Heap:=[⟨a,10,(mE b),some c⟩,(o_ 0 10 (mE (b.take d)++List.replicate (b.length+1 - d) (List.replicate 10 AV.unk)))]
@[simp] abbrev b3w (a:Nat) (b:l9E) (c:Nat) (d:Nat) (e:Entry):Heap:=[⟨a,10,(mE b),some c⟩,(o_ 0 10 (mE (b.take d++[e])++List.replicate (b.length+1 - d - 1) (List.replicate 10 AV.unk)))]
@[simp] abbrev cs_ (a:l9E):=(AV.osl 1 0 10 0 (a.length+1))
@[simp] abbrev ct_ (a:l9E):=(IntKind.i64.wrap ((a.length:Int)+1))
theorem b3H (l:l9E) (x:Entry) (g i r:Nat) (hi:i < l.length) (hl:l.length < 1048576) (hr:r < l.length+1):AC 126 [(cp_ g l),(iN i),(cq_ x)] [⟨g,10,(mE l),some r⟩] ((cs_ l),(b3y g l r i x)) :=
 q9 (fn:=Tryz.f126) (ann:=mM) (Has.o Tryz.func126) (.r (.s (.so 2 0 g 10 0 l.length (i:Int) (l.length:Int) (cr_ g i l) (M4 (l:=i) (h:=l.length) om om om om om om) (.s (.s (.rn (.s (.y 2 (bB ((i:Int) == (l.length:Int))) bF (Yes.b om) (.rn (.y 2 (.int .i64 (ct_ l)) (iN (l.length+1)) Yes.o (.t 4 (iN r) [⟨g,10,(mE l),some r⟩] (a8Z (o:=(X6 Tryz.f126 8 4)) (t:=89) (e0:=93) (ti:={ d:=.slice 93,size:=1,bytes:=24,zero:=[.sl .nil 0 []] }) (id:=0) (g:=g) (e:=0) (n:=l.length) (k:=10) (r:=r) (els:=(mE l)) dF kr kr kr rfl kr kr rfl:Sat Tryz.prog (X mM) (c6I g l i x) [⟨g,10,(mE l),some r⟩] 1 (X6 Tryz.f126 8 4) (iN r) [⟨g,10,(mE l),some r⟩]) (.y 5 (bB (decide (((l.length+1:Nat):Int) > (r:Int)))) bT (Yes.b om) (.ru (.so 2 0 g 10 0 l.length 0 (i:Int) (AV.osl 0 g 10 0 i) (M4 (l:=0) (h:=i) om om om om om om) (.y 5 (.int .i64 (ct_ l)) (iN (l.length+1)) Yes.o (.y 7 (iW (((l.length+1:Nat):Int) - (i:Int))) (iN (l.length+1 - i)) Yes.o (.t 8 (cs_ l) (b3x g l r i) (b8N (o:=(X6 Tryz.f126 9 8)) (t:=89) (e0:=93) (ti:={ d:=.slice 93,size:=1,bytes:=24,zero:=[.sl .nil 0 []] }) (id:=0) (g:=g) (e:=0) (n:=i) (t':=3) (te:=a0a) (ti':={ d:=.int .i64,size:=1,bytes:=8,zero:=[.int .i64 0] }) (kk:=.i64) (kx:=.i64) (k:=10) (r:=r) (c:=l.length+1 - i) (els:=(mE l)) (ys:=mE (l.take i)) (els':=(mE (l.take i)++List.replicate (l.length+1 - i) (List.replicate 10 AV.unk))) dF kr kr kr rfl kr kr rfl rfl kr kr (by simp [F5,List.map_take]; omega) om kr om E9 E9 om (by show _ * 96<=_; omega) om om rfl:Sat Tryz.prog (X mM) (mkF 95 [(0,(cp_ g l)),(1,(iN i)),(2,(cq_ x)),(6,(AV.sl .nil 0 [])),(7,(iI 1)),(8,(iN l.length)),(10,(cp_ g l)),(11,(iN i)),(12,(cr_ g i l)),(13,(cq_ x)),(14,(iI 1)),(15,(iI 1)),(16,bF),(18,(cp_ g l)),(19,(iN l.length)),(20,(iN i)),(21,(iN l.length)),(22,bF),(26,(iN l.length)),(27,(iI 1)),(28,(iN (l.length+1))),(29,(cp_ g l)),(30,(iN r)),(31,bT),(32,(cp_ g l)),(33,(iN i)),(34,(AV.osl 0 g 10 0 i)),(35,(iN l.length)),(36,(iI 1)),(37,(iN (l.length+1))),(38,(iN i)),(39,(iN (l.length+1 - i)))]) [⟨g,10,(mE l),some r⟩] 1 (X6 Tryz.f126 9 8) (cs_ l) (b3x g l r i)) (.s (.h' (b3x g l r i) (.so 2 1 0 10 0 (l.length+1) (i:Int) (((l.length+1):Nat):Int) (AV.osl 1 0 10 i ((l.length+1) - i)) (M4 (l:=i) (h:=(l.length+1)) om om om om om om) (.t 4 (iI 1) (b3w g l r i x) (a0m (o:=(X6 Tryz.f126 10 4)) (t:=89) (e0:=93) (ti:={ d:=.slice 93,size:=1,bytes:=24,zero:=[.sl .nil 0 []] }) (id:=1) (g:=0) (e:=i) (n:=((l.length+1) - i)) (t':=89) (te:=a0a) (k:=10) (els:=(mE (l.take i)++List.replicate (l.length+1 - i) (List.replicate 10 AV.unk))) (els':=(mE (l.take i++[x])++List.replicate (l.length+1 - i - 1) (List.replicate 10 AV.unk))) (room:=none) (new:=[(Entry.row x)]) (s:=(cq_ x)) dF kr kr kr rfl kr rfl kr kr kr kr om om om (c7F Entry.row x _ l ow ow) (rfl) rfl:Sat Tryz.prog (X mM) (mkF 95 [(0,(cp_ g l)),(1,(iN i)),(2,(cq_ x)),(6,(AV.sl .nil 0 [])),(7,(iI 1)),(8,(iN l.length)),(9,(cs_ l)),(10,(cp_ g l)),(11,(iN i)),(12,(cr_ g i l)),(13,(cq_ x)),(14,(iI 1)),(15,(iI 1)),(16,bF),(18,(cp_ g l)),(19,(iN l.length)),(20,(iN i)),(21,(iN l.length)),(22,bF),(26,(iN l.length)),(27,(iI 1)),(28,(iN (l.length+1))),(29,(cp_ g l)),(30,(iN r)),(31,bT),(32,(cp_ g l)),(33,(iN i)),(34,(AV.osl 0 g 10 0 i)),(35,(iN l.length)),(36,(iI 1)),(37,(iN (l.length+1))),(38,(iN i)),(39,(iN (l.length+1 - i))),(40,(cs_ l)),(41,(cs_ l)),(42,(iN i)),(43,(AV.osl 1 0 10 i ((l.length+1) - i))),(44,(cq_ x))]) (b3x g l r i) 2 (X6 Tryz.f126 10 4) (iI 1) (b3w g l r i x)) (.s (.h' (b3w g l r i x) (.y 3 (.int .i64 (ca_ i)) (iN (i+1)) Yes.o (.so 4 1 0 10 0 (l.length+1) ((i+1:Nat):Int) (((l.length+1):Nat):Int) (AV.osl 1 0 10 (i+1) ((l.length+1) - (i+1))) (M4 (l:=i+1) (h:=(l.length+1)) om om om om om om) (.so 7 0 g 10 0 l.length (i:Int) (l.length:Int) (cr_ g i l) (M4 (l:=i) (h:=l.length) om om om om om om) (.t 8 (iN ((l.length - i))) (b3y g l r i x) (a0m (o:=(X6 Tryz.f126 11 8)) (t:=89) (e0:=93) (ti:={ d:=.slice 93,size:=1,bytes:=24,zero:=[.sl .nil 0 []] }) (id:=1) (g:=0) (e:=(i+1)) (n:=((l.length+1) - (i+1))) (t':=89) (te:=a0a) (k:=10) (els:=(mE (l.take i++[x])++List.replicate (l.length+1 - i - 1) (List.replicate 10 AV.unk))) (els':=(mE (l.take i++x :: l.drop i))) (room:=none) (new:=mE (l.drop i)) (s:=(cr_ g i l)) dF kr kr kr rfl kr rfl kr kr kr (by simp [F5,List.map_drop,List.take_of_length_le] <;> omega) om om om (c7E Entry.row x _ l ow ow) om rfl:Sat Tryz.prog (X mM) (mkF 95 [(0,(cp_ g l)),(1,(iN i)),(2,(cq_ x)),(6,(AV.sl .nil 0 [])),(7,(iI 1)),(8,(iN l.length)),(9,(cs_ l)),(10,(cp_ g l)),(11,(iN i)),(12,(cr_ g i l)),(13,(cq_ x)),(14,(iI 1)),(15,(iI 1)),(16,bF),(18,(cp_ g l)),(19,(iN l.length)),(20,(iN i)),(21,(iN l.length)),(22,bF),(26,(iN l.length)),(27,(iI 1)),(28,(iN (l.length+1))),(29,(cp_ g l)),(30,(iN r)),(31,bT),(32,(cp_ g l)),(33,(iN i)),(34,(AV.osl 0 g 10 0 i)),(35,(iN l.length)),(36,(iI 1)),(37,(iN (l.length+1))),(38,(iN i)),(39,(iN (l.length+1 - i))),(40,(cs_ l)),(41,(cs_ l)),(42,(iN i)),(43,(AV.osl 1 0 10 i ((l.length+1) - i))),(44,(cq_ x)),(45,(iI 1)),(46,(cs_ l)),(47,(iN i)),(48,(iI 1)),(49,(iN (i+1))),(50,(AV.osl 1 0 10 (i+1) ((l.length+1) - (i+1)))),(51,(cp_ g l)),(52,(iN i)),(53,(cr_ g i l))]) (b3w g l r i x) 2 (X6 Tryz.f126 11 8) (iN ((l.length - i))) (b3y g l r i x)) (.s (.g (.h' (b3y g l r i x) (.e (cs_ l))))))))))))))))))))))))))))))))
def mJ:Ann:={ big:=[40,60],base:=1,fin:=some 1 }
@[simp] abbrev b3v (a:Nat) (b:l9E) (c:Nat) (d:Entry) (e:Nat):Heap:=[⟨a,10,(mE (b.take c++d :: b.drop c)),some e⟩]
@[simp] abbrev b3u (a:Nat) (b:l9E) (c:Nat) (d:Nat):Heap:=[⟨a,10,(mE (b.take (c+1)++b.drop c)),some d⟩]
@[simp] abbrev cu_ (a:Nat) (b:l9E):=(AV.osl 0 a 10 0 (b.length+1))
@[simp] abbrev cv_ (a b:Nat) (c:l9E):=(AV.osl 0 a 10 (b+1) ((c.length+1) - (b+1)))
theorem b3G (l:l9E) (x:Entry) (g i r:Nat) (hi:i < l.length) (hl:l.length < 1048576) (hr:l.length+1<=r):AC 126 [(cp_ g l),(iN i),(cq_ x)] [⟨g,10,(mE l),some r⟩] ((cu_ g l),(b3v g l i x r)) :=
 q9 (fn:=Tryz.f126) (ann:=mJ) (Has.o Tryz.func126) (.r (.s (.so 2 0 g 10 0 l.length (i:Int) (l.length:Int) (cr_ g i l) (M4 (l:=i) (h:=l.length) om om om om om om) (.s (.s (.rn (.s (.y 2 (bB ((i:Int) == (l.length:Int))) bF (Yes.b om) (.rn (.y 2 (.int .i64 (ct_ l)) (iN (l.length+1)) Yes.o (.t 4 (iN r) [⟨g,10,(mE l),some r⟩] (a8Z (o:=(X6 Tryz.f126 8 4)) (t:=89) (e0:=93) (ti:={ d:=.slice 93,size:=1,bytes:=24,zero:=[.sl .nil 0 []] }) (id:=0) (g:=g) (e:=0) (n:=l.length) (k:=10) (r:=r) (els:=(mE l)) dF kr kr kr rfl kr kr rfl:Sat Tryz.prog (X mJ) (c6I g l i x) [⟨g,10,(mE l),some r⟩] 1 (X6 Tryz.f126 8 4) (iN r) [⟨g,10,(mE l),some r⟩]) (.y 5 (bB (decide (((l.length+1:Nat):Int) > (r:Int)))) bF (Yes.b om) (.rn (.y 3 (.int .i64 (ct_ l)) (iN (l.length+1)) Yes.o (.t 4 (cu_ g l) [⟨g,10,(mE l),some r⟩] (b4m (o:=(X6 Tryz.f126 13 4)) (t:=89) (e0:=93) (ti:={ d:=.slice 93,size:=1,bytes:=24,zero:=[.sl .nil 0 []] }) (id:=0) (g:=g) (e:=0) (n:=l.length) (te:=a0a) (k:=10) (r:=r) (l:=0) (h:=l.length+1) (els:=(mE l)) dF kr kr kr rfl kr rfl kr kr kr kr om om om om:Sat Tryz.prog (X mJ) (mkF 95 [(0,(cp_ g l)),(1,(iN i)),(2,(cq_ x)),(6,(AV.sl .nil 0 [])),(7,(iI 1)),(8,(iN l.length)),(10,(cp_ g l)),(11,(iN i)),(12,(cr_ g i l)),(13,(cq_ x)),(14,(iI 1)),(15,(iI 1)),(16,bF),(18,(cp_ g l)),(19,(iN l.length)),(20,(iN i)),(21,(iN l.length)),(22,bF),(26,(iN l.length)),(27,(iI 1)),(28,(iN (l.length+1))),(29,(cp_ g l)),(30,(iN r)),(31,bF),(56,(cp_ g l)),(57,(iN l.length)),(58,(iI 1)),(59,(iN (l.length+1)))]) [⟨g,10,(mE l),some r⟩] 1 (X6 Tryz.f126 13 4) (cu_ g l) [⟨g,10,(mE l),some r⟩]) (.s (.y 4 (.int .i64 (ca_ i)) (iN (i+1)) Yes.o (.so 5 0 g 10 0 (l.length+1) ((i+1:Nat):Int) (((l.length+1):Nat):Int) (cv_ g i l) (M4 (l:=i+1) (h:=(l.length+1)) om om om om om om) (.t 6 bF [⟨g,10,(mE l),some r⟩] (a1V (tS:=89) (tR:=4) (e0:=93) (o:=⟨g,10,(mE l),some r⟩) (c5i) (aL dF (ti:={ d:=.slice 93,size:=1,bytes:=24,zero:=[.sl .nil 0 []] }) kr rfl) (fun w=>(dF 93 { d:=.struct [(50,0),(2,9)],size:=10,bytes:=96,zero:=[.str ⟨#[]⟩,.str ⟨#[]⟩,.int .i64 0,.int .i64 0,.int .i64 0,.int .i64 0,.int .i64 0,.int .i64 0,.bool false,.int .i64 0] } kr).sizeOf w) E9 kr rfl:AC 170 [(cq_ x),(cv_ g i l)] [⟨g,10,(mE l),some r⟩] (bF,([⟨g,10,(mE l),some r⟩]:Heap))) (.ru (.y 3 (.int .i64 (ca_ i)) (iN (i+1)) Yes.o (.so 4 0 g 10 0 (l.length+1) ((i+1:Nat):Int) (((l.length+1):Nat):Int) (cv_ g i l) (M4 (l:=i+1) (h:=(l.length+1)) om om om om om om) (.so 7 0 g 10 0 (l.length+1) (i:Int) (((l.length+1):Nat):Int) (AV.osl 0 g 10 i ((l.length+1) - i)) (M4 (l:=i) (h:=(l.length+1)) om om om om om om) (.t 8 (iN (((l.length+1) - (i+1)))) (b3u g l i r) (b4o (o:=(X6 Tryz.f126 15 8)) (t:=89) (e0:=93) (ti:={ d:=.slice 93,size:=1,bytes:=24,zero:=[.sl .nil 0 []] }) (id:=0) (g:=g) (e:=(i+1)) (n:=((l.length+1) - (i+1))) (t':=89) (te:=a0a) (k:=10) (els:=(mE l)) (els':=(mE (l.take (i+1)++l.drop i))) (room:=some r) (id2:=0) (g2:=g) (e2:=i) (n2:=((l.length+1) - i)) (els2:=(mE l)) (room2:=some r) dF kr kr kr rfl kr rfl kr kr kr kr om om om om (by rw [show l.length+1 - (i+1)=l.length - i by omega]; exact c7D Entry.row l hi) rfl rfl:Sat Tryz.prog (X mJ) (mkF 95 [(0,(cu_ g l)),(1,(iN i)),(2,(cq_ x)),(6,(AV.sl .nil 0 [])),(7,(iI 1)),(8,(iN l.length)),(10,(cp_ g l)),(11,(iN i)),(12,(cr_ g i l)),(13,(cq_ x)),(14,(iI 1)),(15,(iI 1)),(16,bF),(18,(cp_ g l)),(19,(iN l.length)),(20,(iN i)),(21,(iN l.length)),(22,bF),(26,(iN l.length)),(27,(iI 1)),(28,(iN (l.length+1))),(29,(cp_ g l)),(30,(iN r)),(31,bF),(56,(cp_ g l)),(57,(iN l.length)),(58,(iI 1)),(59,(iN (l.length+1))),(60,(cu_ g l)),(61,(cq_ x)),(62,(cu_ g l)),(63,(iN i)),(64,(iI 1)),(65,(iN (i+1))),(66,(cv_ g i l)),(67,bF),(68,bT),(69,(cu_ g l)),(70,(iN i)),(71,(iI 1)),(72,(iN (i+1))),(73,(cv_ g i l)),(74,(cu_ g l)),(75,(iN i)),(76,(AV.osl 0 g 10 i ((l.length+1) - i)))]) [⟨g,10,(mE l),some r⟩] 1 (X6 Tryz.f126 15 8) (iN (((l.length+1) - (i+1)))) (b3u g l i r)) (.s (.h' (b3u g l i r) (.so 2 0 g 10 0 (l.length+1) (i:Int) (((l.length+1):Nat):Int) (AV.osl 0 g 10 i ((l.length+1) - i)) (M4 (l:=i) (h:=(l.length+1)) om om om om om om) (.t 4 (iI 1) (b3v g l i x r) (a0m (o:=(X6 Tryz.f126 16 4)) (t:=89) (e0:=93) (ti:={ d:=.slice 93,size:=1,bytes:=24,zero:=[.sl .nil 0 []] }) (id:=0) (g:=g) (e:=i) (n:=((l.length+1) - i)) (t':=89) (te:=a0a) (k:=10) (els:=(mE (l.take (i+1)++l.drop i))) (els':=(mE (l.take i++x :: l.drop i))) (room:=some r) (new:=[(Entry.row x)]) (s:=(cq_ x)) dF kr kr kr rfl kr rfl kr kr kr kr om om om (c7C Entry.row x l hi) (rfl) rfl:Sat Tryz.prog (X mJ) (mkF 95 [(0,(cu_ g l)),(1,(iN i)),(2,(cq_ x)),(6,(AV.sl .nil 0 [])),(7,(iI 1)),(8,(iN l.length)),(10,(cp_ g l)),(11,(iN i)),(12,(cr_ g i l)),(13,(cq_ x)),(14,(iI 1)),(15,(iI 1)),(16,bF),(18,(cp_ g l)),(19,(iN l.length)),(20,(iN i)),(21,(iN l.length)),(22,bF),(26,(iN l.length)),(27,(iI 1)),(28,(iN (l.length+1))),(29,(cp_ g l)),(30,(iN r)),(31,bF),(56,(cp_ g l)),(57,(iN l.length)),(58,(iI 1)),(59,(iN (l.length+1))),(60,(cu_ g l)),(61,(cq_ x)),(62,(cu_ g l)),(63,(iN i)),(64,(iI 1)),(65,(iN (i+1))),(66,(cv_ g i l)),(67,bF),(68,bT),(69,(cu_ g l)),(70,(iN i)),(71,(iI 1)),(72,(iN (i+1))),(73,(cv_ g i l)),(74,(cu_ g l)),(75,(iN i)),(76,(AV.osl 0 g 10 i ((l.length+1) - i))),(77,(iN (((l.length+1) - (i+1))))),(78,(cu_ g l)),(79,(iN i)),(80,(AV.osl 0 g 10 i ((l.length+1) - i))),(81,(cq_ x))]) (b3u g l i r) 1 (X6 Tryz.f126 16 4) (iI 1) (b3v g l i x r)) (.s (.g (.h' (b3v g l i x r) (.q 1 (cu_ g l)))))))))))))))))))))))))))))))))
@[simp] abbrev c8e (a:Nat) (b:l9E) (c:Nat) (d:Entry):Heap:=[(o_ (a+1) 10 (mE (b.take c++d :: b.drop c)))]
theorem b8g (l:l9E) (x:Entry) (g i n:Nat) (hn:n=l.length) (hi:i<=l.length) (hl:l.length < 1048576):AC 126 [(AV.osl 0 g 10 0 n),(iN i),(AV.sl .clip 10 [(Entry.row x)])] [(o_ g 10 (mE l))] ((AV.osl 0 (g+1) 10 0 (n+1)),(c8e g l i x)):=by
 subst hn
 exact j6.insert Entry.y8 hi (b3I l x g hl) (fun h r hr=>b3H l x g i r h hl hr) (fun h r hr=>b3G l x g i r h hl hr)
end Go.Proofs.YtmghjcbabebanaaGreat.AM
namespace Go.Proofs.YtmghjcbabebanaaGreat.AM
open Go
def AV.vW (els:List (List AV)):Bool:=els.all fun r=>r.all AV.scal
theorem b0i {els:List (List AV)} (h:AV.vW els=true) {i j:Nat} (hi:i < els.length) (hj:j < (els.getD i []).length):((els.getD i []).getD j .skip).scal=true:=by
 have h1:els.getD i []∈els:=by
  rw [List.getD_eq_getElem?_getD,List.getElem?_eq_getElem hi]; exact List.getElem_mem _
 have h3:=List.all_eq_true.1 h _ h1
 generalize els.getD i []=r at hj h3 ⊢
 have h2:r.getD j .skip∈r:=by
  rw [List.getD_eq_getElem?_getD,List.getElem?_eq_getElem hj]; exact List.getElem_mem _
 exact List.all_eq_true.1 h3 _ h2
theorem tK {α:Type} {row:α->List AV} (h:∀ x,(row x).all AV.scal=true) (l:List α):AV.vW (l.map row)=true:=by
 unfold AV.vW
 rw [List.all_eq_true]
 intro r hr
 obtain ⟨x,_,rfl⟩:=List.mem_map.1 hr
 exact h x
theorem j6.uT {P:Program} {f:FuncId} {args args':List AV} {g k n:Nat} {o:Ob} (h:j6 P f args [] (.osl 0 g k 0 n,[o])) (ho:AV.vW o.els=true) {H:Heap} (hb:Brs H args' args):j6 P f args' H (.osl H.length g k 0 n,H++[o]):=by
 intro G w C vs hsz hargs hH
 obtain ⟨hlen,hbr⟩:=Brs.get hb
 have key:∀ i,i < args.length->VR (fun b=>G b\/∃ id l,C.ι id=some l/\l.b=some b) w Cx.none (args.getD i .skip) (vs.getD i undef):=by
  intro i hi
  have hv:=hargs i ya_
  rcases hbr i hi with ⟨e,h0⟩ | ⟨id,g,k,e,n,rows,h1,h2,h3,h4⟩
  · rw [e] at hv
    have:=hv.cut 0 h0
    rw [oQ] at this
    exact this.mono (fun b hb=>.inl hb) (fun _ _=>rfl) (R9.refl _)
  · rw [h1] at hv
    rw [h2]
    obtain ⟨G',C',e1,e2,e3,_⟩:=cO hH hv h3 h4
    have:=e3.cut 0 rfl
    rw [oQ] at this
    refine this.mono (fun b hb=>?_) (fun _ _=>rfl) (R9.refl _)
    rcases e1.grow b hb with h5 | h5 | h5
    · exact .inl h5
    · exact .inr h5
    · have:=e2.gsz b hb; omega
 refine (h _ w Cx.none vs ya_ key
  ⟨fun id o ho=>by simp at ho,fun id _=>⟨rfl,rfl⟩,fun id l b hl=>by simp [Cx.none] at hl,fun i j l l' b hl=>by simp [Cx.none] at hl,fun id o l ho=>by simp at ho,
   fun b hb=>hb.elim (hH.gsz b) fun ⟨id,l,h1,h2⟩=>(hH.own id l b h1 h2).1⟩).mono fun v w' ⟨G2,C2,he,hh,hv,hp⟩=>?_
 have hall:∀ b,b < w.heap.size->w'.heap[b]?=w.heap[b]?:=fun b hb=>he.rest b hb fun id l hl=>by simp [Cx.none] at hl
 obtain ⟨hγn,hιn⟩:=hH.out H.length (Nat.le_refl _)
 have hnew:∀ l b,C2.ι 0=some l->l.b=some b->w.heap.size<=b:=fun l b hl hb=>by
  rcases he.own 0 l b hl hb with ⟨j,m,hm,_⟩ | h1
  · simp [Cx.none] at hm
  · exact h1
 have hC1:(C.lay H.length (C2.ι 0) (C2.γ 0)).ι H.length=C2.ι 0:=Cx.M7 ..
 have hC2:(C.lay H.length (C2.ι 0) (C2.γ 0)).γ H.length=C2.γ 0:=Cx.X8 ..
 have hC3:∀ j,j≠H.length->(C.lay H.length (C2.ι 0) (C2.γ 0)).ι j=C.ι j/\(C.lay H.length (C2.ι 0) (C2.γ 0)).γ j=C.γ j:=fun j hj=>Cx.H8 _ _ _ _ hj
 generalize C.lay H.length (C2.ι 0) (C2.γ 0)=C' at hC1 hC2 hC3
 have hcx:R9 C C':=fun j=>by
  by_cases hj:j=H.length
  · subst hj; rw [hC2,hγn,hC1,hιn]; exact ⟨Nat.zero_le _,fun _ l hl=>by simp at hl⟩
  · rw [(hC3 j hj).1,(hC3 j hj).2]; exact ⟨Nat.le_refl _,fun _ l hl=>hl⟩
 have hev:Ev G w C G w' C':=⟨he.os,he.tape,he.output,he.size,fun _ h=>h,fun b hb=>hall b (hH.gsz b hb),hcx,fun b hb _=>hall b hb,fun _ h=>.inl h,fun id l b h1 h2=>by
  by_cases hj:id=H.length
  · subst hj; rw [hC1] at h1; exact .inr (hnew l b h1 h2)
  · rw [(hC3 id hj).1] at h1; exact .inl ⟨id,l,h1,h2⟩,he.frz⟩
 have hget:∀ (j:Nat) (oj:Ob),(H++[o])[j]?=some oj->(j < H.length/\H[j]?=some oj)\/(j=H.length/\oj=o):=fun j oj hj=>by
  rcases Nat.lt_or_ge j H.length with h' | h'
  · rw [List.getElem?_append_left h'] at hj; exact .inl ⟨h',hj⟩
  · have:=nY hj
    simp at this
    obtain rfl:j=H.length:=by omega
    simp at hj
    exact .inr ⟨rfl,hj.symm⟩
 refine ⟨G,C',hev,⟨fun j oj hj=>?_,fun j hj=>?_,fun j l b hl hlb=>?_,fun i j l l' b hi hj hb hb'=>?_,fun j oj l hj hl=>?_,fun b hb=>Nat.lt_of_lt_of_le (hH.gsz b hb) he.size⟩,?_,by simp,fun j hj _ hιj=>?_⟩
 · rcases hget j oj hj with ⟨h1,h2⟩ | ⟨rfl,rfl⟩
   · rw [(hC3 j ya_).2]; exact hH.gen j oj h2
   · rw [hC2]; exact hh.gen 0 oj rfl
 · simp only [List.length_append,List.length_singleton] at hj
   rw [(hC3 j ya_).1,(hC3 j ya_).2]; exact hH.out j ya_
 · by_cases hj:j=H.length
   · subst hj; rw [hC1] at hl
     obtain ⟨q1,q2⟩:=hh.own 0 l b hl hlb
     exact ⟨q1,fun hg=>q2 (he.lock b (.inl hg))⟩
   · rw [(hC3 j hj).1] at hl
     obtain ⟨q1,q2⟩:=hH.own j l b hl hlb
     exact ⟨Nat.lt_of_lt_of_le q1 he.size,q2⟩
 · by_cases h1:i=H.length <;> by_cases h2:j=H.length
   · omega
   · subst h1; rw [hC1] at hi; rw [(hC3 j h2).1] at hj
     have:=hnew l b hi hb; have:=(hH.own j l' b hj hb').1; omega
   · subst h2; rw [hC1] at hj; rw [(hC3 i h1).1] at hi
     have:=hnew l' b hj hb'; have:=(hH.own i l b hi hb).1; omega
   · rw [(hC3 i h1).1] at hi; rw [(hC3 j h2).1] at hj
     exact hH.inj i j l l' b hi hj hb hb'
 · rcases hget j oj hj with ⟨h1,h2⟩ | ⟨rfl,rfl⟩
   · rw [(hC3 j ya_).1] at hl
     exact (hH.ob j oj l h2 hl).ev hev fun b hb=>hall b (hH.own j l b hl hb).1
   · rw [hC1] at hl
     have hob:=hh.ob 0 oj l rfl hl
     refine ⟨hob.k,hob.rm,hob.no,hob.len,hob.row,fun b hb=>?_⟩
     obtain ⟨cs,et,q1,q2,q3⟩:=hob.cells b hb
     exact ⟨cs,et,q1,q2,fun i j hi hj=>⟨(q3 i j hi hj).1,(q3 i j hi hj).2.scal (b0i ho hi (by rw [hob.row i hi]; exact hj))⟩⟩
 · cases hv with
   | osl _ _ _ _ _ _ ad cap hnc hle hl =>
    refine .osl _ _ _ _ _ _ _ _ hnc (by rw [hC2]; exact hle) fun hg=>?_
    rw [hC2] at hg
    rw [hC1]
    exact hl hg
   | osl0 _ _ _ _ _ base hle hl =>
    refine .osl0 _ _ _ _ _ _ (by rw [hC2]; exact hle) fun hg=>?_
    rw [hC2] at hg
    rw [hC1]
    exact hl hg
 · rw [(hC3 j ya_).1,(hC3 j ya_).2,List.getElem?_append_left hj]
   exact ⟨hιj,rfl,rfl⟩
open Go.Proofs.YtmghjcbabebanaaGreat
attribute [local irreducible] C9 D7 F7 G7 M0 M5 O6 O7 P9 Q6 Q7 Tp.F9 Tp.G8 Tp.card Tp.cards Tp.key Tp.keyT Tp.next Tp.step cmpL j6 l7 l9 sink z8
def D9 (l:List Entry) (k:Key):Nat:=(l.takeWhile fun e=>C9 e.card.key k).length
def y9 (l:List Entry) (k:Key):Bool:=decide (D9 l k < l.length)&&Key.eqb (nth l (D9 l k)).card.key k
theorem Y6 (l:l9E) (k:Key):D9 l k<=l.length:=by
 unfold D9
 have:=List.Sublist.length_le (List.takeWhile_sublist (l:=l) fun e=>C9 e.card.key k)
 exact this
theorem a0G {l:l9E} {k:Key}:∀ {i:Nat},i < D9 l k->C9 (nth l i).card.key k=true:=by
 unfold D9
 induction l with
 | nil=>intro i h; simp at h
 | cons e l ih =>
  intro i h
  rw [List.takeWhile_cons] at h
  by_cases hb:C9 e.card.key k=true
  · rw [if_pos hb] at h
    cases i with
    | zero=>exact hb
    | succ i=>exact ih yk_
  · rw [if_neg hb] at h; simp at h
theorem a0H {l:l9E} {k:Key} (h:D9 l k < l.length):C9 (nth l (D9 l k)).card.key k=false:=by
 unfold D9 at *
 induction l with
 | nil=>simp at h
 | cons e l ih =>
  rw [List.takeWhile_cons] at h ⊢
  by_cases hb:C9 e.card.key k=true
  · rw [if_pos hb] at h ⊢
    exact ih yk_
  · rw [if_neg hb]
    have h3:C9 e.card.key k=false:=by simpa using hb
    exact h3
theorem oP {l:l9E} {k:Key} (h:y9 l k=true):D9 l k < l.length:=by
 unfold y9 at h
 rw [Bool.and_eq_true] at h
 exact of_decide_eq_true h.1
theorem b5P {l:l9E} {k:Key} {i:Nat} (hi:i<=l.length) (h1:∀ j,j < i->C9 (nth l j).card.key k=true) (h2:i < l.length->C9 (nth l i).card.key k=false):D9 l k=i:=by
 rcases Nat.lt_trichotomy (D9 l k) i with h | h | h
 · have:=h1 _ h
   rw [a0H ow] at this; simp at this
 · exact h
 · have:=a0G h
   rw [h2 (by have:=Y6 l k; omega)] at this; simp at this
def uO:Ann:={ refs:=[3],base:=2,fin:=some 2,live:=[(2,[0,3,6])],out:=[(2,[0,3,6])] }
@[simp] abbrev cw_ (a:Int) (b c:Nat):=[[(iI a),(AV.osl 1 b 10 0 c)]]
@[simp] abbrev aI (a:Int) (b:Nat) (c:Nat):Ob:=(o_ 0 2 (cw_ a b c))
@[simp] abbrev Y2 (a:Int) (b:Nat) (c:Nat) (d:l9E):Heap:=[aI a b c,(o_ b 10 (mE d))]
@[simp] abbrev c2a (a:Key) (b:Nat):Fr:=(mkF 50 [(0,(oO 0 0 0 0)),(3,(AV.ref (Key.row a) 0)),(6,(iN b))])
theorem a3V (most:Int) (l:l9E) (k:Key) (g n:Nat) (i:Nat) (hn:n=l.length) (hl:l.length < 1048576) (hi:i<=l.length) {eX:Ex} {FX:Fr} {HX:Heap} (k1:(decide ((i:Int) < (n:Int)))=true->(pQ (nth l i).card.key k)=true->l7 (l9 Tryz.prog (X uO) (y7 Tryz.f121 0)) (some [0,3,6]) (some [0,3,6]) (mkF 50 [(0,(oO 0 0 0 0)),(3,(AV.ref (Key.row k) 0)),(6,(iN (i+1)))]) (Y2 most g n l) eX FX HX) (k2:(decide ((i:Int) < (n:Int)))=true->(pQ (nth l i).card.key k)=false->((.exit 0:Ex),(c2a k i),(Y2 most g n l))=(eX,FX,HX)) (k3:(decide ((i:Int) < (n:Int)))=false->((.exit 0:Ex),(c2a k i),(Y2 most g n l))=(eX,FX,HX)):l7 (l9 Tryz.prog (X uO) (y7 Tryz.f121 0)) (some [0,3,6]) (some [0,3,6]) (c2a k i) (Y2 most g n l) eX FX HX :=
 K7 (.r (.two (decide ((i:Int) < (n:Int))) (fun h1 h1'=>(.u5 (.io 13 1 g 10 10 0 n (i:Int) i (G6.mk _ ow ow) (.u3 (.t 16 (AV.agg (Key.row (nth l i).card.key)) (Y2 most g n l) (K9 (F4 (row:=Entry.row) (l:=l) (k:=10) (room:=none) kr om) kr:P8 tt 28 0 (Y2 most g n l) (rowAt (Y2 most g n l) 1 g i)=some ((AV.agg (Key.row (nth l i).card.key)),(Y2 most g n l))) (.u2 (.c 18 ((a6a (nth l i).card.key k).lift kr kr (Y2 most g n l)) (.g (.two (pQ (nth l i).card.key k) (fun h2 h2'=>(.r (.y 1 (.int .i64 (ca_ i)) (iN (i+1)) Yes.o (.g (.l (k1 h1 h2)))))) (fun h2 h2'=>(.l (k2 h1 h2)))))))))))) (fun h1 h1'=>(.n6 (.n4 (.g (.n (.l (k3 h1)))))))))
theorem b8n {p:Prop} (h:p:=by have:=of_decide_eq_true h1; omega):p:=h
theorem b5O (most:Int) (l:l9E) (k:Key) (g n:Nat) (hn:n=l.length) (hl:l.length < 1048576) (r:Nat):∀ (i:Nat),i+r=D9 l k ->
 l7 (l9 Tryz.prog (X uO) (y7 Tryz.f121 0)) (some [0,3,6]) (some [0,3,6]) (mkF 50 [(0,(oO 0 0 0 0)),(3,(AV.ref (Key.row k) 0)),(6,(iN i))]) [(o_ 0 2 [[(iI most),(AV.osl 1 g 10 0 n)]]),(o_ g 10 (mE l))] (.exit 0) (mkF 50 [(0,(oO 0 0 0 0)),(3,(AV.ref (Key.row k) 0)),(6,(iN ((D9 l k))))]) [(o_ 0 2 [[(iI most),(AV.osl 1 g 10 0 n)]]),(o_ g 10 (mE l))]:=by
 have hle:=Y6 l k
 induction r with
 | zero =>
  intro i hi
  obtain rfl:i=D9 l k:=by omega
  refine a3V most l k g n (D9 l k) hn hl ow (fun h1 h2=>?_) (fun _ _=>rfl) (fun _=>rfl)
  rw [lM,a0H b8n] at h2; simp at h2
 | succ r ih =>
  intro i hi
  refine a3V most l k g n i hn hl ow (fun _ _=>ih (i+1) ow) (fun _ h2=>?_) (fun h1=>?_)
  · rw [lM,a0G (show i < D9 l k by omega)] at h2; simp at h2
  · simp at h1; omega
@[simp] abbrev c8d (a:Key) (b:l9E):Fr:=(mkF 50 [(0,(oO 0 0 0 0)),(3,(AV.ref (Key.row a) 0)),(6,(iN ((D9 b a))))])
theorem wQ (most:Int) (l:l9E) (k:Key) (g n:Nat) (hn:n=l.length) (hl:l.length < 1048576):AC 121 [(AV.obj 0 0 0 0),(AV.agg (Key.row k))] (Y2 most g n l) ((AV.tup [(AV.int .i64 (((D9 l k):Nat):Int)),(AV.bool (y9 l k))]),(Y2 most g n l)):=by
 have hle:=Y6 l k
 exact q9 (fn:=Tryz.f121) (ann:=uO) (Has.o Tryz.func121) (.r (.s (.g (.loop (c8d k l) (b5O most l k g n hn hl (D9 l k) 0 ow) (.r (.two (decide ((((D9 l k):Nat):Int) < (n:Int))) (fun h1 h1'=>(.u5 (.io 14 1 g 10 10 0 n (((D9 l k):Nat):Int) (D9 l k) (G6.mk _ ow ow) (.u3 (.t 17 (AV.agg (Key.row (nth l (D9 l k)).card.key)) (Y2 most g n l) (K9 (F4 (row:=Entry.row) (l:=l) (k:=10) (room:=none) kr om) kr:P8 tt 28 0 (Y2 most g n l) (rowAt (Y2 most g n l) 1 g (D9 l k))=some ((AV.agg (Key.row (nth l (D9 l k)).card.key)),(Y2 most g n l))) (.u2 (.q 2 (AV.tup [(AV.int .i64 (((D9 l k):Nat):Int)),(AV.bool (Key.eqb (nth l (D9 l k)).card.key k))]) (by (try delta Y2 aI); (have hb:y9 l k=Key.eqb (nth l (D9 l k)).card.key k:=by unfold y9; first | (simp_all; done) | (simp_all; omega) | (simp_all; intro h; omega)); rw [hb])))))))) (fun h1 h1'=>(.n6 (.n4 (.q 2 (AV.tup [(AV.int .i64 (((D9 l k):Nat):Int)),(AV.bool false)]) (by (try delta Y2 aI); (have hb:y9 l k=false:=by unfold y9; first | (simp_all; done) | (simp_all; omega) | (simp_all; intro h; omega)); rw [hb])))))))))))
theorem a2M (most:Int) (l:l9E) (k:Key) (g n:Nat) (hn:n=l.length) (hl:l.length < 1048576) (H:Heap):AC 121 [(oO 0 0 0 0),(AV.agg (Key.row k))] ((Y2 most g n l)++H) ((AV.tup [(iN ((D9 l k))),(bB (y9 l k))]),(Y2 most g n l)++H):=(wQ most l k g n hn hl).ext kr kr ob ob kr H
def b4G:Ann:={ refs:=[3],base:=2,fin:=some 2 }
@[simp] abbrev c6H (a:Int) (b:Nat) (c:Nat) (d:l9E) (e:Entry):Heap:=[aI a b c,(o_ b 10 (mE (d.set (D9 d e.card.key) e)))]
theorem b0I (most:Int) (l:l9E) (e:Entry) (g n:Nat) (hn:n=l.length) (hl:l.length < 1048576) (hb:y9 l e.card.key=true):AC 69 [(oO 0 0 0 0),(AV.agg (Entry.row e))] (Y2 most g n l) (z_,(c6H most g n l e)):=by
 have hle:=Y6 l e.card.key
 have hlt:=oP hb
 exact q9 (fn:=Tryz.f69) (ann:=b4G) (Has.o Tryz.func69) (.r (.s (.c 4 (a2M most l e.card.key g n oa oa []) (.s (.y 0 (bB (y9 l e.card.key)) bT (Yes.b (hb)) (.ru (.io 6 1 g 10 10 0 n (((D9 l e.card.key):Nat):Int) (D9 l e.card.key) (G6.mk _ ow ow) (.st 7 1 g (D9 l e.card.key) 10 0 (AV.agg (Entry.row e)) (c6H most g n l e) (U1 (us:=(Entry.row e)) (F4 (row:=Entry.row) (l:=l) (k:=10) (room:=none) kr om) kr (by simp [Entry.row]) (by simp [setAt,aD,List.map_set,Entry.row])) (.g (.qr 2 z_))))))))))
def a8d:Ann:={ refs:=[3],base:=2,fin:=some 2 }
theorem a5C (most:Int) (l:l9E) (e:Entry) (g n:Nat) (hn:n=l.length) (hl:l.length < 1048576) (hb:y9 l e.card.key=false) (hm:most<=(n:Int)):AC 69 [(oO 0 0 0 0),(AV.agg (Entry.row e))] [(o_ 0 2 [[(iI most),(AV.osl 1 g 10 0 n)]]),(o_ g 10 (mE l))] ((iI 24),[(o_ 0 2 [[(iI most),(AV.osl 1 g 10 0 n)]]),(o_ g 10 (mE l))]):=by
 have hle:=Y6 l e.card.key
 exact q9 (fn:=Tryz.f69) (ann:=a8d) (Has.o Tryz.func69) (.r (.s (.c 4 (a2M most l e.card.key g n oa oa []) (.s (.y 0 (bB (y9 l e.card.key)) bF (Yes.b (hb)) (.rn (.y 9 (bB (decide ((n:Int) >= most))) bT (Yes.b om) (.g (.u (.qr 2 (iI 24)))))))))))
def b0H:Ann:={ refs:=[3],base:=2,fin:=some 2 }
theorem a8c (most:Int) (l:l9E) (e:Entry) (g n:Nat) (hn:n=l.length) (hl:l.length < 1048576) (hb:y9 l e.card.key=false) (hm:(n:Int) < most):AC 69 [(oO 0 0 0 0),(AV.agg (Entry.row e))] [(o_ 0 2 [[(iI most),(AV.osl 1 g 10 0 n)]]),(o_ g 10 (mE l))] (z_,[(o_ 0 2 [[(iI most),(AV.osl 1 (g+1) 10 0 (n+1))]]),(o_ (g+1) 10 (mE (l.take (D9 l e.card.key)++e :: l.drop (D9 l e.card.key))))]):=by
 have hle:=Y6 l e.card.key
 exact q9 (fn:=Tryz.f69) (ann:=b0H) (Has.o Tryz.func69) (.r (.s (.c 4 (a2M most l e.card.key g n oa oa []) (.s (.y 0 (bB (y9 l e.card.key)) bF (Yes.b (hb)) (.rn (.y 9 (bB (decide ((n:Int) >= most))) bF (Yes.b yh_) (.rn (.ch 8 [(o_ 0 2 [[(iI most),(AV.osl 1 g 10 0 n)]]),(o_ (g+1) 10 (mE (l.take (D9 l e.card.key)++e :: l.drop (D9 l e.card.key))))] (j6.pre (args:=[(AV.osl 1 g 10 0 n),(iN ((D9 l e.card.key))),(cq_ e)]) (args':=[(AV.osl 1 g 10 0 n),(iN ((D9 l e.card.key))),(cq_ e)]) (j6.put2 [1] [(o_ 0 2 [[(iI most),(AV.osl 1 g 10 0 n)]]),(o_ g 10 (mE l))] (AV.osl 1 (g+1) 10 0 (n+1)) [(o_ 0 2 [[(iI most),(AV.osl 1 g 10 0 n)]]),(o_ (g+1) 10 (mE (l.take (D9 l e.card.key)++e :: l.drop (D9 l e.card.key))))] (b8g l e g (D9 l e.card.key) n oa oa oa) (⟨Ob.ren0 (Entry.y8 0 _),trivial⟩) (⟨Ob.ren0 (Entry.y8 0 _),trivial⟩)) ⟨AV.d9 _,AV.d9 _,⟨rfl,rfl,.inl rfl⟩,trivial⟩) (.s (.g (.h' [(o_ 0 2 [[(iI most),(AV.osl 1 (g+1) 10 0 (n+1))]]),(o_ (g+1) 10 (mE (l.take (D9 l e.card.key)++e :: l.drop (D9 l e.card.key))))] (.q 2 z_)))))))))))))
def H7 (most:Int) (l:List Entry) (e:Entry):Int:=if y9 l e.card.key=true then 0 else if most<=(l.length:Int) then 24 else 0
def F6 (most:Int) (l:List Entry) (e:Entry):List Entry:=if y9 l e.card.key=true then l.set (D9 l e.card.key) e else if most<=(l.length:Int) then l else l.take (D9 l e.card.key)++e :: l.drop (D9 l e.card.key)
def I5 (most:Int) (l:List Entry) (e:Entry) (g:Nat):Nat:=if y9 l e.card.key=true then g else if most<=(l.length:Int) then g else g+1
theorem fE (most:Int) (l:l9E) (e:Entry):(F6 most l e).length<=l.length+1:=by
 have:=Y6 l e.card.key
 unfold F6; split
 · simp
 · split
   · omega
   · simp; omega
theorem b4F {most:Int} {l:l9E} {e:Entry} (h:(l.length:Int)<=most):((F6 most l e).length:Int)<=most:=by
 have:=Y6 l e.card.key
 unfold F6; split
 · simpa using h
 · split
   · exact h
   · simp; omega
def zE:Entry:=⟨⟨⟨⟨#[]⟩,⟨#[]⟩⟩,0,0,0,⟨0,0,0⟩,false⟩,0⟩
def r9 (l:List Entry) (k:Key):Entry:=if y9 l k=true then nth l (D9 l k) else zE
theorem uD (most:Int) (l:l9E) (e:Entry) (g n:Nat) (hn:n=l.length) (hl:l.length < 1048576):AC 69 [(oO 0 0 0 0),(AV.agg (Entry.row e))] [(o_ 0 2 [[(iI most),(AV.osl 1 g 10 0 n)]]),(o_ g 10 (mE l))] ((iI (H7 most l e)),[(o_ 0 2 [[(iI most),(AV.osl 1 (I5 most l e g) 10 0 (List.length (F6 most l e)))]]),(o_ (I5 most l e g) 10 (mE (F6 most l e)))]):=by
 subst hn
 have hle:=Y6 l e.card.key
 cases hb:y9 l e.card.key with
 | true =>
  have h1:H7 most l e=0:=by simp [H7,hb]
  have h2:F6 most l e=l.set (D9 l e.card.key) e:=by simp [F6,hb]
  have h3:I5 most l e g=g:=by simp [I5,hb]
  rw [h1,h2,h3,List.length_set]
  exact b0I most l e g l.length rfl hl hb
 | false =>
  by_cases hm:most<=(l.length:Int)
  · have h1:H7 most l e=24:=by simp [H7,hb,hm]
    have h2:F6 most l e=l:=by simp [F6,hb,hm]
    have h3:I5 most l e g=g:=by simp [I5,hb,hm]
    rw [h1,h2,h3]
    exact a5C most l e g l.length rfl hl hb hm
  · have h1:H7 most l e=0:=by simp [H7,hb,hm]
    have h2:F6 most l e=l.take (D9 l e.card.key)++e :: l.drop (D9 l e.card.key):=by simp [F6,hb,hm]
    have h3:I5 most l e g=g+1:=by simp [I5,hb,hm]
    have h4:(l.take (D9 l e.card.key)++e :: l.drop (D9 l e.card.key)).length=l.length+1:=by simp; omega
    rw [h1,h2,h3,h4]
    exact a8c most l e g l.length rfl hl hb ow
def b5L:Ann:={ refs:=[3],base:=2,fin:=some 2 }
@[simp] abbrev a2i :Ob:=(o_ 0 10 [[e_,e_,z_,z_,z_,z_,z_,z_,bF,z_]])
@[simp] abbrev rF (a:Int) (b:Nat) (c:Nat) (d:l9E):Heap:=[aI a b c,(o_ b 10 (mE d)),a2i]
@[simp] abbrev cx_ (a:l9E) (b:Key):=(AV.tup [(AV.agg (Entry.row (nth a (D9 a b)))),bT])
theorem b1w (most:Int) (l:l9E) (k:Key) (g n:Nat) (hn:n=l.length) (hl:l.length < 1048576) (hb:y9 l k=true):AC 66 [(oO 0 0 0 0),(AV.agg (Key.row k))] (Y2 most g n l) ((cx_ l k),(Y2 most g n l)):=by
 have hle:=Y6 l k
 have hlt:=oP hb
 exact q9 (fn:=Tryz.f66) (ann:=b5L) (Has.o Tryz.func66) (.r (.s (.c 2 (j6.put2 [0,1] (rF most g n l) (AV.tup [(iN ((D9 l k))),(bB (y9 l k))]) (rF most g n l) (wQ most l k g n oa oa) (rlF) (rlF)) (.s (.h' (rF most g n l) (.y 1 (bB (!(y9 l k))) bF (Yes.b (by rw [hb]; rfl)) (.rn (.io 5 1 g 10 10 0 n (((D9 l k):Nat):Int) (D9 l k) (G6.mk _ ow ow) (.t 6 (AV.agg (Entry.row (nth l (D9 l k)))) (rF most g n l) (K9 (F4 (row:=Entry.row) (l:=l) (k:=10) (room:=none) kr om) kr:P8 tt 93 0 (rF most g n l) (rowAt (rF most g n l) 1 g (D9 l k))=some ((AV.agg (Entry.row (nth l (D9 l k)))),(rF most g n l))) (.g (.h' (Y2 most g n l) (.q 2 (cx_ l k)))))))))))))
def b1v:Ann:={ refs:=[3],base:=2,fin:=some 2 }
theorem a8s (most:Int) (l:l9E) (k:Key) (g n:Nat) (hn:n=l.length) (hl:l.length < 1048576) (hb:y9 l k=false):AC 66 [(oO 0 0 0 0),(AV.agg (Key.row k))] (Y2 most g n l) ((AV.tup [(AV.agg (Entry.row zE)),bF]),(Y2 most g n l)):=by
 have hle:=Y6 l k
 exact q9 (fn:=Tryz.f66) (ann:=b1v) (Has.o Tryz.func66) (.r (.s (.c 2 (j6.put2 [0,1] (rF most g n l) (AV.tup [(iN ((D9 l k))),(bB (y9 l k))]) (rF most g n l) (wQ most l k g n oa oa) (rlF) (rlF)) (.s (.h' (rF most g n l) (.y 1 (bB (!(y9 l k))) bT (Yes.b (by rw [hb]; rfl)) (.ru (.g (.h' (Y2 most g n l) (.q 2 (AV.tup [(AV.agg [e_,e_,z_,z_,z_,z_,z_,z_,bF,z_]),bF])))))))))))
theorem dL (most:Int) (l:l9E) (k:Key) (g n:Nat) (hn:n=l.length) (hl:l.length < 1048576):AC 66 [(oO 0 0 0 0),(AV.agg (Key.row k))] [(o_ 0 2 [[(iI most),(AV.osl 1 g 10 0 n)]]),(o_ g 10 (mE l))] ((AV.tup [(AV.agg (Entry.row (r9 l k))),(bB (y9 l k))]),[(o_ 0 2 [[(iI most),(AV.osl 1 g 10 0 n)]]),(o_ g 10 (mE l))]):=by
 cases hb:y9 l k with
 | true =>
  have h2:r9 l k=nth l (D9 l k):=by simp [r9,hb]
  rw [h2]
  exact b1w most l k g n hn hl hb
 | false =>
  have h2:r9 l k=zE:=by simp [r9,hb]
  rw [h2]
  exact a8s most l k g n hn hl hb
def lK (l:List Entry):Nat:=l.foldl (fun s e=>if (!e.card.gone)=true then s+1 else s) 0
theorem c0i {α β:Type} (f:α->β) (l:List α):∀ (out:List β) (k g:Nat),l.foldl (fun (s:List β × Nat × Nat) c=>(s.1++[f c],s.2.1+1,s.2.2+1)) (out,k,g)=(out++l.map f,k+l.length,g+l.length):=by
 induction l with
 | nil=>intro out k g; simp
 | cons c l ih=>intro out k g; rw [List.foldl_cons,ih]; simp; omega
attribute [local irreducible] lK
def mZ:Ann:={ gha:=[(1,.vir 3 9),(6,.cut 3),(7,.frz 2)],base:=2,fin:=some 2,live:=[(3,[3,9,10,11])],out:=[(3,[3,9,10,11])] }
@[simp] abbrev c3Q (a:Int) (b:Nat) (c:Nat) (d:l9E) (e:Nat) (f:l9C) (g:Nat):Heap:=[aI a b c,(o_ b 10 (mE d)),(o_ (e+1) 9 (mC (f++[(nth d g).card])))]
@[simp] abbrev b3t (a:Nat) (b:Nat) (c:Nat) (d:Nat) (e:Nat):Fr:=(mkF 22 [(3,(AV.osl 2 a 9 0 b)),(9,(AV.osl 1 c 10 0 d)),(10,(iN d)),(11,(iN e))])
@[simp] abbrev b3s (a:Int) (b:Nat) (c:Nat) (d:l9E) (e:Nat) (f:l9C):Heap:=[aI a b c,(o_ b 10 (mE d)),(o_ e 9 (mC f))]
@[simp] abbrev a2j (a:Int) (b:Nat) (c:Nat) (d:l9E) (e:Nat) (f:l9C):Heap:=[aI a b c,(o_ b 10 (mE d)),(o_ e 9 (mC f)),a2i]
theorem zF (most:Int) (l:l9E) (g:Nat) (n:Nat) (out:l9C) (k:Nat) (h:Nat) (i:Nat) (hn:n=l.length) (hl:l.length < 1048576) (hk:k=out.length) (hki:k<=i) (hle_:i<=n) {eX:Ex} {FX:Fr} {HX:Heap} (k1:(decide ((i:Int) < (n:Int)))=true->l7 (l9 Tryz.prog (X mZ) (y7 Tryz.f18 0)) (some [3,9,10,11]) (some [3,9,10,11]) (mkF 22 [(3,(AV.osl 2 (h+1) 9 0 (k+1))),(9,(AV.osl 1 g 10 0 n)),(10,(iN n)),(11,(iN (i+1)))]) (c3Q most g n l h out i) eX FX HX) (k2:(decide ((i:Int) < (n:Int)))=false->((.exit 0:Ex),(b3t h k g n i),(b3s most g n l h out))=(eX,FX,HX)):l7 (l9 Tryz.prog (X mZ) (y7 Tryz.f18 0)) (some [3,9,10,11]) (some [3,9,10,11]) (b3t h k g n i) (b3s most g n l h out) eX FX HX :=
 K7 (.r (.g (.two (decide ((i:Int) < (n:Int))) (fun h1 h1'=>(.r (.h' (a2j most g n l h out) (.io 0 1 g 10 10 0 n (i:Int) i (G6.mk _ ow ow) (.t 1 (AV.agg (Entry.row (nth l i))) (a2j most g n l h out) (K9 (F4 (row:=Entry.row) (l:=l) (k:=10) (room:=none) kr om) kr:P8 tt 93 0 (a2j most g n l h out) (rowAt (a2j most g n l h out) 1 g i)=some ((AV.agg (Entry.row (nth l i))),(a2j most g n l h out))) (.s (.h' [(o_ 0 2 (cw_ most g n)),(o_ g 10 (mE l)),(o_ h 9 (mC out)),(o_ 0 10 [(Entry.row (nth l i))])] (.ap 4 30 (AV.osl 2 h 9 0 k) (AV.sl .clip 9 [(j5.row (nth l i).card)]) (AV.osl 2 (h+1) 9 0 (k+1)) [(o_ 0 2 (cw_ most g n)),(o_ g 10 (mE l)),(o_ (h+1) 9 (mC (out++[(nth l i).card]))),(o_ 0 10 [(Entry.row (nth l i))])] (K3 (row:=j5.row) (l:=out) (x:=(nth l i).card) (T:=tt) (e:=50) (te:=bP) (z:=1) (b:=24) (y:=[.sl .nil 0 []]) kr kr rfl E9 E9 kr fB rfl rfl iV) (.s (.y 0 (.int .i64 (ca_ i)) (iN (i+1)) Yes.o (.h' (c3Q most g n l h out i) (.b 3 (.g (.l (k1 h1))))))))))))))) (fun h1 h1'=>(.l (k2 h1))))))
def tJ (most:Int) (l:List Entry) (g:Nat) (n:Nat) (i:Nat) (s:(List j5) × Nat × Nat):(List j5) × Nat × Nat:=(s.1++[(nth l i).card],(s.2.1+1),(s.2.2+1))
theorem R6 {p:Prop} (h:p:=by first | omega | assumption | (simp; done) | (simp; omega) | (simp [*]; done) | (simp [*]; omega)):p:=h
theorem a7T (most:Int) (l:l9E) (g:Nat) (n:Nat) (hn:n=l.length) (hl:l.length < 1048576)  (r_:Nat):∀ (out:l9C) (k:Nat) (h:Nat) (i:Nat) (sF:(l9C) × Nat × Nat),i+r_=n->k=out.length->k<=i->sF=iter (tJ most l g n) r_ i (out,k,h) ->
 l7 (l9 Tryz.prog (X mZ) (y7 Tryz.f18 0)) (some [3,9,10,11]) (some [3,9,10,11]) (b3t h k g n i) (b3s most g n l h out) (.exit 0) (mkF 22 [(3,(AV.osl 2 sF.2.2 9 0 sF.2.1)),(9,(AV.osl 1 g 10 0 n)),(10,(iN n)),(11,(iN n))]) [(o_ 0 2 [[(iI most),(AV.osl 1 g 10 0 n)]]),(o_ g 10 (mE l)),(o_ sF.2.2 9 (mC sF.1))]:=by
 induction r_ with
 | zero =>
  intro out k h i sF hi_ hk hki  hF
  obtain rfl:n=i:=by omega
  have e_:sF=(out,k,h):=hF
  refine zF most l g n out k h n hn hl hk hki (Nat.le_refl _) (fun h=>by simp at h <;> omega) (fun _=>?_)
  first | done | rfl | (rw [e_]; done) | (rw [e_]; rfl)
 | succ r_ ih =>
  intro out k h i sF hi_ hk hki  hF
  refine zF most l g n out k h i hn hl hk hki ow (fun h1=>?_) (fun h=>by simp at h <;> omega)
  · exact ih (out++[(nth l i).card]) (k+1) (h+1) (i+1) sF ow R6 R6  (by rw [hF] <;> simp only [iter,tJ,if_true,Bool.false_eq_true,if_false])
theorem a7U (most:Int) (l:l9E) (g:Nat):(l.map (·.card),l.length,l.length)=iter (tJ most l g l.length) l.length 0 ([],0,0):=by
 rw [fI (tJ most l g l.length) (fun s e=>(s.1++[e.card],s.2.1+1,s.2.2+1)) l (fun i s hi=>rfl),c0i (fun e:Entry=>e.card)]; simp
@[simp] abbrev c7u (a:l9E) (b:Nat) (c:Nat):Fr:=(mkF 22 [(3,(AV.osl 2 a.length 9 0 a.length)),(9,(AV.osl 1 b 10 0 c)),(10,(iN c)),(11,(iN c))])
@[simp] abbrev c7t (a:Int) (b:Nat) (c:Nat) (d:l9E):Heap:=[aI a b c,(o_ b 10 (mE d)),(o_ d.length 9 (mC (d.map (·.card))))]
theorem aN (most:Int) (l:l9E) (g n:Nat) (hn:n=l.length) (hl:l.length < 1048576):AC 18 [(oO 0 0 0 0)] (Y2 most g n l) ((sA 9 (mC (l.map (·.card)))),(Y2 most g n l)) :=
 q9 (fn:=Tryz.f18) (ann:=mZ) (Has.o Tryz.func18) (.r (.s (.s (.g (.loop (c7u l g n) (a7T most l g n hn hl n [] 0 0 0 (l.map (·.card),l.length,l.length) ow rfl ow (by subst hn; exact a7U most l g)) (.r (.w' 2 (mC (l.map (·.card))) (And.intro (G9 (room:=none) kr om) (j5.y8 _ _):F5 (c7t most g n l) 9 (AV.osl 2 l.length 9 0 l.length)=some (mC (l.map (·.card)))/\AV.D5 0 (mC (l.map (·.card)))=true) (.g (.h' (Y2 most g n l) (.q 2 (sA 9 (mC (l.map (·.card))))))))))))))
end Go.Proofs.YtmghjcbabebanaaGreat.AM
namespace Go.Proofs.YtmghjcbabebanaaGreat.AM
open Go
theorem j6.a5a {P:Program} {f:FuncId} {args:List AV} {a:AV} {k k0:Nat} (h:j6 P f args [] (.obj 0 0 0 0,[⟨0,2,[[a,.sl .nil k0 []]],none⟩])):j6 P f args [] (.obj 0 0 0 0,[⟨0,2,[[a,.osl 1 0 k 0 0]],none⟩,⟨0,k,[],none⟩]) :=
 h.b5I fun G w C v hH hv=>kF (id:=0) (e:=0) (c:=1) (k0:=k0) (o:=⟨0,2,[[a,.sl .nil k0 []]],none⟩) hH k rfl yf_ yf_ rfl hv (VR.shows hv (id:=0) (g:=0) (.inl ⟨_,_,rfl⟩) (by simpa using hH.gen 0 _ rfl))
open Go.Proofs.YtmghjcbabebanaaGreat
attribute [local irreducible] C9 D7 D9 F6 F7 G7 H7 I5 M0 M5 O6 O7 P9 Q6 Q7 Tp.F9 Tp.G8 Tp.card Tp.cards Tp.key Tp.keyT Tp.next Tp.step cmpL j6 l7 l9 lK r9 sink y9 z8
def p9 (most:Int):Int:=max 0 (min most 32)
def b9l:Ann:={ fin:=some 1 }
@[simp] abbrev c8c (a:Int):Heap:=[(o_ 0 2 [[(iI (p9 a)),(AV.sl .nil 0 [])]])]
theorem eD {p:Prop} (h:p:=by split <;> omega):p:=h
theorem b4M (most:Int) :AC 47 [(iI most)] [] ((oO 0 0 0 0),(c8c most)) :=
 q9 (fn:=Tryz.f47) (ann:=b9l) (Has.o Tryz.func47) (.r (.s (.y 1 (.int .i64 (if 32 < most then 32 else most)) (iI (min most 32)) (Yes.int eD) (.y 2 (.int .i64 (if (min most 32) > 0 then (min most 32) else 0)) (iI (max 0 (min most 32))) (Yes.int eD) (.g (.h' [(o_ 0 2 [[(iI (max 0 (min most 32))),(AV.sl .nil 0 [])]])] (.q 1 (oO 0 0 0 0))))))))
theorem b3Z (most:Int) :AC 47 [(iI most)] [] ((oO 0 0 0 0),[(o_ 0 2 [[(iI (p9 most)),(AV.osl 1 0 10 0 0)]]),(o_ 0 10 (mE []))]):=(b4M most).a5a
section
variable {G:Nat->Prop} {w:World} {C:Cx} {H:Heap}
end
end Go.Proofs.YtmghjcbabebanaaGreat.AM
namespace Go.Proofs.YtmghjcbabebanaaGreat.AM
open Go
theorem j6.c4m {P:Program} {f:FuncId} {k n e g m:Nat} {els ys:List (List AV)} (h:j6 P f [.sl .any k ys] [] (.osl 0 0 k 0 m,[⟨0,k,ys,none⟩])) (hs:AV.vW ys=true) (hy:AV.D5 1 ys=true)
 (hb:Brs [⟨g,k,els,none⟩] [.osl 0 g k e n] [.sl .any k ys]):j6 P f [.osl 0 g k e n] [⟨g,k,els,none⟩] (.osl 0 (g+1) k 0 m,[⟨g+1,k,ys,none⟩]):=by
 have h0:=h.uT hs hb
 have h1:=h0.ghost (i:=0) (id:=0) (g:=g) (x:=.osl 0 g k e n) (a':=.osl 0 (g+1) k 0 m) (H2:=[⟨g+1,k,ys,none⟩]++[⟨1,k,[],none⟩]) rfl (.inr ⟨_,_,_,rfl⟩) rfl rfl rfl rfl
  fun G w C v hH hv hl=>zD (id:=0) (j:=1) (g:=g) (gj:=0) hH E9 rfl rfl rfl rfl hv hl
 refine h1.forget rfl rfl fun id o ho=>.inr ?_
 cases id with
 | zero =>
  simp only [List.getElem?_cons_zero,Option.some.injEq] at ho
  subst ho
  exact hy
 | succ id=>simp at ho
theorem G6.mko {id g k n e0:Nat} {i:Int} {j:Nat} (m:Nat) (H:Heap) (hi:i=(m:Int)) (hj:m < n) (he:j=e0+m):G6 id g k k e0 n i H j:=by
 subst hi he
 have:(m:Int) < (n:Int):=by omega
 simp [G6,this]
open Go.Proofs.YtmghjcbabebanaaGreat
attribute [local irreducible] D7 G7 J6 aW j6 l5 l7 l9
def a8J:Ann:={ gha:=[(2,.vir 2 2)],fin:=some 1 }
theorem a6x  :AC 169 [(AV.sl .nil 0 [])] [] ((AV.osl 0 0 2 0 0),[(o_ 0 2 (mK []))]) :=
 q9 (fn:=Tryz.f169) (ann:=a8J) (Has.o Tryz.func169) (.r (.s (.ru (.g (.h' [(o_ 0 2 (mK []))] (.q 1 (AV.osl 0 0 2 0 0)))))))
def a8I:Ann:={ own:=[7],fin:=some 1 }
@[reducible] def a9K:TI:={ d:=.struct [(9,0),(9,1)],size:=2,bytes:=32,zero:=[.str ⟨#[]⟩,.str ⟨#[]⟩] }
theorem a6w (l:l9K) (hl:l.length < 1099511627776):AC 169 [(AV.sl .op 2 (mK l))] [] ((AV.osl 0 0 2 0 l.length),[(o_ 0 2 (mK l))]) :=
 q9 (fn:=Tryz.f169) (ann:=a8I) (Has.o Tryz.func169) (.r (.s (.rn (.ao 2 31 (AV.sl .clip 2 []) (AV.sl .op 2 (mK l)) (AV.osl 0 0 2 0 l.length) [(o_ 0 2 (mK l))] (bM (T:=tt) (e:=28) (te:=a9K) (z:=1) (b:=24) (y:=[.sl .nil 0 []]) (row:=Key.row) kr kr rfl E9 E9 yf_ aR rfl rfl rfl om) (.q 1 (AV.osl 0 0 2 0 l.length))))))
theorem a8H (l:l9K) (hl:l.length < 1099511627776):AC 169 [(sA 2 (mK l))] [] ((AV.osl 0 0 2 0 l.length),[(o_ 0 2 (mK l))]):=j6.a4A (fun h=>by
 have h2:l=[]:=by simpa using h
 subst h2; exact a6x) (a6w l hl)
theorem a6v (l:l9K) (g e n:Nat) (hn:e+n=l.length) (hl:l.length < 1099511627776):AC 169 [(AV.osl 0 g 2 e n)] [(o_ g 2 (mK l))] ((AV.osl 0 (g+1) 2 0 n),[(o_ (g+1) 2 (mK (l.drop e)))]):=by
 have h:=a8H (l.drop e) b8o
 have e1:(l.drop e).length=n:=by rw [List.length_drop]; omega
 rw [e1] at h
 have e2:((l.map Key.row).drop e).take n=(l.drop e).map Key.row:=by rw [List.map_drop]; exact List.take_of_length_le (by rw [List.length_drop,List.length_map]; omega)
 exact j6.c4m h (tK (fun x=>rfl) _) (Key.y8 _ _) ⟨.osl (by simp [F5,hn,e2]) (Key.y8 _ _),trivial⟩
def c4i:Ann:={ base:=2,fin:=some 2 }
@[simp] abbrev cy_ (a:l9K) (b:Nat):=[[(iN ((List.length a))),(AV.osl 1 b 2 0 (List.length (l5 a)))]]
@[simp] abbrev b3o (a:l9K) (b:Nat):Heap:=[(o_ 0 2 (cy_ a b)),(o_ b 2 (mK (l5 a)))]
theorem b8M (al:l9K) (g:Nat) :AC 101 [(oO 0 0 0 0)] (b3o al g) ((iN al.length),(b3o al g)) :=
 q9 (fn:=Tryz.f101) (ann:=c4i) (Has.o Tryz.func101) (.r (.g (.qr 2 (iN ((List.length al))))))
def b9d:Ann:={ refs:=[3],own:=[19],base:=2,fin:=some 2 }
@[simp] abbrev c6G (a:l9K) (b:Key) (c:Nat):Heap:=[(o_ 0 2 [[(iN ((List.length (a++[b])))),(AV.osl 1 (c+1+1) 2 0 (List.length (l5 (a++[b]))))]]),(o_ (c+1+1) 2 (mK (l5 (a++[b]))))]
@[simp] abbrev b3n (a:l9K) (b:Nat):Ob:=(o_ 0 2 [[(iN ((List.length a)+1)),(AV.osl 1 (b+1) 2 0 ((List.length (l5 a))+1))]])
@[simp] abbrev c1Z (a:l9K) (b:Nat) (c:Key):Heap:=[b3n a b,(o_ (b+1) 2 (mK ((l5 a)++[c])))]
@[simp] abbrev c1Y (a:l9K) (b:Nat) (c:Key):Heap:=[b3n a b,(o_ ((b+1)+1) 2 (mK (((l5 a)++[c]).drop (((List.length (l5 a))+1) - 16))))]
theorem b4z (al:l9K) (k:Key) (g:Nat) (ha:al.length < 1000000):AC 125 [(AV.obj 0 0 0 0),(AV.agg (Key.row k))] (b3o al g) ((AV.int .i64 (((al++[k]).length:Nat):Int)),(c6G al k g)):=by
 have hr:=tT al
 have h1:=b8Z al k
 have h2:(l5 al).length+1 - ((l5 al).length+1 - 16)=(l5 (al++[k])).length:=by rw [<- h1]; simp
 exact q9 (fn:=Tryz.f125) (ann:=b9d) (Has.o Tryz.func125) (.r (.s (.y 4 (iW ((((List.length al):Nat):Int)+1)) (AV.int .i64 (((List.length al)+1:Nat):Int)) Yes.o (.s (.h' [(o_ 0 2 [[(AV.int .i64 (((List.length al)+1:Nat):Int)),(AV.osl 1 g 2 0 (List.length (l5 al)))]]),(o_ g 2 (List.map Key.row (l5 al)))] (.ao 7 31 (AV.osl 1 g 2 0 (List.length (l5 al))) (AV.sl .clip 2 [(Key.row k)]) (AV.osl 1 (g+1) 2 0 ((List.length (l5 al))+1)) [(o_ 0 2 [[(AV.int .i64 (((List.length al)+1:Nat):Int)),(AV.osl 1 g 2 0 (List.length (l5 al)))]]),(o_ (g+1) 2 (List.map Key.row ((l5 al)++[k])))] (J2 (T:=tt) (e:=28) (te:=a9K) (z:=1) (b:=24) (y:=[.sl .nil 0 []]) (row:=Key.row) (l:=(l5 al)) kr kr rfl E9 E9 kr aR om rfl rfl (by first | omega | (show _ * 32<=_; omega) | (simp; done) | (simp; omega))) (.s (.h' (c1Z al g k) (.y 10 (iW (((((List.length (l5 al))+1):Nat):Int) - 16)) (AV.int .i64 (((((List.length (l5 al))+1):Nat):Int) - 16)) Yes.o (.y 11 (.int .i64 (if ((((List.length (l5 al))+1):Nat):Int) - 16 > 0 then ((((List.length (l5 al))+1):Nat):Int) - 16 else 0)) (AV.int .i64 (((((List.length (l5 al))+1) - 16):Nat):Int)) (Yes.int eD) (.so 12 1 (g+1) 2 0 ((List.length (l5 al))+1) (((((List.length (l5 al))+1) - 16):Nat):Int) ((((List.length (l5 al))+1):Nat):Int) (AV.osl 1 (g+1) 2 (((List.length (l5 al))+1) - 16) (((List.length (l5 al))+1) - (((List.length (l5 al))+1) - 16))) (M4 (l:=(((List.length (l5 al))+1) - 16)) (h:=((List.length (l5 al))+1)) om om om om om om) (.ch 13 (c1Y al g k) (j6.put2 [1] (c1Z al g k) (AV.osl 1 ((g+1)+1) 2 0 (((List.length (l5 al))+1) - (((List.length (l5 al))+1) - 16))) (c1Y al g k) (a6v ((l5 al)++[k]) (g+1) (((List.length (l5 al))+1) - 16) (((List.length (l5 al))+1) - (((List.length (l5 al))+1) - 16)) oa oa) (⟨Ob.ren0 (Key.y8 0 _),trivial⟩) (⟨Ob.ren0 (Key.y8 0 _),trivial⟩)) (.s (.g (.h' [(o_ 0 2 [[(AV.int .i64 (((List.length al)+1:Nat):Int)),(AV.osl 1 ((g+1)+1) 2 0 (((List.length (l5 al))+1) - (((List.length (l5 al))+1) - 16)))]]),(o_ ((g+1)+1) 2 (List.map Key.row (((l5 al)++[k]).drop (((List.length (l5 al))+1) - 16))))] (.q 2 (AV.int .i64 (((List.length al)+1:Nat):Int)) (by (try delta b3o c6G c1Z c1Y b3n); rw [h2,h1,List.length_append]; rfl)))))))))))))))))
theorem a6f (l:l9K) (v:Key) (g q n:Nat) (hn:q+n=l.length) (hl:l.length < 1099511627776):AC 73 [(AV.osl 0 g 2 q n),(AV.agg (Key.row v))] [(o_ g 2 (mK l))] ((bB (aW (l.drop q) v)),[(o_ g 2 (mK l))]):=by
 have h:=zQ (l.drop q) v b8o
 have e2:((l.map Key.row).drop q).take n=(l.drop q).map Key.row:=by rw [List.map_drop]; exact List.take_of_length_le (by rw [List.length_drop,List.length_map]; omega)
 exact h.borrow rfl ⟨.osl (by simp [F5,hn,e2]) (Key.y8 _ _),.same (by simp [AV.bdd]),trivial⟩
def fC:Ann:={ gh:=[(11,.frz 7)],gha:=[(2,.any 4 2),(4,.vir 7 2),(10,.cut 3)],base:=2,fin:=some 2,live:=[(6,[6,7,46,47,48])],out:=[(6,[6,7,46,47,48])] }
@[simp] abbrev vD (a:l9K) (b:Nat):Ob:=(o_ 0 2 (cy_ a b))
@[simp] abbrev c6F (a:l9K) (b:Nat) (c:Nat) (d:l9K) (e:Nat) (f:Nat):Heap:=[vD a b,(o_ b 2 (mK (l5 a))),(o_ (c+1) 2 (mK (d++[(nth (l5 a) (e+f))])))]
@[simp] abbrev a7y (a:l9K) (b:Nat) (c:Nat) (d:l9K):Heap:=[vD a b,(o_ b 2 (mK (l5 a))),(o_ c 2 (mK d))]
@[simp] abbrev c1X (a:Nat) (b:Nat) (c:Nat) (d:Nat) (e:Nat) (f:Nat):Fr:=(mkF 66 [(6,(AV.osl 1 a 2 b c)),(7,(AV.osl 2 d 2 0 e)),(46,(AV.osl 1 a 2 b c)),(47,(iN c)),(48,(iN f))])
@[simp] abbrev a7x (a:l9K) (b:Nat) (c:Nat) (d:l9K):Heap:=[vD a b,(o_ b 2 (mK (l5 a))),(o_ c 2 (mK d)),(o_ 0 2 [[e_,e_]])]
@[simp] abbrev c1W (a:l9K) (b:Nat) (c:Nat) (d:l9K) (e:Nat) (f:Nat):Heap:=[vD a b,(o_ b 2 (mK (l5 a))),(o_ c 2 (mK d)),(o_ 0 2 [(Key.row (nth (l5 a) (e+f)))])]
@[simp] abbrev cz_ :=(l9 Tryz.prog (X fC) (y7 Tryz.f162 0))
theorem a1g (al:l9K) (gq:Nat) (q:Nat) (n:Nat) (out:l9K) (k:Nat) (g:Nat) (i:Nat) (hn:q+n=(l5 al).length) (hl:(l5 al).length < 1048576) (hk:k=out.length) (hki:k<=i) (hle_:i<=n) {eX:Ex} {FX:Fr} {HX:Heap} (k1:(decide ((i:Int) < (n:Int)))=true->(!(aW ((l5 al).drop (q+(i+1))) (nth (l5 al) (q+i))))=true->l7 cz_ (some [6,7,46,47,48]) (some [6,7,46,47,48]) (mkF 66 [(6,(AV.osl 1 gq 2 q n)),(7,(AV.osl 2 (g+1) 2 0 (k+1))),(46,(AV.osl 1 gq 2 q n)),(47,(iN n)),(48,(iN (i+1)))]) (c6F al gq g out q i) eX FX HX) (k2:(decide ((i:Int) < (n:Int)))=true->(!(aW ((l5 al).drop (q+(i+1))) (nth (l5 al) (q+i))))=false->l7 cz_ (some [6,7,46,47,48]) (some [6,7,46,47,48]) (mkF 66 [(6,(AV.osl 1 gq 2 q n)),(7,(AV.osl 2 g 2 0 k)),(46,(AV.osl 1 gq 2 q n)),(47,(iN n)),(48,(iN (i+1)))]) (a7y al gq g out) eX FX HX) (k3:(decide ((i:Int) < (n:Int)))=false->((.exit 0:Ex),(c1X gq q n g k i),(a7y al gq g out))=(eX,FX,HX)):l7 cz_ (some [6,7,46,47,48]) (some [6,7,46,47,48]) (c1X gq q n g k i) (a7y al gq g out) eX FX HX :=
 K7 (.r (.g (.two (decide ((i:Int) < (n:Int))) (fun h1 h1'=>(.r (.h' (a7x al gq g out) (.io 1 1 gq 2 2 q n (i:Int) (q+i) (G6.mko i _ ow ow ow) (.t 2 (AV.agg (Key.row (nth (l5 al) (q+i)))) (a7x al gq g out) (K9 (F4 (row:=Key.row) (l:=(l5 al)) (k:=2) (room:=none) kr om) kr:P8 tt 28 0 (a7x al gq g out) (rowAt (a7x al gq g out) 1 gq (q+i))=some ((AV.agg (Key.row (nth (l5 al) (q+i)))),(a7x al gq g out))) (.s (.h' (c1W al gq g out q i) (.y 2 (.int .i64 (ca_ i)) (iN (i+1)) Yes.o (.so 3 1 gq 2 q n ((i+1:Nat):Int) (n:Int) (AV.osl 1 gq 2 (q+(i+1)) (n - (i+1))) (M4 (l:=i+1) (h:=n) om om om om om om) (.c 5 (j6.put2 [1] (c1W al gq g out q i) (bB (aW ((l5 al).drop (q+(i+1))) (nth (l5 al) (q+i)))) (c1W al gq g out q i) (a6f (l5 al) (nth (l5 al) (q+i)) gq (q+(i+1)) (n - (i+1)) oa oa) (⟨Ob.ren0 (Key.y8 0 _),trivial⟩) (⟨Ob.ren0 (Key.y8 0 _),trivial⟩)) (.g (.two (!(aW ((l5 al).drop (q+(i+1))) (nth (l5 al) (q+i)))) (fun h2 h2'=>(.r (.ap 3 31 (AV.osl 2 g 2 0 k) (AV.sl .clip 2 [(Key.row (nth (l5 al) (q+i)))]) (AV.osl 2 (g+1) 2 0 (k+1)) [(o_ 0 2 (cy_ al gq)),(o_ gq 2 (mK (l5 al))),(o_ (g+1) 2 (mK (out++[(nth (l5 al) (q+i))]))),(o_ 0 2 [(Key.row (nth (l5 al) (q+i)))])] (K3 (row:=Key.row) (l:=out) (x:=(nth (l5 al) (q+i))) (T:=tt) (e:=28) (te:=a9K) (z:=1) (b:=24) (y:=[.sl .nil 0 []]) kr kr rfl E9 E9 kr fB rfl rfl (by first | omega | (show _ * 32<=_; omega) | (simp; omega))) (.s (.y 0 (.int .i64 (ca_ i)) (iN (i+1)) Yes.o (.h' (c6F al gq g out q i) (.b 3 (.g (.l (k1 h1 h2)))))))))) (fun h2 h2'=>(.r (.y 0 (.int .i64 (ca_ i)) (iN (i+1)) Yes.o (.h' (a7y al gq g out) (.b 3 (.g (.l (k2 h1 h2)))))))))))))))))))) (fun h1 h1'=>(.l (k3 h1))))))
def nU (al:List Key) (gq:Nat) (q:Nat) (n:Nat) (i:Nat) (s:(List Key) × Nat × Nat):(List Key) × Nat × Nat:=(if (!(aW ((l5 al).drop (q+(i+1))) (nth (l5 al) (q+i))))=true then (s.1++[(nth (l5 al) (q+i))],(s.2.1+1),(s.2.2+1)) else (s.1,s.2.1,s.2.2))
theorem b0c (al:l9K) (gq:Nat) (q:Nat) (n:Nat) (hn:q+n=(l5 al).length) (hl:(l5 al).length < 1048576)  (r_:Nat):∀ (out:l9K) (k:Nat) (g:Nat) (i:Nat) (sF:(l9K) × Nat × Nat),i+r_=n->k=out.length->k<=i->sF=iter (nU al gq q n) r_ i (out,k,g) ->
 l7 (l9 Tryz.prog (X fC) (y7 Tryz.f162 0)) (some [6,7,46,47,48]) (some [6,7,46,47,48]) (c1X gq q n g k i) (a7y al gq g out) (.exit 0) (mkF 66 [(6,(AV.osl 1 gq 2 q n)),(7,(AV.osl 2 sF.2.2 2 0 sF.2.1)),(46,(AV.osl 1 gq 2 q n)),(47,(iN n)),(48,(iN n))]) [(o_ 0 2 [[(iN ((List.length al))),(AV.osl 1 gq 2 0 (List.length (l5 al)))]]),(o_ gq 2 (mK (l5 al))),(o_ sF.2.2 2 (mK sF.1))]:=by
 induction r_ with
 | zero =>
  intro out k g i sF hi_ hk hki  hF
  obtain rfl:n=i:=by omega
  have e_:sF=(out,k,g):=hF
  refine a1g al gq q n out k g n hn hl hk hki (Nat.le_refl _) (fun h _=>by simp at h <;> omega) (fun h _=>by simp at h <;> omega) (fun _=>?_)
  first | done | rfl | (rw [e_]; done) | (rw [e_]; rfl)
 | succ r_ ih =>
  intro out k g i sF hi_ hk hki  hF
  refine a1g al gq q n out k g i hn hl hk hki ow (fun h1 h2=>?_) (fun h1 h2=>?_) (fun h=>by simp at h <;> omega)
  · exact ih (out++[(nth (l5 al) (q+i))]) (k+1) (g+1) (i+1) sF ow R6 R6  (by rw [hF] <;> simp only [iter,nU,h2,if_true,Bool.false_eq_true,if_false])
  · exact ih out k g (i+1) sF ow R6 R6  (by rw [hF] <;> simp only [iter,nU,h2,if_true,Bool.false_eq_true,if_false])
theorem a7P (al:l9K) (gq q n:Nat) (hn:q+n=(l5 al).length) (r:Nat):∀ (i:Nat) (out:l9K) (k g:Nat),i+r=n ->
 iter (nU al gq q n) r i (out,k,g)=(out++J6 ((l5 al).drop (q+i)),k+(J6 ((l5 al).drop (q+i))).length,g+(J6 ((l5 al).drop (q+i))).length):=by
 induction r with
 | zero =>
  intro i out k g hi
  have:(l5 al).drop (q+i)=[]:=List.drop_of_length_le ow
  rw [this]; simp [iter,J6]
 | succ r ih =>
  intro i out k g hi
  rw [aY (show q+i < (l5 al).length by omega)]
  simp only [iter,J6,nU]
  have e1:q+i+1=q+(i+1):=by omega
  rw [e1]
  by_cases h:(!(aW ((l5 al).drop (q+(i+1))) (nth (l5 al) (q+i))))=true
  · rw [if_pos h,if_pos h,ih (i+1) _ _ _ ow]; simp; omega
  · rw [if_neg h,if_neg h,ih (i+1) _ _ _ ow]
theorem b0d (al:l9K) (gq q n:Nat) (hn:q+n=(l5 al).length):(J6 ((l5 al).drop q),(J6 ((l5 al).drop q)).length,(J6 ((l5 al).drop q)).length)=iter (nU al gq q n) n 0 ([],0,0):=by
 rw [a7P al gq q n hn n 0 [] 0 0 ow]; simp
@[simp] abbrev rE (a:l9K) (b:Nat):Heap:=[vD a b,(o_ b 2 (mK (l5 a)))]
@[simp] abbrev c5O (a:Nat) (b:l9K) (c:Nat):=(AV.osl 1 a 2 ((List.length (l5 b)) - ((List.length b) - c)) ((List.length (l5 b)) - ((List.length (l5 b)) - ((List.length b) - c))))
@[simp] abbrev c6E (a:Nat) (b:l9K) (c:Nat):Fr:=(mkF 66 [(6,(c5O a b c)),(7,(AV.osl 2 (J6 ((l5 b).drop ((List.length (l5 b)) - ((List.length b) - c)))).length 2 0 (J6 ((l5 b).drop ((List.length (l5 b)) - ((List.length b) - c)))).length)),(46,(c5O a b c)),(47,(iN (((List.length (l5 b)) - ((List.length (l5 b)) - ((List.length b) - c)))))),(48,(iN (((List.length (l5 b)) - ((List.length (l5 b)) - ((List.length b) - c))))))])
@[simp] abbrev c1V (a:l9K) (b:Nat) (c:Nat):Heap:=[vD a b,(o_ b 2 (mK (l5 a))),(o_ ((J6 ((l5 a).drop ((List.length (l5 a)) - ((List.length a) - c)))).length) 2 (mK (J6 ((l5 a).drop ((List.length (l5 a)) - ((List.length a) - c))))))]
theorem a7Q (al:l9K) (g:Nat) (n:Nat) (ha:al.length < 1000000) (h1:n<=al.length) (h2:al.length - n<=16):AC 162 [(AV.obj 0 0 0 0),(AV.int .i64 (n:Int))] (rE al g) ((AV.tup [(AV.sl .any 2 (List.map Key.row (J6 (al.drop n)))),(AV.bool true)]),(rE al g)):=by
 have hr:=tT al
 have h3:=b0t h1 h2
 have h4:=a1F (al.drop n)
 have h5:(al.drop n).length=al.length - n:=List.length_drop
 exact q9 (fn:=Tryz.f162) (ann:=fC) (Has.o Tryz.func162) (.r (.s (.y 1 (AV.bool (decide ((n:Int) < 0))) (AV.bool false) (Yes.b yf_) (.n6 (.y 8 (AV.bool (decide ((n:Int) > (((List.length al):Nat):Int)))) (AV.bool false) (Yes.b yh_) (.n6 (.y 16 (iW ((((List.length al):Nat):Int) - (n:Int))) (AV.int .i64 (((List.length al) - n:Nat):Int)) Yes.o (.n (.y 17 (AV.bool (decide ((((List.length al) - n:Nat):Int) > 16))) (AV.bool false) (Yes.b yh_) (.rn (.y 14 (iW ((((List.length al):Nat):Int) - (n:Int))) (AV.int .i64 (((List.length al) - n:Nat):Int)) Yes.o (.y 15 (iW ((((List.length (l5 al)):Nat):Int) - (((List.length al) - n:Nat):Int))) (AV.int .i64 (((List.length (l5 al)) - ((List.length al) - n):Nat):Int)) Yes.o (.so 16 1 g 2 0 (List.length (l5 al)) (((List.length (l5 al)) - ((List.length al) - n):Nat):Int) (((List.length (l5 al)):Nat):Int) (AV.osl 1 g 2 ((List.length (l5 al)) - ((List.length al) - n)) ((List.length (l5 al)) - ((List.length (l5 al)) - ((List.length al) - n)))) (M4 (l:=(List.length (l5 al)) - ((List.length al) - n)) (h:=(List.length (l5 al))) om om om om om om) (.s (.s (.g (.loop (c6E g al n) (show l7 (l9 Tryz.prog (X fC) (y7 Tryz.f162 0)) (some [6,7,46,47,48]) (some [6,7,46,47,48]) (mkF 66 [(6,(AV.osl 1 g 2 ((List.length (l5 al)) - ((List.length al) - n)) ((List.length (l5 al)) - ((List.length (l5 al)) - ((List.length al) - n))))),(7,(AV.osl 2 0 2 0 0)),(46,(AV.osl 1 g 2 ((List.length (l5 al)) - ((List.length al) - n)) ((List.length (l5 al)) - ((List.length (l5 al)) - ((List.length al) - n))))),(47,(AV.int .i64 (((List.length (l5 al)) - ((List.length (l5 al)) - ((List.length al) - n)):Nat):Int))),(48,(AV.int .i64 0))]) [(o_ 0 2 [[(AV.int .i64 (((List.length al):Nat):Int)),(AV.osl 1 g 2 0 (List.length (l5 al)))]]),(o_ g 2 (List.map Key.row (l5 al))),(o_ 0 2 (List.map Key.row []))] (.exit 0) (c6E g al n) (c1V al g n) from (b0c al g ((List.length (l5 al)) - ((List.length al) - n)) ((List.length (l5 al)) - ((List.length (l5 al)) - ((List.length al) - n))) ow ow ((List.length (l5 al)) - ((List.length (l5 al)) - ((List.length al) - n))) [] 0 0 0 (J6 (List.drop ((List.length (l5 al)) - ((List.length al) - n)) (l5 al)),(J6 (List.drop ((List.length (l5 al)) - ((List.length al) - n)) (l5 al))).length,(J6 (List.drop ((List.length (l5 al)) - ((List.length al) - n)) (l5 al))).length) ow rfl ow (b0d _ _ _ _ ow))) (.r (.w 7 (List.map Key.row (J6 ((l5 al).drop ((List.length (l5 al)) - ((List.length al) - n))))) (And.intro (G9 (room:=none) kr (by first | omega | (simp [h3]; done) | (simp [h3]; omega))) (Key.y8 _ _):F5 (c1V al g n) 2 (AV.osl 2 (J6 ((l5 al).drop ((List.length (l5 al)) - ((List.length al) - n)))).length 2 0 (J6 ((l5 al).drop ((List.length (l5 al)) - ((List.length al) - n)))).length)=some (List.map Key.row (J6 ((l5 al).drop ((List.length (l5 al)) - ((List.length al) - n)))))/\AV.D5 0 (List.map Key.row (J6 ((l5 al).drop ((List.length (l5 al)) - ((List.length al) - n)))))=true) (.g (.h' (rE al g) (.q 2 (AV.tup [(AV.sl .any 2 (List.map Key.row (J6 ((l5 al).drop ((List.length (l5 al)) - ((List.length al) - n)))))),(AV.bool true)]) (by (try delta rE c1V vD); rw [h3])))))))))))))))))))))))
@[simp] abbrev c1l :=(AV.tup [(sA 2 []),bF])
theorem a5n (al:l9K) (g:Nat) (n:Int) (ha:al.length < 1000000) (h:n < 0):AC 162 [(oO 0 0 0 0),(iI n)] (rE al g) ((AV.tup [(sA 2 (mK [])),bF]),(rE al g)) :=
 q9 (fn:=Tryz.f162) (ann:=fC) (Has.o Tryz.func162) (.r (.s (.y 1 (bB (decide (n < 0))) bT (Yes.b yh_) (.u6 (.u6 (.u (.g (.u (.qr 2 c1l)))))))))
theorem a5m (al:l9K) (g:Nat) (n:Int) (ha:al.length < 1000000) (h:0<=n) (h1:(al.length:Int) < n):AC 162 [(oO 0 0 0 0),(iI n)] (rE al g) ((AV.tup [(sA 2 (mK [])),bF]),(rE al g)) :=
 q9 (fn:=Tryz.f162) (ann:=fC) (Has.o Tryz.func162) (.r (.s (.y 1 (bB (decide (n < 0))) bF (Yes.b yh_) (.n6 (.y 8 (bB (decide (n > (((List.length al):Nat):Int)))) bT (Yes.b yh_) (.u6 (.u (.g (.u (.qr 2 c1l))))))))))
theorem a5l (al:l9K) (g:Nat) (n:Nat) (ha:al.length < 1000000) (h1:n<=al.length) (h2:16 < al.length - n):AC 162 [(oO 0 0 0 0),(iN n)] (rE al g) ((AV.tup [(sA 2 (mK [])),bF]),(rE al g)) :=
 q9 (fn:=Tryz.f162) (ann:=fC) (Has.o Tryz.func162) (.r (.s (.y 1 (bB (decide ((n:Int) < 0))) bF (Yes.b yf_) (.n6 (.y 8 (bB (decide ((n:Int) > (((List.length al):Nat):Int)))) bF (Yes.b yh_) (.n6 (.y 16 (iW ((((List.length al):Nat):Int) - (n:Int))) (iN ((List.length al) - n)) Yes.o (.n (.y 17 (bB (decide ((((List.length al) - n:Nat):Int) > 16))) bT (Yes.b yh_) (.g (.u (.qr 2 c1l))))))))))))
theorem a1h (al:l9K) (g:Nat) (n:Int) (ha:al.length < 1000000):AC 162 [(oO 0 0 0 0),(iI n)] [(o_ 0 2 [[(iN ((List.length al))),(AV.osl 1 g 2 0 (List.length (l5 al)))]]),(o_ g 2 (mK (l5 al)))] ((AV.tup [(sA 2 (mK (H9 al n))),(bB (okS al n))]),[(o_ 0 2 [[(iN ((List.length al))),(AV.osl 1 g 2 0 (List.length (l5 al)))]]),(o_ g 2 (mK (l5 al)))]):=by
 by_cases h:n < 0\/(al.length:Int) < n\/16 < (al.length:Int) - n
 · rw [a5o h,a3D h]
   by_cases h0:n < 0
   · exact a5n al g n ha h0
   · by_cases h1:(al.length:Int) < n
     · exact a5m al g n ha ow h1
     · obtain ⟨m,rfl⟩:=Int.eq_ofNat_of_zero_le (show 0<=n by omega)
       exact a5l al g m ha ow ow
 · obtain ⟨m,rfl⟩:=Int.eq_ofNat_of_zero_le (show 0<=n by omega)
   rw [b0e ow ow,a9f ow ow]
   exact a7Q al g m ha ow ow
def J8 (s:ByteArray):List Int:=s.data.toList.map fun b=>(b.toNat:Int)
theorem oC (s:ByteArray):(J8 s).length=s.size:=by unfold J8; rw [List.length_map]; rfl
theorem b8Y (H:Heap) (s:ByteArray):F5 H 1 (.str s)=some ((J8 s).map rU8):=by
 simp [F5,J8,rU8,Function.comp_def]
theorem b4e {H:Heap} {s:ByteArray} {lo hi:Int} {l h:Nat} (hlo:lo=(l:Int)) (hhi:hi=(h:Int)) (h1:l<=h) (h2:h<=s.size) :
 Option.map (fun a=>(a,H)) ((bounds lo hi s.size).map fun p=>AV.str (s.extract p.1 p.2))=some (.str (s.extract l h),H):=by
 subst hlo hhi
 unfold bounds
 rw [if_pos ⟨by omega,by omega,by omega⟩]
 simp
end Go.Proofs.YtmghjcbabebanaaGreat.AM
