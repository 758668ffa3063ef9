/-
  Texts of this claim, part 3 of 8: an abstract machine over the model; what functions come to; plain laws.
-/
import Derived.Test.YtfjedpipdnlkfaaGreatMZ42
import Derived.Laws.Externs
set_option linter.unusedVariables false
set_option linter.unusedSimpArgs false
namespace Go.Proofs.YtfjedpipdnlkfaaGreat.AM
open Go
theorem a4n {xs new:List (List AV)} {q:Nat} (hq:q<=xs.length) (r:Nat) (hr:r < (xs.take q++new++xs.drop (q+new.length)).length) :
 if q<=r/\r < q+new.length then (xs.take q++new++xs.drop (q+new.length)).getD r []=new.getD (r - q) [] else r < xs.length/\(xs.take q++new++xs.drop (q+new.length)).getD r []=xs.getD r []:=by
 have hl:(xs.take q).length=q:=by simp; omega
 simp only [List.getD_eq_getElem?_getD]
 split
 · rename_i h
   rw [List.append_assoc,List.getElem?_append_right ya_,hl,List.getElem?_append_left ya_]
 · rename_i h
   simp only [List.length_append,hl,List.length_drop] at hr
   rcases Nat.lt_or_ge r q with h1 | h1
   · refine ⟨by omega,?_⟩
     rw [List.append_assoc,List.getElem?_append_left ya_,List.getElem?_take_of_lt h1]
   · have h2:q+new.length<=r:=by omega
     refine ⟨by omega,?_⟩
     rw [List.getElem?_append_right (by simp [hl]; omega),List.getElem?_drop]
     congr 2
     simp [hl]; omega
theorem sK {G:Nat->Prop} {w:World} {C:Cx} {H:Heap} (hH:HR G w C H) {id:Nat} {o:Ob} {l:Loc} {bb k q:Nat} (ho:H[id]?=some o) (hι:C.ι id=some l) (hlb:l.b=some bb) (hlk:l.k=k)
 {new:List (List AV)} {nv:List Value} (hlen0:nv.length=new.length * k) (hrow0:∀ i,i < new.length->(new.getD i []).length=k) (hrel0:∀ i j,i < new.length->j < k->(nv.getD (i * k+j) undef).oneCell'=true/\VR G w C ((new.getD i []).getD j .skip) (nv.getD (i * k+j) undef)) (hq:q<=o.els.length) (hroom:q+new.length<=l.room) {cur:Array Value} {et:TypeId} (hcur:w.heap[bb]?=some (.cells cur et (0,0))) :
 Ev G w C G (w.setRow bb (cur.toList.take (l.sh+q * l.k)++nv++cur.toList.drop (l.sh+q * l.k+nv.length)).toArray) C /\
 HR G (w.setRow bb (cur.toList.take (l.sh+q * l.k)++nv++cur.toList.drop (l.sh+q * l.k+nv.length)).toArray) C (H.set id { o with els:=o.els.take q++new++o.els.drop (q+new.length) }):=by
 have hob:=hH.ob id o l ho hι
 have hgγ:=hH.gen id o ho
 obtain ⟨hk1,hrm1,hno1,hlen1,hrow1,hcs1⟩:=hob
 obtain ⟨cur',et',hcur',hcsz,hcell⟩:=hcs1 bb hlb
 obtain ⟨rfl,rfl⟩:cur'=cur/\et'=et:=by rw [hcur] at hcur'; simp at hcur'; exact ⟨hcur'.1.symm,hcur'.2.symm⟩
 have hlt:id < H.length:=by
  rcases Nat.lt_or_ge id H.length with h' | h'
  · exact h'
  · rw [List.getElem?_eq_none h'] at ho; simp at ho
 have hm:(q+new.length) * l.k<=l.room * l.k:=Nat.mul_le_mul_right _ hroom
 rw [Nat.add_mul] at hm
 have hnvl:nv.length=new.length * l.k:=by rw [hlen0,hlk]
 have hev:Mv G w C G (w.setRow bb (cur'.toList.take (l.sh+q * l.k)++nv++cur'.toList.drop (l.sh+q * l.k+nv.length)).toArray) C :=
  ⟨fun _ h=>h,fun b' hb'=>setRow_other w _ _ _ fun e'=>(hH.own id l bb hι hlb).2 (e' ▸ hb'),V3.refl _⟩
 refine hH.upd (G':=G) (C':=C) id { o with els:=o.els.take q++new++o.els.drop (q+new.length) } rfl rfl rfl (fun j hj=>⟨rfl,rfl⟩) (Nat.le_refl _) (fun _ l2 hl2=>hl2)
  (fun j hj=>List.getElem?_set_ne (Ne.symm hj)) (List.getElem?_set_self hlt) yf_ ya_ hgγ (fun _ h=>h) (fun _ h=>.inl h)
  (fun b' _ hb'=>setRow_other w _ _ _ fun e'=>hb' l hι (by rw [hlb,e'])) yf_ (fun b' hb'=>by simpa using hH.gsz b' hb') (fun l2 b2 hl2 hb2=>.inl ⟨l2,hl2,hb2⟩) (nU w _ _ _ _ _ hcur) fun l2 hl2=>?_
 obtain rfl:l=l2:=by rw [hι] at hl2; simpa using hl2
 have hlsz:(cur'.toList.take (l.sh+q * l.k)++nv++cur'.toList.drop (l.sh+q * l.k+nv.length)).length=cur'.size:=by simp; omega
 have hlb':∀ b2,l.b=some b2->b2=bb:=fun b2 h2=>by rw [hlb] at h2; simpa using h2.symm
 refine ⟨fun b2 hb2=>?_,hk1,hrm1,hno1,by simp only [List.length_append,List.length_take,List.length_drop]; omega,fun r hr'=>?_,fun b2 hb2=>?_⟩
 · rw [hlb' b2 hb2]
   exact ⟨by simpa using (hH.own id l bb hι hlb).1,(hH.own id l bb hι hlb).2,fun j hj l2 hl2 e'=>hj (hH.inj _ _ _ _ bb hl2 hι e' hlb)⟩
 · have:=a4n hq r hr'
   split at this
   · rw [this,hlk]; exact hrow0 _ ya_
   · rw [this.2]; exact hrow1 _ this.1
 · rw [hlb' b2 hb2]
   refine ⟨_,et',setRow_heap w _ _ _ _ _ hcur,?_,fun r j hr' hj=>?_⟩
   · have h2:(cur'.toList.take (l.sh+q * l.k)++nv++cur'.toList.drop (l.sh+q * l.k+nv.length)).toArray.size=cur'.size:=by simpa using hlsz
     rw [h2]; exact hcsz
   · have hA2:((cur'.toList.take (l.sh+q * l.k)++nv++cur'.toList.drop (l.sh+q * l.k+nv.length)).toArray).getD (l.sh+r * l.k+j) undef=if q<=r/\r < q+new.length then nv.getD ((r - q) * l.k+j) undef else cur'.toList.getD (l.sh+r * l.k+j) undef:=by
      rw [<- a7c (xs:=new) hnvl (by rw [hnvl]; simp; omega) hj]
      simp [Array.getD_eq_getD_getElem?,List.getD_eq_getElem?_getD]
     rw [hA2]
     have:=a4n hq r hr'
     split at this
     · rename_i hin
       rw [if_pos hin,this]
       obtain ⟨h3,h4⟩:=hrel0 (r - q) j ya_ ya_
       rw [<- hlk] at h3 h4
       exact ⟨h3,h4.mv hev⟩
     · rename_i hin
       rw [if_neg hin,this.2]
       have hcg:cur'.toList.getD (l.sh+r * l.k+j) undef=cur'.getD (l.sh+r * l.k+j) undef:=by simp [Array.getD_eq_getD_getElem?,List.getD_eq_getElem?_getD]
       rw [hcg]
       obtain ⟨h3,h4⟩:=hcell r j this.1 hj
       exact ⟨h3,h4.mv hev⟩
theorem b7M {P:Program} {F:Fr} {H:Heap} {dst:Option Tmp} {x y:Operand} {t t' e0:TypeId} {type:TypeId} {pos:String} {after:Array Edge} {guard:Option (Nat × Bool)} {id g k e n:Nat} {els new:List (List AV)} {room:Option Nat} {s:AV}
 (ht:P.underlying t=some (.slice e0)) (hk:∀ w:World,(Go.sizeOf e0).run P w=.ok k w) (hx:opv F x=some (.osl id g k e n)) (ho:H[id]?=some ⟨g,k,els,room⟩) (hy:opv F y=some s) (hs:F5 H k s=some new)
 (h0:0 < new.length) (hn:new.length<=n) (he:e<=els.length) :
 kP P F H ⟨dst,.call { callee:=.builtin .copy,args:=#[x,y],argTypes:=#[t,t'] },type,pos,after,guard⟩ (.int .i64 (new.length:Int),H.set id ⟨g,k,els.take e++new++els.drop (e+new.length),room⟩):=by
 intro G w C f hf hH
 have hv:=hf x yq_ _ hx
 have hvs:=hf y yq_ _ hy
 have hgen:g=C.γ id:=hH.gen id _ ho
 obtain ⟨nv,hsrc⟩:=iK (P:=P) hH hvs hs
 generalize hu:f x=u at hv
 cases hv with
 | osl0=>omega
 | osl _ _ _ _ _ _ ad cap hnc hle h =>
  obtain ⟨l,bb,hι,hlb,hlk,hen,hcap,had⟩:=h hgen
  have had':=had ya_
  subst had'
  have hob:=hH.ob id _ l ho hι
  obtain ⟨cur,et,hcur,hcsz,_⟩:=hob.cells bb hlb
  obtain ⟨h1,h2⟩:=sK hH ho hι hlb hlk hsrc.length hsrc.row hsrc.rel he ya_ hcur
  have hm:(e+new.length) * l.k<=l.room * l.k:=Nat.mul_le_mul_right _ ya_
  rw [Nat.add_mul] at hm
  have hnvl:nv.length=new.length * l.k:=by rw [hsrc.length,hlk]
  have hst:=run_storeCells_at P bb (l.sh+e * k) et nv 0 cur w hcur (by rw [<- hlk]; simp; omega) hsrc.oneCell
  simp only [Nat.add_zero] at hst
  have hmin:Nat.min new.length n=new.length:=Nat.min_eq_left hn
  have hr:(Builtin.copy_ #[t,t'] type #[f x,f y]).run P w=.ok (.int .i64 (new.length:Int)) (w.setRow bb (cur.toList.take (l.sh+e * l.k)++nv++cur.toList.drop (l.sh+e * l.k+nv.length)).toArray):=by
   rw [hu,hlk]
   simp [Builtin.copy_,run_underlying ht,hsrc.len w,hmin,hk w,hsrc.cells w rfl,hst,goInt]
  refine ⟨_,_,?_,G,C,h1,h2,.int ..,?_⟩
  · simp [execOp,resolve,invoke,builtin,hr]
  · refine ⟨by simp,fun j hj _ hιj=>⟨hιj,rfl,?_⟩⟩
    have hne:id≠j:=fun e'=>by subst e'; rw [hι] at hιj; simp at hιj
    exact List.getElem?_set_ne hne
theorem b2p {P:Program} {F:Fr} {H:Heap} {dst:Option Tmp} {x:Operand} {t e0:TypeId} {type:TypeId} {pos:String} {after:Array Edge} {guard:Option (Nat × Bool)} {id g k e n:Nat} {els:List (List AV)} {room:Option Nat} {z:Value}
 (ht:P.underlying t=some (.slice e0)) (hz:∀ w:World,(zeroValue e0).run P w=.ok z w) (hzs:z.cells.size=k) (hz1:∀ v∈z.cells.toList,v.oneCell'=true) (hk0:0 < k) (hx:opv F x=some (.osl id g k e n)) (ho:H[id]?=some ⟨g,k,els,room⟩)
 (h0:0 < n) (he:e<=els.length) :
 kP P F H ⟨dst,.call { callee:=.builtin .clear,args:=#[x],argTypes:=#[t] },type,pos,after,guard⟩ (.unk,H.set id ⟨g,k,els.take e++List.replicate n (List.replicate k .unk)++els.drop (e+n),room⟩):=by
 intro G w C f hf hH
 have hv:=hf x yq_ _ hx
 have hgen:g=C.γ id:=hH.gen id _ ho
 generalize hu:f x=u at hv
 cases hv with
 | osl0=>omega
 | osl _ _ _ _ _ _ ad cap hnc hle h =>
  obtain ⟨l,bb,hι,hlb,hlk,hen,hcap,had⟩:=h hgen
  have had':=had ya_
  subst had'
  have hob:=hH.ob id _ l ho hι
  obtain ⟨cur,et,hcur,hcsz,_⟩:=hob.cells bb hlb
  have hzl:(Builtin.zeroCells z.cells n).toList.length=n * k:=by simp [Builtin.zeroCells,hzs]
  have hone:∀ v∈(Builtin.zeroCells z.cells n).toList,v.oneCell'=true:=fun v hv=>by
   simp only [Builtin.zeroCells,Array.toList_map,List.mem_map] at hv
   obtain ⟨i,hi,rfl⟩:=hv
   refine hz1 _ ?_
   have hlt:i % z.cells.size < z.cells.size:=Nat.mod_lt _ ya_
   rw [getElem!_pos z.cells _ hlt]
   simp
  have hl2:(List.replicate n (List.replicate k AV.unk)).length=n:=by simp
  obtain ⟨h1,h2⟩:=sK (new:=List.replicate n (List.replicate k AV.unk)) (nv:=(Builtin.zeroCells z.cells n).toList) hH ho hι hlb hlk (by rw [hl2,hzl]) (fun i hi=>by
   rw [hl2] at hi
   simp [List.getD_eq_getElem?_getD,List.getElem?_replicate,hi]) (fun i j hi hj=>by
   rw [hl2] at hi
   have hlt:=jA hi hj
   refine ⟨?_,?_⟩
   · rw [List.getD_eq_getElem?_getD,List.getElem?_eq_getElem (by rw [hzl]; exact hlt)]
     exact hone _ (List.getElem_mem _)
   · simp only [List.getD_eq_getElem?_getD,List.getElem?_replicate,hi,hj,if_true,Option.getD_some]
     exact .unk ..) he (by rw [hl2]; omega) hcur
  rw [hl2] at h2
  have hm:(e+n) * l.k<=l.room * l.k:=Nat.mul_le_mul_right _ ya_
  rw [Nat.add_mul] at hm
  have hst:=run_storeCells_at P bb (l.sh+e * k) et (Builtin.zeroCells z.cells n).toList 0 cur w hcur (by rw [hzl,<- hlk]; simp; omega) hone
  simp only [Nat.add_zero] at hst
  have hn0:n≠0:=by omega
  have hr:(Builtin.clear_ #[t] type #[f x]).run P w=.ok (.tuple #[]) (w.setRow bb (cur.toList.take (l.sh+e * l.k)++(Builtin.zeroCells z.cells n).toList++cur.toList.drop (l.sh+e * l.k+(Builtin.zeroCells z.cells n).toList.length)).toArray):=by
   rw [hu,hlk]
   simp only [Builtin.clear_]
   cases n with
   | zero=>omega
   | succ n=>simp [run_underlying ht,hz w,hst]
  refine ⟨.tuple #[],_,?_,G,C,h1,h2,.unk ..,?_⟩
  · simp [execOp,resolve,invoke,builtin,hr]
  · refine ⟨by simp,fun j hj _ hιj=>⟨hιj,rfl,?_⟩⟩
    have hne:id≠j:=fun e'=>by subst e'; rw [hι] at hιj; simp at hιj
    exact List.getElem?_set_ne hne
theorem a1V {P:Program} {G:Nat->Prop} {w:World} {C:Cx} {t t' ty e:TypeId} {i:TypeInfo} {z:Value} {kk kx:IntKind} (ht:P.underlying t=some (.slice e)) (ht':P.underlying t'=some (.int kk)) (hi:P.info? e=some i) (hz:i.zero=some z)
 (c:Nat) {ys:List (List AV)} {ov:List Value} (base:Option Addr) (sLen sCap:Nat) (ho:Src P G w C i.size (.slice base sLen sCap) ys ov) (hlen:ys.length=sLen)
 (hg:sCap < sLen+c) (hb:0 < i.bytes) (hs:0 < i.size) (hc:0 < c) (hby:(sLen+c) * i.bytes<=140737488355328) :
 (Builtin.append_ #[t,t'] ty #[.slice base sLen sCap,.int kx (c:Int)]).run P w =
  .ok (.slice (some ⟨w.heap.size,0,none⟩) (sLen+c) (grownCap w (sLen+c) sCap e))
   (w.drew.alloc (.cells (ov.toArray++Builtin.zeroCells z.cells c++Builtin.zeroCells z.cells (grownCap w (sLen+c) sCap e - (sLen+c))) e)):=by
 subst hlen
 have hn:¬ (ys.length+c<=sCap):=by omega
 have hfit:=growslice_fits hg hby
 have h48':¬ (281474976710656 < Builtin.nextslicecap (ys.length+c) sCap * i.bytes):=by omega
 have hb0:¬ i.bytes=0:=by omega
 have hfo:=ho.cells w.drew rfl
 have hcb:c * 1<=c * i.bytes:=Nat.mul_le_mul_left _ hb
 have hcm:c * i.bytes<=(ys.length+c) * i.bytes:=Nat.mul_le_mul_right _ ya_
 have hcs:c<=140737488355328:=by omega
 have hw:IntKind.i64.wrap (c:Int)=(c:Int):=a2n ya_ ya_
 have hcs0:¬ (c * i.size=0):=by
  have:=Nat.mul_pos hc hs; omega
 have h0:¬ ((c:Int) < 0):=by omega
 have h48:¬ ((281474976710656:Int) < (c:Int) * (i.bytes:Int)):=by
  have:((c * i.bytes:Nat):Int)<=140737488355328:=by omega
  rw [Int.natCast_mul] at this; omega
 have hmx:¬ ((9223372036854775807:Int) < (ys.length:Int)+(c:Int)):=by
  have:(ys.length+c) * 1<=(ys.length+c) * i.bytes:=Nat.mul_le_mul_left _ hb
  omega
 simp [Builtin.append_,run_underlying ht,run_underlying ht',Go.sizeOf,typeInfo,zeroValue,hi,hz,asInt,asIntOf,hw,h0,h48,hn,hb0,h48',hmx,hcs0,Question.forced,hfo,newRow,grownCap]
theorem c1k {z:Value} {k c:Nat} (hzs:z.cells.size=k) (hk0:0 < k) (hz1:∀ v∈z.cells.toList,v.oneCell'=true):(Builtin.zeroCells z.cells c).size=c * k/\∀ v∈(Builtin.zeroCells z.cells c).toList,v.oneCell'=true:=by
 refine ⟨by simp [Builtin.zeroCells,hzs],fun v hv=>?_⟩
 simp only [Builtin.zeroCells,Array.toList_map,List.mem_map] at hv
 obtain ⟨i,hi,rfl⟩:=hv
 refine hz1 _ ?_
 have hlt:i % z.cells.size < z.cells.size:=Nat.mod_lt _ ya_
 rw [getElem!_pos z.cells _ hlt]
 simp
theorem b9M {P:Program} {G:Nat->Prop} {w:World} {C:Cx} {H:Heap} (hH:HR G w C H) {t t' ty e:TypeId} {i:TypeInfo} {z:Value} {kk kx:IntKind} (ht:P.underlying t=some (.slice e)) (ht':P.underlying t'=some (.int kk)) (hi:P.info? e=some i) (hz:i.zero=some z)
 (hzs:z.cells.size=i.size) (hz1:∀ v∈z.cells.toList,v.oneCell'=true) (c:Nat) {ys:List (List AV)} {ov:List Value} (base:Option Addr) (sLen sCap:Nat) (ho:Src P G w C i.size (.slice base sLen sCap) ys ov) (hlen:ys.length=sLen)
 (hg:sCap < sLen+c) (hb:0 < i.bytes) (hs:0 < i.size) (hc:0 < c) (hby:(sLen+c) * i.bytes<=140737488355328) :
 ∃ v w',(Builtin.append_ #[t,t'] ty #[.slice base sLen sCap,.int kx (c:Int)]).run P w=.ok v w'/\After G w C H (.osl H.length 0 i.size 0 (sLen+c),H++[⟨0,i.size,ys++List.replicate c (List.replicate i.size .unk),none⟩]) v w':=by
 have hr:=a1V (ty:=ty) (kx:=kx) ht ht' hi hz c base sLen sCap ho hlen hg hb hs hc hby
 subst hlen
 have hge:=grownCap_ge w (ys.length+c) sCap e
 generalize grownCap w (ys.length+c) sCap e=cap at hr hge
 obtain ⟨z1,z2⟩:=c1k (c:=c) hzs hs hz1
 have hl2:(List.replicate c (List.replicate i.size AV.unk)).length=c:=by simp
 have hnone:=hH.out H.length (Nat.le_refl _)
 have hcells:∀ q,(ov.toArray++Builtin.zeroCells z.cells c++Builtin.zeroCells z.cells (cap - (ys.length+c))).getD q undef=(ov++(Builtin.zeroCells z.cells c).toList++(Builtin.zeroCells z.cells (cap - (ys.length+c))).toList).getD q undef:=fun q=>by
  rw [List.getD_eq_getElem?_getD,Array.getD_eq_getD_getElem?]
  congr 1
  rw [<- Array.getElem?_toList]
  simp
 have hrow2:∀ q,q < c->((List.replicate c (List.replicate i.size AV.unk)).getD q [])=List.replicate i.size AV.unk:=fun q hq=>by simp [List.getD_eq_getElem?_getD,List.getElem?_replicate,hq]
 have hm:=hH.made (w':=w.drew.alloc (.cells (ov.toArray++Builtin.zeroCells z.cells c++Builtin.zeroCells z.cells (cap - (ys.length+c))) e)) (H':=H++[⟨0,i.size,ys++List.replicate c (List.replicate i.size .unk),none⟩]) H.length i.size (ys++List.replicate c (List.replicate i.size .unk))
  (ov.toArray++Builtin.zeroCells z.cells c++Builtin.zeroCells z.cells (cap - (ys.length+c))) e rfl rfl rfl rfl cap 0 (by simpa using hge) ?_ (fun q hq=>?_) ya_ (fun _=>hnone.2) (fun j hj=>by
   rcases Nat.lt_or_ge j H.length with h' | h'
   · rw [List.getElem?_append_left h']
   · rw [List.getElem?_eq_none yh_,List.getElem?_eq_none ya_]) yf_ yf_ (Nat.le_refl _) fun q j hq hj=>?_
 · refine ⟨_,_,hr,G,_,hm.1,hm.2,.osl _ _ _ _ _ _ _ _ hge yj_ fun _=>⟨_,_,Cx.P8 ..,rfl,rfl,by simpa using hge,by simp,fun _=>by simp⟩,by simp,fun id hl _ hιd=>?_⟩
   have hne:id≠H.length:=by omega
   exact ⟨by rw [(Cx.J9 _ _ _ _ hne).1]; exact hιd,(Cx.J9 _ _ _ _ hne).2,by rw [List.getElem?_append_left hl]⟩
 · simp only [Array.size_append,List.size_toArray,size_zeroCells,hzs,ho.length,<- Nat.add_mul]
   refine Nat.mul_le_mul_right _ ?_
   omega
 · simp only [List.length_append,hl2] at hq
   rw [uO]
   split
   · rename_i h; exact ho.row _ h
   · rw [hrow2 _ ya_]; simp
 · simp only [List.length_append,hl2] at hq
   rw [hcells,b1L (xs:=List.replicate c (List.replicate i.size AV.unk)) ho.length (by rw [hl2]; simpa using z1) (by rw [hl2]; exact hq) hj,uO]
   split
   · rename_i h; exact ho.rel _ _ h hj
   · rename_i h
     rw [hrow2 _ ya_]
     have hlt:=jA (show q - ys.length < c by omega) hj
     refine ⟨?_,?_⟩
     · rw [List.getD_eq_getElem?_getD,List.getElem?_eq_getElem (show _ < (Builtin.zeroCells z.cells c).size by rw [z1]; exact hlt)]
       exact z2 _ (List.getElem_mem _)
     · simp only [List.getD_eq_getElem?_getD,List.getElem?_replicate,hj,if_true,Option.getD_some]
       exact .unk ..
theorem b7L {P:Program} {F:Fr} {H:Heap} {dst:Option Tmp} {x y:Operand} {t t' e0:TypeId} {type:TypeId} {pos:String} {after:Array Edge} {guard:Option (Nat × Bool)} {id g e n r c:Nat} {els ys:List (List AV)} {i:TypeInfo} {z:Value} {kk kx:IntKind}
 (ht:P.underlying t=some (.slice e0)) (ht':P.underlying t'=some (.int kk)) (hi:P.info? e0=some i) (hz:i.zero=some z) (hzs:z.cells.size=i.size) (hz1:∀ v∈z.cells.toList,v.oneCell'=true)
 (hx:opv F x=some (.osl id g i.size e n)) (ho:H[id]?=some ⟨g,i.size,els,some r⟩) (hrows:F5 H i.size (.osl id g i.size e n)=some ys) (hlen:ys.length=n) (hy:opv F y=some (.int kx (c:Int)))
 (hg:r - e < n+c) (hb:0 < i.bytes) (hs:0 < i.size) (hc:0 < c) (hby:(n+c) * i.bytes<=140737488355328) :
 kP P F H ⟨dst,.call { callee:=.builtin .append,args:=#[x,y],argTypes:=#[t,t'] },type,pos,after,guard⟩ (.osl H.length 0 i.size 0 (n+c),H++[⟨0,i.size,ys++List.replicate c (List.replicate i.size .unk),none⟩]):=by
 intro G w C f hf hH
 have hv:=hf x yq_ _ hx
 have hvy:=hf y yq_ _ hy
 have hgen:g=C.γ id:=hH.gen id _ ho
 obtain ⟨ov,hsrc⟩:=iK (P:=P) hH hv hrows
 generalize huy:f y=uy at hvy
 cases hvy
 have fin:∀ base sCap,f x=.slice base n sCap->sCap < n+c->∃ v w',(execOp f (⟨dst,.call { callee:=.builtin .append,args:=#[x,y],argTypes:=#[t,t'] },type,pos,after,guard⟩:Oper)).run P w=.ok (.value v) w'/\After G w C H (.osl H.length 0 i.size 0 (n+c),H++[⟨0,i.size,ys++List.replicate c (List.replicate i.size .unk),none⟩]) v w':=by
  intro base sCap hfx hcap
  rw [hfx] at hsrc
  obtain ⟨v,w',h1,h2⟩:=b9M (ty:=type) (kx:=kx) hH ht ht' hi hz hzs hz1 c base n sCap hsrc hlen hcap hb hs hc hby
  refine ⟨v,w',?_,h2⟩
  simp [execOp,resolve,invoke,builtin,hfx,huy,h1]
 generalize hu:f x=u at hv
 cases hv with
 | osl _ _ _ _ _ _ ad cap hnc hle h =>
  obtain ⟨l,bb,hι,hlb,hlk,hen,hcap,_⟩:=h hgen
  have:=(hH.ob id _ l ho hι).rm r rfl
  exact fin _ _ hu ya_
 | osl0 _ _ _ _ _ base hle h=>exact fin _ _ hu ya_
theorem a9C {P:Program} {F:Fr} {H:Heap} {dst:Option Tmp} {x y m:Operand} {lo:Option Operand} {t e0:TypeId} {type:TypeId} {pos:String} {after:Array Edge} {guard:Option (Nat × Bool)} {id g k e n l h c:Nat}
 (ht:P.underlying t=some (.slice e0)) (hk:∀ w:World,(Go.sizeOf e0).run P w=.ok k w) (hx:opv F x=some (.osl id g k e n))
 (hlo:J5 F lo 0=some (l:Int)) (hhi:J5 F (some y) 0=some (h:Int)) (hmx:J5 F (some m) 0=some (c:Int)) (h1:l<=h) (h2:h<=c) (h3:c<=n) :
 kP P F H ⟨dst,.slice t x lo (some y) (some m),type,pos,after,guard⟩ (.unk,H):=by
 intro G w C f hf hH
 have hv:=hf x yp_ _ hx
 have hl:=jK (G:=G) (w:=w) (C:=C) (f:=f) hlo fun z hz a ha=>hf z (by simp [Op.operands,hz]) a ha
 have hh:=jK (G:=G) (w:=w) (C:=C) (f:=f) hhi fun z hz a ha=>hf z yu_ a ha
 have hm:=jK (G:=G) (w:=w) (C:=C) (f:=f) hmx fun z hz a ha=>hf z yu_ a ha
 have hb:∀ len cap:Nat,c<=cap->(Instr.sliceBounds true len cap (lo.map f) (some (f y)) (some (f m))).run P w=.ok (l,h,c) w:=by
  intro len cap hc
  rcases hm with ⟨hm,_⟩ | ⟨z,kz,hz,hfm⟩
  · simp at hm
  · simp only [Option.some.injEq] at hz
    subst hz
    rcases hh with ⟨hh,_⟩ | ⟨z,kz,hz,hfz⟩
    · simp at hh
    · simp only [Option.some.injEq] at hz
      subst hz
      rcases hl with ⟨rfl,h0⟩ | ⟨z,kz',rfl,hz⟩
      · have:l=0:=by omega
        subst this
        simp [Instr.sliceBounds,hfz,hfm,run_sliceBound,hc,h2]
      · simp [Instr.sliceBounds,hz,hfz,hfm,run_sliceBound,hc,h1,h2]
 have fin:∀ base cap,f x=.slice base n cap->n<=cap->∃ v,(Instr.sliceAt t (f x) (lo.map f) (some (f y)) (some (f m))).run P w=.ok v w:=by
  intro base cap hu hcap
  rw [hu]
  simp only [Instr.sliceAt,Instr.slice,Sem.run_bind,run_underlying ht,Result.andThen_ok]
  rw [hb n cap ya_]
  simp only [Result.andThen_ok,hk w,Sem.run_pure,Sem.run_bind]
  exact ⟨_,rfl⟩
 have done:(∃ v,(Instr.sliceAt t (f x) (lo.map f) (some (f y)) (some (f m))).run P w=.ok v w)->∃ v w',(execOp f (⟨dst,.slice t x lo (some y) (some m),type,pos,after,guard⟩:Oper)).run P w=.ok (.value v) w'/\After G w C H (.unk,H) v w':=by
  intro ⟨v,hr⟩
  refine ⟨v,w,?_,G,C,Ev.refl ..,hH,.unk ..,Pd.refl⟩
  simp only [execOp,Option.map_some,Option.map_none,Sem.run_bind,hr,Result.andThen_ok,Sem.run_pure]
 generalize hu:f x=u at hv
 cases hv with
 | osl _ _ _ _ _ _ ad cap hnc hle h=>exact done (fin _ _ hu hnc)
 | osl0 _ _ _ _ _ base hle h=>exact done (fin _ _ hu (Nat.le_refl _))
theorem l6.ghost {P:Program} {f:FuncId} {args:List AV} {H H1 H2:Heap} {a a' x:AV} {i id g:Nat} {o o1:Ob} (h:l6 P f args H (a,H1)) (hi:args[i]?=some x) (hx:(∃ e c,x=.obj id g e c)\/∃ k e n,x=.osl id g k e n)
 (ho:H[id]?=some o) (hg:o.gen=g) (ho1:H1[id]?=some o1) (hg1:o1.gen=g)
 (k:∀ (G:Nat->Prop) (w:World) (C:Cx) (v:Value),HR G w C H1->VR G w C a v->(∃ l,C.ι id=some l)->∃ G' C',Ev G w C G' w C'/\HR G' w C' H2/\VR G' w C' a' v/\Pd R3 C H1 C' H2):l6 P f args H (a',H2):=by
 intro G w C vs hsz hargs hH
 have hlt:i < args.length:=by
  rcases Nat.lt_or_ge i args.length with h' | h'
  · exact h'
  · rw [List.getElem?_eq_none h'] at hi; simp at hi
 have hv:=hargs i hlt
 rw [List.getD_eq_getElem?_getD,hi] at hv
 have hγ:=hH.gen id o ho
 obtain ⟨l,hl⟩:=VR.shows hv hx ya_
 refine (h G w C vs hsz hargs hH).mono fun v w' ⟨G',C',he,hh,hv,hp⟩=>?_
 have hγ1:=hh.gen id o1 ho1
 have hl':C'.ι id=some l:=(he.cx id).2 ya_ l hl
 obtain ⟨G2,C2,h1,h2,h3,h4⟩:=k G' w' C' v hh hv ⟨l,hl'⟩
 exact ⟨G2,C2,he.trans h1,h2,h3,hp.trans h4⟩
theorem l6.a7F {P:Program} {f:FuncId} {args:List AV} {H H1 H2:Heap} {a a':AV} (h:l6 P f args H (a,H1))
 (k:∀ (G:Nat->Prop) (w:World) (C:Cx) (v:Value),HR G w C H1->VR G w C a v->∃ G' C',Ev G w C G' w C'/\HR G' w C' H2/\VR G' w C' a' v/\Pd R3 C H1 C' H2):l6 P f args H (a',H2):=by
 intro G w C vs hsz hargs hH
 refine (h G w C vs hsz hargs hH).mono fun v w' ⟨G',C',he,hh,hv,hp⟩=>?_
 obtain ⟨G2,C2,h1,h2,h3,h4⟩:=k G' w' C' v hh hv
 exact ⟨G2,C2,he.trans h1,h2,h3,hp.trans h4⟩
section
variable {P:Program} {G:Nat->Prop} {w:World} {C:Cx} {H:Heap}
theorem a0r (hH:HR G w C H) {id j g gj k n:Nat} {o oj:Ob} {v:Value} (hne:id≠j) (ho:H[id]?=some o) (hoj:H[j]?=some oj) (hgo:o.gen=g) (hgj:oj.gen=gj) (hv:VR G w C (.osl j gj k 0 n) v) (hl:∃ l,C.ι id=some l) :
 ∃ G' C',Ev G w C G' w C'/\HR G' w C' ((H.set id { oj with gen:=g+1 }).set j ⟨gj+1,k,[],none⟩)/\VR G' w C' (.osl id (g+1) k 0 n) v/\Pd R3 C H C' ((H.set id { oj with gen:=g+1 }).set j ⟨gj+1,k,[],none⟩):=by
 obtain ⟨l,hl⟩:=hl
 have hγ:=hH.gen id o ho
 have hγj:=hH.gen j oj hoj
 have hlt:=pV ho
 have hltj:=pV hoj
 obtain ⟨lj,hlj,hlk⟩:=rH hv ya_
 have hC1:((C.lay id (C.ι j) (g+1)).lay j none (gj+1)).ι j=none:=Cx.P8 ..
 have hC2:((C.lay id (C.ι j) (g+1)).lay j none (gj+1)).γ j=gj+1:=Cx.aB ..
 have hC3:((C.lay id (C.ι j) (g+1)).lay j none (gj+1)).ι id=some lj:=by rw [(Cx.J9 _ _ _ _ hne).1,Cx.P8,hlj]
 have hC4:((C.lay id (C.ι j) (g+1)).lay j none (gj+1)).γ id=g+1:=by rw [(Cx.J9 _ _ _ _ hne).2,Cx.aB]
 have hC5:∀ i,i≠id->i≠j->((C.lay id (C.ι j) (g+1)).lay j none (gj+1)).ι i=C.ι i/\((C.lay id (C.ι j) (g+1)).lay j none (gj+1)).γ i=C.γ i:=fun i h1 h2=>by
  rw [(Cx.J9 _ _ _ _ h2).1,(Cx.J9 _ _ _ _ h2).2,(Cx.J9 _ _ _ _ h1).1,(Cx.J9 _ _ _ _ h1).2]; exact ⟨rfl,rfl⟩
 generalize (C.lay id (C.ι j) (g+1)).lay j none (gj+1)=C' at hC1 hC2 hC3 hC4 hC5
 have hcx:V3 C C':=fun i=>by
  by_cases h1:i=id
  · subst h1; rw [hC4]; exact ⟨by omega,fun e=>by omega⟩
  · by_cases h2:i=j
    · subst h2; rw [hC2]; exact ⟨by omega,fun e=>by omega⟩
    · rw [(hC5 i h1 h2).1,(hC5 i h1 h2).2]; exact ⟨Nat.le_refl _,fun _ l hl=>hl⟩
 have hback:∀ i m,C'.ι i=some m->∃ i',C.ι i'=some m/\(i=id->i'=j)/\(i≠id->i'=i)/\i≠j:=fun i m hm=>by
  by_cases h2:i=j
  · subst h2; rw [hC1] at hm; simp at hm
  · by_cases h1:i=id
    · subst h1; rw [hC3] at hm; exact ⟨j,by rw [hlj]; exact hm,fun _=>rfl,fun h=>absurd rfl h,h2⟩
    · rw [(hC5 i h1 h2).1] at hm; exact ⟨i,hm,fun h=>absurd h h1,fun _=>rfl,h2⟩
 have hev:Ev G w C G w C':=⟨rfl,rfl,rfl,Nat.le_refl _,fun _ h=>h,fun _ _=>rfl,hcx,fun _ _ _=>rfl,fun _ h=>.inl h,fun i m b hm hb=>by
  obtain ⟨i',h1,_⟩:=hback i m hm
  exact .inl ⟨i',m,h1,hb⟩,fun _=>rfl⟩
 have hget1:((H.set id { oj with gen:=g+1 }).set j ⟨gj+1,k,[],none⟩)[j]?=some ⟨gj+1,k,[],none⟩:=List.getElem?_set_self (by simpa using hltj)
 have hget2:((H.set id { oj with gen:=g+1 }).set j ⟨gj+1,k,[],none⟩)[id]?=some { oj with gen:=g+1 }:=by rw [List.getElem?_set_ne (Ne.symm hne),List.getElem?_set_self hlt]
 have hget3:∀ i,i≠id->i≠j->((H.set id { oj with gen:=g+1 }).set j ⟨gj+1,k,[],none⟩)[i]?=H[i]?:=fun i h1 h2=>by rw [List.getElem?_set_ne (Ne.symm h2),List.getElem?_set_ne (Ne.symm h1)]
 refine ⟨G,C',hev,⟨fun i oi hi=>?_,fun i hi=>?_,fun i m b hm hb=>?_,fun i i2 m m2 b hi hi2 hb hb2=>?_,fun i oi m hi hm=>?_,hH.gsz⟩,?_,by simp,fun i hi hs hi0=>?_⟩
 · by_cases h2:i=j
   · subst h2; rw [hget1] at hi; simp at hi; subst hi; exact hC2.symm
   · by_cases h1:i=id
     · subst h1; rw [hget2] at hi; simp at hi; subst hi; exact hC4.symm
     · rw [hget3 i h1 h2] at hi; rw [(hC5 i h1 h2).2]; exact hH.gen i oi hi
 · simp only [List.length_set] at hi
   have h1:i≠id:=by omega
   have h2:i≠j:=by omega
   rw [(hC5 i h1 h2).1,(hC5 i h1 h2).2]; exact hH.out i hi
 · obtain ⟨i',h1,_⟩:=hback i m hm
   exact hH.own i' m b h1 hb
 · obtain ⟨i',p1,p2,p3,p4⟩:=hback i m hi
   obtain ⟨i2',q1,q2,q3,q4⟩:=hback i2 m2 hi2
   have:=hH.inj _ _ _ _ b p1 q1 hb hb2
   by_cases h1:i=id <;> by_cases h2:i2=id
   · omega
   · have:=p2 h1; have:=q3 h2; omega
   · have:=p3 h1; have:=q2 h2; omega
   · have:=p3 h1; have:=q3 h2; omega
 · obtain ⟨i',p1,p2,p3,p4⟩:=hback i m hm
   by_cases h1:i=id
   · have e:=p2 h1
     subst e h1
     rw [hget2] at hi
     simp only [Option.some.injEq] at hi
     subst hi
     have:=(hH.ob i' oj m hoj p1).ev hev (fun _ _=>rfl)
     exact ⟨this.k,this.rm,this.no,this.len,this.row,this.cells⟩
   · have e:=p3 h1
     subst e
     rw [hget3 i' h1 p4] at hi
     exact (hH.ob i' oi m hi p1).ev hev (fun _ _=>rfl)
 · cases hv with
   | osl _ _ _ _ _ _ ad cap hnc hle hl2 =>
    refine .osl _ _ _ _ _ _ _ _ hnc ya_ fun _=>?_
    obtain ⟨l2,b,q1,q2⟩:=hl2 ya_
    rw [hlj] at q1
    simp only [Option.some.injEq] at q1
    subst q1
    exact ⟨lj,b,hC3,q2⟩
   | osl0 _ _ _ _ _ base hle hl2 =>
    refine .osl0 _ _ _ _ _ _ ya_ fun _=>?_
    obtain ⟨l2,q1,q2⟩:=hl2 ya_
    rw [hlj] at q1
    simp only [Option.some.injEq] at q1
    subst q1
    exact ⟨lj,hC3,q2⟩
 · have h1:i≠id:=fun e=>by subst e; rw [hl] at hi0; simp at hi0
   have h2:i≠j:=fun e=>by subst e; rw [hlj] at hi0; simp at hi0
   exact ⟨by rw [(hC5 i h1 h2).1]; exact hi0,(hC5 i h1 h2).2,hget3 i h1 h2⟩
end
def gT (ids:List Nat) (n:Nat) (i:Nat):Nat:=if i < ids.length then ids.getD i 0 else n+(i - ids.length)
def gQ (τ:Nat->Nat):Heap->Heap->Prop
 | [],[]=>True
 | o :: l,o' :: l'=>o.ren τ=o'/\gQ τ l l'
 | _,_=>False
theorem gQ.get {τ:Nat->Nat}:∀ {l l':Heap},gQ τ l l'->l.length=l'.length/\∀ (i:Nat) (o:Ob),l[i]?=some o->l'[i]?=some (o.ren τ)
 | [],[],_=>⟨rfl,fun i o h=>by simp at h⟩
 | o :: l,o' :: l',h=>by
  obtain ⟨h1,h2⟩:=gQ.get h.2
  refine ⟨by simp [h1],fun i oi hi=>?_⟩
  cases i with
  | zero=>simp at hi; subst hi; simp [h.1]
  | succ i=>simpa using h2 i oi yc_
def dM (H:Heap):List Nat->Heap->Heap
 | i :: ids,o :: os=>dM (H.set i o) ids os
 | _,_=>H
theorem iH:∀ (ids:List Nat) (os:Heap) (H:Heap),(dM H ids os).length=H.length
 | [],_,H=>by simp [dM]
 | _ :: _,[],H=>by simp [dM]
 | i :: ids,o :: os,H=>by rw [dM,iH ids os]; simp
theorem qB:∀ (ids:List Nat) (os:Heap) (H:Heap) (j:Nat),(∀ i∈ids,i≠j)->(dM H ids os)[j]?=H[j]?
 | [],_,H,j,_=>by simp [dM]
 | _ :: _,[],H,j,_=>by simp [dM]
 | i :: ids,o :: os,H,j,h=>by
  rw [dM,qB ids os _ j (fun i hi=>h i (by simp [hi])),List.getElem?_set_ne (h i yf_)]
def nodupB:List Nat->Bool
 | []=>true
 | i :: ids=>!ids.contains i&&nodupB ids
theorem a1J:∀ (ids:List Nat) (os:Heap) (H:Heap),nodupB ids=true->(∀ i∈ids,i < H.length)->ids.length=os.length->∀ (q:Nat) (o:Ob),os[q]?=some o->(dM H ids os)[ids.getD q 0]?=some o
 | [],[],H,_,_,_,q,o,hq=>by simp at hq
 | i :: ids,o :: os,H,hn,hlt,hlen,q,o',hq=>by
  simp only [nodupB,Bool.and_eq_true,Bool.not_eq_true',List.contains_eq_mem,decide_eq_false_iff_not] at hn
  simp only [dM]
  cases q with
  | zero =>
   simp at hq; subst hq
   simp only [List.getD_cons_zero]
   rw [qB ids os _ i (fun j hj e=>hn.1 (e ▸ hj)),List.getElem?_set_self (hlt i yf_)]
  | succ q =>
   simp only [List.getD_cons_succ]
   exact a1J ids os _ hn.2 (fun j hj=>by simpa using hlt j (by simp [hj])) (by simpa using hlen) q o' (by simpa using hq)
theorem a4q:∀ (ids:List Nat),nodupB ids=true->∀ i j,i < ids.length->j < ids.length->ids.getD i 0=ids.getD j 0->i=j
 | [],_,i,_,hi,_,_=>by simp at hi
 | a :: ids,hn,i,j,hi,hj,e=>by
  simp only [nodupB,Bool.and_eq_true,Bool.not_eq_true',List.contains_eq_mem,decide_eq_false_iff_not] at hn
  have hmem:∀ q,q < ids.length->ids.getD q 0∈ids:=fun q hq=>by
   rw [List.getD_eq_getElem?_getD,List.getElem?_eq_getElem hq]; exact List.getElem_mem _
  cases i with
  | zero =>
   cases j with
   | zero=>rfl
   | succ j=>simp only [List.getD_cons_zero,List.getD_cons_succ] at e; exact absurd (e ▸ hmem j ys_) hn.1
  | succ i =>
   cases j with
   | zero=>simp only [List.getD_cons_zero,List.getD_cons_succ] at e; exact absurd (e.symm ▸ hmem i yc_) hn.1
   | succ j=>simp only [List.getD_cons_succ] at e; rw [a4q ids hn.2 i j yc_ ys_ e]
theorem Ob.ren0 {τ:Nat->Nat} {o:Ob} (h:AV.D5 0 o.els=true):o.ren τ=o:=Ob.ren_fix (fun i hi=>absurd hi (Nat.not_lt_zero i)) o h
theorem l6.put {P:Program} {f:FuncId} {args args':List AV} {a a':AV} {Hs H1 N Hb Hg H1' N':Heap} (ids:List Nat) (h:l6 P f args Hs (a,H1++N)) (hids:(nodupB ids&&ids.all (fun i=>decide (i < Hb.length)))=true)
 (hlen:ids.length=Hs.length) (hn:H1.length=Hs.length) (hargs:AV.bdds Hs.length args=true) (hbs:bW Hs.length Hs=true) (hg:(ids.map fun i=>Hb.getD i default)=Hg) (hget:gQ (gT ids Hb.length) Hs Hg)
 (h1:gQ (gT ids Hb.length) H1 H1') (h2:gQ (gT ids Hb.length) N N') (ha:AV.rens (gT ids Hb.length) args=args') (hr:a.ren (gT ids Hb.length)=a'):l6 P f args' Hb (a',dM Hb ids H1'++N'):=by
 simp only [Bool.and_eq_true,List.all_eq_true,decide_eq_true_eq] at hids
 obtain ⟨hnd,hlt⟩:=hids
 subst ha hr hg
 have hτ:∀ i,i < Hs.length->gT ids Hb.length i=ids.getD i 0:=fun i hi=>by simp [gT,hlen,hi]
 have hτ2:∀ i,Hs.length<=i->gT ids Hb.length i=Hb.length+(i - Hs.length):=fun i hi=>by
  have:¬ i < Hs.length:=by omega
  simp [gT,hlen,this]
 have hmem:∀ q,q < Hs.length->ids.getD q 0∈ids:=fun q hq=>by
  rw [List.getD_eq_getElem?_getD,List.getElem?_eq_getElem ya_]; exact List.getElem_mem _
 obtain ⟨g1,g2⟩:=hget.get
 obtain ⟨p1,p2⟩:=h1.get
 obtain ⟨n1,n2⟩:=h2.get
 refine h.frame (τ:=gT ids Hb.length) (Hb:=Hb) (Hb':=dM Hb ids H1'++N') ⟨fun i hi=>by rw [hτ i hi]; exact hlt _ (hmem i hi),hτ2,fun i j hi hj e=>by
  rw [hτ i hi,hτ j hj] at e; exact a4q ids hnd i j ya_ ya_ e,fun i o ho=>?_⟩ hargs (fun i o ho=>lG hbs ho) (by simp [iH,hn,n1]) (fun i o ho=>?_) fun j hj hj2=>?_
 · have hi:=pV ho
   rw [hτ i hi]
   have:=g2 i o ho
   rw [List.getElem?_map] at this
   have hi':i < ids.length:=by omega
   rw [List.getElem?_eq_getElem hi'] at this
   simp only [Option.map_some,Option.some.injEq] at this
   have hlt':=hlt _ (List.getElem_mem hi')
   rw [List.getD_eq_getElem?_getD (l:=ids),List.getElem?_eq_getElem hi',Option.getD_some,<- this,List.getD_eq_getElem?_getD,List.getElem?_eq_getElem hlt',Option.getD_some]
 · rcases Nat.lt_or_ge i H1.length with hi | hi
   · rw [List.getElem?_append_left hi] at ho
     rw [hτ i ya_,List.getElem?_append_left (by rw [iH]; exact hlt _ (hmem i ya_))]
     exact a1J ids H1' Hb hnd hlt ya_ i _ (p2 i o ho)
   · rw [List.getElem?_append_right hi] at ho
     rw [hτ2 i ya_,List.getElem?_append_right (by rw [iH]; omega),iH]
     have:Hb.length+(i - Hs.length) - Hb.length=i - H1.length:=by omega
     rw [this]
     exact n2 _ o ho
 · rw [List.getElem?_append_left (by rw [iH]; exact hj)]
   refine qB ids H1' Hb j fun i hi e=>?_
   obtain ⟨q,hq,e2⟩:=List.getElem_of_mem hi
   refine hj2 q ya_ ?_
   rw [hτ q ya_,List.getD_eq_getElem?_getD,List.getElem?_eq_getElem hq,Option.getD_some,e2,e]
open Go.Proofs.YtfjedpipdnlkfaaGreat
theorem om {p:Prop} (h:p:=by first | omega | (simp; done) | (simp; omega)):p:=h
theorem oa {p:Prop} (h:p:=by first | omega | assumption | (simp; done) | (simp; omega) | (simp_all; done) | (simp_all; omega)):p:=h
theorem ow {p:Prop} (h:p:=by omega):p:=h
theorem kr {α:Sort _} {a b:α} (h:a=b:=by kernel_rfl):a=b:=h
theorem ob {p:Prop} (h:p:=by first | (simp [bW,AV.D5,AV.bdds,AV.bdd]; done) | simp [bW,AV.D5,AV.bdds,AV.bdd,-List.map_append,-List.map_set,-List.map_take,-List.map_drop,-List.map_cons,-List.map_map]):p:=h
theorem Has.o {P : Program} {f : FuncId} {fn : Func} (h1 : P.funcs[f]? = some fn) (h2 : fn.body.isNone = false := by kernel_rfl) (h3 : (fn.name == "runtime.NumGoroutine") = false := by kernel_rfl) (h4 : fn.body.all codeOk = true := by kernel_rfl) : Has P f fn := ⟨h1, h2, h3, h4⟩
class IsP (c:Bool) (p q:outParam Prop):Prop where
 t:c=true->p
 f:c=false->q
instance (priority:=10) isP0 (c:Bool):IsP c (c=true) (c=false):=⟨id,id⟩
instance isPd (p:Prop) [Decidable p]:IsP (decide p) p (¬ p):=⟨decide_eq_true_iff.1,decide_eq_false_iff_not.1⟩
instance isPe (x y:Int):IsP (x == y) (x=y) (¬ x=y):=⟨beq_iff_eq.1,beq_eq_false_iff_ne.1⟩
instance isPne (x y:Int):IsP (x != y) (¬ x=y) (x=y):=⟨bne_iff_ne.1,fun h=>by simpa using h⟩
instance isPn (c:Bool) (p q:Prop) [h:IsP c p q]:IsP (!c) q p:=⟨fun e=>h.f (by simpa using e),fun e=>h.t (by simpa using e)⟩
instance isPa (c d:Bool) (p q p' q':Prop) [h:IsP c p q] [k:IsP d p' q']:IsP (c&&d) (p/\p') (q\/q'):=⟨fun e=>by rw [Bool.and_eq_true] at e; exact ⟨h.t e.1,k.t e.2⟩,fun e=>by rw [Bool.and_eq_false_iff] at e; exact e.imp h.f k.f⟩
instance isPo (c d:Bool) (p q p' q':Prop) [h:IsP c p q] [k:IsP d p' q']:IsP (c || d) (p\/p') (q/\q'):=⟨fun e=>by rw [Bool.or_eq_true] at e; exact e.imp h.t k.t,fun e=>by rw [Bool.or_eq_false_iff] at e; exact ⟨h.f e.1,k.f e.2⟩⟩
structure OK (H:Heap) (r:AV × Heap) (t:Tr) (p:Prop):Prop where
 h:p
structure RK (H:Heap) (r:AV × Heap) (hs:Hs) (a b:List (Nat × List (List AV))) (t:Tr) (p:Prop):Prop where
 h:p
section
variable {H H' H0:Heap} {zr:AV × Heap} {tr tA tB:Tr} {p pA pB q:Prop} {hs hs':Hs} {ra rb ra' rb':List (Nat × List (List AV))}
theorem OK.l (h:p):OK H zr .nil p:=⟨h⟩
theorem OK.e (v:AV) (h:(v,H)=zr:=by rfl):OK H zr .nil ((v,H)=zr):=⟨h⟩
theorem OK.f (n:Nat) (v:AV) (k:OK H zr tr p) (h:AV.bdd n v=true/\bW n H=true:=by exact ob):OK H zr tr ((AV.bdd n v=true/\bW n H=true)/\p):=⟨⟨h,k.h⟩⟩
theorem OK.h' (H':Heap) (k:OK H' zr tr p):OK H zr tr p:=⟨k.h⟩
theorem OK.two (c:Bool) {u u':Prop} [i:IsP c u u'] (x:c=true->u->OK H zr tA pA) (y:c=false->u'->OK H zr tB pB):OK H zr (.two tA tB) (cond c pA pB):=by
 cases hc:c with
 | true=>exact ⟨(x hc (i.t hc)).h⟩
 | false=>exact ⟨(y hc (i.f hc)).h⟩
theorem OK.yes (k:OK H zr tr p):OK H zr (.two tr .nil) p:=⟨k.h⟩
theorem OK.no (k:OK H zr tr p):OK H zr (.two .nil tr) p:=⟨k.h⟩
theorem OK.roll (n:Nat) (k:OK H zr tr p):OK H zr (.roll n tr) p:=⟨k.h⟩
theorem OK.loop {Q:(Ex->Fr->Heap->Prop)->Fr->Heap->Prop} {l o:Option (List Nat)} {F F':Fr} {e:Ex} (F'':Fr) (h:j6 Q l o F H0 e F' H') (k:OK H' zr tr p):OK H zr (.loop e F'' H' tr) (j6 Q l o F H0 e F' H'/\p):=⟨⟨h,k.h⟩⟩
theorem OK.r (k:RK H zr hs ra rb tr p):OK H zr (.reg hs ra rb tr) p:=⟨k.h⟩
theorem RK.g (k:OK H zr tr p):RK H zr [] [] [] tr p:=⟨k.h⟩
theorem RK.h' (H':Heap) (k:RK H' zr hs ra rb tr p):RK H zr hs ra rb tr p:=⟨k.h⟩
theorem RK.o (h:q) (k:RK H zr hs ra rb tr p):RK H zr hs ra rb tr (q/\p):=⟨⟨h,k.h⟩⟩
theorem RK.t (i:Nat) (v:AV) (H':Heap) (h:q) (k:RK H zr hs ra rb tr p):RK H zr ((i,(v,H')) :: hs) ra rb tr (q/\p):=⟨⟨h,k.h⟩⟩
theorem RK.c (i:Nat) {P:Program} {f:FuncId} {args:List AV} {v:AV} (h:l6 P f args H0 (v,H')) (k:RK H zr hs ra rb tr p):RK H zr ((i,(v,H')) :: hs) ra rb tr (l6 P f args H0 (v,H')/\p):=⟨⟨h,k.h⟩⟩
theorem RK.ch (i:Nat) (H1:Heap) {P:Program} {f:FuncId} {args:List AV} {v:AV} (h:l6 P f args H0 (v,H')) (k:RK H1 zr hs ra rb tr p):RK H zr ((i,(v,H1)) :: hs) ra rb tr (l6 P f args H0 (v,H')/\p):=⟨⟨h,k.h⟩⟩
theorem RK.y (i:Nat) (v w:AV) (h:Yes v H w) (k:RK H zr hs ra rb tr p):RK H zr ((i,(w,H)) :: hs) ra rb tr (Yes v H w/\p):=⟨⟨h,k.h⟩⟩
theorem RK.rd (v:AV) (H':Heap) (k:RK H zr hs ra rb tr p):RK H zr hs ra rb tr ((some (v,H')=some (v,H'))/\p):=⟨⟨rfl,k.h⟩⟩
theorem RK.b (n:Nat) (k:RK H zr hs ra rb tr p) (h:bW n H=true:=by exact ob):RK H zr hs ra rb tr ((bW n H=true)/\p):=⟨⟨h,k.h⟩⟩
theorem RK.is (i k' k2:Nat) (rows:List (List AV)) (e:Int) (cs:List AV) (h:J8 k' k2 rows e H cs) (k:RK H zr hs ra rb tr p):RK H zr ((i,(.ref cs 0,H)) :: hs) ra rb tr (J8 k' k2 rows e H cs/\p):=⟨⟨h,k.h⟩⟩
theorem RK.io (i id g k' k2 e0 n:Nat) (e:Int) (j:Nat) (h:E9 id g k' k2 e0 n e H j) (k:RK H zr hs ra rb tr p):RK H zr ((i,(.obj id g j 0,H)) :: hs) ra rb tr (E9 id g k' k2 e0 n e H j/\p):=⟨⟨h,k.h⟩⟩
theorem RK.st (i id g j n c:Nat) (u:AV) (H':Heap) (h:a0i H id j n c (rowAt H id g j) (AV.fit u n)=some (AV.skip,H')) (k:RK H' zr hs ra rb tr p):RK H zr ((i,(AV.skip,H')) :: hs) ra rb tr (a0i H id j n c (rowAt H id g j) (AV.fit u n)=some (AV.skip,H')/\p):=⟨⟨h,k.h⟩⟩
theorem RK.ap (i:Nat) (T:TypeId) (u v w:AV) (H':Heap) (h:aN tt H T u v=some (w,H')) (k:RK H' zr hs ra rb tr p):RK H zr ((i,(w,H')) :: hs) ra rb tr (aN tt H T u v=some (w,H')/\p):=⟨⟨h,k.h⟩⟩
theorem RK.ao (i:Nat) (T:TypeId) (u v w:AV) (H':Heap) (h:dQ tt H T u v=some (w,H')) (k:RK H' zr hs ra rb tr p):RK H zr ((i,(w,H')) :: hs) ra rb tr (dQ tt H T u v=some (w,H')/\p):=⟨⟨h,k.h⟩⟩
theorem RK.so (i id g n e m:Nat) (lo hi:Int) (w:AV) (h:Option.map (fun a=>(a,H)) ((bounds lo hi m).map fun p=>AV.osl id g n (e+p.1) (p.2 - p.1))=some (w,H)) (k:RK H zr hs ra rb tr p):RK H zr ((i,(w,H)) :: hs) ra rb tr (Option.map (fun a=>(a,H)) ((bounds lo hi m).map fun p=>AV.osl id g n (e+p.1) (p.2 - p.1))=some (w,H)/\p):=⟨⟨h,k.h⟩⟩
theorem RK.two (c:Bool) {u u':Prop} [i:IsP c u u'] (x:c=true->u->RK H zr hs ra rb tA pA) (y:c=false->u'->RK H zr hs' ra' rb' tB pB):RK H zr (hs++hs') (ra++ra') (rb++rb') (.two tA tB) (cond c pA pB):=by
 cases hc:c with
 | true=>exact ⟨(x hc (i.t hc)).h⟩
 | false=>exact ⟨(y hc (i.f hc)).h⟩
theorem RK.yes (k:RK H zr hs ra rb tr p):RK H zr hs ra rb (.two tr .nil) p:=⟨k.h⟩
theorem RK.no (k:RK H zr hs ra rb tr p):RK H zr hs ra rb (.two .nil tr) p:=⟨k.h⟩
theorem RK.w (s:Nat) (xs:List (List AV)) (h:q) (k:RK H zr hs ra rb tr p):RK H zr hs ((s,xs) :: ra) rb tr (q/\p):=⟨⟨h,k.h⟩⟩
theorem RK.w' (s:Nat) (xs:List (List AV)) (h:q) (k:RK H zr hs ra rb tr p):RK H zr hs ra ((s,xs) :: rb) tr (q/\p):=⟨⟨h,k.h⟩⟩
end
theorem gQ.split {τ:Nat->Nat}:∀ {l a b:Heap},gQ τ l (a++b)->gQ τ (l.take a.length) a/\gQ τ (l.drop a.length) b
 | l,[],b,h=>by simpa [gQ] using h
 | [],o :: a,b,h=>by simp [gQ] at h
 | x :: l,o :: a,b,h=>by
  simp only [List.cons_append,gQ] at h
  obtain ⟨h1,h2⟩:=gQ.split h.2
  exact ⟨⟨h.1,h1⟩,h2⟩
theorem l6.put2 {P:Program} {f:FuncId} {args:List AV} {v:AV} {Hs HsR:Heap} (ids:List Nat) (Hb:Heap) (v':AV) (Hb':Heap) (h:l6 P f args Hs (v,HsR))
 (hget:gQ (gT ids Hb.length) Hs (ids.map fun i=>Hb.getD i default)) (hnew:gQ (gT ids Hb.length) HsR ((ids.map fun i=>Hb'.getD i default)++Hb'.drop Hb.length))
 (hids:(nodupB ids&&ids.all (fun i=>decide (i < Hb.length)))=true:=by kernel_rfl) (hlen:ids.length=Hs.length:=by kernel_rfl) (hargs:AV.bdds Hs.length args=true:=by kernel_rfl)
 (hbs:bW Hs.length Hs=true:=by exact ob) (hr:v.ren (gT ids Hb.length)=v':=by rfl) (hH:dM Hb ids (ids.map fun i=>Hb'.getD i default)++Hb'.drop Hb.length=Hb':=by kernel_rfl) :
 l6 P f (AV.rens (gT ids Hb.length) args) Hb (v',Hb'):=by
 obtain ⟨h1,h2⟩:=gQ.split hnew
 have e:HsR.take (ids.map fun i=>Hb'.getD i default).length++HsR.drop (ids.map fun i=>Hb'.getD i default).length=HsR:=List.take_append_drop _ _
 rw [<- e] at h
 have hl:=h1.get.1
 rw [<- hH]
 exact l6.put ids h hids hlen (by rw [hl]; simpa using hlen) hargs hbs rfl hget h1 h2 rfl hr
attribute [local irreducible] l6 J4 E8 l9 j6
theorem o9 {f:FuncId} {fn:Func} {ann:Ann} {t:Tr} {args:List AV} {H:Heap} {r:AV × Heap} {p:Prop} (hf:Has Tryz.prog f fn) (k:OK H r t p) (e:p=J4 Tryz.prog (X ann) fn t args H r:=by kernel_rfl) (hb:H.length<=ann.base:=by exact Nat.le_of_ble_eq_true (by kernel_rfl)):l6 Tryz.prog f args H r :=
 spec hb hf (Eq.mp e k.h)
theorem F7 {P:Program} {X:Env} {c:Code} {live out:Option (List Nat)} {F F':Fr} {H H':Heap} {e:Ex} {t:Tr} {p:Prop} (k:OK H (.skip,[]) t p)
 (h:p=E8 P X c (fun _ e2 F2 H2=>match e2 with | .normal=>j6 (l9 P X c) live out (iB live F2) H2 e F' H' | e2=>(e2,iB out F2,H2)=(e,F',H')) t F H:=by kernel_rfl):j6 (l9 P X c) live out F H e F' H' :=
 j6.step t (Eq.mp h k.h)
set_option maxRecDepth 100000
structure Key where
 app:ByteArray
 id:ByteArray
 deriving Inhabited
def Key.row (x:Key):List AV:=[(AV.str x.app),(AV.str x.id)]
@[simp] theorem Key.V7 (n:Nat) (x:Key):AV.bdds n x.row=true:=by simp [Key.row,AV.bdds,AV.bdd]
@[simp] theorem Key.p8 (n:Nat) (l:List Key):AV.D5 n (l.map Key.row)=true:=by induction l with | nil=>rfl | cons x l ih=>simp [AV.D5,Key.V7,ih]
structure l8 where
 t:Int
 node:Int
 n:Int
 deriving Inhabited
def l8.row (x:l8):List AV:=[(AV.int .i64 x.t),(AV.int .i64 x.node),(AV.int .i64 x.n)]
@[simp] theorem l8.V7 (n:Nat) (x:l8):AV.bdds n x.row=true:=by simp [l8.row,AV.bdds,AV.bdd]
@[simp] theorem l8.p8 (n:Nat) (l:List l8):AV.D5 n (l.map l8.row)=true:=by induction l with | nil=>rfl | cons x l ih=>simp [AV.D5,l8.V7,ih]
structure j5 where
 key:Key
 status:Int
 over:Int
 lease:Int
 stamp:l8
 gone:Bool
 deriving Inhabited
def j5.row (x:j5):List AV:=[(AV.str x.key.app),(AV.str x.key.id),(AV.int .i64 x.status),(AV.int .i64 x.over),(AV.int .i64 x.lease),(AV.int .i64 x.stamp.t),(AV.int .i64 x.stamp.node),(AV.int .i64 x.stamp.n),(AV.bool x.gone)]
@[simp] theorem j5.V7 (n:Nat) (x:j5):AV.bdds n x.row=true:=by simp [j5.row,AV.bdds,AV.bdd]
@[simp] theorem j5.p8 (n:Nat) (l:List j5):AV.D5 n (l.map j5.row)=true:=by induction l with | nil=>rfl | cons x l ih=>simp [AV.D5,j5.V7,ih]
structure Entry where
 card:j5
 seen:Int
 deriving Inhabited
def Entry.row (x:Entry):List AV:=[(AV.str x.card.key.app),(AV.str x.card.key.id),(AV.int .i64 x.card.status),(AV.int .i64 x.card.over),(AV.int .i64 x.card.lease),(AV.int .i64 x.card.stamp.t),(AV.int .i64 x.card.stamp.node),(AV.int .i64 x.card.stamp.n),(AV.bool x.card.gone),(AV.int .i64 x.seen)]
@[simp] theorem Entry.V7 (n:Nat) (x:Entry):AV.bdds n x.row=true:=by simp [Entry.row,AV.bdds,AV.bdd]
@[simp] theorem Entry.p8 (n:Nat) (l:List Entry):AV.D5 n (l.map Entry.row)=true:=by induction l with | nil=>rfl | cons x l ih=>simp [AV.D5,Entry.V7,ih]
def aH (n:Int):List AV:=[.int .i64 n]
def rU8 (n:Int):List AV:=[.int .u8 n]
def a0R (s:ByteArray):List AV:=[.str s]
def b3O (b:Bool):List AV:=[.bool b]
@[simp] theorem c2P (n:Nat) (l:List Int):AV.D5 n (l.map aH)=true:=by induction l with | nil=>rfl | cons x l ih=>simp [AV.D5,aH,AV.bdds,AV.bdd,ih]
@[simp] theorem iL (n:Nat) (l:List Int):AV.D5 n (l.map rU8)=true:=by induction l with | nil=>rfl | cons x l ih=>simp [AV.D5,rU8,AV.bdds,AV.bdd,ih]
@[simp] theorem d2B (n:Nat) (l:List ByteArray):AV.D5 n (l.map a0R)=true:=by induction l with | nil=>rfl | cons x l ih=>simp [AV.D5,a0R,AV.bdds,AV.bdd,ih]
@[simp] theorem d2y (n:Nat) (l:List Bool):AV.D5 n (l.map b3O)=true:=by induction l with | nil=>rfl | cons x l ih=>simp [AV.D5,b3O,AV.bdds,AV.bdd,ih]
def Key.eqb (a b:Key):Bool:=(a.app.toList == b.app.toList)&&((a.id.toList == b.id.toList)&&true)
def fA (a b:ByteArray):Int:=if Op.bytesLess a.toList b.toList then -1 else if a.toList == b.toList then 0 else 1
def Q0 (a b:Int):Int:=if a < b then -1 else if a > b then 1 else 0
def U8 (a b:Key):Int:=if fA a.app b.app=0 then fA a.id b.id else fA a.app b.app
def kI (a b:Key):Bool:=decide (U8 a b < 0)
def b4z:Ann:={ fin:=some 0 }
theorem a0A (s : ByteArray)  : l6 Tryz.prog 226 [(AV.str s)] ([] : Heap) ((AV.bool false), ([] : Heap)) :=
  o9 (fn := Tryz.f226) (ann := b4z) (Has.o Tryz.func226) (.r (.g (.r (.g (.f 0 (AV.bool (!(s.toList == s.toList))) (.e (AV.bool (!(s.toList == s.toList))) (by
        simp)))))))
def a8c:Ann:={ fin:=some 0 }
theorem xC (a b : ByteArray)  : l6 Tryz.prog 208 [(AV.str a), (AV.str b)] ([] : Heap) ((AV.int .i64 (fA a b)), ([] : Heap)) :=
  o9 (fn := Tryz.f208) (ann := a8c) (Has.o Tryz.func208) (.r (.g (.r (.c 1 ((a0A a).lift kr kr ([] : Heap)) (.g (.r (.c 1 ((a0A b).lift kr kr ([] : Heap)) (.g (.r (.g (.no (.r (.g (.no (.r (.g (.two (Op.bytesLess a.toList b.toList) (fun h1 h1' => (.r (.g (.f 0 (AV.int .i64 (-1)) (.e (AV.int .i64 (-1)) (by
        simp_all [fA])))))) (fun h1 h1' => (.r (.g (.two (!(Op.bytesLess a.toList b.toList || a.toList == b.toList)) (fun h2 h2' => (.r (.g (.f 0 (AV.int .i64 1) (.e (AV.int .i64 1) (by
        simp_all [fA])))))) (fun h2 h2' => (.r (.g (.f 0 (AV.int .i64 0) (.e (AV.int .i64 0) (by
        simp_all [fA])))))))))))))))))))))))))))
def b4B:Ann:={ fin:=some 0 }
theorem a0C (n : Int)  : l6 Tryz.prog 178 [(AV.int .i64 n)] ([] : Heap) ((AV.bool false), ([] : Heap)) :=
  o9 (fn := Tryz.f178) (ann := b4B) (Has.o Tryz.func178) (.r (.g (.r (.g (.f 0 (AV.bool (n != n)) (.e (AV.bool (n != n)) (by
        simp)))))))
def a8e:Ann:={ fin:=some 0 }
theorem yv_ {p : Prop} (h : p := by
        simp_all [Q0] <;> omega) : p := h
theorem nW (a b:Int) :l6 Tryz.prog 121 [(AV.int .i64 a),(AV.int .i64 b)] ([]:Heap) ((AV.int .i64 (Q0 a b)),([]:Heap)) :=
 o9 (fn:=Tryz.f121) (ann:=a8e) (Has.o Tryz.func121) (.r (.g (.r (.c 1 ((a0C a).lift kr kr ([]:Heap)) (.g (.r (.c 1 ((a0C b).lift kr kr ([]:Heap)) (.g (.r (.g (.no (.r (.g (.no (.r (.g (.two (decide (a < b)) (fun h1 h1'=>(.r (.g (.f 0 (AV.int .i64 (-1)) (.e (AV.int .i64 (-1)) yv_))))) (fun h1 h1'=>(.r (.g (.two (decide (a > b)) (fun h2 h2'=>(.r (.g (.f 0 (AV.int .i64 1) (.e (AV.int .i64 1) yv_))))) (fun h2 h2'=>(.r (.g (.f 0 (AV.int .i64 0) (.e (AV.int .i64 0) yv_))))))))))))))))))))))))))
def c8r:Ann:={ fin:=some 0 }
theorem a7d (x y : Int)  : l6 Tryz.prog 120 [(AV.sl .any 1 [[(AV.int .i64 x)], [(AV.int .i64 y)]])] ([] : Heap) ((AV.int .i64 (if x = 0 then y else x)), ([] : Heap)) :=
  o9 (fn := Tryz.f120) (ann := c8r) (Has.o Tryz.func120) (.r (.g (.r (.g (.r (.g (.roll 3 (.r (.g (.yes (.r (.g (.r (.g (.two (x != 0) (fun h1 h1' => (.r (.g (.f 0 (AV.int .i64 x) (.e (AV.int .i64 x) (by
        simp_all)))))) (fun h1 h1' => (.r (.g (.r (.g (.yes (.r (.g (.r (.g (.two (y != 0) (fun h2 h2' => (.r (.g (.f 0 (AV.int .i64 y) (.e (AV.int .i64 y) (by
        simp_all)))))) (fun h2 h2' => (.r (.g (.r (.g (.no (.r (.g (.f 0 (AV.int .i64 0) (.e (AV.int .i64 0) (by
        simp_all)))))))))))))))))))))))))))))))))))))
def b4q:Ann:={ refs:=[2,3],fin:=some 0 }
theorem a0z (a b : Key)  : l6 Tryz.prog 165 [(AV.agg (Key.row a)), (AV.agg (Key.row b))] ([] : Heap) ((AV.int .i64 (U8 a b)), ([] : Heap)) :=
  o9 (fn := Tryz.f165) (ann := b4q) (Has.o Tryz.func165) (.r (.g (.r (.c 4 ((xC a.app b.app).lift kr kr ([] : Heap)) (.c 9 ((xC a.id b.id).lift kr kr ([] : Heap)) (.c 11 (l6.pre (args := [(AV.sl .any 1 [[(AV.int .i64 (fA a.app b.app))], [(AV.int .i64 (fA a.id b.id))]])]) (args' := [(AV.sl .clip 1 [[(AV.int .i64 (fA a.app b.app))], [(AV.int .i64 (fA a.id b.id))]])]) ((a7d (fA a.app b.app) (fA a.id b.id)).lift kr kr ([] : Heap)) ⟨⟨rfl, rfl, .inl rfl⟩, trivial⟩) (.g (.f 0 (AV.int .i64 (if (fA a.app b.app) = 0 then (fA a.id b.id) else (fA a.app b.app))) (.e (AV.int .i64 (if (fA a.app b.app) = 0 then (fA a.id b.id) else (fA a.app b.app))) (by
        simp [U8]))))))))))
def b0u:Ann:={ refs:=[2,3],fin:=some 0 }
theorem qI (a b:Key) :l6 Tryz.prog 95 [(AV.agg (Key.row a)),(AV.agg (Key.row b))] ([]:Heap) ((AV.bool (kI a b)),([]:Heap)) :=
 o9 (fn:=Tryz.f95) (ann:=b0u) (Has.o Tryz.func95) (.r (.g (.r (.c 2 ((a0z a b).lift kr kr ([]:Heap)) (.g (.f 0 (AV.bool (decide ((U8 a b) < 0))) (.e (AV.bool (decide ((U8 a b) < 0))))))))))
theorem OK.q {H:Heap} {zr:AV × Heap} (n:Nat) (v:AV) (h:(v,H)=zr:=by rfl) (h2:AV.bdd n v=true/\bW n H=true:=by exact ob):OK H zr .nil ((AV.bdd n v=true/\bW n H=true)/\((v,H)=zr)):=⟨⟨h2,h⟩⟩
theorem RK.q {H:Heap} {zr:AV × Heap} (n:Nat) (v:AV) (h:(v,H)=zr:=by rfl) (h2:AV.bdd n v=true/\bW n H=true:=by exact ob):RK H zr [] [] [] .nil ((AV.bdd n v=true/\bW n H=true)/\((v,H)=zr)):=⟨⟨h2,h⟩⟩
theorem OK.qr {H:Heap} {zr:AV × Heap} (n:Nat) (v:AV) (h:(v,H)=zr:=by rfl) (h2:AV.bdd n v=true/\bW n H=true:=by exact ob):OK H zr (.reg [] [] [] .nil) ((AV.bdd n v=true/\bW n H=true)/\((v,H)=zr)):=⟨⟨h2,h⟩⟩
section
variable {H:Heap} {zr:AV × Heap} {tr:Tr} {p:Prop} {hs:Hs} {ra rb:List (Nat × List (List AV))}
theorem RK.s (k:RK H zr hs ra rb tr p):RK H zr [] [] [] (.reg hs ra rb tr) p:=⟨k.h⟩
theorem RK.n (k:RK H zr hs ra rb tr p):RK H zr hs ra rb (.two .nil tr) p:=⟨k.h⟩
theorem OK.n (k:OK H zr tr p):OK H zr (.two .nil tr) p:=⟨k.h⟩
theorem RK.n2 (k:RK H zr hs ra rb tr p):RK H zr hs ra rb (.two .nil (.two .nil tr)) p:=⟨k.h⟩
theorem OK.n2 (k:OK H zr tr p):OK H zr (.two .nil (.two .nil tr)) p:=⟨k.h⟩
theorem RK.n3 (k:RK H zr hs ra rb tr p):RK H zr hs ra rb (.two .nil (.two .nil (.two .nil tr))) p:=⟨k.h⟩
theorem OK.n3 (k:OK H zr tr p):OK H zr (.two .nil (.two .nil (.two .nil tr))) p:=⟨k.h⟩
theorem RK.n4 (k:RK H zr hs ra rb tr p):RK H zr hs ra rb (.two .nil (.two .nil (.two .nil (.two .nil tr)))) p:=⟨k.h⟩
theorem OK.n4 (k:OK H zr tr p):OK H zr (.two .nil (.two .nil (.two .nil (.two .nil tr)))) p:=⟨k.h⟩
theorem RK.n5 (k:RK H zr hs ra rb tr p):RK H zr hs ra rb (.two .nil (.two .nil (.two .nil (.two .nil (.two .nil tr))))) p:=⟨k.h⟩
theorem OK.n5 (k:OK H zr tr p):OK H zr (.two .nil (.two .nil (.two .nil (.two .nil (.two .nil tr))))) p:=⟨k.h⟩
theorem RK.n6 (k:RK H zr hs ra rb tr p):RK H zr hs ra rb (.two .nil (.two .nil (.two .nil (.two .nil (.two .nil (.two .nil tr)))))) p:=⟨k.h⟩
theorem OK.n6 (k:OK H zr tr p):OK H zr (.two .nil (.two .nil (.two .nil (.two .nil (.two .nil (.two .nil tr)))))) p:=⟨k.h⟩
theorem RK.u (k:RK H zr hs ra rb tr p):RK H zr hs ra rb (.two tr .nil) p:=⟨k.h⟩
theorem OK.u (k:OK H zr tr p):OK H zr (.two tr .nil) p:=⟨k.h⟩
theorem RK.u2 (k:RK H zr hs ra rb tr p):RK H zr hs ra rb (.two (.two tr .nil) .nil) p:=⟨k.h⟩
theorem OK.u2 (k:OK H zr tr p):OK H zr (.two (.two tr .nil) .nil) p:=⟨k.h⟩
theorem RK.u3 (k:RK H zr hs ra rb tr p):RK H zr hs ra rb (.two (.two (.two tr .nil) .nil) .nil) p:=⟨k.h⟩
theorem OK.u3 (k:OK H zr tr p):OK H zr (.two (.two (.two tr .nil) .nil) .nil) p:=⟨k.h⟩
theorem RK.u4 (k:RK H zr hs ra rb tr p):RK H zr hs ra rb (.two (.two (.two (.two tr .nil) .nil) .nil) .nil) p:=⟨k.h⟩
theorem OK.u4 (k:OK H zr tr p):OK H zr (.two (.two (.two (.two tr .nil) .nil) .nil) .nil) p:=⟨k.h⟩
theorem RK.u5 (k:RK H zr hs ra rb tr p):RK H zr hs ra rb (.two (.two (.two (.two (.two tr .nil) .nil) .nil) .nil) .nil) p:=⟨k.h⟩
theorem OK.u5 (k:OK H zr tr p):OK H zr (.two (.two (.two (.two (.two tr .nil) .nil) .nil) .nil) .nil) p:=⟨k.h⟩
theorem RK.u6 (k:RK H zr hs ra rb tr p):RK H zr hs ra rb (.two (.two (.two (.two (.two (.two tr .nil) .nil) .nil) .nil) .nil) .nil) p:=⟨k.h⟩
theorem OK.u6 (k:OK H zr tr p):OK H zr (.two (.two (.two (.two (.two (.two tr .nil) .nil) .nil) .nil) .nil) .nil) p:=⟨k.h⟩
theorem RK.rn (k:RK H zr hs ra rb tr p):RK H zr [] [] [] (.two .nil (.reg hs ra rb tr)) p:=⟨k.h⟩
theorem OK.rn (k:RK H zr hs ra rb tr p):OK H zr (.two .nil (.reg hs ra rb tr)) p:=⟨k.h⟩
theorem RK.rn2 (k:RK H zr hs ra rb tr p):RK H zr [] [] [] (.two .nil (.two .nil (.reg hs ra rb tr))) p:=⟨k.h⟩
theorem OK.rn2 (k:RK H zr hs ra rb tr p):OK H zr (.two .nil (.two .nil (.reg hs ra rb tr))) p:=⟨k.h⟩
theorem RK.ru (k:RK H zr hs ra rb tr p):RK H zr [] [] [] (.two (.reg hs ra rb tr) .nil) p:=⟨k.h⟩
theorem OK.ru (k:RK H zr hs ra rb tr p):OK H zr (.two (.reg hs ra rb tr) .nil) p:=⟨k.h⟩
theorem RK.ru2 (k:RK H zr hs ra rb tr p):RK H zr [] [] [] (.two (.two (.reg hs ra rb tr) .nil) .nil) p:=⟨k.h⟩
theorem OK.ru2 (k:RK H zr hs ra rb tr p):OK H zr (.two (.two (.reg hs ra rb tr) .nil) .nil) p:=⟨k.h⟩
end
abbrev AC:=l6 Tryz.prog
@[simp] abbrev e_:AV:=AV.str ⟨#[]⟩
@[simp] abbrev bF:AV:=AV.bool false
@[simp] abbrev bT:AV:=AV.bool true
@[simp] abbrev iW (n:Int):AV:=AV.int .i64 (IntKind.i64.wrap n)
@[simp] abbrev o_ (g k:Nat) (l:List (List AV)):Ob:=⟨g,k,l,none⟩
theorem Yes.o {m n:Int} {H:Heap} (h1:-9223372036854775808<=n:=by omega) (h2:n<=9223372036854775807:=by omega) (h:m=n:=by omega):Yes (.int .i64 (IntKind.i64.wrap m)) H (.int .i64 n):=Yes.add h1 h2 h
@[simp] abbrev z_:AV:=AV.int .i64 0
@[simp] abbrev iI (n:Int):AV:=AV.int .i64 n
@[simp] abbrev iN (n:Nat):AV:=AV.int .i64 (n:Int)
@[simp] abbrev bB (b:Bool):AV:=AV.bool b
@[simp] abbrev sA (k:Nat) (l:List (List AV)):AV:=AV.sl .any k l
@[simp] abbrev oO (i g e c:Nat):AV:=AV.obj i g e c
structure Tp where
 l:List Int
 pos:Nat
 deriving Inhabited
def Tp.row (x:Tp):List AV:=[(sA 1 (List.map aH x.l)),(iN x.pos)]
@[simp] theorem Tp.V7 (n:Nat) (x:Tp):AV.bdds n x.row=true:=by simp [Tp.row,AV.bdds,AV.bdd]
@[simp] theorem Tp.p8 (n:Nat) (l:List Tp):AV.D5 n (l.map Tp.row)=true:=by induction l with | nil=>rfl | cons x l ih=>simp [AV.D5,Tp.V7,ih]
def held (n:Int):Int:=max 0 (min n 4611686018427387904)
theorem gI (n:Int):0<=held n/\held n<=4611686018427387904:=by unfold held; omega
def y5 (e:Entry) (now:Int):Int:=if e.card.gone=true then 0 else max 0 (held now - held e.seen - held e.card.lease)
def a1s (e:Entry) (now:Int):Int:=held now - held e.seen
def L9 (a b:Key):Int:=if kI a b=true then -1 else if kI b a=true then 1 else 0
def wN (x:Int) (hi:Nat):Nat:=if 0<=x/\x<=hi then x.toNat else if Int.tmod x (((hi+1:Nat):Int)) < 0 then (Int.tmod x (((hi+1:Nat):Int))+hi+1).toNat else (Int.tmod x (((hi+1:Nat):Int))).toNat
theorem c7R (x:Int) (n:Nat) (h:0 < n):-(n:Int) < Int.tmod x n/\Int.tmod x n < n:=by
 have h1:=Int.tmod_lt_of_pos x (show (0:Int) < n by omega)
 have h2:=Int.tmod_lt_of_pos (-x) (show (0:Int) < n by omega)
 rw [Int.neg_tmod] at h2
 omega
def c3C:Ann:={ fin:=some 0 }
theorem yw_ {p:Prop} (h:p:=by split <;> omega):p:=h
theorem mV (n:Int) :AC 176 [(iI n)] [] ((iI (held n)),[]) :=
 o9 (fn:=Tryz.f176) (ann:=c3C) (Has.o Tryz.func176) (.r (.s (.y 1 (.int .i64 (if 4611686018427387904 < n then 4611686018427387904 else n)) (iI (min n 4611686018427387904)) (Yes.int yw_) (.y 2 (.int .i64 (if (min n 4611686018427387904) > 0 then (min n 4611686018427387904) else 0)) (iI (max 0 (min n 4611686018427387904))) (Yes.int yw_) (.q 0 (iI (max 0 (min n 4611686018427387904))) (by simp [held]))))))
def c3u:Ann:={ refs:=[2],fin:=some 0 }
@[simp] abbrev ca_ (a:Int) (b:Entry):=(iI (max 0 (((held a) - (held b.seen)) - (held b.card.lease))))
theorem rM (e:Entry) (now:Int) :AC 117 [(AV.agg (Entry.row e)),(iI now)] [] ((iI (y5 e now)),[]):=by
 have h1:=gI now
 have h2:=gI e.seen
 have h3:=gI e.card.lease
 exact o9 (fn:=Tryz.f117) (ann:=c3u) (Has.o Tryz.func117) (.r (.s (.g (.two e.card.gone (fun h1 h1'=>(.qr 0 z_ (by simp_all [y5]))) (fun h1 h1'=>(.r (.c 1 ((mV now).lift kr kr []) (.c 4 ((mV e.seen).lift kr kr []) (.y 5 (iW ((held now) - (held e.seen))) (iI ((held now) - (held e.seen))) Yes.o (.c 9 ((mV e.card.lease).lift kr kr []) (.y 10 (iW (((held now) - (held e.seen)) - (held e.card.lease))) (iI (((held now) - (held e.seen)) - (held e.card.lease))) Yes.o (.y 11 (.int .i64 (if (((held now) - (held e.seen)) - (held e.card.lease)) > 0 then (((held now) - (held e.seen)) - (held e.card.lease)) else 0)) (ca_ now e) (Yes.int yw_) (.q 0 (ca_ now e) (by simp_all [y5]))))))))))))))
def c8O:Ann:={ refs:=[2],fin:=some 0 }
theorem c5l (e:Entry) (now:Int) :AC 112 [(AV.agg (Entry.row e)),(iI now)] [] ((iI (a1s e now)),[]):=by
 have h1:=gI now
 have h2:=gI e.seen
 exact o9 (fn:=Tryz.f112) (ann:=c8O) (Has.o Tryz.func112) (.r (.s (.c 1 ((mV now).lift kr kr []) (.c 4 ((mV e.seen).lift kr kr []) (.y 5 (iW ((held now) - (held e.seen))) (iI ((held now) - (held e.seen))) Yes.o (.q 0 (iI ((held now) - (held e.seen))) (by simp_all [a1s])))))))
def b9i:Ann:={ refs:=[2,3],fin:=some 0 }
theorem b3X (a b:Key) :AC 122 [(AV.agg (Key.row a)),(AV.agg (Key.row b))] [] ((iI (L9 a b)),[]) :=
 o9 (fn:=Tryz.f122) (ann:=b9i) (Has.o Tryz.func122) (.r (.s (.c 2 ((qI a b).lift kr kr []) (.g (.two (kI a b) (fun h1 h1'=>(.qr 0 (iI (-1)) (by simp_all [L9]))) (fun h1 h1'=>(.r (.c 2 ((qI b a).lift kr kr []) (.g (.two (kI b a) (fun h2 h2'=>(.qr 0 (iI 1) (by simp_all [L9]))) (fun h2 h2'=>(.qr 0 z_ (by simp_all [L9])))))))))))))
def b2f:Ann:={ fin:=some 0 }
theorem yx_ {p:Prop} (h:p:=by simp_all [wN]; all_goals first | done | omega | (split <;> omega) | (split <;> first | omega | (split <;> omega))):p:=h
@[simp] abbrev cb_ (a:Nat):=(IntKind.i64.wrap ((a:Int)+1))
@[simp] abbrev cc_ (a:Int) (b:Nat):=(iI (Int.tmod a ((b+1:Nat):Int)))
@[simp] abbrev cd_ (a:Int) (b:Nat):=(iI (0+((((Int.tmod a ((b+1:Nat):Int))+(b:Int)) - 0)+1)))
@[simp] abbrev ce_ (a:Int) (b:Nat):=(iI (0+(Int.tmod a ((b+1:Nat):Int))))
theorem a9x (x:Int) (hi:Nat) (hh:hi < 1099511627776):AC 30 [(iI x),z_,(iN hi)] [] ((iN (wN x hi)),[]):=by
 have hb:=c7R x (hi+1) ow
 exact o9 (fn:=Tryz.f30) (ann:=b2f) (Has.o Tryz.func30) (.r (.s (.two (decide (x >= 0)) (fun h1 h1'=>(.u2 (.g (.two (decide (x<=(hi:Int))) (fun h2 h2'=>(.qr 0 (iI x) yx_)) (fun h2 h2'=>(.r (.y 3 (iW ((hi:Int) - 0)) (iN hi) Yes.o (.y 4 (.int .i64 (cb_ hi)) (iN (hi+1)) Yes.o (.t 5 (cc_ x hi) [] (a0S ow rfl:Option.map (fun a=>(a,([]:Heap))) (if (((hi+1:Nat):Int):Int)=0 then none else some (cc_ x hi))=some ((cc_ x hi),([]:Heap))) (.s (.g (.two (decide ((Int.tmod x ((hi+1:Nat):Int)) < 0)) (fun h3 h3'=>(.r (.y 2 (iW ((Int.tmod x ((hi+1:Nat):Int))+(hi:Int))) (iI ((Int.tmod x ((hi+1:Nat):Int))+(hi:Int))) Yes.o (.y 4 (iW (((Int.tmod x ((hi+1:Nat):Int))+(hi:Int)) - 0)) (iI (((Int.tmod x ((hi+1:Nat):Int))+(hi:Int)) - 0)) Yes.o (.y 5 (iW ((((Int.tmod x ((hi+1:Nat):Int))+(hi:Int)) - 0)+1)) (iI ((((Int.tmod x ((hi+1:Nat):Int))+(hi:Int)) - 0)+1)) Yes.o (.s (.y 2 (iW (0+((((Int.tmod x ((hi+1:Nat):Int))+(hi:Int)) - 0)+1))) (cd_ x hi) Yes.o (.q 0 (cd_ x hi) yx_)))))))) (fun h3 h3'=>(.r (.y 2 (iW (0+(Int.tmod x ((hi+1:Nat):Int)))) (ce_ x hi) Yes.o (.q 0 (ce_ x hi) yx_)))))))))))))))) (fun h1 h1'=>(.n2 (.rn (.y 3 (iW ((hi:Int) - 0)) (iN hi) Yes.o (.y 4 (.int .i64 (cb_ hi)) (iN (hi+1)) Yes.o (.t 5 (cc_ x hi) [] (a0S ow rfl:Option.map (fun a=>(a,([]:Heap))) (if (((hi+1:Nat):Int):Int)=0 then none else some (cc_ x hi))=some ((cc_ x hi),([]:Heap))) (.s (.g (.two (decide ((Int.tmod x ((hi+1:Nat):Int)) < 0)) (fun h2 h2'=>(.r (.y 2 (iW ((Int.tmod x ((hi+1:Nat):Int))+(hi:Int))) (iI ((Int.tmod x ((hi+1:Nat):Int))+(hi:Int))) Yes.o (.y 4 (iW (((Int.tmod x ((hi+1:Nat):Int))+(hi:Int)) - 0)) (iI (((Int.tmod x ((hi+1:Nat):Int))+(hi:Int)) - 0)) Yes.o (.y 5 (iW ((((Int.tmod x ((hi+1:Nat):Int))+(hi:Int)) - 0)+1)) (iI ((((Int.tmod x ((hi+1:Nat):Int))+(hi:Int)) - 0)+1)) Yes.o (.s (.y 2 (iW (0+((((Int.tmod x ((hi+1:Nat):Int))+(hi:Int)) - 0)+1))) (cd_ x hi) Yes.o (.q 0 (cd_ x hi) yx_)))))))) (fun h2 h2'=>(.r (.y 2 (iW (0+(Int.tmod x ((hi+1:Nat):Int)))) (ce_ x hi) Yes.o (.q 0 (ce_ x hi) yx_))))))))))))))))
def Tp.next (t:Tp) (n:Nat):Nat:=if t.l.length<=t.pos\/n < 1 then 0 else wN (nth t.l t.pos) 1073741824 % n
def Tp.step (t:Tp) (n:Nat):Tp:=if t.l.length<=t.pos\/n < 1 then t else ⟨t.l,t.pos+1⟩
theorem Tp.next_lt (t:Tp) (n:Nat) (h:0 < n):t.next n < n:=by
 unfold Tp.next
 split
 · omega
 · exact Nat.mod_lt _ h
def c2X:Ann:={ base:=1,fin:=some 1 }
@[simp] abbrev a0j (a:Tp):Heap:=[(o_ 0 2 [[(sA 1 (List.map aH a.l)),(iN (a.pos+1))]])]
theorem yy_ {p:Prop} (h:p:=by (try delta a0j); (simp only [Tp.next,Tp.step]); (first | rw [if_pos ow,if_pos ow] | rw [if_neg ow,if_neg ow]); first | rfl | simp [Tp.row]):p:=h
theorem b9j (t:Tp) (n:Nat) (hl:t.l.length < 9223372036854775808):AC 47 [(AV.obj 0 0 0 0),(AV.int .i64 (n:Int))] [(o_ 0 2 [(Tp.row t)])] ((AV.int .i64 (t.next n:Int)),[(o_ 0 2 [(Tp.row (t.step n))])]) :=
 o9 (fn:=Tryz.f47) (ann:=c2X) (Has.o Tryz.func47) (.r (.s (.y 8 (.int .i64 ((List.length (List.map aH t.l):Nat):Int)) (AV.int .i64 (t.l.length:Int)) (Yes.len _ _ _) (.two (decide ((t.pos:Int) >= (t.l.length:Int))) (fun h1 h1'=>(.u (.g (.u (.qr 1 (AV.int .i64 0) yy_))))) (fun h1 h1'=>(.n (.g (.two (decide ((n:Int) < 1)) (fun h2 h2'=>(.qr 1 (AV.int .i64 0) yy_)) (fun h2 h2'=>(.r (.y 4 (iW ((t.pos:Int)+1)) (AV.int .i64 ((t.pos+1:Nat):Int)) Yes.o (.s (.h' (a0j t) (.y 8 (iW (((t.pos+1:Nat):Int) - 1)) (AV.int .i64 ((t.pos+1 - 1:Nat):Int)) Yes.o (.is 9 1 1 (List.map aH t.l) ((t.pos+1 - 1:Nat):Int) (aH (nth t.l (t.pos+1 - 1))) (J8.mk _ ow ow) (.c 11 (l6.pre (args:=[(AV.int .i64 (nth t.l (t.pos+1 - 1))),(AV.int .i64 0),(AV.int .i64 ((1073741824:Nat):Int))]) (args':=[(AV.int .i64 (nth t.l (t.pos+1 - 1))),(AV.int .i64 0),(AV.int .i64 1073741824)]) ((a9x (nth t.l (t.pos+1 - 1)) 1073741824 oa).lift kr kr (a0j t)) ⟨AV.j3 _,AV.j3 _,AV.j3 _,trivial⟩) (.t 13 (AV.int .i64 (((wN (nth t.l (t.pos+1 - 1)) 1073741824) % n:Nat):Int)) (a0j t) (c8k ow:Option.map (fun a=>(a,(a0j t))) (if ((n:Int):Int)=0 then none else some (AV.int .i64 (Int.tmod ((wN (nth t.l (t.pos+1 - 1)) 1073741824:Nat):Int) (n:Int))))=some ((AV.int .i64 (((wN (nth t.l (t.pos+1 - 1)) 1073741824) % n:Nat):Int)),(a0j t))) (.q 1 (AV.int .i64 (((wN (nth t.l (t.pos+1 - 1)) 1073741824) % n:Nat):Int)) yy_))))))))))))))))))
theorem W9 (t:Tp) (n:Nat) (hl:t.l.length < 9223372036854775808) (H:Heap):AC 47 [(oO 0 0 0 0),(iN n)] (([(o_ 0 2 [(Tp.row t)])]:Heap)++H) ((iN (t.next n)),([(o_ 0 2 [(Tp.row (t.step n))])]:Heap)++H):=(b9j t n hl).ext kr kr ob ob kr H
theorem Tp.jV (t:Tp) (n:Nat):(t.step n).l=t.l:=by unfold Tp.step; split <;> rfl
def a3G:List ByteArray:=[(ByteArray.mk #[97,112,112]),(ByteArray.mk #[98]),(ByteArray.mk #[97,112,112,49]),(ByteArray.mk #[122,57])]
def a3j:List ByteArray:=[(ByteArray.mk #[105,100]),(ByteArray.mk #[97]),(ByteArray.mk #[105,100,50]),(ByteArray.mk #[120,48]),(ByteArray.mk #[109])]
def Tp.key (t:Tp):Key:=⟨nth a3G (t.next 4),nth a3j ((t.step 4).next 5)⟩
def Tp.keyT (t:Tp):Tp:=(t.step 4).step 5
def Tp.stamp (t:Tp):l8:=⟨(t.next 40:Nat),((t.step 40).next 6:Nat),(((t.step 40).step 6).next 9:Nat)⟩
def Tp.iY (t:Tp):Tp:=((t.step 40).step 6).step 9
theorem Tp.yE (t:Tp):t.keyT.l=t.l:=by simp [Tp.keyT,Tp.jV]
theorem Tp.a0H (t:Tp):t.iY.l=t.l:=by simp [Tp.iY,Tp.jV]
def Tp.c1 (t:Tp):Tp:=t.keyT.step 2
def Tp.c2 (t:Tp):Tp:=t.c1.step 7
def Tp.c3 (t:Tp):Tp:=t.c2.step 60
def Tp.c4 (t:Tp):Tp:=t.c3.iY
def Tp.card (t:Tp):j5:=⟨t.key,(1+t.keyT.next 2:Nat),(t.c1.next 7 / 2:Nat),(1+t.c2.next 60:Nat),t.c3.stamp,((t.c4.next 4:Nat):Int) == 0⟩
def Tp.G5 (t:Tp):Tp:=t.c4.step 4
theorem Tp.zV (t:Tp):t.G5.l=t.l:=by simp [Tp.G5,Tp.c4,Tp.c3,Tp.c2,Tp.c1,Tp.yE,Tp.a0H,Tp.jV]
def c8y:Ann:={ base:=1,fin:=some 1 }
@[simp] abbrev d2d :Heap:=[(o_ 0 2 [[e_,e_]])]
theorem yz_ {p:Prop} (h:p:=by first | omega | (simp [Tp.jV,Tp.yE,Tp.a0H,Tp.zV]; omega)):p:=h
@[simp] abbrev cf_ (a:Tp):=(AV.agg [(AV.str (nth ([(ByteArray.mk #[97,112,112]),(ByteArray.mk #[98]),(ByteArray.mk #[97,112,112,49]),(ByteArray.mk #[122,57])]) (a.next 4))),(AV.str (nth ([(ByteArray.mk #[105,100]),(ByteArray.mk #[97]),(ByteArray.mk #[105,100,50]),(ByteArray.mk #[120,48]),(ByteArray.mk #[109])]) ((a.step 4).next 5)))])
theorem c3v (t:Tp) (hl:t.l.length < 9223372036854775808):AC 91 [(oO 0 0 0 0)] [(o_ 0 2 [(Tp.row t)])] ((AV.agg (Key.row t.key)),[(o_ 0 2 [(Tp.row t.keyT)])]):=by
 have h4:=t.next_lt 4 ow
 have h5:=(t.step 4).next_lt 5 ow
 exact o9 (fn:=Tryz.f91) (ann:=c8y) (Has.o Tryz.func91) (.r (.s (.ch 2 [(o_ 0 2 [(Tp.row (t.step 4))]),(o_ 0 2 [[e_,e_]])] (l6.pre (args:=[(oO 0 0 0 0),(iN 4)]) (args':=[(oO 0 0 0 0),(iI 4)]) (W9 t 4 yz_ d2d) ⟨AV.j3 _,AV.j3 _,trivial⟩) (.is 3 1 1 (List.map a0R ([(ByteArray.mk #[97,112,112]),(ByteArray.mk #[98]),(ByteArray.mk #[97,112,112,49]),(ByteArray.mk #[122,57])])) ((t.next 4:Nat):Int) (a0R (nth ([(ByteArray.mk #[97,112,112]),(ByteArray.mk #[98]),(ByteArray.mk #[97,112,112,49]),(ByteArray.mk #[122,57])]) (t.next 4))) (J8.mk _ ow yh_) (.ch 7 [(o_ 0 2 [(Tp.row ((t.step 4).step 5))]),(o_ 0 2 [[e_,e_]])] (l6.pre (args:=[(oO 0 0 0 0),(iN 5)]) (args':=[(oO 0 0 0 0),(iI 5)]) (W9 (t.step 4) 5 yz_ d2d) ⟨AV.j3 _,AV.j3 _,trivial⟩) (.is 8 1 1 (List.map a0R ([(ByteArray.mk #[105,100]),(ByteArray.mk #[97]),(ByteArray.mk #[105,100,50]),(ByteArray.mk #[120,48]),(ByteArray.mk #[109])])) (((t.step 4).next 5:Nat):Int) (a0R (nth ([(ByteArray.mk #[105,100]),(ByteArray.mk #[97]),(ByteArray.mk #[105,100,50]),(ByteArray.mk #[120,48]),(ByteArray.mk #[109])]) ((t.step 4).next 5))) (J8.mk _ ow yh_) (.g (.h' [(o_ 0 2 [(Tp.row ((t.step 4).step 5))])] (.q 1 (cf_ t))))))))))
theorem b9y (t:Tp) (hl:t.l.length < 9223372036854775808) (H:Heap):AC 91 [(oO 0 0 0 0)] (([(o_ 0 2 [(Tp.row t)])]:Heap)++H) ((AV.agg (Key.row t.key)),([(o_ 0 2 [(Tp.row t.keyT)])]:Heap)++H):=(c3v t hl).ext kr kr ob ob kr H
def b7K:Ann:={ base:=1,fin:=some 1 }
@[simp] abbrev qV :Heap:=[(o_ 0 3 [[z_,z_,z_]])]
@[simp] abbrev cg_ (a:Tp):=(AV.agg [(iN (a.next 40)),(iN ((a.step 40).next 6)),(iN (((a.step 40).step 6).next 9))])
theorem b2l (t:Tp) (hl:t.l.length < 9223372036854775808):AC 92 [(oO 0 0 0 0)] [(o_ 0 2 [(Tp.row t)])] ((AV.agg (l8.row t.stamp)),[(o_ 0 2 [(Tp.row t.iY)])]) :=
 o9 (fn:=Tryz.f92) (ann:=b7K) (Has.o Tryz.func92) (.r (.s (.ch 1 [(o_ 0 2 [(Tp.row (t.step 40))]),(o_ 0 3 [[z_,z_,z_]])] (l6.pre (args:=[(oO 0 0 0 0),(iN 40)]) (args':=[(oO 0 0 0 0),(iI 40)]) (W9 t 40 yz_ qV) ⟨AV.j3 _,AV.j3 _,trivial⟩) (.ch 3 [(o_ 0 2 [(Tp.row ((t.step 40).step 6))]),(o_ 0 3 [[z_,z_,z_]])] (l6.pre (args:=[(oO 0 0 0 0),(iN 6)]) (args':=[(oO 0 0 0 0),(iI 6)]) (W9 (t.step 40) 6 yz_ qV) ⟨AV.j3 _,AV.j3 _,trivial⟩) (.ch 5 [(o_ 0 2 [(Tp.row (((t.step 40).step 6).step 9))]),(o_ 0 3 [[z_,z_,z_]])] (l6.pre (args:=[(oO 0 0 0 0),(iN 9)]) (args':=[(oO 0 0 0 0),(iI 9)]) (W9 ((t.step 40).step 6) 9 yz_ qV) ⟨AV.j3 _,AV.j3 _,trivial⟩) (.g (.h' [(o_ 0 2 [(Tp.row (((t.step 40).step 6).step 9))])] (.q 1 (cg_ t)))))))))
theorem c1G (t:Tp) (hl:t.l.length < 9223372036854775808) (H:Heap):AC 92 [(oO 0 0 0 0)] (([(o_ 0 2 [(Tp.row t)])]:Heap)++H) ((AV.agg (l8.row t.stamp)),([(o_ 0 2 [(Tp.row t.iY)])]:Heap)++H):=(b2l t hl).ext kr kr ob ob kr H
def b7H:Ann:={ base:=1,fin:=some 1 }
@[simp] abbrev a3Q :Heap:=[(o_ 0 9 [[e_,e_,z_,z_,z_,z_,z_,z_,bF]])]
theorem a2N {p:Prop} (h:p:=by first | omega | (simp [Tp.c4,Tp.c3,Tp.c2,Tp.c1,Tp.jV,Tp.yE,Tp.a0H,Tp.zV]; omega)):p:=h
@[simp] abbrev ch_ (a:Tp):=(AV.agg [(AV.str a.key.app),(AV.str a.key.id),(iN (1+(a.keyT.next 2))),(iN (((a.keyT.step 2).next 7) / 2)),(iN (1+(((a.keyT.step 2).step 7).next 60))),(iI (((a.keyT.step 2).step 7).step 60).stamp.t),(iI (((a.keyT.step 2).step 7).step 60).stamp.node),(iI (((a.keyT.step 2).step 7).step 60).stamp.n),(bB ((((((a.keyT.step 2).step 7).step 60).iY.next 4:Nat):Int) == 0))])
theorem b2k (t:Tp) (hl:t.l.length < 9223372036854775808):AC 49 [(oO 0 0 0 0)] [(o_ 0 2 [(Tp.row t)])] ((AV.agg (j5.row t.card)),[(o_ 0 2 [(Tp.row t.G5)])]):=by
 have h2:=t.keyT.next_lt 2 ow
 have h7:=t.c1.next_lt 7 ow
 have h60:=t.c2.next_lt 60 ow
 unfold Tp.c2 Tp.c1 at *
 exact o9 (fn:=Tryz.f49) (ann:=b7H) (Has.o Tryz.func49) (.r (.s (.ch 1 [(o_ 0 2 [(Tp.row t.keyT)]),(o_ 0 9 [[e_,e_,z_,z_,z_,z_,z_,z_,bF]])] (b9y t a2N a3Q) (.ch 3 [(o_ 0 2 [(Tp.row (t.keyT.step 2))]),(o_ 0 9 [[e_,e_,z_,z_,z_,z_,z_,z_,bF]])] (l6.pre (args:=[(oO 0 0 0 0),(iN 2)]) (args':=[(oO 0 0 0 0),(iI 2)]) (W9 t.keyT 2 a2N a3Q) ⟨AV.j3 _,AV.j3 _,trivial⟩) (.y 4 (iW (1+((t.keyT.next 2:Nat):Int))) (iN (1+(t.keyT.next 2))) Yes.o (.ch 6 [(o_ 0 2 [(Tp.row ((t.keyT.step 2).step 7))]),(o_ 0 9 [[e_,e_,z_,z_,z_,z_,z_,z_,bF]])] (l6.pre (args:=[(oO 0 0 0 0),(iN 7)]) (args':=[(oO 0 0 0 0),(iI 7)]) (W9 (t.keyT.step 2) 7 a2N a3Q) ⟨AV.j3 _,AV.j3 _,trivial⟩) (.y 7 (iW (Int.tdiv (((t.keyT.step 2).next 7:Nat):Int) 2)) (iN (((t.keyT.step 2).next 7) / 2)) (Yes.quo ow) (.ch 9 [(o_ 0 2 [(Tp.row (((t.keyT.step 2).step 7).step 60))]),(o_ 0 9 [[e_,e_,z_,z_,z_,z_,z_,z_,bF]])] (l6.pre (args:=[(oO 0 0 0 0),(iN 60)]) (args':=[(oO 0 0 0 0),(iI 60)]) (W9 ((t.keyT.step 2).step 7) 60 a2N a3Q) ⟨AV.j3 _,AV.j3 _,trivial⟩) (.y 10 (iW (1+((((t.keyT.step 2).step 7).next 60:Nat):Int))) (iN (1+(((t.keyT.step 2).step 7).next 60))) Yes.o (.ch 12 [(o_ 0 2 [(Tp.row (((t.keyT.step 2).step 7).step 60).iY)]),(o_ 0 9 [[e_,e_,z_,z_,z_,z_,z_,z_,bF]])] (c1G (((t.keyT.step 2).step 7).step 60) a2N a3Q) (.ch 14 [(o_ 0 2 [(Tp.row ((((t.keyT.step 2).step 7).step 60).iY.step 4))]),(o_ 0 9 [[e_,e_,z_,z_,z_,z_,z_,z_,bF]])] (l6.pre (args:=[(oO 0 0 0 0),(iN 4)]) (args':=[(oO 0 0 0 0),(iI 4)]) (W9 (((t.keyT.step 2).step 7).step 60).iY 4 a2N a3Q) ⟨AV.j3 _,AV.j3 _,trivial⟩) (.g (.h' [(o_ 0 2 [(Tp.row ((((t.keyT.step 2).step 7).step 60).iY.step 4))])] (.q 1 (ch_ t)))))))))))))))
theorem c1A (t:Tp) (hl:t.l.length < 9223372036854775808) (H:Heap):AC 49 [(oO 0 0 0 0)] (([(o_ 0 2 [(Tp.row t)])]:Heap)++H) ((AV.agg (j5.row t.card)),([(o_ 0 2 [(Tp.row t.G5)])]:Heap)++H):=(b2k t hl).ext kr kr ob ob kr H
attribute [local irreducible] Tp.G5 Tp.card Tp.next Tp.step
attribute [local irreducible] Tp.key Tp.keyT
section
variable {α:Type} [Inhabited α]
def sink (cmp:α->α->Int) (a:Nat):Nat->List α->List α
 | 0,l=>l
 | j+1,l=>if decide (((j+1:Nat):Int) > (a:Int))=true then if decide (cmp (nth l (j+1)) (nth l j) < 0)=true then sink cmp a j ((l.set (j+1) (nth l j)).set j (nth l (j+1))) else l else l
def w9 (cmp:α->α->Int) (a:Nat):Nat->Nat->List α->List α
 | 0,_,l=>l
 | k+1,i,l=>w9 cmp a k (i+1) (sink cmp a i l)
theorem qA (cmp:α->α->Int) (a j:Nat):∀ (l:List α),(sink cmp a j l).length=l.length:=by
 induction j with
 | zero=>intro l; simp only [sink]
 | succ j ih =>
  intro l
  simp only [sink]
  split
  · split
    · rw [ih]; simp
    · rfl
  · rfl
theorem bQ (cmp:α->α->Int) (a k:Nat):∀ (i:Nat) (l:List α),(w9 cmp a k i l).length=l.length:=by
 induction k with
 | zero=>intro i l; simp only [w9]
 | succ k ih=>intro i l; simp only [w9]; rw [ih,qA]
end
def qJ:Ann:={ base:=1,fin:=some 1,live:=[(1,[0,1,2,3,8]),(4,[0,1,2,3,8,9])],out:=[(1,[0,1,2,3,8]),(4,[0,1,2,3,8])] }
abbrev l9E:=List Entry
@[simp] abbrev mE (l:l9E):List (List AV):=List.map Entry.row l
@[simp] abbrev b7t (a:Nat) (b:l9E) (c:Nat):Heap:=[(o_ a 10 (mE ((b.set c (nth b (c - 1))).set (c - 1) (nth b c))))]
@[simp] abbrev a3P (a:Nat) (b:Nat) (c:Nat) (d:Nat) (e:Nat) (f:List AV) (g:Nat):Fr:=(mkF 53 [(0,(AV.osl 0 a 10 0 b)),(1,(iN c)),(2,(iN d)),(3,(AV.func e f)),(8,(iN g))])
theorem rZ {p:Prop} (h:p:=by simp [Entry.row]):p:=h
theorem rY {p:Prop} (h:p:=by simp [setAt,bA,List.map_set,Entry.row]):p:=h
@[simp] abbrev ci_ :=(l9 Tryz.prog (X qJ) (p9 Tryz.f212 1))
@[simp] abbrev cj_ (a:l9E) (b:Nat):=(AV.agg (Entry.row (nth a b)))
@[simp] abbrev ck_ (a:Nat):=(IntKind.i64.wrap ((a:Int) - 1))
@[simp] abbrev cl_ (a:l9E) (b:Nat):=(AV.agg (Entry.row (nth a (b - 1))))
abbrev h9E (cmp:Entry->Entry->Int) (f:Nat) (xs:List AV):Prop:=∀ (x y:Entry) (H:Heap),AC f ([AV.agg (Entry.row x),AV.agg (Entry.row y)]++xs) H (AV.int .i64 (cmp x y),H)
theorem a4D (cmp:Entry->Entry->Int) (f:Nat) (xs:List AV) (hc:h9E cmp f xs) (a b i n g:Nat) (j:Nat) (l:l9E) (hn:n=l.length) (hb:n < 1099511627776) (hbn:b<=n) (hj:j < n) {eX:Ex} {FX:Fr} {HX:Heap} (k1:(decide ((j:Int) > (a:Int)))=true->(decide ((cmp (nth l j) (nth l (j - 1))) < 0))=true->j6 ci_ (some [0,1,2,3,8,9]) (some [0,1,2,3,8]) (mkF 53 [(0,(AV.osl 0 g 10 0 n)),(1,(iN a)),(2,(iN b)),(3,(AV.func f xs)),(8,(iN i)),(9,(iN (j - 1)))]) (b7t g l j) eX FX HX) (k2:(decide ((j:Int) > (a:Int)))=true->(decide ((cmp (nth l j) (nth l (j - 1))) < 0))=false->((.exit 2:Ex),(a3P g n a b f xs i),[(o_ g 10 (mE l))])=(eX,FX,HX)) (k3:(decide ((j:Int) > (a:Int)))=false->((.exit 2:Ex),(a3P g n a b f xs i),[(o_ g 10 (mE l))])=(eX,FX,HX)):j6 ci_ (some [0,1,2,3,8,9]) (some [0,1,2,3,8]) (mkF 53 [(0,(AV.osl 0 g 10 0 n)),(1,(iN a)),(2,(iN b)),(3,(AV.func f xs)),(8,(iN i)),(9,(iN j))]) [(o_ g 10 (mE l))] eX FX HX :=
 F7 (.r (.two (decide ((j:Int) > (a:Int))) (fun h1 h1'=>(.u3 (.io 7 0 g 10 10 0 n (j:Int) j (E9.mk _ ow ow) (.u (.t 8 (cj_ l j) [(o_ g 10 (mE l))] (G9 (C8 (row:=Entry.row) (l:=l) (k:=10) (room:=none) kr om) kr:K3 tt 45 0 [(o_ g 10 (mE l))] (rowAt [(o_ g 10 (mE l))] 0 g j)=some ((cj_ l j),([(o_ g 10 (mE l))]:Heap))) (.u3 (.y 11 (.int .i64 (ck_ j)) (iN (j - 1)) Yes.o (.u (.io 12 0 g 10 10 0 n ((j - 1:Nat):Int) (j - 1) (E9.mk _ ow ow) (.u (.t 13 (cl_ l j) [(o_ g 10 (mE l))] (G9 (C8 (row:=Entry.row) (l:=l) (k:=10) (room:=none) kr om) kr:K3 tt 45 0 [(o_ g 10 (mE l))] (rowAt [(o_ g 10 (mE l))] 0 g (j - 1))=some ((cl_ l j),([(o_ g 10 (mE l))]:Heap))) (.u (.c 14 (hc (nth l j) (nth l (j - 1)) [(o_ g 10 (mE l))]) (.u (.g (.two (decide ((cmp (nth l j) (nth l (j - 1))) < 0)) (fun h2 h2'=>(.r (.y 4 (.int .i64 (ck_ j)) (iN (j - 1)) Yes.o (.y 7 (.int .i64 (ck_ j)) (iN (j - 1)) Yes.o (.io 8 0 g 10 10 0 n ((j - 1:Nat):Int) (j - 1) (E9.mk _ ow ow) (.t 9 (cl_ l j) [(o_ g 10 (mE l))] (G9 (C8 (row:=Entry.row) (l:=l) (k:=10) (room:=none) kr om) kr:K3 tt 45 0 [(o_ g 10 (mE l))] (rowAt [(o_ g 10 (mE l))] 0 g (j - 1))=some ((cl_ l j),([(o_ g 10 (mE l))]:Heap))) (.io 12 0 g 10 10 0 n (j:Int) j (E9.mk _ ow ow) (.t 13 (cj_ l j) [(o_ g 10 (mE l))] (G9 (C8 (row:=Entry.row) (l:=l) (k:=10) (room:=none) kr om) kr:K3 tt 45 0 [(o_ g 10 (mE l))] (rowAt [(o_ g 10 (mE l))] 0 g j)=some ((cj_ l j),([(o_ g 10 (mE l))]:Heap))) (.io 14 0 g 10 10 0 n (j:Int) j (E9.mk _ ow ow) (.st 15 0 g j 10 0 (cl_ l j) [(o_ g 10 (mE (l.set j (nth l (j - 1)))))] (Q5 (us:=(Entry.row (nth l (j - 1)))) (C8 (row:=Entry.row) (l:=l) (k:=10) (room:=none) kr om) kr rZ rY) (.io 16 0 g 10 10 0 n ((j - 1:Nat):Int) (j - 1) (E9.mk _ ow ow) (.st 17 0 g (j - 1) 10 0 (cj_ l j) (b7t g l j) (Q5 (us:=(Entry.row (nth l j))) (C8 (row:=Entry.row) (l:=l.set j (nth l (j - 1))) (k:=10) (room:=none) kr om) kr rZ rY) (.s (.y 1 (.int .i64 (ck_ j)) (iN (j - 1)) Yes.o (.g (.l (k1 h1 h2))))))))))))))))) (fun h2 h2'=>(.l (k2 h1 h2))))))))))))))))))) (fun h1 h1'=>(.n6 (.n5 (.g (.n (.l (k3 h1)))))))))
theorem b4C (cmp:Entry->Entry->Int) (f:Nat) (xs:List AV) (hc:h9E cmp f xs) (a b i n g:Nat) (j:Nat):∀ (l lF:l9E),n=l.length->n < 1099511627776->b<=n->j < n->lF=sink cmp a j l ->
 j6 (l9 Tryz.prog (X qJ) (p9 Tryz.f212 1)) (some [0,1,2,3,8,9]) (some [0,1,2,3,8]) (mkF 53 [(0,(AV.osl 0 g 10 0 n)),(1,(iN a)),(2,(iN b)),(3,(AV.func f xs)),(8,(iN i)),(9,(iN j))]) [(o_ g 10 (mE l))] (.exit 2) (mkF 53 [(0,(AV.osl 0 g 10 0 n)),(1,(iN a)),(2,(iN b)),(3,(AV.func f xs)),(8,(iN i))]) [(o_ g 10 (mE lF))]:=by
 induction j with
 | zero =>
  intro l lF hn hb hbn hj h
  refine a4D cmp f xs hc a b i n g 0 l hn hb hbn hj (fun h1=>?_) (fun h1=>?_) (fun h1=>?_)
  · simp at h1; omega
  · simp at h1; omega
  · rw [h]; rfl
 | succ j ih =>
  intro l lF hn hb hbn hj h
  refine a4D cmp f xs hc a b i n g (j+1) l hn hb hbn hj (fun h1 h2=>?_) (fun h1 h2=>?_) (fun h1=>?_)
  · simp only [Nat.add_sub_cancel] at h2
    exact ih ((l.set (j+1) (nth l j)).set j (nth l (j+1))) lF (by simp [hn]) hb hbn ow (by rw [h]; simp only [sink]; rw [if_pos h1,if_pos h2])
  · simp only [Nat.add_sub_cancel] at h2
    rw [h]; simp only [sink]; rw [if_pos h1,if_neg (by rw [h2]; simp)]
  · rw [h]; simp only [sink]; rw [if_neg (by rw [h1]; simp)]
@[simp] abbrev cm_ :=(l9 Tryz.prog (X qJ) (p9 Tryz.f212 0))
theorem a4C (cmp:Entry->Entry->Int) (f:Nat) (xs:List AV) (hc:h9E cmp f xs) (a b i n g:Nat) (l:l9E) (hn:n=l.length) (hb:n < 1099511627776) (hbn:b<=n) {eX:Ex} {FX:Fr} {HX:Heap} (k1:(decide ((i:Int) < (b:Int)))=true->j6 cm_ (some [0,1,2,3,8]) (some [0,1,2,3,8]) (mkF 53 [(0,(AV.osl 0 g 10 0 n)),(1,(iN a)),(2,(iN b)),(3,(AV.func f xs)),(8,(iN (i+1)))]) [(o_ g 10 (mE (sink cmp a i l)))] eX FX HX) (k2:(decide ((i:Int) < (b:Int)))=false->((.exit 0:Ex),(a3P g n a b f xs i),[(o_ g 10 (mE l))])=(eX,FX,HX)):j6 cm_ (some [0,1,2,3,8]) (some [0,1,2,3,8]) (a3P g n a b f xs i) [(o_ g 10 (mE l))] eX FX HX :=
 F7 (.r (.g (.two (decide ((i:Int) < (b:Int))) (fun h1 h1'=>(.r (.g (.loop (a3P g n a b f xs i) (show j6 ci_ (some [0,1,2,3,8,9]) (some [0,1,2,3,8]) (mkF 53 [(0,(AV.osl 0 g 10 0 n)),(1,(iN a)),(2,(iN b)),(3,(AV.func f xs)),(8,(iN i)),(9,(iN i))]) [(o_ g 10 (mE l))] (.exit 2) (a3P g n a b f xs i) [(o_ g 10 (mE (sink cmp a i l)))] from (b4C cmp f xs hc a b i n g i l _ hn hb hbn ow rfl)) (.r (.y 1 (.int .i64 (cb_ i)) (iN (i+1)) Yes.o (.g (.l (k1 h1))))))))) (fun h1 h1'=>(.l (k2 h1))))))
theorem nQ {p:Prop} (h:p:=by simp at h; omega):p:=h
theorem b9F (cmp:Entry->Entry->Int) (f:Nat) (xs:List AV) (hc:h9E cmp f xs) (a b n g:Nat) (k:Nat)
 : ∀ (i:Nat) (l lF:l9E) (iF:Nat),n=l.length->n < 1099511627776->b<=n->iF=i+k->b<=i+k->i+k<=max b i->lF=w9 cmp a k i l ->
 j6 (l9 Tryz.prog (X qJ) (p9 Tryz.f212 0)) (some [0,1,2,3,8]) (some [0,1,2,3,8]) (mkF 53 [(0,(AV.osl 0 g 10 0 n)),(1,(iN a)),(2,(iN b)),(3,(AV.func f xs)),(8,(iN i))]) [(o_ g 10 (mE l))] (.exit 0) (mkF 53 [(0,(AV.osl 0 g 10 0 n)),(1,(iN a)),(2,(iN b)),(3,(AV.func f xs)),(8,(iN iF))]) [(o_ g 10 (mE lF))]:=by
 induction k with
 | zero =>
  intro i l lF iF hn hb hbn h1 h2 h2' h3
  refine a4C cmp f xs hc a b i n g l hn hb hbn (fun h=>?_) (fun h=>?_)
  · simp at h; omega
  · rw [h3,h1]; simp only [w9]; rfl
 | succ k ih =>
  intro i l lF iF hn hb hbn h1 h2 h2' h3
  refine a4C cmp f xs hc a b i n g l hn hb hbn (fun h=>?_) (fun h=>?_)
  · exact ih (i+1) (sink cmp a i l) lF iF (by rw [qA]; exact hn) hb hbn ow ow nQ (by rw [h3]; simp only [w9])
  · simp at h; omega
@[simp] abbrev d2c (a:Nat) (b:Nat) (c:Nat) (d:Nat) (e:Nat) (f:List AV):Fr:=(mkF 53 [(0,(AV.osl 0 a 10 0 b)),(1,(iN c)),(2,(iN d)),(3,(AV.func e f)),(8,(iN (((c+1)+(d - (c+1))))))])
theorem b9E (cmp:Entry->Entry->Int) (f:Nat) (xs:List AV) (a b n g:Nat) (l:l9E) (hc:h9E cmp f xs) (hxs:AV.bdds 1 xs=true) (hn:n=l.length) (hb:n < 1099511627776) (hbn:b<=n) (hab:a < 1099511627776):AC 212 [(AV.osl 0 g 10 0 n),(iN a),(iN b),(AV.func f xs)] [(o_ g 10 (mE l))] ((AV.tup []),[(o_ g 10 (mE (w9 cmp a (b - (a+1)) (a+1) l)))]) :=
 o9 (fn:=Tryz.f212) (ann:=qJ) (Has.o Tryz.func212) (.r (.y 1 (.int .i64 (cb_ a)) (iN (a+1)) Yes.o (.g (.loop (d2c g n a b f xs) (show j6 cm_ (some [0,1,2,3,8]) (some [0,1,2,3,8]) (mkF 53 [(0,(AV.osl 0 g 10 0 n)),(1,(iN a)),(2,(iN b)),(3,(AV.func f xs)),(8,(iN (a+1)))]) [(o_ g 10 (mE l))] (.exit 0) (d2c g n a b f xs) [(o_ g 10 (mE (w9 cmp a (b - (a+1)) (a+1) l)))] from (b9F cmp f xs hc a b n g (b - (a+1)) (a+1) l _ _ hn hb hbn rfl ow ow rfl)) (.q 1 (AV.tup []))))))
theorem nP {p:Prop} (h:p:=by simp [AV.bdds,AV.bdd, *]):p:=h
theorem b1G (cmp:Entry->Entry->Int) (f:Nat) (xs:List AV) (a b n g:Nat) (l:l9E) (hc:h9E cmp f xs) (hxs:AV.bdds 1 xs=true) (hn:n=l.length) (hb:n < 1099511627776) (hbn:b<=n) (hab:a < 1099511627776) (H:Heap):AC 212 [(AV.osl 0 g 10 0 n),(iN a),(iN b),(AV.func f xs)] (([(o_ g 10 (mE l))]:Heap)++H) ((AV.tup []),([(o_ g 10 (mE (w9 cmp a (b - (a+1)) (a+1) l)))]:Heap)++H):=(b9E cmp f xs a b n g l hc hxs hn hb hbn hab).ext nP kr ob ob kr H
def qK:Ann:={ base:=1,fin:=some 1,live:=[(1,[0,1,2,3,8]),(4,[0,1,2,3,8,9])],out:=[(1,[0,1,2,3,8]),(4,[0,1,2,3,8])] }
abbrev l9C:=List j5
@[simp] abbrev mC (l:l9C):List (List AV):=List.map j5.row l
@[simp] abbrev b7s (a:Nat) (b:l9C) (c:Nat):Heap:=[(o_ a 9 (mC ((b.set c (nth b (c - 1))).set (c - 1) (nth b c))))]
@[simp] abbrev a3O (a:Nat) (b:Nat) (c:Nat) (d:Nat) (e:Nat) (f:List AV) (g:Nat):Fr:=(mkF 53 [(0,(AV.osl 0 a 9 0 b)),(1,(iN c)),(2,(iN d)),(3,(AV.func e f)),(8,(iN g))])
theorem xI {p:Prop} (h:p:=by simp [j5.row]):p:=h
theorem xH {p:Prop} (h:p:=by simp [setAt,bA,List.map_set,j5.row]):p:=h
@[simp] abbrev cn_ :=(l9 Tryz.prog (X qK) (p9 Tryz.f240 1))
@[simp] abbrev co_ (a:l9C) (b:Nat):=(AV.agg (j5.row (nth a b)))
@[simp] abbrev cp_ (a:l9C) (b:Nat):=(AV.agg (j5.row (nth a (b - 1))))
abbrev h9C (cmp:j5->j5->Int) (f:Nat) (xs:List AV):Prop:=∀ (x y:j5) (H:Heap),AC f ([AV.agg (j5.row x),AV.agg (j5.row y)]++xs) H (AV.int .i64 (cmp x y),H)
theorem a4F (cmp:j5->j5->Int) (f:Nat) (xs:List AV) (hc:h9C cmp f xs) (a b i n g:Nat) (j:Nat) (l:l9C) (hn:n=l.length) (hb:n < 1099511627776) (hbn:b<=n) (hj:j < n) {eX:Ex} {FX:Fr} {HX:Heap} (k1:(decide ((j:Int) > (a:Int)))=true->(decide ((cmp (nth l j) (nth l (j - 1))) < 0))=true->j6 cn_ (some [0,1,2,3,8,9]) (some [0,1,2,3,8]) (mkF 53 [(0,(AV.osl 0 g 9 0 n)),(1,(iN a)),(2,(iN b)),(3,(AV.func f xs)),(8,(iN i)),(9,(iN (j - 1)))]) (b7s g l j) eX FX HX) (k2:(decide ((j:Int) > (a:Int)))=true->(decide ((cmp (nth l j) (nth l (j - 1))) < 0))=false->((.exit 2:Ex),(a3O g n a b f xs i),[(o_ g 9 (mC l))])=(eX,FX,HX)) (k3:(decide ((j:Int) > (a:Int)))=false->((.exit 2:Ex),(a3O g n a b f xs i),[(o_ g 9 (mC l))])=(eX,FX,HX)):j6 cn_ (some [0,1,2,3,8,9]) (some [0,1,2,3,8]) (mkF 53 [(0,(AV.osl 0 g 9 0 n)),(1,(iN a)),(2,(iN b)),(3,(AV.func f xs)),(8,(iN i)),(9,(iN j))]) [(o_ g 9 (mC l))] eX FX HX :=
 F7 (.r (.two (decide ((j:Int) > (a:Int))) (fun h1 h1'=>(.u3 (.io 7 0 g 9 9 0 n (j:Int) j (E9.mk _ ow ow) (.u (.t 8 (co_ l j) [(o_ g 9 (mC l))] (G9 (C8 (row:=j5.row) (l:=l) (k:=9) (room:=none) kr om) kr:K3 tt 39 0 [(o_ g 9 (mC l))] (rowAt [(o_ g 9 (mC l))] 0 g j)=some ((co_ l j),([(o_ g 9 (mC l))]:Heap))) (.u3 (.y 11 (.int .i64 (ck_ j)) (iN (j - 1)) Yes.o (.u (.io 12 0 g 9 9 0 n ((j - 1:Nat):Int) (j - 1) (E9.mk _ ow ow) (.u (.t 13 (cp_ l j) [(o_ g 9 (mC l))] (G9 (C8 (row:=j5.row) (l:=l) (k:=9) (room:=none) kr om) kr:K3 tt 39 0 [(o_ g 9 (mC l))] (rowAt [(o_ g 9 (mC l))] 0 g (j - 1))=some ((cp_ l j),([(o_ g 9 (mC l))]:Heap))) (.u (.c 14 (hc (nth l j) (nth l (j - 1)) [(o_ g 9 (mC l))]) (.u (.g (.two (decide ((cmp (nth l j) (nth l (j - 1))) < 0)) (fun h2 h2'=>(.r (.y 4 (.int .i64 (ck_ j)) (iN (j - 1)) Yes.o (.y 7 (.int .i64 (ck_ j)) (iN (j - 1)) Yes.o (.io 8 0 g 9 9 0 n ((j - 1:Nat):Int) (j - 1) (E9.mk _ ow ow) (.t 9 (cp_ l j) [(o_ g 9 (mC l))] (G9 (C8 (row:=j5.row) (l:=l) (k:=9) (room:=none) kr om) kr:K3 tt 39 0 [(o_ g 9 (mC l))] (rowAt [(o_ g 9 (mC l))] 0 g (j - 1))=some ((cp_ l j),([(o_ g 9 (mC l))]:Heap))) (.io 12 0 g 9 9 0 n (j:Int) j (E9.mk _ ow ow) (.t 13 (co_ l j) [(o_ g 9 (mC l))] (G9 (C8 (row:=j5.row) (l:=l) (k:=9) (room:=none) kr om) kr:K3 tt 39 0 [(o_ g 9 (mC l))] (rowAt [(o_ g 9 (mC l))] 0 g j)=some ((co_ l j),([(o_ g 9 (mC l))]:Heap))) (.io 14 0 g 9 9 0 n (j:Int) j (E9.mk _ ow ow) (.st 15 0 g j 9 0 (cp_ l j) [(o_ g 9 (mC (l.set j (nth l (j - 1)))))] (Q5 (us:=(j5.row (nth l (j - 1)))) (C8 (row:=j5.row) (l:=l) (k:=9) (room:=none) kr om) kr xI xH) (.io 16 0 g 9 9 0 n ((j - 1:Nat):Int) (j - 1) (E9.mk _ ow ow) (.st 17 0 g (j - 1) 9 0 (co_ l j) (b7s g l j) (Q5 (us:=(j5.row (nth l j))) (C8 (row:=j5.row) (l:=l.set j (nth l (j - 1))) (k:=9) (room:=none) kr om) kr xI xH) (.s (.y 1 (.int .i64 (ck_ j)) (iN (j - 1)) Yes.o (.g (.l (k1 h1 h2))))))))))))))))) (fun h2 h2'=>(.l (k2 h1 h2))))))))))))))))))) (fun h1 h1'=>(.n6 (.n5 (.g (.n (.l (k3 h1)))))))))
theorem b4D (cmp:j5->j5->Int) (f:Nat) (xs:List AV) (hc:h9C cmp f xs) (a b i n g:Nat) (j:Nat):∀ (l lF:l9C),n=l.length->n < 1099511627776->b<=n->j < n->lF=sink cmp a j l ->
 j6 (l9 Tryz.prog (X qK) (p9 Tryz.f240 1)) (some [0,1,2,3,8,9]) (some [0,1,2,3,8]) (mkF 53 [(0,(AV.osl 0 g 9 0 n)),(1,(iN a)),(2,(iN b)),(3,(AV.func f xs)),(8,(iN i)),(9,(iN j))]) [(o_ g 9 (mC l))] (.exit 2) (mkF 53 [(0,(AV.osl 0 g 9 0 n)),(1,(iN a)),(2,(iN b)),(3,(AV.func f xs)),(8,(iN i))]) [(o_ g 9 (mC lF))]:=by
 induction j with
 | zero =>
  intro l lF hn hb hbn hj h
  refine a4F cmp f xs hc a b i n g 0 l hn hb hbn hj (fun h1=>?_) (fun h1=>?_) (fun h1=>?_)
  · simp at h1; omega
  · simp at h1; omega
  · rw [h]; rfl
 | succ j ih =>
  intro l lF hn hb hbn hj h
  refine a4F cmp f xs hc a b i n g (j+1) l hn hb hbn hj (fun h1 h2=>?_) (fun h1 h2=>?_) (fun h1=>?_)
  · simp only [Nat.add_sub_cancel] at h2
    exact ih ((l.set (j+1) (nth l j)).set j (nth l (j+1))) lF (by simp [hn]) hb hbn ow (by rw [h]; simp only [sink]; rw [if_pos h1,if_pos h2])
  · simp only [Nat.add_sub_cancel] at h2
    rw [h]; simp only [sink]; rw [if_pos h1,if_neg (by rw [h2]; simp)]
  · rw [h]; simp only [sink]; rw [if_neg (by rw [h1]; simp)]
@[simp] abbrev cq_ :=(l9 Tryz.prog (X qK) (p9 Tryz.f240 0))
theorem a4E (cmp:j5->j5->Int) (f:Nat) (xs:List AV) (hc:h9C cmp f xs) (a b i n g:Nat) (l:l9C) (hn:n=l.length) (hb:n < 1099511627776) (hbn:b<=n) {eX:Ex} {FX:Fr} {HX:Heap} (k1:(decide ((i:Int) < (b:Int)))=true->j6 cq_ (some [0,1,2,3,8]) (some [0,1,2,3,8]) (mkF 53 [(0,(AV.osl 0 g 9 0 n)),(1,(iN a)),(2,(iN b)),(3,(AV.func f xs)),(8,(iN (i+1)))]) [(o_ g 9 (mC (sink cmp a i l)))] eX FX HX) (k2:(decide ((i:Int) < (b:Int)))=false->((.exit 0:Ex),(a3O g n a b f xs i),[(o_ g 9 (mC l))])=(eX,FX,HX)):j6 cq_ (some [0,1,2,3,8]) (some [0,1,2,3,8]) (a3O g n a b f xs i) [(o_ g 9 (mC l))] eX FX HX :=
 F7 (.r (.g (.two (decide ((i:Int) < (b:Int))) (fun h1 h1'=>(.r (.g (.loop (a3O g n a b f xs i) (show j6 cn_ (some [0,1,2,3,8,9]) (some [0,1,2,3,8]) (mkF 53 [(0,(AV.osl 0 g 9 0 n)),(1,(iN a)),(2,(iN b)),(3,(AV.func f xs)),(8,(iN i)),(9,(iN i))]) [(o_ g 9 (mC l))] (.exit 2) (a3O g n a b f xs i) [(o_ g 9 (mC (sink cmp a i l)))] from (b4D cmp f xs hc a b i n g i l _ hn hb hbn ow rfl)) (.r (.y 1 (.int .i64 (cb_ i)) (iN (i+1)) Yes.o (.g (.l (k1 h1))))))))) (fun h1 h1'=>(.l (k2 h1))))))
theorem b9I (cmp:j5->j5->Int) (f:Nat) (xs:List AV) (hc:h9C cmp f xs) (a b n g:Nat) (k:Nat)
 : ∀ (i:Nat) (l lF:l9C) (iF:Nat),n=l.length->n < 1099511627776->b<=n->iF=i+k->b<=i+k->i+k<=max b i->lF=w9 cmp a k i l ->
 j6 (l9 Tryz.prog (X qK) (p9 Tryz.f240 0)) (some [0,1,2,3,8]) (some [0,1,2,3,8]) (mkF 53 [(0,(AV.osl 0 g 9 0 n)),(1,(iN a)),(2,(iN b)),(3,(AV.func f xs)),(8,(iN i))]) [(o_ g 9 (mC l))] (.exit 0) (mkF 53 [(0,(AV.osl 0 g 9 0 n)),(1,(iN a)),(2,(iN b)),(3,(AV.func f xs)),(8,(iN iF))]) [(o_ g 9 (mC lF))]:=by
 induction k with
 | zero =>
  intro i l lF iF hn hb hbn h1 h2 h2' h3
  refine a4E cmp f xs hc a b i n g l hn hb hbn (fun h=>?_) (fun h=>?_)
  · simp at h; omega
  · rw [h3,h1]; simp only [w9]; rfl
 | succ k ih =>
  intro i l lF iF hn hb hbn h1 h2 h2' h3
  refine a4E cmp f xs hc a b i n g l hn hb hbn (fun h=>?_) (fun h=>?_)
  · exact ih (i+1) (sink cmp a i l) lF iF (by rw [qA]; exact hn) hb hbn ow ow nQ (by rw [h3]; simp only [w9])
  · simp at h; omega
@[simp] abbrev d2b (a:Nat) (b:Nat) (c:Nat) (d:Nat) (e:Nat) (f:List AV):Fr:=(mkF 53 [(0,(AV.osl 0 a 9 0 b)),(1,(iN c)),(2,(iN d)),(3,(AV.func e f)),(8,(iN (((c+1)+(d - (c+1))))))])
theorem b9H (cmp:j5->j5->Int) (f:Nat) (xs:List AV) (a b n g:Nat) (l:l9C) (hc:h9C cmp f xs) (hxs:AV.bdds 1 xs=true) (hn:n=l.length) (hb:n < 1099511627776) (hbn:b<=n) (hab:a < 1099511627776):AC 240 [(AV.osl 0 g 9 0 n),(iN a),(iN b),(AV.func f xs)] [(o_ g 9 (mC l))] ((AV.tup []),[(o_ g 9 (mC (w9 cmp a (b - (a+1)) (a+1) l)))]) :=
 o9 (fn:=Tryz.f240) (ann:=qK) (Has.o Tryz.func240) (.r (.y 1 (.int .i64 (cb_ a)) (iN (a+1)) Yes.o (.g (.loop (d2b g n a b f xs) (show j6 cq_ (some [0,1,2,3,8]) (some [0,1,2,3,8]) (mkF 53 [(0,(AV.osl 0 g 9 0 n)),(1,(iN a)),(2,(iN b)),(3,(AV.func f xs)),(8,(iN (a+1)))]) [(o_ g 9 (mC l))] (.exit 0) (d2b g n a b f xs) [(o_ g 9 (mC (w9 cmp a (b - (a+1)) (a+1) l)))] from (b9I cmp f xs hc a b n g (b - (a+1)) (a+1) l _ _ hn hb hbn rfl ow ow rfl)) (.q 1 (AV.tup []))))))
theorem b1H (cmp:j5->j5->Int) (f:Nat) (xs:List AV) (a b n g:Nat) (l:l9C) (hc:h9C cmp f xs) (hxs:AV.bdds 1 xs=true) (hn:n=l.length) (hb:n < 1099511627776) (hbn:b<=n) (hab:a < 1099511627776) (H:Heap):AC 240 [(AV.osl 0 g 9 0 n),(iN a),(iN b),(AV.func f xs)] (([(o_ g 9 (mC l))]:Heap)++H) ((AV.tup []),([(o_ g 9 (mC (w9 cmp a (b - (a+1)) (a+1) l)))]:Heap)++H):=(b9H cmp f xs a b n g l hc hxs hn hb hbn hab).ext nP kr ob ob kr H
attribute [local irreducible] sink w9
theorem Y8 {α:Type} [Inhabited α] {l:List α} {i:Nat} (h:i < l.length):l.drop i=nth l i :: l.drop (i+1):=by
 rw [List.drop_eq_getElem_cons h]
 congr 1
 simp [nth,List.getD_eq_getElem?_getD,List.getElem?_eq_getElem h]
def cmpL (now:Int) (a b:Entry):Int:=if Q0 (y5 b now) (y5 a now)=0 then L9 a.card.key b.card.key else Q0 (y5 b now) (y5 a now)
def b0m:Ann:={ refs:=[3,4],fin:=some 0 }
theorem a7a (now:Int) (a b:Entry) :AC 119 [(AV.agg (Entry.row a)),(AV.agg (Entry.row b)),(AV.ref [(iI now)] 0)] [] ((iI (cmpL now a b)),[]) :=
 o9 (fn:=Tryz.f119) (ann:=b0m) (Has.o Tryz.func119) (.r (.s (.c 2 ((rM b now).lift kr kr []) (.c 5 ((rM a now).lift kr kr []) (.c 6 ((nW (y5 b now) (y5 a now)).lift kr kr []) (.c 13 ((b3X a.card.key b.card.key).lift kr kr []) (.c 15 (l6.pre (args:=[(sA 1 [[(iI (Q0 (y5 b now) (y5 a now)))],[(iI (L9 a.card.key b.card.key))]])]) (args':=[(AV.sl .clip 1 [[(iI (Q0 (y5 b now) (y5 a now)))],[(iI (L9 a.card.key b.card.key))]])]) ((a7d (Q0 (y5 b now) (y5 a now)) (L9 a.card.key b.card.key)).lift kr kr []) ⟨⟨rfl,rfl,.inl rfl⟩,trivial⟩) (.q 0 (iI (if (Q0 (y5 b now) (y5 a now))=0 then (L9 a.card.key b.card.key) else (Q0 (y5 b now) (y5 a now))))))))))))
theorem b3U (now:Int) (a b:Entry)  (H:Heap):AC 119 [(AV.agg (Entry.row a)),(AV.agg (Entry.row b)),(AV.ref [(iI now)] 0)] H ((iI (cmpL now a b)),H):=(a7a now a b ).lift kr kr H
def I6 (n:Int):Nat:=(Int.tdiv (max 0 (min n 1048576) * 15+100 - 1) 100).toNat
theorem b1p (x:Int) (h:0<=x):0<=Int.tdiv x 100/\Int.tdiv x 100<=x:=by
 rw [Int.tdiv_eq_ediv_of_nonneg h]; omega
def c3e:Ann:={ fin:=some 0 }
@[simp] abbrev cr_ (a:Int):=(iI (Int.tdiv ((((max 0 (min a 1048576)) * 15)+100) - 1) 100))
theorem b9p (n:Int) :AC 123 [(iI n)] [] ((iN (I6 n)),[]):=by
 have hx:=b1p (max 0 (min n 1048576) * 15+100 - 1) ow
 exact o9 (fn:=Tryz.f123) (ann:=c3e) (Has.o Tryz.func123) (.r (.s (.y 1 (.int .i64 (if 1048576 < n then 1048576 else n)) (iI (min n 1048576)) (Yes.int yw_) (.y 2 (.int .i64 (if (min n 1048576) > 0 then (min n 1048576) else 0)) (iI (max 0 (min n 1048576))) (Yes.int yw_) (.y 3 (iW ((max 0 (min n 1048576)) * 15)) (iI ((max 0 (min n 1048576)) * 15)) Yes.o (.y 4 (iW (((max 0 (min n 1048576)) * 15)+100)) (iI (((max 0 (min n 1048576)) * 15)+100)) Yes.o (.y 5 (iW ((((max 0 (min n 1048576)) * 15)+100) - 1)) (iI ((((max 0 (min n 1048576)) * 15)+100) - 1)) Yes.o (.t 6 (cr_ n) [] (b8X ow ow ow:Option.map (fun a=>(a,([]:Heap))) (if (100:Int)=0 then none else some (iI (IntKind.i64.wrap (Int.tdiv ((((max 0 (min n 1048576)) * 15)+100) - 1) 100))))=some ((cr_ n),([]:Heap))) (.q 0 (cr_ n) (by simp [I6]; omega))))))))))
def c2U:Ann:={ fin:=some 0 }
theorem b9h (n:Int) :AC 183 [(AV.int .i64 n)] [] ((AV.int .i64 (I6 n:Int)),[]):=by
 have hx:=b1p (max (min n 1048576) 0 * 15+99) ow
 have hy:max 0 (min n 1048576) * 15+100 - 1=max (min n 1048576) 0 * 15+99:=by omega
 exact o9 (fn:=Tryz.f183) (ann:=c2U) (Has.o Tryz.func183) (.r (.s (.y 1 (.int .i64 (if 1048576 < n then 1048576 else n)) (AV.int .i64 (min n 1048576)) (Yes.int yw_) (.y 2 (.int .i64 (if 0 > (min n 1048576) then 0 else (min n 1048576))) (AV.int .i64 (max (min n 1048576) 0)) (Yes.int yw_) (.s (.y 1 (iW ((max (min n 1048576) 0) * 15)) (AV.int .i64 ((max (min n 1048576) 0) * 15)) Yes.o (.y 2 (iW (((max (min n 1048576) 0) * 15)+99)) (AV.int .i64 (((max (min n 1048576) 0) * 15)+99)) Yes.o (.t 3 (AV.int .i64 (Int.tdiv (((max (min n 1048576) 0) * 15)+99) 100)) [] (b8X ow ow ow:Option.map (fun a=>(a,([]:Heap))) (if (100:Int)=0 then none else some (iW (Int.tdiv (((max (min n 1048576) 0) * 15)+99) 100)))=some ((AV.int .i64 (Int.tdiv (((max (min n 1048576) 0) * 15)+99) 100)),([]:Heap))) (.q 0 (AV.int .i64 (Int.tdiv (((max (min n 1048576) 0) * 15)+99) 100)) (by simp only [I6,hy]; rw [Int.toNat_of_nonneg hx.1]))))))))))
def yD:Ann:={ gha:=[(1,.vir 3 2),(6,.cut 1),(7,.frz 2)],fin:=some 0,live:=[(3,[3,6,7,8])],out:=[(3,[3,6,7,8])] }
abbrev l9K:=List Key
@[simp] abbrev mK (l:l9K):List (List AV):=List.map Key.row l
@[simp] abbrev a3N (a:Nat) (b:l9K) (c:l9E) (d:Nat):Heap:=[(o_ (a+1) 2 (mK (b++[(nth c d).card.key])))]
@[simp] abbrev d2a (a:Nat) (b:Nat) (c:l9E) (d:Nat):Fr:=(mkF 20 [(3,(AV.osl 0 a 2 0 b)),(6,(sA 10 (mE c))),(7,(iN c.length)),(8,(iN d))])
theorem z8 {p:Prop} (h:p:=by decide):p:=h
theorem aU {p:Prop} (h:p:=by first | assumption | omega | (simp; done) | (simp; omega)):p:=h
theorem a5W {p:Prop} (h:p:=by first | omega | (show _ * 32<=_; omega) | (simp; omega)):p:=h
@[simp] abbrev cs_ :=(l9 Tryz.prog (X yD) (p9 Tryz.f113 0))
@[simp] abbrev ct_ (a b:Nat):=(AV.osl 0 (a+1) 2 0 (b+1))
@[reducible] def vB:TI:={ d:=.struct [(9,0),(9,1)],size:=2,bytes:=32,zero:=[.str ⟨#[]⟩,.str ⟨#[]⟩] }
theorem a2l (l:l9E) (i k g:Nat) (out:l9K) (hk:k=out.length) (hki:k<=l.length) (hl:l.length < 1099511627776) {eX:Ex} {FX:Fr} {HX:Heap} (k1:(decide ((i:Int) < (l.length:Int)))=true->j6 cs_ (some [3,6,7,8]) (some [3,6,7,8]) (mkF 20 [(3,(ct_ g k)),(6,(sA 10 (mE l))),(7,(iN l.length)),(8,(iN (i+1)))]) (a3N g out l i) eX FX HX) (k2:(decide ((i:Int) < (l.length:Int)))=false->((.exit 0:Ex),(d2a g k l i),[(o_ g 2 (mK out))])=(eX,FX,HX)):j6 cs_ (some [3,6,7,8]) (some [3,6,7,8]) (d2a g k l i) [(o_ g 2 (mK out))] eX FX HX :=
 F7 (.r (.g (.two (decide ((i:Int) < (l.length:Int))) (fun h1 h1'=>(.r (.h' [(o_ g 2 (mK out)),(o_ 0 10 [[e_,e_,z_,z_,z_,z_,z_,z_,bF,z_]])] (.is 0 10 10 (mE l) (i:Int) (Entry.row (nth l i)) (J8.mk _ ow ow) (.s (.h' [(o_ g 2 (mK out)),(o_ 0 10 [(Entry.row (nth l i))])] (.ap 5 33 (AV.osl 0 g 2 0 k) (AV.sl .clip 2 [(Key.row (nth l i).card.key)]) (ct_ g k) [(o_ (g+1) 2 (mK (out++[(nth l i).card.key]))),(o_ 0 10 [(Entry.row (nth l i))])] (H6 (row:=Key.row) (l:=out) (x:=(nth l i).card.key) (T:=tt) (e:=30) (te:=vB) (z:=1) (b:=24) (y:=[.sl .nil 0 []]) kr kr rfl z8 z8 kr aU rfl rfl a5W) (.s (.y 0 (.int .i64 (cb_ i)) (iN (i+1)) Yes.o (.h' (a3N g out l i) (.b 1 (.g (.l (k1 h1)))))))))))))) (fun h1 h1'=>(.l (k2 h1))))))
theorem uW {p:Prop} (h:p:=by simp [hk]):p:=h
theorem b4o (l:l9E) (r:Nat):∀ (i k g:Nat) (out:l9K) (kF gF:Nat) (outF:l9K),i+r=l.length->k=out.length->k=i->l.length < 1099511627776->kF=k+r->gF=g+r->outF=out++(l.drop i).map (·.card.key) ->
 j6 (l9 Tryz.prog (X yD) (p9 Tryz.f113 0)) (some [3,6,7,8]) (some [3,6,7,8]) (mkF 20 [(3,(AV.osl 0 g 2 0 k)),(6,(sA 10 (mE l))),(7,(iN l.length)),(8,(iN i))]) [(o_ g 2 (mK out))] (.exit 0) (mkF 20 [(3,(AV.osl 0 gF 2 0 kF)),(6,(sA 10 (mE l))),(7,(iN l.length)),(8,(iN l.length))]) [(o_ gF 2 (mK outF))]:=by
 induction r with
 | zero =>
  intro i k g out kF gF outF hi hk hki hl h1 h2 h3
  refine a2l l i k g out hk ow hl (fun h=>by simp at h; omega) fun _=>?_
  have:l.drop i=[]:=List.drop_of_length_le ow
  have e1:kF=k:=by omega
  have e2:gF=g:=by omega
  have e3:i=l.length:=by omega
  have e4:outF=out:=by rw [h3,this]; simp
  rw [e1,e2,e3,e4]
 | succ r ih =>
  intro i k g out kF gF outF hi hk hki hl h1 h2 h3
  refine a2l l i k g out hk ow hl (fun _=>?_) fun h=>by simp at h; omega
  exact ih (i+1) (k+1) (g+1) (out++[(nth l i).card.key]) kF gF outF ow uW ow hl ow ow (by rw [h3,Y8 ow]; simp)
@[simp] abbrev d1Z (a:l9E):Fr:=(mkF 20 [(3,(AV.osl 0 a.length 2 0 a.length)),(6,(sA 10 (mE a))),(7,(iN a.length)),(8,(iN a.length))])
@[simp] abbrev d1Y (a:l9E):Heap:=[(o_ a.length 2 (mK (a.map (·.card.key))))]
theorem a2m (l:l9E) (hl:l.length < 1099511627776):AC 113 [(sA 10 (mE l))] [] ((sA 2 (mK (l.map (·.card.key)))),[]) :=
 o9 (fn:=Tryz.f113) (ann:=yD) (Has.o Tryz.func113) (.r (.s (.s (.h' [(o_ 0 2 (mK []))] (.y 1 (.int .i64 ((List.length (mE l):Nat):Int)) (iN l.length) (Yes.len _ _ _) (.g (.loop (d1Z l) (show j6 cs_ (some [3,6,7,8]) (some [3,6,7,8]) (mkF 20 [(3,(AV.osl 0 0 2 0 0)),(6,(sA 10 (mE l))),(7,(iN l.length)),(8,z_)]) [(o_ 0 2 (mK []))] (.exit 0) (d1Z l) (d1Y l) from (b4o l (List.length l) 0 0 0 [] _ _ _ ow rfl rfl hl ow ow yf_)) (.r (.w' 2 (mK (l.map (·.card.key))) (And.intro (G7 (room:=none) kr om) (Key.p8 _ _):F5 (d1Y l) 2 (AV.osl 0 l.length 2 0 l.length)=some (mK (l.map (·.card.key)))/\AV.D5 0 (mK (l.map (·.card.key)))=true) (.g (.h' [] (.q 0 (sA 2 (mK (l.map (·.card.key))))))))))))))))
def vL:Ann:={ refs:=[4],gha:=[(3,.vir 8 10),(11,.cut 1),(12,.frz 8)],fin:=some 0,live:=[(5,[2,4,7,8,13,14,15])],out:=[(5,[2,4,7,8,13,14,15])] }
def X4 (now late:Int) (s:Nat × List Entry × Nat) (e:Entry):Nat × List Entry × Nat :=
 (if (!e.card.gone)=true then s.1+1 else s.1,if decide (y5 e now > late)=true then s.2.1++[e] else s.2.1,if decide (y5 e now > late)=true then s.2.2+1 else s.2.2)
@[simp] abbrev c7H (a:Nat) (b:l9E) (c:l9E) (d:Nat):Ob:=(o_ (a+1) 10 (mE (b++[(nth c d)])))
@[simp] abbrev b7r (a:Nat) (b:l9E) (c:l9E) (d:Nat):Heap:=[c7H a b c d]
@[simp] abbrev d1X (a:Int) (b:Int) (c:Nat) (d:Nat) (e:Nat) (f:l9E) (g:Nat):Fr:=(mkF 46 [(2,(iI a)),(4,(AV.ref [(iI b)] 0)),(7,(iN c)),(8,(AV.osl 0 d 10 0 e)),(13,(sA 10 (mE f))),(14,(iN f.length)),(15,(iN g))])
@[simp] abbrev xA (a:Nat) (b:l9E) (c:l9E) (d:Nat):Heap:=[(o_ a 10 (mE b)),(o_ 0 10 [(Entry.row (nth c d))])]
@[simp] abbrev d1W (a:Nat) (b:l9E) (c:l9E) (d:Nat):Heap:=[c7H a b c d,(o_ 0 10 [(Entry.row (nth c d))])]
theorem a2M {p:Prop} (h:p:=by first | omega | (show _ * 96<=_; omega) | (simp; omega)):p:=h
@[simp] abbrev cu_ :=(l9 Tryz.prog (X vL) (p9 Tryz.f63 0))
@[simp] abbrev cv_ (a b:Nat):=(AV.osl 0 (a+1) 10 0 (b+1))
@[reducible] def bE:TI:={ d:=.struct [(39,0),(2,9)],size:=10,bytes:=96,zero:=[.str ⟨#[]⟩,.str ⟨#[]⟩,.int .i64 0,.int .i64 0,.int .i64 0,.int .i64 0,.int .i64 0,.int .i64 0,.bool false,.int .i64 0] }
theorem a4o (l:l9E) (now late:Int) (i live k g:Nat) (few:l9E) (hk:k=few.length) (hki:k<=l.length) (hv:live<=l.length) (hl:l.length < 1099511627776) {eX:Ex} {FX:Fr} {HX:Heap} (k1:(decide ((i:Int) < (l.length:Int)))=true->(!(nth l i).card.gone)=true->(decide ((y5 (nth l i) now) > late))=true->j6 cu_ (some [2,4,7,8,13,14,15]) (some [2,4,7,8,13,14,15]) (mkF 46 [(2,(iI late)),(4,(AV.ref [(iI now)] 0)),(7,(iN (live+1))),(8,(cv_ g k)),(13,(sA 10 (mE l))),(14,(iN l.length)),(15,(iN (i+1)))]) (b7r g few l i) eX FX HX) (k2:(decide ((i:Int) < (l.length:Int)))=true->(!(nth l i).card.gone)=true->(decide ((y5 (nth l i) now) > late))=false->j6 cu_ (some [2,4,7,8,13,14,15]) (some [2,4,7,8,13,14,15]) (mkF 46 [(2,(iI late)),(4,(AV.ref [(iI now)] 0)),(7,(iN (live+1))),(8,(AV.osl 0 g 10 0 k)),(13,(sA 10 (mE l))),(14,(iN l.length)),(15,(iN (i+1)))]) [(o_ g 10 (mE few))] eX FX HX) (k3:(decide ((i:Int) < (l.length:Int)))=true->(!(nth l i).card.gone)=false->(decide ((y5 (nth l i) now) > late))=true->j6 cu_ (some [2,4,7,8,13,14,15]) (some [2,4,7,8,13,14,15]) (mkF 46 [(2,(iI late)),(4,(AV.ref [(iI now)] 0)),(7,(iN live)),(8,(cv_ g k)),(13,(sA 10 (mE l))),(14,(iN l.length)),(15,(iN (i+1)))]) (b7r g few l i) eX FX HX) (k4:(decide ((i:Int) < (l.length:Int)))=true->(!(nth l i).card.gone)=false->(decide ((y5 (nth l i) now) > late))=false->j6 cu_ (some [2,4,7,8,13,14,15]) (some [2,4,7,8,13,14,15]) (mkF 46 [(2,(iI late)),(4,(AV.ref [(iI now)] 0)),(7,(iN live)),(8,(AV.osl 0 g 10 0 k)),(13,(sA 10 (mE l))),(14,(iN l.length)),(15,(iN (i+1)))]) [(o_ g 10 (mE few))] eX FX HX) (k5:(decide ((i:Int) < (l.length:Int)))=false->((.exit 0:Ex),(d1X late now live g k l i),[(o_ g 10 (mE few))])=(eX,FX,HX)):j6 cu_ (some [2,4,7,8,13,14,15]) (some [2,4,7,8,13,14,15]) (d1X late now live g k l i) [(o_ g 10 (mE few))] eX FX HX :=
 F7 (.r (.g (.two (decide ((i:Int) < (l.length:Int))) (fun h1 h1'=>(.r (.h' [(o_ g 10 (mE few)),(o_ 0 10 [[e_,e_,z_,z_,z_,z_,z_,z_,bF,z_]])] (.is 0 10 10 (mE l) (i:Int) (Entry.row (nth l i)) (J8.mk _ ow ow) (.s (.g (.two (!(nth l i).card.gone) (fun h2 h2'=>(.r (.h' (xA g few l i) (.y 1 (.int .i64 (cb_ live)) (iN (live+1)) Yes.o (.s (.c 2 ((rM (nth l i) now).lift kr kr (xA g few l i)) (.g (.two (decide ((y5 (nth l i) now) > late)) (fun h3 h3'=>(.r (.ap 3 104 (AV.osl 0 g 10 0 k) (AV.sl .clip 10 [(Entry.row (nth l i))]) (cv_ g k) (d1W g few l i) (H6 (row:=Entry.row) (l:=few) (x:=(nth l i)) (T:=tt) (e:=45) (te:=bE) (z:=1) (b:=24) (y:=[.sl .nil 0 []]) kr kr rfl z8 z8 kr aU rfl rfl a2M) (.s (.y 0 (.int .i64 (cb_ i)) (iN (i+1)) Yes.o (.h' (b7r g few l i) (.b 1 (.g (.l (k1 h1 h2 h3)))))))))) (fun h3 h3'=>(.r (.y 0 (.int .i64 (cb_ i)) (iN (i+1)) Yes.o (.h' [(o_ g 10 (mE few))] (.b 1 (.g (.l (k2 h1 h2 h3)))))))))))))))) (fun h2 h2'=>(.r (.c 2 ((rM (nth l i) now).lift kr kr (xA g few l i)) (.g (.two (decide ((y5 (nth l i) now) > late)) (fun h3 h3'=>(.r (.h' (xA g few l i) (.ap 3 104 (AV.osl 0 g 10 0 k) (AV.sl .clip 10 [(Entry.row (nth l i))]) (cv_ g k) (d1W g few l i) (H6 (row:=Entry.row) (l:=few) (x:=(nth l i)) (T:=tt) (e:=45) (te:=bE) (z:=1) (b:=24) (y:=[.sl .nil 0 []]) kr kr rfl z8 z8 kr aU rfl rfl a2M) (.s (.y 0 (.int .i64 (cb_ i)) (iN (i+1)) Yes.o (.h' (b7r g few l i) (.b 1 (.g (.l (k3 h1 h2 h3))))))))))) (fun h3 h3'=>(.r (.h' (xA g few l i) (.y 0 (.int .i64 (cb_ i)) (iN (i+1)) Yes.o (.h' [(o_ g 10 (mE few))] (.b 1 (.g (.l (k4 h1 h2 h3))))))))))))))))))))) (fun h1 h1'=>(.l (k5 h1))))))
theorem b9e (l:l9E) (now late:Int) (r:Nat):∀ (i live k g:Nat) (few:l9E) (sF:Nat × l9E × Nat),i+r=l.length->k=few.length->k<=i->live<=i->l.length < 1099511627776->sF=(l.drop i).foldl (X4 now late) (live,few,g) ->
 j6 (l9 Tryz.prog (X vL) (p9 Tryz.f63 0)) (some [2,4,7,8,13,14,15]) (some [2,4,7,8,13,14,15]) (mkF 46 [(2,(iI late)),(4,(AV.ref [(iI now)] 0)),(7,(iN live)),(8,(AV.osl 0 g 10 0 k)),(13,(sA 10 (mE l))),(14,(iN l.length)),(15,(iN i))]) [(o_ g 10 (mE few))] (.exit 0) (mkF 46 [(2,(iI late)),(4,(AV.ref [(iI now)] 0)),(7,(iN sF.1)),(8,(AV.osl 0 sF.2.2 10 0 sF.2.1.length)),(13,(sA 10 (mE l))),(14,(iN l.length)),(15,(iN l.length))]) [(o_ sF.2.2 10 (mE sF.2.1))]:=by
 induction r with
 | zero =>
  intro i live k g few sF hi hk hki hv hl h1
  refine a4o l now late i live k g few hk ow ow hl (fun h=>by simp at h; omega) (fun h=>by simp at h; omega) (fun h=>by simp at h; omega) (fun h=>by simp at h; omega) fun _=>?_
  have:l.drop i=[]:=List.drop_of_length_le ow
  rw [this] at h1
  have e3:i=l.length:=by omega
  rw [h1,e3,hk]
  rfl
 | succ r ih =>
  intro i live k g few sF hi hk hki hv hl h1
  rw [Y8 ow,List.foldl_cons] at h1
  refine a4o l now late i live k g few hk ow ow hl (fun _ h2 h3=>?_) (fun _ h2 h3=>?_) (fun _ h2 h3=>?_) (fun _ h2 h3=>?_) fun h=>by simp at h; omega
  · exact ih (i+1) (live+1) (k+1) (g+1) (few++[nth l i]) sF ow uW ow ow hl (by rw [h1]; simp only [X4,h2,h3,if_true])
  · exact ih (i+1) (live+1) k g few sF ow hk ow ow hl (by rw [h1]; simp only [X4,h2,h3,if_true,Bool.false_eq_true,if_false])
  · exact ih (i+1) live (k+1) (g+1) (few++[nth l i]) sF ow uW ow ow hl (by rw [h1]; simp only [X4,h2,h3,if_true,Bool.false_eq_true,if_false])
  · exact ih (i+1) live k g few sF ow hk ow ow hl (by rw [h1]; simp only [X4,h2,h3,Bool.false_eq_true,if_false])
def A8 (l:List Entry) (now late:Int):Nat × List Entry × Nat:=l.foldl (X4 now late) (0,[],0)
theorem a7b (now late:Int) (l:l9E):∀ (s:Nat × l9E × Nat),(l.foldl (X4 now late) s).2.1.length<=s.2.1.length+l.length/\(l.foldl (X4 now late) s).1<=s.1+l.length:=by
 induction l with
 | nil=>intro s; simp
 | cons e l ih =>
  intro s
  have h:=ih (X4 now late s e)
  simp only [List.foldl_cons,List.length_cons]
  have h1:(X4 now late s e).2.1.length<=s.2.1.length+1/\(X4 now late s e).1<=s.1+1:=by
   simp only [X4]
   constructor
   · split <;> simp
   · split <;> omega
  omega
theorem b9g (l:l9E) (now late:Int):(A8 l now late).2.1.length<=l.length/\(A8 l now late).1<=l.length:=by
 have:=a7b now late l (0,[],0)
 simpa [A8] using this
def Q9 (l:List Entry) (now late:Int):List Entry:=w9 (cmpL now) 0 ((A8 l now (max 0 late)).2.1.length - 1) 1 (A8 l now (max 0 late)).2.1
def V8 (l:List Entry) (now late:Int):Nat:=min (Q9 l now late).length (I6 (A8 l now (max 0 late)).1)
def x9 (l:List Entry) (now late:Int):List Key:=((Q9 l now late).take (V8 l now late)).map (·.card.key)
attribute [local irreducible] A8 I6 L9 Q9 V8 cmpL x9 y5
def y9 (a b:Key):Bool:=if (!(a.app.toList == b.app.toList))=true then Op.bytesLess a.app.toList b.app.toList else Op.bytesLess a.id.toList b.id.toList
def b6k:Ann:={ refs:=[2,3],fin:=some 0 }
theorem tJ (a b:Key) :AC 214 [(AV.agg (Key.row a)),(AV.agg (Key.row b))] [] ((bB (y9 a b)),[]) :=
 o9 (fn:=Tryz.f214) (ann:=b6k) (Has.o Tryz.func214) (.r (.s (.g (.two (!(a.app.toList == b.app.toList)) (fun h1 h1'=>(.qr 0 (bB (Op.bytesLess a.app.toList b.app.toList)) (by simp_all [y9]))) (fun h1 h1'=>(.qr 0 (bB (Op.bytesLess a.id.toList b.id.toList)) (by simp_all [y9])))))))
def I9 (c:j5) (out:List j5):Nat->Nat
 | 0=>0
 | k+1=>if y9 c.key (nth out k).key=true then I9 c out k else k+1
theorem b1w (c:j5) (out:l9C) (k:Nat):I9 c out k<=k:=by
 induction k with
 | zero=>simp only [I9]; omega
 | succ k ih=>simp only [I9]; split <;> omega
def Y7 (out:List j5) (c:j5):List j5:=(out.take (I9 c out out.length)++[c])++out.drop (I9 c out out.length)
theorem a7B (out:l9C) (c:j5):(Y7 out c).length=out.length+1:=by
 have:=b1w c out out.length
 simp [Y7]; omega
def G6 (l:List j5):List j5:=l.foldl Y7 []
theorem a3k (l:l9C):∀ (out:l9C),(l.foldl Y7 out).length=out.length+l.length:=by
 induction l with
 | nil=>intro out; simp
 | cons c l ih=>intro out; rw [List.foldl_cons,ih,a7B]; simp; omega
theorem b7N (l:l9C):(G6 l).length=l.length:=by rw [G6,a3k]; simp
def mQ:Ann:={ own:=[34,41],gha:=[(1,.any 3 9),(8,.frz 3),(9,.cut 0)],fin:=some 0,live:=[(3,[3,7,8,9]),(6,[3,5,6,7,8,9])],out:=[(3,[3,7,8,9]),(6,[3,5,6,7,8,9])] }
@[simp] abbrev c6c (a:l9C) (b:Nat) (c:l9C) (d:Nat):Fr:=(mkF 44 [(3,(sA 9 (mC a))),(5,(oO 0 0 0 0)),(6,(iN b)),(7,(sA 9 (mC c))),(8,(iN c.length)),(9,(iN d))])
@[simp] abbrev cw_ :=(l9 Tryz.prog (X mQ) (p9 Tryz.f203 1))
theorem a6N (l out:l9C) (i:Nat) (k:Nat) (c:j5) (hk:out.length<=1048576) (hi:i<=l.length) (hl:l.length < 1048576) (hk2:k<=out.length) {eX:Ex} {FX:Fr} {HX:Heap} (k1:(decide ((k:Int) > 0))=true->(y9 c.key (nth out (k - 1)).key)=true->j6 cw_ (some [3,5,6,7,8,9]) (some [3,5,6,7,8,9]) (mkF 44 [(3,(sA 9 (mC out))),(5,(oO 0 0 0 0)),(6,(iN (k - 1))),(7,(sA 9 (mC l))),(8,(iN l.length)),(9,(iN i))]) [(o_ 0 9 [(j5.row c)])] eX FX HX) (k2:(decide ((k:Int) > 0))=true->(y9 c.key (nth out (k - 1)).key)=false->((.exit 2:Ex),(c6c out k l i),[(o_ 0 9 [(j5.row c)])])=(eX,FX,HX)) (k3:(decide ((k:Int) > 0))=false->((.exit 2:Ex),(c6c out k l i),[(o_ 0 9 [(j5.row c)])])=(eX,FX,HX)):j6 cw_ (some [3,5,6,7,8,9]) (some [3,5,6,7,8,9]) (c6c out k l i) [(o_ 0 9 [(j5.row c)])] eX FX HX :=
 F7 (.r (.two (decide ((k:Int) > 0)) (fun h1 h1'=>(.u4 (.y 7 (.int .i64 (ck_ k)) (iN (k - 1)) Yes.o (.u (.is 8 9 9 (mC out) ((k - 1:Nat):Int) (j5.row (nth out (k - 1))) (J8.mk _ ow ow) (.u3 (.c 11 ((tJ c.key (nth out (k - 1)).key).lift kr kr [(o_ 0 9 [(j5.row c)])]) (.g (.two (y9 c.key (nth out (k - 1)).key) (fun h2 h2'=>(.r (.y 1 (.int .i64 (ck_ k)) (iN (k - 1)) Yes.o (.g (.l (k1 h1 h2)))))) (fun h2 h2'=>(.l (k2 h1 h2)))))))))))) (fun h1 h1'=>(.n6 (.n2 (.g (.n (.l (k3 h1)))))))))
theorem b8w (l out:l9C) (i:Nat) (c:j5) (hk:out.length<=1048576) (hi:i<=l.length) (hl:l.length < 1048576) (k:Nat):∀ (kF:Nat),k<=out.length->kF=I9 c out k ->
 j6 (l9 Tryz.prog (X mQ) (p9 Tryz.f203 1)) (some [3,5,6,7,8,9]) (some [3,5,6,7,8,9]) (mkF 44 [(3,(sA 9 (mC out))),(5,(oO 0 0 0 0)),(6,(iN k)),(7,(sA 9 (mC l))),(8,(iN l.length)),(9,(iN i))]) [(o_ 0 9 [(j5.row c)])] (.exit 2) (mkF 44 [(3,(sA 9 (mC out))),(5,(oO 0 0 0 0)),(6,(iN kF)),(7,(sA 9 (mC l))),(8,(iN l.length)),(9,(iN i))]) [(o_ 0 9 [(j5.row c)])]:=by
 induction k with
 | zero =>
  intro kF hk2 h
  refine a6N l out i 0 c hk hi hl hk2 (fun h1=>by simp at h1) (fun h1=>by simp at h1) fun _=>?_
  rw [h]; rfl
 | succ k ih =>
  intro kF hk2 h
  refine a6N l out i (k+1) c hk hi hl hk2 (fun _ h2=>?_) (fun _ h2=>?_) fun h1=>by simp at h1 <;> omega
  · simp only [Nat.add_sub_cancel] at h2
    exact ih kF ow (by rw [h]; simp only [I9,h2,if_true])
  · simp only [Nat.add_sub_cancel] at h2
    rw [h]; simp only [I9,h2,Bool.false_eq_true,if_false]
@[simp] abbrev d1V (a:l9C) (b:l9C) (c:Nat):Fr:=(mkF 44 [(3,(sA 9 (mC a))),(7,(sA 9 (mC b))),(8,(iN b.length)),(9,(iN c))])
@[simp] abbrev d1U (a:l9C) (b:l9C) (c:Nat):Fr:=(mkF 44 [(3,(sA 9 (mC a))),(5,(oO 0 0 0 0)),(6,(iN ((I9 (nth b c) a a.length)))),(7,(sA 9 (mC b))),(8,(iN b.length)),(9,(iN c))])
@[simp] abbrev b7q (a:l9C) (b:Nat) (c:l9C):Heap:=[(o_ 0 9 [(j5.row (nth a b))]),(o_ 1 9 (mC ((c.take (I9 (nth a b) c c.length))++[(nth a b)])))]
@[simp] abbrev d1T (a:l9C) (b:Nat) (c:l9C):Heap:=[(o_ 0 9 [(j5.row (nth a b))]),(o_ 2 9 (mC (((c.take (I9 (nth a b) c c.length))++[(nth a b)])++(c.drop (I9 (nth a b) c c.length)))))]
theorem nO {p:Prop} (h:p:=by simp [List.map_take,List.map_drop,List.take_of_length_le]):p:=h
theorem U7 {p:Prop} (h:p:=by first | (simp [F5,List.map_take,List.map_drop,List.take_of_length_le]; done) | simp [F5,rU8,aH,a0R,b3O]):p:=h
theorem pX {p:Prop} (h:p:=by first | omega | (show _ * 88<=_; omega) | (simp; omega)):p:=h
@[simp] abbrev cx_ :=(l9 Tryz.prog (X mQ) (p9 Tryz.f203 0))
@[reducible] def jU:TI:={ d:=.struct [(30,0),(3,2),(3,3),(2,4),(37,5),(4,8)],size:=9,bytes:=88,zero:=[.str ⟨#[]⟩,.str ⟨#[]⟩,.int .i64 0,.int .i64 0,.int .i64 0,.int .i64 0,.int .i64 0,.int .i64 0,.bool false] }
theorem a1W (l out:l9C) (i:Nat) (hk:out.length<=1048576) (hi:i<=l.length) (hl:l.length < 1048576) {eX:Ex} {FX:Fr} {HX:Heap} (k1:(decide ((i:Int) < (l.length:Int)))=true->j6 cx_ (some [3,7,8,9]) (some [3,7,8,9]) (mkF 44 [(3,(sA 9 (mC (((out.take (I9 (nth l i) out out.length))++[(nth l i)])++(out.drop (I9 (nth l i) out out.length)))))),(7,(sA 9 (mC l))),(8,(iN l.length)),(9,(iN (i+1)))]) [] eX FX HX) (k2:(decide ((i:Int) < (l.length:Int)))=false->((.exit 0:Ex),(d1V out l i),[])=(eX,FX,HX)):j6 cx_ (some [3,7,8,9]) (some [3,7,8,9]) (d1V out l i) [] eX FX HX:=by
 have hp:=b1w (nth l i) out out.length
 exact F7 (.r (.g (.two (decide ((i:Int) < (l.length:Int))) (fun h1 h1'=>(.r (.h' [(o_ 0 9 [[e_,e_,z_,z_,z_,z_,z_,z_,bF]])] (.is 0 9 9 (mC l) (i:Int) (j5.row (nth l i)) (J8.mk _ ow ow) (.s (.h' [(o_ 0 9 [(j5.row (nth l i))])] (.y 1 (.int .i64 ((List.length (mC out):Nat):Int)) (iN out.length) (Yes.len _ _ _) (.g (.loop (d1U out l i) (show j6 cw_ (some [3,5,6,7,8,9]) (some [3,5,6,7,8,9]) (mkF 44 [(3,(sA 9 (mC out))),(5,(oO 0 0 0 0)),(6,(iN out.length)),(7,(sA 9 (mC l))),(8,(iN l.length)),(9,(iN i))]) [(o_ 0 9 [(j5.row (nth l i))])] (.exit 2) (d1U out l i) [(o_ 0 9 [(j5.row (nth l i))])] from (b8w l out i (nth l i) hk hi hl (List.length out) _ ow rfl)) (.r (.t 3 (sA 9 (mC (out.take (I9 (nth l i) out out.length)))) [(o_ 0 9 [(j5.row (nth l i))])] (dX (l:=0) (h:=(I9 (nth l i) out out.length)) om om om om nO:Option.map (fun a=>(a,([(o_ 0 9 [(j5.row (nth l i))])]:Heap))) (if 9=9\/((mC out)).isEmpty=true then (bounds 0 (((I9 (nth l i) out out.length):Nat):Int) (List.length (mC out))).map fun p=>sA 9 ((List.take p.2 (mC out)).drop p.1) else none)=some ((sA 9 (mC (out.take (I9 (nth l i) out out.length)))),([(o_ 0 9 [(j5.row (nth l i))])]:Heap))) (.ao 4 32 (AV.sl .clip 9 []) (sA 9 (mC (out.take (I9 (nth l i) out out.length)))) (AV.osl 1 0 9 0 (out.take (I9 (nth l i) out out.length)).length) [(o_ 0 9 [(j5.row (nth l i))]),(o_ 0 9 (mC (out.take (I9 (nth l i) out out.length))))] (O5 (T:=tt) (e:=39) (te:=jU) (z:=1) (b:=24) (y:=[.sl .nil 0 []]) (row:=j5.row) kr kr rfl z8 z8 yf_ U7 rfl rfl rfl om) (.ap 7 32 (AV.osl 1 0 9 0 (out.take (I9 (nth l i) out out.length)).length) (AV.sl .clip 9 [(j5.row (nth l i))]) (AV.osl 1 1 9 0 ((out.take (I9 (nth l i) out out.length)).length+1)) (b7q l i out) (H6 (row:=j5.row) (l:=out.take (I9 (nth l i) out out.length)) (x:=(nth l i)) (T:=tt) (e:=39) (te:=jU) (z:=1) (b:=24) (y:=[.sl .nil 0 []]) kr kr rfl z8 z8 kr aU rfl rfl pX) (.t 10 (sA 9 (mC (out.drop (I9 (nth l i) out out.length)))) (b7q l i out) (dX (l:=(I9 (nth l i) out out.length)) (h:=(List.length out)) om om om om nO:Option.map (fun a=>(a,(b7q l i out))) (if 9=9\/((mC out)).isEmpty=true then (bounds (((I9 (nth l i) out out.length):Nat):Int) ((List.length (mC out):Nat):Int) (List.length (mC out))).map fun p=>sA 9 ((List.take p.2 (mC out)).drop p.1) else none)=some ((sA 9 (mC (out.drop (I9 (nth l i) out out.length)))),(b7q l i out))) (.ao 11 32 (AV.osl 1 1 9 0 ((out.take (I9 (nth l i) out out.length)).length+1)) (sA 9 (mC (out.drop (I9 (nth l i) out out.length)))) (AV.osl 1 2 9 0 (((out.take (I9 (nth l i) out out.length)).length+1)+(out.drop (I9 (nth l i) out out.length)).length)) (d1T l i out) (F3 (T:=tt) (e:=39) (te:=jU) (z:=1) (b:=24) (y:=[.sl .nil 0 []]) (row:=j5.row) (l:=(out.take (I9 (nth l i) out out.length))++[(nth l i)]) kr kr rfl z8 z8 kr U7 om rfl rfl (by first | omega | (show _ * 88<=_; omega) | (simp; done) | (simp; omega))) (.rd (co_ l i) [(o_ 0 9 [(j5.row (nth l i))])] (.w' 3 (mC (((out.take (I9 (nth l i) out out.length))++[(nth l i)])++(out.drop (I9 (nth l i) out out.length)))) (And.intro (G7 (room:=none) kr om) (j5.p8 _ _):F5 (d1T l i out) 9 (AV.osl 1 2 9 0 (((out.take (I9 (nth l i) out out.length)).length+1)+(out.drop (I9 (nth l i) out out.length)).length))=some (mC (((out.take (I9 (nth l i) out out.length))++[(nth l i)])++(out.drop (I9 (nth l i) out out.length))))/\AV.D5 0 (mC (((out.take (I9 (nth l i) out out.length))++[(nth l i)])++(out.drop (I9 (nth l i) out out.length))))=true) (.s (.h' [(o_ 0 9 [(j5.row (nth l i))]),(o_ 3 9 [])] (.y 0 (.int .i64 (cb_ i)) (iN (i+1)) Yes.o (.h' [] (.b 0 (.g (.l (k1 h1))))))))))))))))))))))))) (fun h1 h1'=>(.l (k2 h1))))))
theorem b3d (l:l9C) (r:Nat):∀ (i:Nat) (out outF:l9C),i+r=l.length->out.length=i->l.length < 1048576->outF=(l.drop i).foldl Y7 out ->
 j6 (l9 Tryz.prog (X mQ) (p9 Tryz.f203 0)) (some [3,7,8,9]) (some [3,7,8,9]) (mkF 44 [(3,(sA 9 (mC out))),(7,(sA 9 (mC l))),(8,(iN l.length)),(9,(iN i))]) [] (.exit 0) (mkF 44 [(3,(sA 9 (mC outF))),(7,(sA 9 (mC l))),(8,(iN l.length)),(9,(iN l.length))]) []:=by
 induction r with
 | zero =>
  intro i out outF hi hk hl h
  refine a1W l out i ow ow hl (fun h=>by simp at h; omega) fun _=>?_
  have:l.drop i=[]:=List.drop_of_length_le ow
  rw [this] at h
  have e3:i=l.length:=by omega
  rw [h,e3]
  rfl
 | succ r ih =>
  intro i out outF hi hk hl h
  rw [Y8 ow,List.foldl_cons] at h
  refine a1W l out i ow ow hl (fun _=>?_) fun h=>by simp at h; omega
  exact ih (i+1) (Y7 out (nth l i)) outF ow (by rw [a7B]; omega) hl h
@[simp] abbrev d1S (a:l9C):Fr:=(mkF 44 [(3,(sA 9 (mC (G6 a)))),(7,(sA 9 (mC a))),(8,(iN a.length)),(9,(iN a.length))])
theorem b3c (l:l9C) (hl:l.length < 1048576):AC 203 [(sA 9 (mC l))] [] ((sA 9 (mC (G6 l))),[]) :=
 o9 (fn:=Tryz.f203) (ann:=mQ) (Has.o Tryz.func203) (.r (.s (.s (.y 1 (.int .i64 ((List.length (mC l):Nat):Int)) (iN l.length) (Yes.len _ _ _) (.g (.loop (d1S l) (show j6 cx_ (some [3,7,8,9]) (some [3,7,8,9]) (mkF 44 [(3,(sA 9 [])),(7,(sA 9 (mC l))),(8,(iN l.length)),(9,z_)]) [] (.exit 0) (d1S l) [] from (b3d l (List.length l) 0 [] _ ow rfl hl rfl)) (.qr 0 (sA 9 (mC (G6 l))))))))))
attribute [local irreducible] G6 I9 Y7 y9
def b1h:Ann:={ gha:=[(2,.vir 2 9)],fin:=some 1 }
theorem a8l  :AC 201 [(AV.sl .nil 0 [])] [] ((AV.osl 0 0 9 0 0),[(o_ 0 9 (mC []))]) :=
 o9 (fn:=Tryz.f201) (ann:=b1h) (Has.o Tryz.func201) (.r (.s (.ru (.g (.h' [(o_ 0 9 (mC []))] (.q 1 (AV.osl 0 0 9 0 0)))))))
def b1g:Ann:={ own:=[7],fin:=some 1 }
theorem a8k (l:l9C) (hl:l.length < 1099511627776):AC 201 [(AV.sl .op 9 (mC l))] [] ((AV.osl 0 0 9 0 l.length),[(o_ 0 9 (mC l))]) :=
 o9 (fn:=Tryz.f201) (ann:=b1g) (Has.o Tryz.func201) (.r (.s (.rn (.ao 2 32 (AV.sl .clip 9 []) (AV.sl .op 9 (mC l)) (AV.osl 0 0 9 0 l.length) [(o_ 0 9 (mC l))] (O5 (T:=tt) (e:=39) (te:=jU) (z:=1) (b:=24) (y:=[.sl .nil 0 []]) (row:=j5.row) kr kr rfl z8 z8 yf_ U7 rfl rfl rfl om) (.q 1 (AV.osl 0 0 9 0 l.length))))))
theorem b1f (l:l9C) (hl:l.length < 1099511627776):AC 201 [(sA 9 (mC l))] [] ((AV.osl 0 0 9 0 l.length),[(o_ 0 9 (mC l))]):=l6.a5x (fun h=>by
 have h2:l=[]:=by simpa using h
 subst h2; exact a8l) (a8k l hl)
theorem c0G (l:l9C) (hl:l.length < 1099511627776) (H:Heap):AC 201 [(sA 9 (mC l))] H (.osl H.length 0 9 0 l.length,H++([(o_ 0 9 (mC l))]:Heap)):=(b1f l hl).vX kr (by simp [AV.D5,j5.p8]) H
def a9E:Ann:={ refs:=[2,3],fin:=some 0 }
theorem a6q (a b:j5) :AC 221 [(AV.agg (j5.row a)),(AV.agg (j5.row b))] [] ((iI (U8 a.key b.key)),[]) :=
 o9 (fn:=Tryz.f221) (ann:=a9E) (Has.o Tryz.func221) (.r (.s (.c 4 ((a0z a.key b.key).lift kr kr []) (.q 0 (iI (U8 a.key b.key))))))
theorem b2q (a b:j5)  (H:Heap):AC 221 [(AV.agg (j5.row a)),(AV.agg (j5.row b))] H ((iI (U8 a.key b.key)),H):=(a6q a b ).lift kr kr H
def c0H:Ann:={ fin:=some 0 }
theorem c1p {p:Prop} (h:p:=by first | rfl | omega | (simp; done) | (simp; omega)):p:=h
theorem b5w (l:l9C) (hl:l.length < 1099511627776):AC 222 [(sA 9 (mC l))] [] ((AV.sl .cn 9 (mC l)),[]) :=
 o9 (fn:=Tryz.f222) (ann:=c0H) (Has.o Tryz.func222) (.r (.s (.y 2 (.int .i64 ((List.length (mC l):Nat):Int)) (iN l.length) (Yes.len _ _ _) (.y 4 (.int .i64 ((List.length (mC l):Nat):Int)) (iN l.length) (Yes.len _ _ _) (.t 5 (AV.sl .cn 9 (mC l)) [] (xL (l:=0) (h:=l.length) om om om om nO c1p:Option.map (fun a=>(a,([]:Heap))) (if 9=9\/((mC l)).isEmpty=true then (if ((l.length:Int):Int)=(l.length:Int) then (bounds 0 (l.length:Int) (List.length (mC l))).map fun p=>AV.sl .cn 9 ((List.take p.2 (mC l)).drop p.1) else none) else none)=some ((AV.sl .cn 9 (mC l)),([]:Heap))) (.q 0 (AV.sl .cn 9 (mC l))))))))
def S9 (l:List j5):List j5:=w9 (fun a b=>U8 a.key b.key) 0 (l.length - 1) 1 l
theorem a3X (l:l9C):(S9 l).length=l.length:=by unfold S9; rw [bQ]
def a5c:Ann:={ gha:=[(2,.frz 3)],fin:=some 0 }
def l8.eqb (a b:l8):Bool:=(a.t == b.t)&&((a.node == b.node)&&((a.n == b.n)&&true))
def j5.eqb (a b:j5):Bool:=(Key.eqb a.key b.key)&&((a.status == b.status)&&((a.over == b.over)&&((a.lease == b.lease)&&((l8.eqb a.stamp b.stamp)&&((a.gone == b.gone)&&true)))))
theorem Key.eH (a:Key):Key.eqb a a=true:=by simp [Key.eqb]
theorem j5.eH (a:j5):j5.eqb a a=true:=by simp [j5.eqb,l8.eqb,Key.eqb]
def qZ:Ann:={ fin:=some 0,live:=[(4,[0,1,12,13])],out:=[(4,[0,1,12,13])] }
@[simp] abbrev b7p (a:l9C) (b:l9C) (c:Nat):Fr:=(mkF 26 [(0,(sA 9 (mC a))),(1,(sA 9 (mC b))),(12,(iN a.length)),(13,(iN c))])
theorem a1O (a:l9C) (b:l9C)  (i:Nat) (hl:a.length < 1099511627776) (hb:a.length=b.length) (hle_:i<=a.length) {eX:Ex} {FX:Fr} {HX:Heap} (k1:(decide ((i:Int) < (a.length:Int)))=true->(!(j5.eqb (nth a i) (nth b i)))=true->((.ret:Ex),(b7p a b i),[])=(eX,FX,HX)) (k2:(decide ((i:Int) < (a.length:Int)))=true->(!(j5.eqb (nth a i) (nth b i)))=false->j6 (l9 Tryz.prog (X qZ) (p9 Tryz.f68 0)) (some [0,1,12,13]) (some [0,1,12,13]) (mkF 26 [(0,(sA 9 (mC a))),(1,(sA 9 (mC b))),(12,(iN a.length)),(13,(iN (i+1)))]) [] eX FX HX) (k3:(decide ((i:Int) < (a.length:Int)))=false->((.exit 0:Ex),(b7p a b i),[])=(eX,FX,HX)):j6 (l9 Tryz.prog (X qZ) (p9 Tryz.f68 0)) (some [0,1,12,13]) (some [0,1,12,13]) (b7p a b i) [] eX FX HX :=
 F7 (.r (.g (.two (decide ((i:Int) < (a.length:Int))) (fun h1 h1'=>(.r (.s (.is 2 9 9 (mC a) (i:Int) (j5.row (nth a i)) (J8.mk _ ow ow) (.is 6 9 9 (mC b) (i:Int) (j5.row (nth b i)) (J8.mk _ ow ow) (.g (.two (!(j5.eqb (nth a i) (nth b i))) (fun h2 h2'=>(.r (.g (.l (k1 h1 h2))))) (fun h2 h2'=>(.r (.y 0 (.int .i64 (cb_ i)) (iN (i+1)) Yes.o (.g (.l (k2 h1 h2))))))))))))) (fun h1 h1'=>(.l (k3 h1))))))
def zM (a:List j5) (b:List j5) (i:Nat) (s:Unit):Unit:=()
def a4h (a:List j5) (b:List j5)  (i:Nat):Prop:=(((decide ((i:Int) < (a.length:Int)))=true)/\((!(j5.eqb (nth a i) (nth b i)))=true))
@[simp] abbrev c7G (a:l9C) (b:l9C):Fr:=(mkF 26 [(0,(sA 9 (mC a))),(1,(sA 9 (mC b))),(12,(iN a.length)),(13,(iN a.length))])
theorem b2e {p:Prop} (h:p:=by have hb_:=hbad i ow; (try rw [<- hs_] at hb_); exact hb_ (⟨h1,h2⟩)):p:=h
theorem b2J (a:l9C) (b:l9C) (hl:a.length < 1099511627776) (hb:a.length=b.length)  (hbad:∀ (i:Nat),i < a.length->¬ a4h a b  i) (r_:Nat):∀  (i:Nat) (sF:Unit),i+r_=a.length->()=(iter (zM a b) i 0 ())->sF=iter (zM a b) r_ i () ->
 j6 (l9 Tryz.prog (X qZ) (p9 Tryz.f68 0)) (some [0,1,12,13]) (some [0,1,12,13]) (b7p a b i) [] (.exit 0) (c7G a b) []:=by
 induction r_ with
 | zero =>
  intro  i sF hi_  hs_ hF
  obtain rfl:a.length=i:=by omega
  have e_:sF=():=hF
  refine a1O a b  a.length hl hb (Nat.le_refl _) (fun h _=>by simp at h <;> omega) (fun h _=>by simp at h <;> omega) (fun _=>?_)
  first | done | rfl | (rw [e_]; done) | (rw [e_]; rfl)
 | succ r_ ih =>
  intro  i sF hi_  hs_ hF
  refine a1O a b  i hl hb ow (fun h1 h2=>?_) (fun h1 h2=>?_) (fun h=>by simp at h <;> omega)
  · exact False.elim b2e
  · exact ih  (i+1) sF ow  (by rw [mU,<- hs_] <;> simp only [zM,h2,if_true,Bool.false_eq_true,if_false]) (by rw [hF] <;> simp only [iter,zM,h2,if_true,Bool.false_eq_true,if_false])
theorem vE (a b:l9C) (hl:a.length < 1099511627776) (h:a=b):AC 68 [(sA 9 (mC a)),(sA 9 (mC b))] [] (bT,[]):=by
 have hb:a.length=b.length:=by rw [h]
 exact o9 (fn:=Tryz.f68) (ann:=qZ) (Has.o Tryz.func68) (.r (.s (.y 1 (.int .i64 ((List.length (mC a):Nat):Int)) (iN a.length) (Yes.len _ _ _) (.y 3 (.int .i64 ((List.length (mC b):Nat):Int)) (iN b.length) (Yes.len _ _ _) (.y 4 (bB ((a.length:Int) != (b.length:Int))) bF (Yes.b (by rw [hb]; simp)) (.rn (.y 1 (.int .i64 ((List.length (mC a):Nat):Int)) (iN a.length) (Yes.len _ _ _) (.g (.loop (c7G a b) (b2J a b hl hb (fun i hi=>by subst h; simp [a4h,j5.eH]) (List.length a) 0 () ow rfl rfl) (.qr 0 bT))))))))))
def qY:Ann:={ fin:=some 0,live:=[(4,[0,1,12,13])],out:=[(4,[0,1,12,13])] }
@[simp] abbrev a5R (a:l9K) (b:l9K) (c:Nat):Fr:=(mkF 26 [(0,(sA 2 (mK a))),(1,(sA 2 (mK b))),(12,(iN a.length)),(13,(iN c))])
theorem a1N (a:l9K) (b:l9K)  (i:Nat) (hl:a.length < 1099511627776) (hb:a.length=b.length) (hle_:i<=a.length) {eX:Ex} {FX:Fr} {HX:Heap} (k1:(decide ((i:Int) < (a.length:Int)))=true->(!(Key.eqb (nth a i) (nth b i)))=true->((.ret:Ex),(a5R a b i),[])=(eX,FX,HX)) (k2:(decide ((i:Int) < (a.length:Int)))=true->(!(Key.eqb (nth a i) (nth b i)))=false->j6 (l9 Tryz.prog (X qY) (p9 Tryz.f140 0)) (some [0,1,12,13]) (some [0,1,12,13]) (mkF 26 [(0,(sA 2 (mK a))),(1,(sA 2 (mK b))),(12,(iN a.length)),(13,(iN (i+1)))]) [] eX FX HX) (k3:(decide ((i:Int) < (a.length:Int)))=false->((.exit 0:Ex),(a5R a b i),[])=(eX,FX,HX)):j6 (l9 Tryz.prog (X qY) (p9 Tryz.f140 0)) (some [0,1,12,13]) (some [0,1,12,13]) (a5R a b i) [] eX FX HX :=
 F7 (.r (.g (.two (decide ((i:Int) < (a.length:Int))) (fun h1 h1'=>(.r (.s (.is 2 2 2 (mK a) (i:Int) (Key.row (nth a i)) (J8.mk _ ow ow) (.is 6 2 2 (mK b) (i:Int) (Key.row (nth b i)) (J8.mk _ ow ow) (.g (.two (!(Key.eqb (nth a i) (nth b i))) (fun h2 h2'=>(.r (.g (.l (k1 h1 h2))))) (fun h2 h2'=>(.r (.y 0 (.int .i64 (cb_ i)) (iN (i+1)) Yes.o (.g (.l (k2 h1 h2))))))))))))) (fun h1 h1'=>(.l (k3 h1))))))
def zL (a:List Key) (b:List Key) (i:Nat) (s:Unit):Unit:=()
def a4g (a:List Key) (b:List Key)  (i:Nat):Prop:=(((decide ((i:Int) < (a.length:Int)))=true)/\((!(Key.eqb (nth a i) (nth b i)))=true))
@[simp] abbrev c7F (a:l9K) (b:l9K):Fr:=(mkF 26 [(0,(sA 2 (mK a))),(1,(sA 2 (mK b))),(12,(iN a.length)),(13,(iN a.length))])
theorem b2I (a:l9K) (b:l9K) (hl:a.length < 1099511627776) (hb:a.length=b.length)  (hbad:∀ (i:Nat),i < a.length->¬ a4g a b  i) (r_:Nat):∀  (i:Nat) (sF:Unit),i+r_=a.length->()=(iter (zL a b) i 0 ())->sF=iter (zL a b) r_ i () ->
 j6 (l9 Tryz.prog (X qY) (p9 Tryz.f140 0)) (some [0,1,12,13]) (some [0,1,12,13]) (a5R a b i) [] (.exit 0) (c7F a b) []:=by
 induction r_ with
 | zero =>
  intro  i sF hi_  hs_ hF
  obtain rfl:a.length=i:=by omega
  have e_:sF=():=hF
  refine a1N a b  a.length hl hb (Nat.le_refl _) (fun h _=>by simp at h <;> omega) (fun h _=>by simp at h <;> omega) (fun _=>?_)
  first | done | rfl | (rw [e_]; done) | (rw [e_]; rfl)
 | succ r_ ih =>
  intro  i sF hi_  hs_ hF
  refine a1N a b  i hl hb ow (fun h1 h2=>?_) (fun h1 h2=>?_) (fun h=>by simp at h <;> omega)
  · exact False.elim b2e
  · exact ih  (i+1) sF ow  (by rw [mU,<- hs_] <;> simp only [zL,h2,if_true,Bool.false_eq_true,if_false]) (by rw [hF] <;> simp only [iter,zL,h2,if_true,Bool.false_eq_true,if_false])
theorem b2H (a b:l9K) (hl:a.length < 1099511627776) (h:a=b):AC 140 [(sA 2 (mK a)),(sA 2 (mK b))] [] (bT,[]):=by
 have hb:a.length=b.length:=by rw [h]
 exact o9 (fn:=Tryz.f140) (ann:=qY) (Has.o Tryz.func140) (.r (.s (.y 1 (.int .i64 ((List.length (mK a):Nat):Int)) (iN a.length) (Yes.len _ _ _) (.y 3 (.int .i64 ((List.length (mK b):Nat):Int)) (iN b.length) (Yes.len _ _ _) (.y 4 (bB ((a.length:Int) != (b.length:Int))) bF (Yes.b (by rw [hb]; simp)) (.rn (.y 1 (.int .i64 ((List.length (mK a):Nat):Int)) (iN a.length) (Yes.len _ _ _) (.g (.loop (c7F a b) (b2I a b hl hb (fun i hi=>by subst h; simp [a4g,Key.eH]) (List.length a) 0 () ow rfl rfl) (.qr 0 bT))))))))))
theorem wD {α β:Type} (p:α->Bool) (f:α->β) (l:List α):∀ (out:List β) (k g:Nat),
 l.foldl (fun (s:List β × Nat × Nat) c=>if p c=true then (s.1++[f c],s.2.1+1,s.2.2+1) else s) (out,k,g)=(out++(l.filter p).map f,k+((l.filter p).map f).length,g+((l.filter p).map f).length):=by
 induction l with
 | nil=>intro out k g; simp
 | cons c l ih =>
  intro out k g
  rw [List.foldl_cons]
  by_cases h:p c=true
  · rw [if_pos h,ih]; simp [List.filter_cons,h]; omega
  · rw [if_neg h,ih]; simp [List.filter_cons,h]
def D9 (s:ByteArray):List Int:=s.data.toList.map fun b=>(b.toNat:Int)
theorem fJ (s:ByteArray):(D9 s).length=s.size:=by unfold D9; rw [List.length_map]; rfl
theorem a0P (H:Heap) (s:ByteArray):F5 H 1 (.str s)=some ((D9 s).map rU8):=by
 simp [F5,D9,rU8,Function.comp_def]
theorem a4a {H:Heap} {s:ByteArray} {lo hi:Int} {l h:Nat} (hlo:lo=(l:Int)) (hhi:hi=(h:Int)) (h1:l<=h) (h2:h<=s.size) :
 Option.map (fun a=>(a,H)) ((bounds lo hi s.size).map fun p=>AV.str (s.extract p.1 p.2))=some (.str (s.extract l h),H):=by
 subst hlo hhi
 unfold bounds
 rw [if_pos ⟨by omega,by omega,by omega⟩]
 simp
attribute [local irreducible] S9 U8
def b1k:Ann:={ gha:=[(2,.vir 2 1)],fin:=some 1 }
theorem a8n  :AC 242 [(AV.sl .nil 0 [])] [] ((AV.osl 0 0 1 0 0),[(o_ 0 1 (List.map rU8 []))]) :=
 o9 (fn:=Tryz.f242) (ann:=b1k) (Has.o Tryz.func242) (.r (.s (.ru (.g (.h' [(o_ 0 1 (List.map rU8 []))] (.q 1 (AV.osl 0 0 1 0 0)))))))
def b1j:Ann:={ own:=[7],fin:=some 1 }
@[simp] abbrev cy_ (a:List Int):=(AV.osl 0 0 1 0 a.length)
@[reducible] def bD:TI:={ d:=.int .u8,size:=1,bytes:=1,zero:=[.int .u8 0] }
theorem a8m (l:List Int) (hl:l.length < 1099511627776):AC 242 [(AV.sl .op 1 (List.map rU8 l))] [] ((cy_ l),[(o_ 0 1 (List.map rU8 l))]) :=
 o9 (fn:=Tryz.f242) (ann:=b1j) (Has.o Tryz.func242) (.r (.s (.rn (.ao 2 249 (AV.sl .clip 1 []) (AV.sl .op 1 (List.map rU8 l)) (cy_ l) [(o_ 0 1 (List.map rU8 l))] (O5 (T:=tt) (e:=5) (te:=bD) (z:=1) (b:=24) (y:=[.sl .nil 0 []]) (row:=rU8) kr kr rfl z8 z8 yf_ U7 rfl rfl rfl om) (.q 1 (cy_ l))))))
theorem b1i (l:List Int) (hl:l.length < 1099511627776):AC 242 [(sA 1 (List.map rU8 l))] [] ((AV.osl 0 0 1 0 l.length),[(o_ 0 1 (List.map rU8 l))]):=l6.a5x (fun h=>by
 have h2:l=[]:=by simpa using h
 subst h2; exact a8n) (a8m l hl)
theorem a4R (l:List Int) (hl:l.length < 1099511627776) (H:Heap):AC 242 [(sA 1 (List.map rU8 l))] H (.osl H.length 0 1 0 l.length,H++([(o_ 0 1 (List.map rU8 l))]:Heap)):=(b1i l hl).vX kr (by simp [AV.D5,iL]) H
def J7 (b:List Int) (n:Int):List Int:=b++[IntKind.u8.wrap n]
theorem bR (b:List Int) (n:Int):(J7 b n).length=b.length+1:=by simp [J7]
def c0K:Ann:={ own:=[10],fin:=some 1 }
theorem dV {p:Prop} (h:p:=by first | omega | (show _ * 1<=_; omega) | (simp; done) | (simp; omega)):p:=h
@[simp] abbrev cz_ (a:List Int):=(AV.osl 0 1 1 0 (a.length+1))
theorem a2y (b:List Int) (n:Int) (hb:b.length < 1048576):AC 235 [(sA 1 (List.map rU8 b)),(iI n)] [] ((AV.osl 0 1 1 0 (J7 b n).length),[(o_ 1 1 (List.map rU8 (J7 b n)))]):=by
 have hB:=bR b n
 exact o9 (fn:=Tryz.f235) (ann:=c0K) (Has.o Tryz.func235) (.r (.s (.ch 1 [(o_ 0 1 (List.map rU8 b))] (a4R b oa []) (.ao 5 249 (cy_ b) (AV.sl .clip 1 [[(AV.int .u8 (IntKind.u8.wrap n))]]) (cz_ b) [(o_ 1 1 (List.map rU8 (b++[(IntKind.u8.wrap n)])))] (F3 (T:=tt) (e:=5) (te:=bD) (z:=1) (b:=24) (y:=[.sl .nil 0 []]) (row:=rU8) (l:=b) kr kr rfl z8 z8 kr U7 om rfl rfl dV) (.q 1 (cz_ b) (by simp [J7]))))))
theorem c5g (b:List Int) (n:Int) (hb:b.length < 1048576) (H:Heap):AC 235 [(sA 1 (List.map rU8 b)),(iI n)] H (.osl H.length 1 1 0 (J7 b n).length,H++([(o_ 1 1 (List.map rU8 (J7 b n)))]:Heap)):=(a2y b n hb).vX kr (by simp [AV.D5,iL]) H
theorem b2d {p:Prop} (h:p:=by first | omega | simp):p:=h
theorem b6i (b:List Int) (n:Int) (hb:b.length < 1048576):AC 235 [(sA 1 (List.map rU8 b)),(iI n)] [] ((sA 1 (List.map rU8 (J7 b n))),[]):=by
 have h1:=(a2y b n hb).zQ (xs:=(J7 b n).map rU8) (G7 (room:=none) kr b2d) (iL _ _)
 exact l6.forget (H2:=[]) (X:=[(o_ 2 1 [])]) h1 rfl kr (fun id o ho=>by simp at ho)
def qM (s:ByteArray):ByteArray:=ByteArray.extract s 0 (min s.size 255)
theorem a4O (s:ByteArray):(qM s).size=min s.size 255:=by simp [qM]
def J2 (b:List Int) (s:ByteArray):List Int:=J7 b (qM s).size++D9 (qM s)
theorem fH (b:List Int) (s:ByteArray):(J2 b s).length<=b.length+256:=by
 have:=a4O s
 simp only [J2,List.length_append,bR,fJ]; omega
def b7G:Ann:={ own:=[15],fin:=some 1 }
@[simp] abbrev d0k (a:List Int) (b:ByteArray):=(AV.osl 0 2 1 0 ((J7 a (((ByteArray.extract b 0 (min b.size 255)).size:Nat):Int)).length+(D9 (ByteArray.extract b 0 (min b.size 255))).length))
theorem b2i (b:List Int) (s:ByteArray) (hb:b.length < 1048576):AC 236 [(sA 1 (List.map rU8 b)),(AV.str s)] [] ((AV.osl 0 2 1 0 (J2 b s).length),[(o_ 2 1 (List.map rU8 (J2 b s)))]):=by
 have hT:=fH b s
 have h7:(ByteArray.extract s 0 (min s.size 255)).size=min s.size 255:=a4O s
 have h5:=bR b ((min s.size 255:Nat):Int)
 have h6:=fJ (ByteArray.extract s 0 (min s.size 255))
 exact o9 (fn:=Tryz.f236) (ann:=b7G) (Has.o Tryz.func236) (.r (.s (.y 3 (.int .i64 (if 255 < (s.size:Int) then 255 else (s.size:Int))) (iN (min s.size 255)) (Yes.int yw_) (.t 4 (AV.str (ByteArray.extract s 0 (min s.size 255))) [] (a4a om om om om:Option.map (fun a=>(a,([]:Heap))) ((bounds 0 ((min s.size 255:Nat):Int) (ByteArray.size s)).map fun p=>AV.str (ByteArray.extract s p.1 p.2))=some ((AV.str (ByteArray.extract s 0 (min s.size 255))),([]:Heap))) (.s (.ch 3 [(o_ 1 1 (List.map rU8 (J7 b (((ByteArray.extract s 0 (min s.size 255)).size:Nat):Int))))] (c5g b (((ByteArray.extract s 0 (min s.size 255)).size:Nat):Int) oa []) (.ao 5 249 (AV.osl 0 1 1 0 (J7 b (((ByteArray.extract s 0 (min s.size 255)).size:Nat):Int)).length) (AV.str (ByteArray.extract s 0 (min s.size 255))) (d0k b s) [(o_ 2 1 (List.map rU8 ((J7 b (((ByteArray.extract s 0 (min s.size 255)).size:Nat):Int))++(D9 (ByteArray.extract s 0 (min s.size 255))))))] (F3 (T:=tt) (e:=5) (te:=bD) (z:=1) (b:=24) (y:=[.sl .nil 0 []]) (row:=rU8) (l:=(J7 b (((ByteArray.extract s 0 (min s.size 255)).size:Nat):Int))) kr kr rfl z8 z8 kr (a0P _ _) om rfl rfl dV) (.q 1 (d0k b s) (by simp [J2,qM,J7,fJ] <;> omega)))))))))
theorem a1y (b:List Int) (s:ByteArray) (hb:b.length < 1048576):AC 236 [(sA 1 (List.map rU8 b)),(AV.str s)] [] ((sA 1 (List.map rU8 (J2 b s))),[]):=by
 have h1:=(b2i b s hb).zQ (xs:=(J2 b s).map rU8) (G7 (room:=none) kr b2d) (iL _ _)
 exact l6.forget (H2:=[]) (X:=[(o_ 3 1 [])]) h1 rfl kr (fun id o ho=>by simp at ho)
def c0I:Ann:={ fin:=some 0 }
@[simp] abbrev b6h (a:List Int):=(AV.sl .cn 1 (List.map rU8 a))
theorem b5x (l:List Int) (hl:l.length < 1099511627776):AC 243 [(sA 1 (List.map rU8 l))] [] ((b6h l),[]) :=
 o9 (fn:=Tryz.f243) (ann:=c0I) (Has.o Tryz.func243) (.r (.s (.y 2 (.int .i64 ((List.length (List.map rU8 l):Nat):Int)) (iN l.length) (Yes.len _ _ _) (.y 4 (.int .i64 ((List.length (List.map rU8 l):Nat):Int)) (iN l.length) (Yes.len _ _ _) (.t 5 (b6h l) [] (xL (l:=0) (h:=l.length) om om om om nO c1p:Option.map (fun a=>(a,([]:Heap))) (if 1=1\/((List.map rU8 l)).isEmpty=true then (if ((l.length:Int):Int)=(l.length:Int) then (bounds 0 (l.length:Int) (List.length (List.map rU8 l))).map fun p=>AV.sl .cn 1 ((List.take p.2 (List.map rU8 l)).drop p.1) else none) else none)=some ((b6h l),([]:Heap))) (.q 0 (b6h l)))))))
def fC (n:Int) (k:Nat):Int:=IntKind.u8.wrap (Int.fdiv n (2 ^ (min (Int.toNat (8 * k:Nat)) 64)))
def gM (b:List Int) (n:Int):List Int:=b++[fC n 7,fC n 6,fC n 5,fC n 4,fC n 3,fC n 2,fC n 1,fC n 0]
theorem c3A (b:List Int) (n:Int):(gM b n).length=b.length+8:=by simp [gM]
def c3B:Ann:={ own:=[20],gh:=[(6,.frz 5)],fin:=some 0 }
@[simp] abbrev U9 (a:Int):=(IntKind.u8.wrap (Int.fdiv a (2 ^ (min (Int.toNat 56) 64))))
@[simp] abbrev Y2 (a:Int):=(IntKind.u8.wrap (Int.fdiv a (2 ^ (min (Int.toNat 48) 64))))
@[simp] abbrev aJ (a:Int):=(IntKind.u8.wrap (Int.fdiv a (2 ^ (min (Int.toNat 40) 64))))
@[simp] abbrev bJ (a:Int):=(IntKind.u8.wrap (Int.fdiv a (2 ^ (min (Int.toNat 32) 64))))
@[simp] abbrev fB (a:Int):=(IntKind.u8.wrap (Int.fdiv a (2 ^ (min (Int.toNat 24) 64))))
@[simp] abbrev iV (a:Int):=(IntKind.u8.wrap (Int.fdiv a (2 ^ (min (Int.toNat 16) 64))))
@[simp] abbrev oJ (a:Int):=(IntKind.u8.wrap (Int.fdiv a (2 ^ (min (Int.toNat 8) 64))))
@[simp] abbrev yZ (a:Int):=(IntKind.u8.wrap (Int.fdiv a (2 ^ (min (Int.toNat 0) 64))))
@[simp] abbrev a3M (a:List Int) (b:Int):Heap:=[(o_ 8 1 (List.map rU8 ((((((((a++[(U9 b)])++[(Y2 b)])++[(aJ b)])++[(bJ b)])++[(fB b)])++[(iV b)])++[(oJ b)])++[(yZ b)])))]
@[simp] abbrev c4i (a:Int):=(IntKind.u8.wrap (Int.fdiv a (2 ^ (min (Int.toNat 56) 64))))
@[simp] abbrev d0j (a:Int):=(AV.sl .clip 1 [[(AV.int .u8 (c4i a))]])
@[simp] abbrev c4h (a:Int):=(IntKind.u8.wrap (Int.fdiv a (2 ^ (min (Int.toNat 48) 64))))
@[simp] abbrev d0i (a:Int):=(AV.sl .clip 1 [[(AV.int .u8 (c4h a))]])
@[simp] abbrev b6g (a:List Int):=(AV.osl 0 2 1 0 ((a.length+1)+1))
@[simp] abbrev c4g (a:Int):=(IntKind.u8.wrap (Int.fdiv a (2 ^ (min (Int.toNat 40) 64))))
@[simp] abbrev d0h (a:Int):=(AV.sl .clip 1 [[(AV.int .u8 (c4g a))]])
@[simp] abbrev b6e (a:List Int):=(AV.osl 0 3 1 0 (((a.length+1)+1)+1))
@[simp] abbrev c4f (a:Int):=(IntKind.u8.wrap (Int.fdiv a (2 ^ (min (Int.toNat 32) 64))))
@[simp] abbrev cap_ (a:Int):=(AV.sl .clip 1 [[(AV.int .u8 (c4f a))]])
@[simp] abbrev b6d (a:List Int):=(AV.osl 0 4 1 0 ((((a.length+1)+1)+1)+1))
@[simp] abbrev c4e (a:Int):=(IntKind.u8.wrap (Int.fdiv a (2 ^ (min (Int.toNat 24) 64))))
@[simp] abbrev d0g (a:Int):=(AV.sl .clip 1 [[(AV.int .u8 (c4e a))]])
@[simp] abbrev b6b (a:List Int):=(AV.osl 0 5 1 0 (((((a.length+1)+1)+1)+1)+1))
@[simp] abbrev c4d (a:Int):=(IntKind.u8.wrap (Int.fdiv a (2 ^ (min (Int.toNat 16) 64))))
@[simp] abbrev d0f (a:Int):=(AV.sl .clip 1 [[(AV.int .u8 (c4d a))]])
@[simp] abbrev b6a (a:List Int):=(AV.osl 0 6 1 0 ((((((a.length+1)+1)+1)+1)+1)+1))
@[simp] abbrev c4c (a:Int):=(IntKind.u8.wrap (Int.fdiv a (2 ^ (min (Int.toNat 8) 64))))
@[simp] abbrev d0e (a:Int):=(AV.sl .clip 1 [[(AV.int .u8 (c4c a))]])
@[simp] abbrev b5Z (a:List Int):=(AV.osl 0 7 1 0 (((((((a.length+1)+1)+1)+1)+1)+1)+1))
@[simp] abbrev c4b (a:Int):=(IntKind.u8.wrap (Int.fdiv a (2 ^ (min (Int.toNat 0) 64))))
@[simp] abbrev d0d (a:Int):=(AV.sl .clip 1 [[(AV.int .u8 (c4b a))]])
@[simp] abbrev b5Y (a:List Int):=(AV.osl 0 8 1 0 ((((((((a.length+1)+1)+1)+1)+1)+1)+1)+1))
@[simp] abbrev d3a (a:List Int) (b:Int):=(AV.sl .cn 1 (List.map rU8 ((((((((a++[(c4i b)])++[(c4h b)])++[(c4g b)])++[(c4f b)])++[(c4e b)])++[(c4d b)])++[(c4c b)])++[(c4b b)])))
theorem b9D (b:List Int) (n:Int) (hb:b.length < 1048576):AC 238 [(sA 1 (List.map rU8 b)),(iI n)] [] ((AV.sl .cn 1 (List.map rU8 (gM b n))),[]) :=
 o9 (fn:=Tryz.f238) (ann:=c3B) (Has.o Tryz.func238) (.r (.s (.ch 1 [(o_ 0 1 (List.map rU8 b))] (a4R b oa []) (.s (.g (.roll 9 (.r (.ru (.ao 7 249 (cy_ b) (d0j n) (cz_ b) [(o_ 1 1 (List.map rU8 (b++[(U9 n)])))] (F3 (T:=tt) (e:=5) (te:=bD) (z:=1) (b:=24) (y:=[.sl .nil 0 []]) (row:=rU8) (l:=b) kr kr rfl z8 z8 kr U7 om rfl rfl dV) (.s (.s (.ru (.ao 7 249 (cz_ b) (d0i n) (b6g b) [(o_ 2 1 (List.map rU8 ((b++[(U9 n)])++[(Y2 n)])))] (F3 (T:=tt) (e:=5) (te:=bD) (z:=1) (b:=24) (y:=[.sl .nil 0 []]) (row:=rU8) (l:=b++[(U9 n)]) kr kr rfl z8 z8 kr U7 om rfl rfl dV) (.s (.s (.ru (.ao 7 249 (b6g b) (d0h n) (b6e b) [(o_ 3 1 (List.map rU8 (((b++[(U9 n)])++[(Y2 n)])++[(aJ n)])))] (F3 (T:=tt) (e:=5) (te:=bD) (z:=1) (b:=24) (y:=[.sl .nil 0 []]) (row:=rU8) (l:=(b++[(U9 n)])++[(Y2 n)]) kr kr rfl z8 z8 kr U7 om rfl rfl dV) (.s (.s (.ru (.ao 7 249 (b6e b) (cap_ n) (b6d b) [(o_ 4 1 (List.map rU8 ((((b++[(U9 n)])++[(Y2 n)])++[(aJ n)])++[(bJ n)])))] (F3 (T:=tt) (e:=5) (te:=bD) (z:=1) (b:=24) (y:=[.sl .nil 0 []]) (row:=rU8) (l:=((b++[(U9 n)])++[(Y2 n)])++[(aJ n)]) kr kr rfl z8 z8 kr U7 om rfl rfl dV) (.s (.s (.ru (.ao 7 249 (b6d b) (d0g n) (b6b b) [(o_ 5 1 (List.map rU8 (((((b++[(U9 n)])++[(Y2 n)])++[(aJ n)])++[(bJ n)])++[(fB n)])))] (F3 (T:=tt) (e:=5) (te:=bD) (z:=1) (b:=24) (y:=[.sl .nil 0 []]) (row:=rU8) (l:=(((b++[(U9 n)])++[(Y2 n)])++[(aJ n)])++[(bJ n)]) kr kr rfl z8 z8 kr U7 om rfl rfl dV) (.s (.s (.ru (.ao 7 249 (b6b b) (d0f n) (b6a b) [(o_ 6 1 (List.map rU8 ((((((b++[(U9 n)])++[(Y2 n)])++[(aJ n)])++[(bJ n)])++[(fB n)])++[(iV n)])))] (F3 (T:=tt) (e:=5) (te:=bD) (z:=1) (b:=24) (y:=[.sl .nil 0 []]) (row:=rU8) (l:=((((b++[(U9 n)])++[(Y2 n)])++[(aJ n)])++[(bJ n)])++[(fB n)]) kr kr rfl z8 z8 kr U7 om rfl rfl dV) (.s (.s (.ru (.ao 7 249 (b6a b) (d0e n) (b5Z b) [(o_ 7 1 (List.map rU8 (((((((b++[(U9 n)])++[(Y2 n)])++[(aJ n)])++[(bJ n)])++[(fB n)])++[(iV n)])++[(oJ n)])))] (F3 (T:=tt) (e:=5) (te:=bD) (z:=1) (b:=24) (y:=[.sl .nil 0 []]) (row:=rU8) (l:=(((((b++[(U9 n)])++[(Y2 n)])++[(aJ n)])++[(bJ n)])++[(fB n)])++[(iV n)]) kr kr rfl z8 z8 kr U7 om rfl rfl dV) (.s (.s (.ru (.ao 7 249 (b5Z b) (d0d n) (b5Y b) (a3M b n) (F3 (T:=tt) (e:=5) (te:=bD) (z:=1) (b:=24) (y:=[.sl .nil 0 []]) (row:=rU8) (l:=((((((b++[(U9 n)])++[(Y2 n)])++[(aJ n)])++[(bJ n)])++[(fB n)])++[(iV n)])++[(oJ n)]) kr kr rfl z8 z8 kr U7 om rfl rfl dV) (.s (.s (.rn (.w 5 (List.map rU8 ((((((((b++[(U9 n)])++[(Y2 n)])++[(aJ n)])++[(bJ n)])++[(fB n)])++[(iV n)])++[(oJ n)])++[(yZ n)])) (And.intro (G7 (room:=none) kr om) (iL _ _):F5 (a3M b n) 1 (b5Y b)=some (List.map rU8 ((((((((b++[(U9 n)])++[(Y2 n)])++[(aJ n)])++[(bJ n)])++[(fB n)])++[(iV n)])++[(oJ n)])++[(yZ n)]))/\AV.D5 0 (List.map rU8 ((((((((b++[(U9 n)])++[(Y2 n)])++[(aJ n)])++[(bJ n)])++[(fB n)])++[(iV n)])++[(oJ n)])++[(yZ n)]))=true) (.c 1 ((b5x ((((((((b++[(U9 n)])++[(Y2 n)])++[(aJ n)])++[(bJ n)])++[(fB n)])++[(iV n)])++[(oJ n)])++[(yZ n)]) oa).lift kr kr [(o_ 9 1 [])]) (.g (.h' [] (.q 0 (d3a b n) (by (try delta a3M); simp [gM,fC]))))))))))))))))))))))))))))))))))))))))))))))
theorem b9C (b:List Int) (n:Int) (hb:b.length < 1048576):AC 238 [(sA 1 (List.map rU8 b)),(iI n)] [] ((sA 1 (List.map rU8 (gM b n))),[]):=(b9D b n hb).post ⟨rfl,rfl,.inl rfl⟩
def Y9 (c:j5):Int:=if c.gone=true then 0 else if (c.over != 0)=true then c.over else c.status
def b7U:Ann:={ refs:=[1],fin:=some 0 }
theorem a2L {p:Prop} (h:p:=by simp_all [Y9]):p:=h
theorem b2A (c:j5) :AC 237 [(AV.agg (j5.row c))] [] ((iI (Y9 c)),[]) :=
 o9 (fn:=Tryz.f237) (ann:=b7U) (Has.o Tryz.func237) (.r (.s (.g (.two c.gone (fun h1 h1'=>(.qr 0 z_ a2L)) (fun h1 h1'=>(.r (.g (.two (c.over != 0) (fun h2 h2'=>(.qr 0 (iI c.over) a2L)) (fun h2 h2'=>(.qr 0 (iI c.status) a2L))))))))))
def b3e:Ann:={ refs:=[1],fin:=some 0 }
theorem a9T (c:j5) :AC 233 [(AV.agg (j5.row c))] [] ((iI (Y9 c)),[]) :=
 o9 (fn:=Tryz.f233) (ann:=b3e) (Has.o Tryz.func233) (.r (.s (.g (.two c.gone (fun h1 h1'=>(.qr 0 z_ a2L)) (fun h1 h1'=>(.r (.g (.two (c.over != 0) (fun h2 h2'=>(.qr 0 (iI c.over) a2L)) (fun h2 h2'=>(.qr 0 (iI c.status) a2L))))))))))
def J6 (l:List j5):List j5:=l.filter fun c=>!c.gone
def K4 (l:List j5):List j5:=S9 (J6 l)
theorem yG (l:l9C):(J6 l).length<=l.length:=List.length_filter_le _ _
theorem mP (l:l9C):(K4 l).length<=l.length:=by unfold K4; rw [a3X]; exact yG l
def a0M:Ann:={ gh:=[(8,.frz 3)],gha:=[(1,.vir 3 9),(7,.cut 1)],fin:=some 0,live:=[(3,[3,6,7,8])],out:=[(3,[3,6,7,8])] }
@[simp] abbrev b7o (a:Nat) (b:l9C) (c:l9C) (d:Nat):Heap:=[(o_ (a+1) 9 (mC (b++[(nth c d)])))]
@[simp] abbrev c6b (a:Nat) (b:Nat) (c:l9C) (d:Nat):Fr:=(mkF 22 [(3,(AV.osl 0 a 9 0 b)),(6,(sA 9 (mC c))),(7,(iN c.length)),(8,(iN d))])
@[simp] abbrev b7n (a:Nat) (b:l9C) (c:l9C) (d:Nat):Heap:=[(o_ a 9 (mC b)),(o_ 0 9 [(j5.row (nth c d))])]
@[simp] abbrev b5X :=(l9 Tryz.prog (X a0M) (p9 Tryz.f173 0))
theorem a4d (l:l9C) (out:l9C) (k:Nat) (g:Nat) (i:Nat) (hl:l.length < 1048576) (hk:k=out.length) (hki:k<=i) (hle_:i<=l.length) {eX:Ex} {FX:Fr} {HX:Heap} (k1:(decide ((i:Int) < (l.length:Int)))=true->(!(nth l i).gone)=true->j6 b5X (some [3,6,7,8]) (some [3,6,7,8]) (mkF 22 [(3,(AV.osl 0 (g+1) 9 0 (k+1))),(6,(sA 9 (mC l))),(7,(iN l.length)),(8,(iN (i+1)))]) (b7o g out l i) eX FX HX) (k2:(decide ((i:Int) < (l.length:Int)))=true->(!(nth l i).gone)=false->j6 b5X (some [3,6,7,8]) (some [3,6,7,8]) (mkF 22 [(3,(AV.osl 0 g 9 0 k)),(6,(sA 9 (mC l))),(7,(iN l.length)),(8,(iN (i+1)))]) [(o_ g 9 (mC out))] eX FX HX) (k3:(decide ((i:Int) < (l.length:Int)))=false->((.exit 0:Ex),(c6b g k l i),[(o_ g 9 (mC out))])=(eX,FX,HX)):j6 b5X (some [3,6,7,8]) (some [3,6,7,8]) (c6b g k l i) [(o_ g 9 (mC out))] eX FX HX :=
 F7 (.r (.g (.two (decide ((i:Int) < (l.length:Int))) (fun h1 h1'=>(.r (.h' [(o_ g 9 (mC out)),(o_ 0 9 [[e_,e_,z_,z_,z_,z_,z_,z_,bF]])] (.is 0 9 9 (mC l) (i:Int) (j5.row (nth l i)) (J8.mk _ ow ow) (.s (.g (.two (!(nth l i).gone) (fun h2 h2'=>(.r (.h' (b7n g out l i) (.ap 3 32 (AV.osl 0 g 9 0 k) (AV.sl .clip 9 [(j5.row (nth l i))]) (AV.osl 0 (g+1) 9 0 (k+1)) [(o_ (g+1) 9 (mC (out++[(nth l i)]))),(o_ 0 9 [(j5.row (nth l i))])] (H6 (row:=j5.row) (l:=out) (x:=(nth l i)) (T:=tt) (e:=39) (te:=jU) (z:=1) (b:=24) (y:=[.sl .nil 0 []]) kr kr rfl z8 z8 kr aU rfl rfl pX) (.s (.y 0 (.int .i64 (cb_ i)) (iN (i+1)) Yes.o (.h' (b7o g out l i) (.b 1 (.g (.l (k1 h1 h2))))))))))) (fun h2 h2'=>(.r (.h' (b7n g out l i) (.y 0 (.int .i64 (cb_ i)) (iN (i+1)) Yes.o (.h' [(o_ g 9 (mC out))] (.b 1 (.g (.l (k2 h1 h2)))))))))))))))) (fun h1 h1'=>(.l (k3 h1))))))
def tT (l:List j5) (i:Nat) (s:(List j5) × Nat × Nat):(List j5) × Nat × Nat:=(if (!(nth l i).gone)=true then (s.1++[(nth l i)],(s.2.1+1),(s.2.2+1)) else (s.1,s.2.1,s.2.2))
theorem N9 {p:Prop} (h:p:=by first | omega | assumption | (simp; done) | (simp; omega) | (simp [*]; done) | (simp [*]; omega)):p:=h
theorem b7V (l:l9C) (hl:l.length < 1048576)  (r_:Nat):∀ (out:l9C) (k:Nat) (g:Nat) (i:Nat) (sF:(l9C) × Nat × Nat),i+r_=l.length->k=out.length->k<=i->sF=iter (tT l) r_ i (out,k,g) ->
 j6 (l9 Tryz.prog (X a0M) (p9 Tryz.f173 0)) (some [3,6,7,8]) (some [3,6,7,8]) (c6b g k l i) [(o_ g 9 (mC out))] (.exit 0) (mkF 22 [(3,(AV.osl 0 sF.2.2 9 0 sF.2.1)),(6,(sA 9 (mC l))),(7,(iN l.length)),(8,(iN l.length))]) [(o_ sF.2.2 9 (mC sF.1))]:=by
 induction r_ with
 | zero =>
  intro out k g i sF hi_ hk hki  hF
  obtain rfl:l.length=i:=by omega
  have e_:sF=(out,k,g):=hF
  refine a4d l out k g l.length hl hk hki (Nat.le_refl _) (fun h _=>by simp at h <;> omega) (fun h _=>by simp at h <;> omega) (fun _=>?_)
  first | done | rfl | (rw [e_]; done) | (rw [e_]; rfl)
 | succ r_ ih =>
  intro out k g i sF hi_ hk hki  hF
  refine a4d l out k g i hl hk hki ow (fun h1 h2=>?_) (fun h1 h2=>?_) (fun h=>by simp at h <;> omega)
  · exact ih (out++[(nth l i)]) (k+1) (g+1) (i+1) sF ow N9 N9  (by rw [hF] <;> simp only [iter,tT,h2,if_true,Bool.false_eq_true,if_false])
  · exact ih out k g (i+1) sF ow N9 N9  (by rw [hF] <;> simp only [iter,tT,h2,if_true,Bool.false_eq_true,if_false])
theorem b7W (l:l9C):(J6 l,(J6 l).length,(J6 l).length)=iter (tT l) l.length 0 ([],0,0):=by
 rw [V5 (tT l) (fun s c=>if (fun c:j5=>!c.gone) c=true then (s.1++[c],s.2.1+1,s.2.2+1) else s) l (fun i s hi=>by simp [tT])]
 rw [wD (fun c:j5=>!c.gone) (fun c=>c) l]; simp [J6]
def dS (b:List Int) (c:j5):List Int:=gM (J7 (J2 (J2 b c.key.app) c.key.id) (Y9 c)) c.lease
theorem yY (b:List Int) (c:j5):(dS b c).length<=b.length+521:=by
 have h1:=fH b c.key.app
 have h2:=fH (J2 b c.key.app) c.key.id
 unfold dS; rw [c3A,bR]; omega
def cO (l:List j5):List Int:=(K4 l).foldl dS []
theorem b6c (l:l9C):∀ (b:List Int),(l.foldl dS b).length<=b.length+l.length * 521:=by
 induction l with
 | nil=>intro b; simp
 | cons c l ih=>intro b; have h1:=ih (dS b c); have h2:=yY b c; simp only [List.foldl_cons,List.length_cons]; omega
theorem a4e (l:l9C):(cO l).length<=l.length * 521:=by
 have h1:=b6c (K4 l) []
 have h2:=mP l
 unfold cO; simp only [List.length_nil] at h1; omega
def xO:Ann:={ gha:=[(1,.any 3 1),(7,.cut 0)],fin:=some 0,live:=[(3,[3,7,8,9])],out:=[(3,[3,7,8,9])] }
@[simp] abbrev a3L (a:List Int) (b:l9C) (c:Nat):Fr:=(mkF 31 [(3,(sA 1 (List.map rU8 a))),(7,(sA 9 (mC b))),(8,(iN b.length)),(9,(iN c))])
@[simp] abbrev c5f :=(l9 Tryz.prog (X xO) (p9 Tryz.f228 0))
@[simp] abbrev d0c (a:List Int) (b:l9C) (c:Nat):=(mkF 31 [(3,(sA 1 (List.map rU8 (gM (J7 (J2 (J2 a (nth b c).key.app) (nth b c).key.id) (Y9 (nth b c))) (nth b c).lease)))),(7,(sA 9 (mC b))),(8,(iN b.length)),(9,(iN (c+1)))])
theorem a1L (l:l9C) (b:List Int) (i:Nat) (hl:l.length < 1000) (hb:b.length<=i * 521) (hle_:i<=l.length) {eX:Ex} {FX:Fr} {HX:Heap} (k1:(decide ((i:Int) < (l.length:Int)))=true->j6 c5f (some [3,7,8,9]) (some [3,7,8,9]) (d0c b l i) [] eX FX HX) (k2:(decide ((i:Int) < (l.length:Int)))=false->((.exit 0:Ex),(a3L b l i),[])=(eX,FX,HX)):j6 c5f (some [3,7,8,9]) (some [3,7,8,9]) (a3L b l i) [] eX FX HX:=by
 have h1:=fH b (nth l i).key.app
 have h2:=fH (J2 b (nth l i).key.app) (nth l i).key.id
 have h3:=bR (J2 (J2 b (nth l i).key.app) (nth l i).key.id) (Y9 (nth l i))
 exact F7 (.r (.g (.two (decide ((i:Int) < (l.length:Int))) (fun h1 h1'=>(.r (.h' [(o_ 0 9 [[e_,e_,z_,z_,z_,z_,z_,z_,bF]])] (.is 0 9 9 (mC l) (i:Int) (j5.row (nth l i)) (J8.mk _ ow ow) (.s (.c 4 ((a1y b (nth l i).key.app oa).lift kr kr [(o_ 0 9 [(j5.row (nth l i))])]) (.c 8 ((a1y (J2 b (nth l i).key.app) (nth l i).key.id oa).lift kr kr [(o_ 0 9 [(j5.row (nth l i))])]) (.c 10 ((b2A (nth l i)).lift kr kr [(o_ 0 9 [(j5.row (nth l i))])]) (.c 11 ((b6i (J2 (J2 b (nth l i).key.app) (nth l i).key.id) (Y9 (nth l i)) oa).lift kr kr [(o_ 0 9 [(j5.row (nth l i))])]) (.rd (co_ l i) [(o_ 0 9 [(j5.row (nth l i))])] (.rd (co_ l i) [(o_ 0 9 [(j5.row (nth l i))])] (.rd (AV.str (nth l i).key.id) [(o_ 0 9 [(j5.row (nth l i))])] (.s (.c 3 ((b9C (J7 (J2 (J2 b (nth l i).key.app) (nth l i).key.id) (Y9 (nth l i))) (nth l i).lease oa).lift kr kr [(o_ 0 9 [(j5.row (nth l i))])]) (.s (.h' [(o_ 0 9 [(j5.row (nth l i))])] (.y 0 (.int .i64 (cb_ i)) (iN (i+1)) Yes.o (.h' [] (.b 0 (.g (.l (k1 h1)))))))))))))))))))))) (fun h1 h1'=>(.l (k2 h1))))))
def zK (l:List j5) (i:Nat) (s:(List Int)):(List Int):=(gM (J7 (J2 (J2 s (nth l i).key.app) (nth l i).key.id) (Y9 (nth l i))) (nth l i).lease)
theorem b2B (l:l9C) (hl:l.length < 1000)  (r_:Nat):∀ (b:List Int) (i:Nat) (sF:(List Int)),i+r_=l.length->b.length<=i * 521->sF=iter (zK l) r_ i (b) ->
 j6 (l9 Tryz.prog (X xO) (p9 Tryz.f228 0)) (some [3,7,8,9]) (some [3,7,8,9]) (a3L b l i) [] (.exit 0) (mkF 31 [(3,(sA 1 (List.map rU8 sF))),(7,(sA 9 (mC l))),(8,(iN l.length)),(9,(iN l.length))]) []:=by
 induction r_ with
 | zero =>
  intro b i sF hi_ hb  hF
  obtain rfl:l.length=i:=by omega
  have e_:sF=(b):=hF
  refine a1L l b l.length hl hb (Nat.le_refl _) (fun h=>by simp at h <;> omega) (fun _=>?_)
  first | done | rfl | (rw [e_]; done) | (rw [e_]; rfl)
 | succ r_ ih =>
  intro b i sF hi_ hb  hF
  refine a1L l b i hl hb ow (fun h1=>?_) (fun h=>by simp at h <;> omega)
  · exact ih (gM (J7 (J2 (J2 b (nth l i).key.app) (nth l i).key.id) (Y9 (nth l i))) (nth l i).lease) (i+1) sF ow (by have h9:(gM (J7 (J2 (J2 b (nth l i).key.app) (nth l i).key.id) (Y9 (nth l i))) (nth l i).lease).length<=b.length+521:=yY b (nth l i); first | omega | assumption | (simp; done) | (simp; omega) | (simp [*]; done) | (simp [*]; omega))  (by rw [hF] <;> simp only [iter,zK,if_true,Bool.false_eq_true,if_false])
theorem b2C (l:l9C):l.foldl dS []=iter (zK l) l.length 0 []:=(V5 (zK l) dS l (fun i s hi=>rfl) []).symm
def kV (h x:Int):Int:=IntKind.u32.wrap (IntKind.u32.wrap (IntKind.u32.wrap (h * 31)+IntKind.u32.wrap x)+7)
def gL (l:List Int):Int:=l.foldl kV 17
def a2Q:Ann:={ fin:=some 0,live:=[(3,[3,6,7,8])],out:=[(3,[3,6,7,8])] }
@[simp] abbrev c6a (a:Int) (b:List Int) (c:Nat):Fr:=(mkF 20 [(3,(AV.int .u32 a)),(6,(sA 1 (List.map rU8 b))),(7,(iN b.length)),(8,(iN c))])
@[simp] abbrev c5e :=(l9 Tryz.prog (X a2Q) (p9 Tryz.f227 0))
theorem a6n (l:List Int) (h:Int) (i:Nat) (hl:l.length < 1048576) (hle_:i<=l.length) {eX:Ex} {FX:Fr} {HX:Heap} (k1:(decide ((i:Int) < (l.length:Int)))=true->j6 c5e (some [3,6,7,8]) (some [3,6,7,8]) (mkF 20 [(3,(AV.int .u32 (IntKind.u32.wrap ((IntKind.u32.wrap ((IntKind.u32.wrap (h * 31))+(IntKind.u32.wrap (nth l i))))+7)))),(6,(sA 1 (List.map rU8 l))),(7,(iN l.length)),(8,(iN (i+1)))]) [] eX FX HX) (k2:(decide ((i:Int) < (l.length:Int)))=false->((.exit 0:Ex),(c6a h l i),[])=(eX,FX,HX)):j6 c5e (some [3,6,7,8]) (some [3,6,7,8]) (c6a h l i) [] eX FX HX :=
 F7 (.r (.g (.two (decide ((i:Int) < (l.length:Int))) (fun h1 h1'=>(.r (.is 0 1 1 (List.map rU8 l) (i:Int) (rU8 (nth l i)) (J8.mk _ ow ow) (.s (.s (.y 0 (.int .i64 (cb_ i)) (iN (i+1)) Yes.o (.g (.l (k1 h1))))))))) (fun h1 h1'=>(.l (k2 h1))))))
def a5v (l:List Int) (i:Nat) (s:Int):Int:=((IntKind.u32.wrap ((IntKind.u32.wrap ((IntKind.u32.wrap (s * 31))+(IntKind.u32.wrap (nth l i))))+7)))
theorem c1E (l:List Int) (hl:l.length < 1048576)  (r_:Nat):∀ (h:Int) (i:Nat) (sF:Int),i+r_=l.length->sF=iter (a5v l) r_ i (h) ->
 j6 (l9 Tryz.prog (X a2Q) (p9 Tryz.f227 0)) (some [3,6,7,8]) (some [3,6,7,8]) (c6a h l i) [] (.exit 0) (mkF 20 [(3,(AV.int .u32 sF)),(6,(sA 1 (List.map rU8 l))),(7,(iN l.length)),(8,(iN l.length))]) []:=by
 induction r_ with
 | zero =>
  intro h i sF hi_   hF
  obtain rfl:l.length=i:=by omega
  have e_:sF=(h):=hF
  refine a6n l h l.length hl (Nat.le_refl _) (fun h=>by simp at h <;> omega) (fun _=>?_)
  first | done | rfl | (rw [e_]; done) | (rw [e_]; rfl)
 | succ r_ ih =>
  intro h i sF hi_   hF
  refine a6n l h i hl ow (fun h1=>?_) (fun h=>by simp at h <;> omega)
  · exact ih (IntKind.u32.wrap ((IntKind.u32.wrap ((IntKind.u32.wrap (h * 31))+(IntKind.u32.wrap (nth l i))))+7)) (i+1) sF ow   (by rw [hF] <;> simp only [iter,a5v,if_true,Bool.false_eq_true,if_false])
theorem c1F (l:List Int):gL l=iter (a5v l) l.length 0 17:=(V5 (a5v l) kV l (fun i s hi=>rfl) 17).symm
@[simp] abbrev d1M (a:List Int):Fr:=(mkF 20 [(3,(AV.int .u32 (gL a))),(6,(sA 1 (List.map rU8 a))),(7,(iN a.length)),(8,(iN a.length))])
theorem c1D (l:List Int) (hl:l.length < 1048576):AC 227 [(sA 1 (List.map rU8 l))] [] ((AV.int .u32 (gL l)),[]) :=
 o9 (fn:=Tryz.f227) (ann:=a2Q) (Has.o Tryz.func227) (.r (.s (.s (.y 1 (.int .i64 ((List.length (List.map rU8 l):Nat):Int)) (iN l.length) (Yes.len _ _ _) (.g (.loop (d1M l) (show j6 c5e (some [3,6,7,8]) (some [3,6,7,8]) (mkF 20 [(3,(AV.int .u32 17)),(6,(sA 1 (List.map rU8 l))),(7,(iN l.length)),(8,z_)]) [] (.exit 0) (d1M l) [] from (c1E l hl (List.length l) 17 0 (gL l) ow (c1F _))) (.qr 0 (AV.int .u32 (gL l)))))))))
def ofB (l:List j5):Int:=gL (cO l)
end Go.Proofs.YtfjedpipdnlkfaaGreat.AM
namespace Go.Proofs.YtfjedpipdnlkfaaGreat.AM
open Go
attribute [local irreducible] Tp.G5 Tp.card Tp.key Tp.keyT Tp.next Tp.step
theorem mW:∀ (x:List UInt8),Op.bytesLess x x=false
 | []=>rfl
 | a :: x=>by
  have:=mW x
  simp [Op.bytesLess,this]
theorem wL:∀ (x y:List UInt8),Op.bytesLess x y=true->Op.bytesLess y x=false
 | [],[],h=>by simp [Op.bytesLess] at h
 | [],b :: y,h=>rfl
 | a :: x,[],h=>by simp [Op.bytesLess] at h
 | a :: x,b :: y,h=>by
  simp only [Op.bytesLess,Bool.or_eq_true,Bool.and_eq_true,decide_eq_true_eq,beq_iff_eq] at h
  rcases h with h | ⟨rfl,h⟩
  · have h1:¬ b < a:=fun h'=>by exact absurd (UInt8.lt_trans h h') (UInt8.lt_irrefl _)
    have h2:¬ b=a:=fun e=>by subst e; exact UInt8.lt_irrefl _ h
    simp [Op.bytesLess,h1,h2]
  · have:=wL x y h
    simp [Op.bytesLess,this]
theorem a1q:∀ (x y z:List UInt8),Op.bytesLess x y=true->Op.bytesLess y z=true->Op.bytesLess x z=true
 | [],[],z,h,_=>by simp [Op.bytesLess] at h
 | [],b :: y,[],_,h=>by simp [Op.bytesLess] at h
 | [],b :: y,c :: z,_,_=>rfl
 | a :: x,[],z,h,_=>by simp [Op.bytesLess] at h
 | a :: x,b :: y,[],_,h=>by simp [Op.bytesLess] at h
 | a :: x,b :: y,c :: z,h,k=>by
  simp only [Op.bytesLess,Bool.or_eq_true,Bool.and_eq_true,decide_eq_true_eq,beq_iff_eq] at h k ⊢
  rcases h with h | ⟨rfl,h⟩
  · rcases k with k | ⟨rfl,k⟩
    · exact .inl (UInt8.lt_trans h k)
    · exact .inl h
  · rcases k with k | ⟨rfl,k⟩
    · exact .inl k
    · exact .inr ⟨rfl,a1q x y z h k⟩
theorem a8E:∀ (x y:List UInt8),Op.bytesLess x y=false->Op.bytesLess y x=false->x=y
 | [],[],_,_=>rfl
 | [],b :: y,h,_=>by simp [Op.bytesLess] at h
 | a :: x,[],_,h=>by simp [Op.bytesLess] at h
 | a :: x,b :: y,h,k=>by
  simp only [Op.bytesLess,Bool.or_eq_false_iff,decide_eq_false_iff_not] at h k
  have e:a=b:=by
   rcases UInt8.lt_or_lt_of_ne (a:=a) (b:=b) |> fun f=>Classical.em (a=b) with e | e
   · exact e
   · rcases UInt8.lt_or_lt_of_ne e with h1 | h1
     · exact absurd h1 h.1
     · exact absurd h1 k.1
  subst e
  simp only [beq_self_eq_true,Bool.true_and] at h k
  rw [a8E x y h.2 k.2]
theorem ba_eq {a b:ByteArray} (h:a.toList=b.toList):a=b:=by
 rw [ByteArray.toList_eq,ByteArray.toList_eq] at h
 obtain ⟨⟨a⟩⟩:=a
 obtain ⟨⟨b⟩⟩:=b
 simp at h
 rw [h]
theorem Key.a3n (a b:Key):Key.eqb a b=true↔a=b:=by
 unfold Key.eqb
 constructor
 · intro h
   simp only [Bool.and_true,Bool.and_eq_true,beq_iff_eq] at h
   cases a; cases b
   exact congr (congrArg Key.mk (ba_eq h.1)) (ba_eq h.2)
 · intro h; subst h; simp
theorem Key.c0e {a b:Key}:Key.eqb a b=false↔a≠b:=by
 rw [Ne,<- Key.a3n]; simp
theorem a4T (a:Key):y9 a a=false:=by simp [y9,mW]
theorem a8G {a b:Key} (h:y9 a b=true):y9 b a=false:=by
 unfold y9 at *
 by_cases e:a.app.toList=b.app.toList
 · have e':b.app.toList=a.app.toList:=e.symm
   simp [e] at h
   simp [e']
   exact wL _ _ h
 · have e':¬ b.app.toList=a.app.toList:=fun x=>e x.symm
   simp [e] at h
   simp [e']
   exact wL _ _ h
theorem a8F {a b c:Key} (h:y9 a b=true) (k:y9 b c=true):y9 a c=true:=by
 unfold y9 at *
 by_cases e:a.app.toList=b.app.toList
 · by_cases f:b.app.toList=c.app.toList
   · simp [e] at h; simp [f] at k; simp [e,f]
     exact a1q _ _ _ h k
   · simp [f] at k
     have:¬ a.app.toList=c.app.toList:=by rw [e]; exact f
     simp [this]; rw [e]; exact k
 · simp [e] at h
   by_cases f:b.app.toList=c.app.toList
   · have:¬ a.app.toList=c.app.toList:=by rw [<- f]; exact e
     simp [this]; rw [<- f]; exact h
   · simp [f] at k
     have h1:=a1q _ _ _ h k
     have:¬ a.app.toList=c.app.toList:=fun x=>by rw [x] at h; have:=wL _ _ h; rw [k] at this; simp at this
     simp [this]; exact h1
theorem c0L {a b:Key} (h:y9 a b=false) (k:y9 b a=false):a=b:=by
 unfold y9 at *
 by_cases e:a.app.toList=b.app.toList
 · have e':b.app.toList=a.app.toList:=e.symm
   simp [e] at h; simp [e'] at k
   have h2:=a8E _ _ h k
   cases a; cases b
   exact congr (congrArg Key.mk (ba_eq e)) (ba_eq h2)
 · have e':¬ b.app.toList=a.app.toList:=fun x=>e x.symm
   simp [e] at h; simp [e'] at k
   exact absurd (a8E _ _ h k) e
theorem d2k {a b:Key} (h:y9 a b=true):a≠b:=fun e=>by subst e; rw [a4T] at h; simp at h
theorem c5h {a b c:Key} (h:y9 a b=true) (k:y9 c b=false):y9 a c=true:=by
 cases e:y9 b c with
 | true=>exact a8F h e
 | false=>rw [<- c0L e k]; exact h
theorem a0E {a b c:Key} (h:y9 b a=false) (k:y9 c b=false):y9 c a=false:=by
 cases e:y9 c a with
 | false=>rfl
 | true=>have:=c5h e h; rw [this] at k; simp at k
theorem gH (a b:Key):kI a b=y9 a b:=by
 unfold kI U8 fA y9
 by_cases h1:Op.bytesLess a.app.toList b.app.toList=true
 · have:¬ a.app.toList=b.app.toList:=fun e=>by rw [e,mW] at h1; simp at h1
   simp [h1,this]
 · by_cases h2:a.app.toList=b.app.toList
   · simp [h2,mW]
     by_cases h3:Op.bytesLess a.id.toList b.id.toList=true
     · simp [h3]
     · by_cases h4:a.id.toList=b.id.toList
       · simp [h4,mW]
       · simp [h3,h4]
   · simp [h1,h2]
theorem lH {α:Type} [Inhabited α] {l:List α} {i:Nat} (h:i < l.length):nth l i∈l:=List.mem_of_getElem? (uE h)
theorem V6 {α:Type} [Inhabited α] {l:List α} {i:Nat} (h:i < l.length):nth l i=l[i]:=by
 simp [nth,List.getD_eq_getElem?_getD,List.getElem?_eq_getElem h]
theorem xY {α:Type} [Inhabited α] {R:α->α->Prop} {l:List α}:List.Pairwise R l↔∀ i j,i < j->j < l.length->R (nth l i) (nth l j):=by
 rw [List.pairwise_iff_getElem]
 constructor
 · intro h i j hij hj
   rw [V6 (show i < l.length by omega),V6 hj]
   exact h i j _ _ hij
 · intro h i j hi hj hij
   have:=h i j hij hj
   rwa [V6 hi,V6 hj] at this
theorem aS {α:Type} [Inhabited α] {l:List α} {x:α} (h:x∈l):∃ i,i < l.length/\nth l i=x:=by
 obtain ⟨i,hi,rfl⟩:=List.getElem_of_mem h
 exact ⟨i,hi,V6 hi⟩
theorem dZ {α:Type} [Inhabited α] {l:List α} {i k:Nat} (h:i < k):nth (l.take k) i=nth l i:=by
 simp [nth,List.getD_eq_getElem?_getD,List.getElem?_take,h]
theorem jL {α:Type} [Inhabited α] {l:List α} {i k:Nat}:nth (l.drop k) i=nth l (k+i):=by
 simp [nth,List.getD_eq_getElem?_getD,List.getElem?_drop]
theorem swap_perm {α:Type} [Inhabited α] {l:List α} {i j:Nat} (hi:i < l.length) (hj:j < l.length):List.Perm ((l.set i (nth l j)).set j (nth l i)) l:=by
 rw [V6 hi,V6 hj]
 exact List.set_set_perm hi hj
theorem b7T {α:Type} [Inhabited α] (cmp:α->α->Int) (a j:Nat):∀ (l:List α),j < l.length->List.Perm (sink cmp a j l) l:=by
 induction j with
 | zero=>intro l _; simp only [sink]; exact List.Perm.refl _
 | succ j ih =>
  intro l h
  simp only [sink]
  split
  · split
    · exact (ih _ yh_).trans (swap_perm h ya_)
    · exact List.Perm.refl _
  · exact List.Perm.refl _
theorem a7z {α:Type} [Inhabited α] (cmp:α->α->Int) (a k:Nat):∀ (i:Nat) (l:List α),i+k<=l.length->List.Perm (w9 cmp a k i l) l:=by
 induction k with
 | zero=>intro i l _; simp only [w9]; exact List.Perm.refl _
 | succ k ih =>
  intro i l h
  simp only [w9]
  exact (ih (i+1) _ (by rw [qA]; omega)).trans (b7T cmp a i l ya_)
theorem a5o {α:Type} [Inhabited α] (cmp:α->α->Int) (l:List α):List.Perm (w9 cmp 0 (l.length - 1) 1 l) l:=by
 rcases Nat.eq_zero_or_pos l.length with h | h
 · have:l=[]:=List.eq_nil_of_length_eq_zero h
   subst this; simp [w9]
 · exact a7z cmp 0 _ 1 l ya_
set_option linter.unusedSectionVars false
section
variable {α:Type} [Inhabited α]
def R7 (lt:α->α->Bool) (x:α) (out:List α):Nat->Nat
 | 0=>0
 | k+1=>if lt x (nth out k)=true then R7 lt x out k else k+1
def U2 (lt:α->α->Bool) (out:List α) (x:α):List α:=(out.take (R7 lt x out out.length)++[x])++out.drop (R7 lt x out out.length)
theorem tZ (lt:α->α->Bool) (x:α) (out:List α) (k:Nat):R7 lt x out k<=k:=by
 induction k with
 | zero=>simp only [R7]; omega
 | succ k ih=>simp only [R7]; split <;> omega
theorem b3R (lt:α->α->Bool) (x:α) {out out':List α} (k:Nat) (h:∀ i,i < k->nth out i=nth out' i):R7 lt x out k=R7 lt x out' k:=by
 induction k with
 | zero=>rfl
 | succ k ih=>simp only [R7]; rw [h k ya_,ih fun i hi=>h i ya_]
theorem rG (lt:α->α->Bool) (x:α) (out:List α) (k:Nat):(∀ i,R7 lt x out k<=i->i < k->lt x (nth out i)=true)/\(0 < R7 lt x out k->lt x (nth out (R7 lt x out k - 1))=false):=by
 induction k with
 | zero=>simp only [R7]; exact ⟨fun i h1 h2=>by omega,fun h=>by omega⟩
 | succ k ih =>
  simp only [R7]
  split
  · rename_i h
    refine ⟨fun i h1 h2=>?_,ih.2⟩
    rcases Nat.lt_or_ge i k with h3 | h3
    · exact ih.1 i h1 h3
    · rw [show i=k by omega]; exact h
  · rename_i h
    exact ⟨fun i h1 h2=>by omega,fun _=>by simpa using h⟩
theorem a4B (lt:α->α->Bool) (out:List α) (x:α):List.Perm (U2 lt out x) (x :: out):=by
 unfold U2
 rw [List.append_assoc,List.singleton_append]
 refine List.perm_middle.trans ?_
 rw [List.take_append_drop]
theorem a7C (lt:α->α->Bool) (out:List α) (x:α):(U2 lt out x).length=out.length+1:=by
 rw [(a4B lt out x).length_eq]; rfl
structure O9 (lt:α->α->Bool):Prop where
 asymm:∀ a b,lt a b=true->lt b a=false
 trans:∀ a b c,lt b a=false->lt c b=false->lt c a=false
abbrev Srt (lt:α->α->Bool) (l:List α):Prop:=List.Pairwise (fun a b=>lt b a=false) l
theorem sO {lt:α->α->Bool} (W:O9 lt) {out:List α} (h:Srt lt out) (x:α):Srt lt (U2 lt out x):=by
 obtain ⟨h1,h2⟩:=rG lt x out out.length
 have hp:=tZ lt x out out.length
 generalize hpe:R7 lt x out out.length=p at *
 have hs:=xY.1 h
 unfold U2
 rw [hpe,List.append_assoc,List.singleton_append]
 refine List.pairwise_append.2 ⟨h.sublist (List.take_sublist _ _),List.pairwise_cons.2 ⟨fun y hy=>?_,h.sublist (List.drop_sublist _ _)⟩,fun a ha y hy=>?_⟩
 · obtain ⟨i,hi,rfl⟩:=aS hy
   simp only [List.length_drop] at hi
   rw [jL]
   exact W.asymm _ _ (h1 (p+i) ya_ ya_)
 · have hxp:lt x a=false:=by
    obtain ⟨i,hi,rfl⟩:=aS ha
    simp only [List.length_take] at hi
    rw [dZ ya_]
    have h3:=h2 ya_
    rcases Nat.lt_or_ge i (p - 1) with h4 | h4
    · exact W.trans _ _ _ (hs i (p - 1) h4 ya_) h3
    · rw [show i=p - 1 by omega]; exact h3
   rcases List.mem_cons.1 hy with rfl | hy
   · exact hxp
   · obtain ⟨i,hi,rfl⟩:=aS ha
     obtain ⟨j,hj,rfl⟩:=aS hy
     simp only [List.length_take] at hi
     simp only [List.length_drop] at hj
     rw [dZ ya_,jL]
     exact hs i (p+j) ya_ ya_
def K9 (lt:α->α->Bool) (l:List α):List α:=l.foldl (U2 lt) []
theorem d2i (lt:α->α->Bool) (l:List α):∀ (out:List α),List.Perm (l.foldl (U2 lt) out) (out++l):=by
 induction l with
 | nil=>intro out; simp
 | cons x l ih =>
  intro out
  exact (ih (U2 lt out x)).trans (((a4B lt out x).append_right l).trans (by simpa using List.perm_middle.symm))
theorem a7H {lt:α->α->Bool} (W:O9 lt) (l:List α):∀ (out:List α),Srt lt out->Srt lt (l.foldl (U2 lt) out):=by
 induction l with
 | nil=>intro out h; exact h
 | cons x l ih=>intro out h; exact ih _ (sO W h x)
theorem b2r (lt:α->α->Bool) (l:List α):List.Perm (K9 lt l) l:=d2i lt l []
theorem gW {lt:α->α->Bool} (W:O9 lt) (l:List α):Srt lt (K9 lt l):=a7H W l [] List.Pairwise.nil
theorem a6r (cmp:α->α->Int) (j:Nat):∀ (l:List α),j < l.length->sink cmp 0 j l=U2 (fun a b=>decide (cmp a b < 0)) (l.take j) (nth l j)++l.drop (j+1):=by
 induction j with
 | zero =>
  intro l h
  simp only [sink]
  have hd:l=nth l 0 :: l.drop 1:=by
   have:=Y8 (l:=l) (i:=0) h
   simpa using this
  conv=>lhs; rw [hd]
  simp [U2,R7]
 | succ j ih =>
  intro l h
  simp only [sink]
  have h0:decide (((j+1:Nat):Int) > ((0:Nat):Int))=true:=decide_eq_true ya_
  rw [if_pos h0]
  have htk:l.take (j+1)=l.take j++[nth l j]:=by
   rw [List.take_add_one]
   congr 1
   rw [uE ya_]
   rfl
  have hdj:l.drop (j+1)=nth l (j+1) :: l.drop (j+2):=Y8 h
  have hlen:(l.take j).length=j:=by simp; omega
  by_cases hc:decide (cmp (nth l (j+1)) (nth l j) < 0)=true
  · rw [if_pos hc]
    rw [ih _ yh_]
    have e1:((l.set (j+1) (nth l j)).set j (nth l (j+1))).take j=l.take j:=by
     rw [List.take_set_of_le ya_,List.take_set_of_le ya_]
    have e2:nth ((l.set (j+1) (nth l j)).set j (nth l (j+1))) j=nth l (j+1):=by
     unfold nth
     rw [List.getD_eq_getElem?_getD,List.getElem?_set_self yh_]; rfl
    have e3:((l.set (j+1) (nth l j)).set j (nth l (j+1))).drop (j+1)=nth l j :: l.drop (j+2):=by
     rw [List.drop_set_of_lt ya_,Y8 yh_]
     congr 1
     · unfold nth
       rw [List.getD_eq_getElem?_getD,List.getElem?_set_self ya_]; rfl
     · rw [List.drop_set_of_lt ya_]
    rw [e1,e2,e3]
    have hpos:R7 (fun a b=>decide (cmp a b < 0)) (nth l (j+1)) (l.take (j+1)) (l.take (j+1)).length=R7 (fun a b=>decide (cmp a b < 0)) (nth l (j+1)) (l.take j) j:=by
     rw [show (l.take (j+1)).length=j+1 by rw [List.length_take]; omega]
     simp only [R7]
     rw [dZ ya_,if_pos hc]
     exact b3R _ _ _ fun i hi=>by rw [dZ ya_,dZ hi]
    have hle:=tZ (fun a b=>decide (cmp a b < 0)) (nth l (j+1)) (l.take j) j
    unfold U2
    rw [hpos,hlen]
    generalize R7 (fun a b=>decide (cmp a b < 0)) (nth l (j+1)) (l.take j) j=p at *
    rw [htk,List.take_append_of_le_length ya_,List.drop_append_of_le_length ya_]
    simp
  · rw [if_neg hc]
    have hpos:R7 (fun a b=>decide (cmp a b < 0)) (nth l (j+1)) (l.take (j+1)) (l.take (j+1)).length=j+1:=by
     rw [show (l.take (j+1)).length=j+1 by rw [List.length_take]; omega]
     simp only [R7]
     rw [dZ ya_,if_neg hc]
    unfold U2
    rw [hpos]
    rw [List.take_of_length_le (l:=l.take (j+1)) yh_,List.drop_of_length_le (l:=l.take (j+1)) yh_,List.append_nil,List.append_assoc,List.singleton_append,<- hdj,List.take_append_drop]
theorem a7A (cmp:α->α->Int) (rest:List α):∀ (S:List α),w9 cmp 0 rest.length S.length (S++rest)=rest.foldl (U2 fun a b=>decide (cmp a b < 0)) S:=by
 induction rest with
 | nil=>intro S; simp [w9]
 | cons x rest ih =>
  intro S
  simp only [List.length_cons,w9,List.foldl_cons]
  rw [a6r cmp S.length _ yf_]
  have e1:(S++x :: rest).take S.length=S:=by simp
  have e3:(S++x :: rest).drop (S.length+1)=rest:=by
   rw [List.drop_append]
   simp
  rw [e1,a3b,e3]
  have:=ih (U2 (fun a b=>decide (cmp a b < 0)) S x)
  rwa [a7C] at this
theorem jG (cmp:α->α->Int) (l:List α):w9 cmp 0 (l.length - 1) 1 l=K9 (fun a b=>decide (cmp a b < 0)) l:=by
 cases l with
 | nil=>rfl
 | cons x l =>
  have:=a7A cmp l [x]
  simpa [K9,U2,R7] using this
end
section
variable {α:Type} [Inhabited α]
theorem oW {lt:α->α->Bool} (W:O9 lt) {out:List α} (h:Srt lt out) (x:α):U2 lt out x=out.filter (fun y=>!lt x y)++x :: out.filter (fun y=>lt x y):=by
 obtain ⟨h1,h2⟩:=rG lt x out out.length
 have hp:=tZ lt x out out.length
 generalize hpe:R7 lt x out out.length=p at *
 have hs:=xY.1 h
 have hA:∀ y∈out.take p,lt x y=false:=by
  intro y hy
  obtain ⟨i,hi,rfl⟩:=aS hy
  simp only [List.length_take] at hi
  have hi':i < p:=by omega
  rw [dZ hi']
  have h3:=h2 ya_
  rcases Nat.lt_or_ge i (p - 1) with h4 | h4
  · exact W.trans _ _ _ (hs i (p - 1) h4 ya_) (by simpa using h3)
  · rw [show i=p - 1 by omega]; simpa using h3
 have hB:∀ y∈out.drop p,lt x y=true:=by
  intro y hy
  obtain ⟨i,hi,rfl⟩:=aS hy
  simp only [List.length_drop] at hi
  rw [jL]
  exact h1 (p+i) ya_ ya_
 have e1:out.filter (fun y=>!lt x y)=out.take p:=by
  conv=>lhs; rw [<- List.take_append_drop p out]
  rw [List.filter_append,List.filter_eq_self.2 (fun y hy=>by simp [hA y hy]),List.filter_eq_nil_iff.2 (fun y hy=>by simp [hB y hy]),List.append_nil]
 have e2:out.filter (fun y=>lt x y)=out.drop p:=by
  conv=>lhs; rw [<- List.take_append_drop p out]
  rw [List.filter_append,List.filter_eq_nil_iff.2 (fun y hy=>by simp [hA y hy]),List.filter_eq_self.2 (fun y hy=>by simp [hB y hy]),List.nil_append]
 unfold U2
 rw [hpe,e1,e2]; simp
theorem b0F {lt:α->α->Bool} (W:O9 lt) (p:α->Bool) {out:List α} (h:Srt lt out) (x:α):(U2 lt out x).filter p=if p x=true then U2 lt (out.filter p) x else out.filter p:=by
 have hf:Srt lt (out.filter p):=h.sublist List.filter_sublist
 rw [oW W h x,List.filter_append,List.filter_cons]
 have comm:∀ q:α->Bool,(out.filter q).filter p=(out.filter p).filter q:=fun q=>by rw [List.filter_filter,List.filter_filter]; congr 1; funext y; rw [Bool.and_comm]
 split
 · rw [oW W hf x,comm,comm]
 · rw [<- List.filter_append]
   have e:=oW W h x
   have hperm:List.filter (fun y=>!lt x y) out++List.filter (fun y=>lt x y) out=out:=by
    obtain ⟨h1,h2⟩:=rG lt x out out.length
    have hi:=e
    unfold U2 at hi
    have hl:=congrArg (fun l=>l.filter p) hi
    clear hl
    have hp:=tZ lt x out out.length
    have hlen:(out.take (R7 lt x out out.length)).length=(out.filter (fun y=>!lt x y)).length:=by
     have hs:=xY.1 h
     have e1:out.filter (fun y=>!lt x y)=out.take (R7 lt x out out.length):=by
      conv=>lhs; rw [<- List.take_append_drop (R7 lt x out out.length) out]
      rw [List.filter_append,List.filter_eq_self.2,List.filter_eq_nil_iff.2,List.append_nil]
      · intro y hy
        obtain ⟨i,hi,rfl⟩:=aS hy
        simp only [List.length_drop] at hi
        rw [jL]
        simp [h1 (R7 lt x out out.length+i) ya_ ya_]
      · intro y hy
        obtain ⟨i,hi,rfl⟩:=aS hy
        simp only [List.length_take] at hi
        rw [dZ ya_]
        have h3:=h2 ya_
        rcases Nat.lt_or_ge i (R7 lt x out out.length - 1) with h4 | h4
        · have:=W.trans _ _ _ (hs i (R7 lt x out out.length - 1) h4 ya_) (by simpa using h3)
          simp [this]
        · rw [show i=R7 lt x out out.length - 1 by omega]; simpa using h3
     rw [e1]
    have h5:=List.append_inj (show out.take (R7 lt x out out.length)++(x :: out.drop (R7 lt x out out.length))=_ from by simpa using hi) hlen
    have h6:=(List.cons.inj h5.2).2
    rw [<- h5.1,<- h6,List.take_append_drop]
   rw [hperm]
theorem a7N {lt:α->α->Bool} (W:O9 lt) (p:α->Bool) (l:List α):∀ (out:List α),Srt lt out->(l.foldl (U2 lt) out).filter p=(l.filter p).foldl (U2 lt) (out.filter p):=by
 induction l with
 | nil=>intro out h; rfl
 | cons x l ih =>
  intro out h
  rw [List.foldl_cons,ih _ (sO W h x),b0F W p h x,List.filter_cons]
  split
  · rw [List.foldl_cons]
  · rfl
theorem a7M {lt:α->α->Bool} (W:O9 lt) (p:α->Bool) (l:List α):(K9 lt l).filter p=K9 lt (l.filter p):=a7N W p l [] List.Pairwise.nil
end
abbrev ltE (a b:j5):Bool:=decide (U8 a.key b.key < 0)
theorem vW:(fun a b:j5=>y9 a.key b.key)=ltE:=by funext a b; exact (gH a.key b.key).symm
theorem c6d:O9 ltE:=⟨fun a b h=>by rw [<- vW] at h ⊢; exact a8G h,fun a b c h k=>by rw [<- vW] at h k ⊢; exact a0E h k⟩
theorem b9a (c:j5) (out:l9C) (k:Nat):I9 c out k=R7 (fun a b:j5=>y9 a.key b.key) c out k:=by
 induction k with
 | zero=>rfl
 | succ k ih=>simp only [I9,R7,ih]
theorem sD (l:l9C):G6 l=K9 ltE l:=by
 rw [<- vW]
 have:Y7=U2 (fun a b:j5=>y9 a.key b.key):=by funext out c; unfold Y7 U2; rw [b9a]
 unfold G6 K9; rw [this]
theorem a9F (l:l9C):S9 l=G6 l:=by rw [sD]; exact jG _ l
theorem b0y (l:l9C):J6 (G6 l)=K4 l:=by
 unfold K4
 rw [a9F,sD,sD]
 exact a7M c6d _ l
open Go.Proofs.YtfjedpipdnlkfaaGreat
attribute [local irreducible] A8 D9 E8 G6 I6 I9 J2 J4 J6 J7 K4 L9 Q9 S9 U8 V8 Y7 Y9 cO cmpL dS fC gL gM j6 kV l6 l9 ofB qM sink w9 x9 y5 y9
theorem a6h {s:ByteArray} (b:List Int) (h:255 < s.size):J7 b ((ByteArray.extract s 0 255).size:Nat)++D9 (ByteArray.extract s 0 255)=J2 b s:=by
 have:min s.size 255=255:=by omega
 unfold J2 qM; rw [this]
theorem a6g {s:ByteArray} (b:List Int) (h:s.size<=255):J7 b (s.size:Nat)++D9 s=J2 b s:=by
 have e:qM s=s:=by
  have:min s.size 255=s.size:=by omega
  unfold qM; rw [this]; exact ByteArray.extract_zero_size
 unfold J2; rw [e]
def b3N:Ann:={ own:=[7,11],fin:=some 1 }
theorem a0w (b:List Int) (n:Int) (hb:b.length < 1048576):AC 232 [(sA 1 (List.map rU8 b)),(iI n)] [] ((AV.osl 0 1 1 0 (J7 b n).length),[(o_ 1 1 (List.map rU8 (J7 b n)))]):=by
 have hB:=bR b n
 exact o9 (fn:=Tryz.f232) (ann:=b3N) (Has.o Tryz.func232) (.r (.s (.ao 2 249 (AV.sl .clip 1 []) (sA 1 (List.map rU8 b)) (cy_ b) [(o_ 0 1 (List.map rU8 b))] (O5 (T:=tt) (e:=5) (te:=bD) (z:=1) (b:=24) (y:=[.sl .nil 0 []]) (row:=rU8) kr kr rfl z8 z8 yf_ U7 rfl rfl rfl om) (.ao 6 249 (cy_ b) (AV.sl .clip 1 [[(AV.int .u8 (IntKind.u8.wrap n))]]) (cz_ b) [(o_ 1 1 (List.map rU8 (b++[(IntKind.u8.wrap n)])))] (F3 (T:=tt) (e:=5) (te:=bD) (z:=1) (b:=24) (y:=[.sl .nil 0 []]) (row:=rU8) (l:=b) kr kr rfl z8 z8 kr U7 om rfl rfl dV) (.q 1 (cz_ b) (by simp [J7]))))))
theorem a4l (b:List Int) (n:Int) (hb:b.length < 1048576) (H:Heap):AC 232 [(sA 1 (List.map rU8 b)),(iI n)] H (.osl H.length 1 1 0 (J7 b n).length,H++([(o_ 1 1 (List.map rU8 (J7 b n)))]:Heap)):=(a0w b n hb).vX kr (by simp [AV.D5,iL]) H
theorem b0j (b:List Int) (n:Int) (hb:b.length < 1048576):AC 232 [(sA 1 (List.map rU8 b)),(iI n)] [] ((sA 1 (List.map rU8 (J7 b n))),[]):=by
 have h1:=(a0w b n hb).zQ (xs:=(J7 b n).map rU8) (G7 (room:=none) kr b2d) (iL _ _)
 exact l6.forget (H2:=[]) (X:=[(o_ 2 1 [])]) h1 rfl kr (fun id o ho=>by simp at ho)
def b3b:Ann:={ own:=[15],fin:=some 1 }
theorem a9R (b:List Int) (s:ByteArray) (hb:b.length < 1048576):AC 230 [(AV.sl .any 1 (List.map rU8 b)),(AV.str s)] [] ((AV.osl 0 2 1 0 (J2 b s).length),[(o_ 2 1 (List.map rU8 (J2 b s)))]):=by
 have hT:=fH b s
 have h7:(ByteArray.extract s 0 255).size=min s.size 255:=by simp; omega
 have h5:=bR b ((ByteArray.extract s 0 255).size:Nat)
 have h6:=fJ (ByteArray.extract s 0 255)
 have h5b:=bR b ((min 255 s.size:Nat):Int)
 have h8:=bR b (s.size:Nat)
 have h9:=fJ s
 exact o9 (fn:=Tryz.f230) (ann:=b3b) (Has.o Tryz.func230) (.r (.s (.g (.two (decide ((s.size:Int) > 255)) (fun h1 h1'=>(.r (.t 1 (AV.str (ByteArray.extract s 0 255)) [] (a4a om om om om:Option.map (fun a=>(a,([]:Heap))) ((bounds 0 255 (ByteArray.size s)).map fun p=>AV.str (ByteArray.extract s p.1 p.2))=some ((AV.str (ByteArray.extract s 0 255)),([]:Heap))) (.s (.ch 3 [(o_ 1 1 (List.map rU8 (J7 b (((ByteArray.extract s 0 255).size:Nat):Int))))] (a4l b (((ByteArray.extract s 0 255).size:Nat):Int) oa []) (.ao 5 249 (AV.osl 0 1 1 0 (J7 b (((ByteArray.extract s 0 255).size:Nat):Int)).length) (AV.str (ByteArray.extract s 0 255)) (AV.osl 0 2 1 0 ((J7 b (((ByteArray.extract s 0 255).size:Nat):Int)).length+(D9 (ByteArray.extract s 0 255)).length)) [(o_ 2 1 (List.map rU8 ((J7 b (((ByteArray.extract s 0 255).size:Nat):Int))++(D9 (ByteArray.extract s 0 255)))))] (F3 (T:=tt) (e:=5) (te:=bD) (z:=1) (b:=24) (y:=[.sl .nil 0 []]) (row:=rU8) (l:=(J7 b (((ByteArray.extract s 0 255).size:Nat):Int))) kr kr rfl z8 z8 kr (a0P _ _) om rfl rfl dV) (.q 1 (AV.osl 0 2 1 0 ((J7 b (((ByteArray.extract s 0 255).size:Nat):Int)).length+(D9 (ByteArray.extract s 0 255)).length)) (by first | (rw [<- a6h b ow]; simp; done) | (rw [<- a6g b ow]; simp; done))))))))) (fun h1 h1'=>(.r (.ch 3 [(o_ 1 1 (List.map rU8 (J7 b (s.size:Int))))] (a4l b (s.size:Int) oa []) (.ao 5 249 (AV.osl 0 1 1 0 (J7 b (s.size:Int)).length) (AV.str s) (AV.osl 0 2 1 0 ((J7 b (s.size:Int)).length+(D9 s).length)) [(o_ 2 1 (List.map rU8 ((J7 b (s.size:Int))++(D9 s))))] (F3 (T:=tt) (e:=5) (te:=bD) (z:=1) (b:=24) (y:=[.sl .nil 0 []]) (row:=rU8) (l:=(J7 b (s.size:Int))) kr kr rfl z8 z8 kr (a0P _ _) om rfl rfl dV) (.q 1 (AV.osl 0 2 1 0 ((J7 b (s.size:Int)).length+(D9 s).length)) (by first | (rw [<- a6h b ow]; simp; done) | (rw [<- a6g b ow]; simp; done)))))))))))
theorem a0t (b:List Int) (s:ByteArray) (hb:b.length < 1048576):AC 230 [(sA 1 (List.map rU8 b)),(AV.str s)] [] ((sA 1 (List.map rU8 (J2 b s))),[]):=by
 have h1:=(a9R b s hb).zQ (xs:=(J2 b s).map rU8) (G7 (room:=none) kr b2d) (iL _ _)
 exact l6.forget (H2:=[]) (X:=[(o_ 3 1 [])]) h1 rfl kr (fun id o ho=>by simp at ho)
def c2E:Ann:={ own:=[9,21],gh:=[(6,.frz 5)],fin:=some 0 }
@[simp] abbrev d2Z (a:List Int) (b:Int):=(sA 1 (List.map rU8 ((((((((a++[(c4i b)])++[(c4h b)])++[(c4g b)])++[(c4f b)])++[(c4e b)])++[(c4d b)])++[(c4c b)])++[(c4b b)])))
theorem b8P (b:List Int) (n:Int) (hb:b.length < 1048576):AC 231 [(sA 1 (List.map rU8 b)),(iI n)] [] ((sA 1 (List.map rU8 (gM b n))),[]) :=
 o9 (fn:=Tryz.f231) (ann:=c2E) (Has.o Tryz.func231) (.r (.s (.ao 2 249 (AV.sl .clip 1 []) (sA 1 (List.map rU8 b)) (cy_ b) [(o_ 0 1 (List.map rU8 b))] (O5 (T:=tt) (e:=5) (te:=bD) (z:=1) (b:=24) (y:=[.sl .nil 0 []]) (row:=rU8) kr kr rfl z8 z8 yf_ U7 rfl rfl rfl om) (.s (.g (.roll 9 (.r (.ru (.ao 7 249 (cy_ b) (d0j n) (cz_ b) [(o_ 1 1 (List.map rU8 (b++[(U9 n)])))] (F3 (T:=tt) (e:=5) (te:=bD) (z:=1) (b:=24) (y:=[.sl .nil 0 []]) (row:=rU8) (l:=b) kr kr rfl z8 z8 kr U7 om rfl rfl dV) (.s (.s (.ru (.ao 7 249 (cz_ b) (d0i n) (b6g b) [(o_ 2 1 (List.map rU8 ((b++[(U9 n)])++[(Y2 n)])))] (F3 (T:=tt) (e:=5) (te:=bD) (z:=1) (b:=24) (y:=[.sl .nil 0 []]) (row:=rU8) (l:=b++[(U9 n)]) kr kr rfl z8 z8 kr U7 om rfl rfl dV) (.s (.s (.ru (.ao 7 249 (b6g b) (d0h n) (b6e b) [(o_ 3 1 (List.map rU8 (((b++[(U9 n)])++[(Y2 n)])++[(aJ n)])))] (F3 (T:=tt) (e:=5) (te:=bD) (z:=1) (b:=24) (y:=[.sl .nil 0 []]) (row:=rU8) (l:=(b++[(U9 n)])++[(Y2 n)]) kr kr rfl z8 z8 kr U7 om rfl rfl dV) (.s (.s (.ru (.ao 7 249 (b6e b) (cap_ n) (b6d b) [(o_ 4 1 (List.map rU8 ((((b++[(U9 n)])++[(Y2 n)])++[(aJ n)])++[(bJ n)])))] (F3 (T:=tt) (e:=5) (te:=bD) (z:=1) (b:=24) (y:=[.sl .nil 0 []]) (row:=rU8) (l:=((b++[(U9 n)])++[(Y2 n)])++[(aJ n)]) kr kr rfl z8 z8 kr U7 om rfl rfl dV) (.s (.s (.ru (.ao 7 249 (b6d b) (d0g n) (b6b b) [(o_ 5 1 (List.map rU8 (((((b++[(U9 n)])++[(Y2 n)])++[(aJ n)])++[(bJ n)])++[(fB n)])))] (F3 (T:=tt) (e:=5) (te:=bD) (z:=1) (b:=24) (y:=[.sl .nil 0 []]) (row:=rU8) (l:=(((b++[(U9 n)])++[(Y2 n)])++[(aJ n)])++[(bJ n)]) kr kr rfl z8 z8 kr U7 om rfl rfl dV) (.s (.s (.ru (.ao 7 249 (b6b b) (d0f n) (b6a b) [(o_ 6 1 (List.map rU8 ((((((b++[(U9 n)])++[(Y2 n)])++[(aJ n)])++[(bJ n)])++[(fB n)])++[(iV n)])))] (F3 (T:=tt) (e:=5) (te:=bD) (z:=1) (b:=24) (y:=[.sl .nil 0 []]) (row:=rU8) (l:=((((b++[(U9 n)])++[(Y2 n)])++[(aJ n)])++[(bJ n)])++[(fB n)]) kr kr rfl z8 z8 kr U7 om rfl rfl dV) (.s (.s (.ru (.ao 7 249 (b6a b) (d0e n) (b5Z b) [(o_ 7 1 (List.map rU8 (((((((b++[(U9 n)])++[(Y2 n)])++[(aJ n)])++[(bJ n)])++[(fB n)])++[(iV n)])++[(oJ n)])))] (F3 (T:=tt) (e:=5) (te:=bD) (z:=1) (b:=24) (y:=[.sl .nil 0 []]) (row:=rU8) (l:=(((((b++[(U9 n)])++[(Y2 n)])++[(aJ n)])++[(bJ n)])++[(fB n)])++[(iV n)]) kr kr rfl z8 z8 kr U7 om rfl rfl dV) (.s (.s (.ru (.ao 7 249 (b5Z b) (d0d n) (b5Y b) (a3M b n) (F3 (T:=tt) (e:=5) (te:=bD) (z:=1) (b:=24) (y:=[.sl .nil 0 []]) (row:=rU8) (l:=((((((b++[(U9 n)])++[(Y2 n)])++[(aJ n)])++[(bJ n)])++[(fB n)])++[(iV n)])++[(oJ n)]) kr kr rfl z8 z8 kr U7 om rfl rfl dV) (.s (.s (.rn (.w 5 (List.map rU8 ((((((((b++[(U9 n)])++[(Y2 n)])++[(aJ n)])++[(bJ n)])++[(fB n)])++[(iV n)])++[(oJ n)])++[(yZ n)])) (And.intro (G7 (room:=none) kr om) (iL _ _):F5 (a3M b n) 1 (b5Y b)=some (List.map rU8 ((((((((b++[(U9 n)])++[(Y2 n)])++[(aJ n)])++[(bJ n)])++[(fB n)])++[(iV n)])++[(oJ n)])++[(yZ n)]))/\AV.D5 0 (List.map rU8 ((((((((b++[(U9 n)])++[(Y2 n)])++[(aJ n)])++[(bJ n)])++[(fB n)])++[(iV n)])++[(oJ n)])++[(yZ n)]))=true) (.g (.h' [] (.q 0 (d2Z b n) (by (try delta a3M); simp [gM,fC])))))))))))))))))))))))))))))))))))))))))))))
def a0O:Ann:={ fin:=some 0,live:=[(3,[0,3,4])],out:=[(3,[3])] }
@[simp] abbrev d1K (a:List Int) (b:Int) (c:Nat):Fr:=(mkF 21 [(0,(sA 1 (List.map rU8 a))),(3,(AV.int .u32 b)),(4,(iN c))])
@[simp] abbrev c5d :=(l9 Tryz.prog (X a0O) (p9 Tryz.f217 0))
theorem a4i (l:List Int) (h:Int) (i:Nat) (hl:l.length < 1048576) (hle_:i<=l.length) {eX:Ex} {FX:Fr} {HX:Heap} (k1:(decide ((i:Int) < (l.length:Int)))=true->j6 c5d (some [0,3,4]) (some [3]) (mkF 21 [(0,(sA 1 (List.map rU8 l))),(3,(AV.int .u32 (IntKind.u32.wrap ((IntKind.u32.wrap ((IntKind.u32.wrap (h * 31))+(IntKind.u32.wrap (nth l i))))+7)))),(4,(iN (i+1)))]) [] eX FX HX) (k2:(decide ((i:Int) < (l.length:Int)))=false->((.exit 0:Ex),(mkF 21 [(3,(AV.int .u32 h))]),[])=(eX,FX,HX)):j6 c5d (some [0,3,4]) (some [3]) (d1K l h i) [] eX FX HX :=
 F7 (.r (.y 2 (.int .i64 ((List.length (List.map rU8 l):Nat):Int)) (iN l.length) (Yes.len _ _ _) (.g (.two (decide ((i:Int) < (l.length:Int))) (fun h1 h1'=>(.r (.is 4 1 1 (List.map rU8 l) (i:Int) (rU8 (nth l i)) (J8.mk _ ow ow) (.s (.y 1 (.int .i64 (cb_ i)) (iN (i+1)) Yes.o (.g (.l (k1 h1)))))))) (fun h1 h1'=>(.l (k2 h1)))))))
def xQ (l:List Int) (i:Nat) (s:Int):Int:=((IntKind.u32.wrap ((IntKind.u32.wrap ((IntKind.u32.wrap (s * 31))+(IntKind.u32.wrap (nth l i))))+7)))
theorem b8u (l:List Int) (hl:l.length < 1048576)  (r_:Nat):∀ (h:Int) (i:Nat) (sF:Int),i+r_=l.length->sF=iter (xQ l) r_ i (h) ->
 j6 (l9 Tryz.prog (X a0O) (p9 Tryz.f217 0)) (some [0,3,4]) (some [3]) (d1K l h i) [] (.exit 0) (mkF 21 [(3,(AV.int .u32 sF))]) []:=by
 induction r_ with
 | zero =>
  intro h i sF hi_   hF
  obtain rfl:l.length=i:=by omega
  have e_:sF=(h):=hF
  refine a4i l h l.length hl (Nat.le_refl _) (fun h=>by simp at h <;> omega) (fun _=>?_)
  first | done | rfl | (rw [e_]; done) | (rw [e_]; rfl)
 | succ r_ ih =>
  intro h i sF hi_   hF
  refine a4i l h i hl ow (fun h1=>?_) (fun h=>by simp at h <;> omega)
  · exact ih (IntKind.u32.wrap ((IntKind.u32.wrap ((IntKind.u32.wrap (h * 31))+(IntKind.u32.wrap (nth l i))))+7)) (i+1) sF ow   (by rw [hF] <;> simp only [iter,xQ,if_true,Bool.false_eq_true,if_false])
theorem b8v (l:List Int):gL l=iter (xQ l) l.length 0 17:=by unfold gL; exact (V5 (xQ l) kV l (fun i s hi=>by unfold xQ kV; rfl) 17).symm
theorem b8t (l:List Int) (hl:l.length < 1048576):AC 217 [(sA 1 (List.map rU8 l))] [] ((AV.int .u32 (gL l)),[]) :=
 o9 (fn:=Tryz.f217) (ann:=a0O) (Has.o Tryz.func217) (.r (.s (.s (.g (.loop (mkF 21 [(3,(AV.int .u32 (gL l)))]) (show j6 c5d (some [0,3,4]) (some [3]) (mkF 21 [(0,(sA 1 (List.map rU8 l))),(3,(AV.int .u32 17)),(4,z_)]) [] (.exit 0) (mkF 21 [(3,(AV.int .u32 (gL l)))]) [] from (b8u l hl (List.length l) 17 0 (gL l) ow (b8v _))) (.qr 0 (AV.int .u32 (gL l))))))))
def xR:Ann:={ gh:=[(8,.frz 3)],gha:=[(1,.vir 3 9),(7,.cut 1)],fin:=some 0,live:=[(3,[3,7,8,9])],out:=[(3,[3,7,8,9])] }
@[simp] abbrev c5Z (a:Nat) (b:Nat) (c:l9C) (d:Nat):Fr:=(mkF 22 [(3,(AV.osl 0 a 9 0 b)),(7,(sA 9 (mC c))),(8,(iN c.length)),(9,(iN d))])
@[simp] abbrev b5W :=(l9 Tryz.prog (X xR) (p9 Tryz.f189 0))
theorem a1X (l:l9C) (out:l9C) (k:Nat) (g:Nat) (i:Nat) (hl:l.length < 1048576) (hk:k=out.length) (hki:k<=i) (hle_:i<=l.length) {eX:Ex} {FX:Fr} {HX:Heap} (k1:(decide ((i:Int) < (l.length:Int)))=true->(!(nth l i).gone)=true->j6 b5W (some [3,7,8,9]) (some [3,7,8,9]) (mkF 22 [(3,(AV.osl 0 (g+1) 9 0 (k+1))),(7,(sA 9 (mC l))),(8,(iN l.length)),(9,(iN (i+1)))]) (b7o g out l i) eX FX HX) (k2:(decide ((i:Int) < (l.length:Int)))=true->(!(nth l i).gone)=false->j6 b5W (some [3,7,8,9]) (some [3,7,8,9]) (mkF 22 [(3,(AV.osl 0 g 9 0 k)),(7,(sA 9 (mC l))),(8,(iN l.length)),(9,(iN (i+1)))]) [(o_ g 9 (mC out))] eX FX HX) (k3:(decide ((i:Int) < (l.length:Int)))=false->((.exit 0:Ex),(c5Z g k l i),[(o_ g 9 (mC out))])=(eX,FX,HX)):j6 b5W (some [3,7,8,9]) (some [3,7,8,9]) (c5Z g k l i) [(o_ g 9 (mC out))] eX FX HX :=
 F7 (.r (.g (.two (decide ((i:Int) < (l.length:Int))) (fun h1 h1'=>(.r (.h' [(o_ g 9 (mC out)),(o_ 0 9 [[e_,e_,z_,z_,z_,z_,z_,z_,bF]])] (.is 0 9 9 (mC l) (i:Int) (j5.row (nth l i)) (J8.mk _ ow ow) (.s (.g (.two (!(nth l i).gone) (fun h2 h2'=>(.r (.h' (b7n g out l i) (.ap 3 32 (AV.osl 0 g 9 0 k) (AV.sl .clip 9 [(j5.row (nth l i))]) (AV.osl 0 (g+1) 9 0 (k+1)) [(o_ (g+1) 9 (mC (out++[(nth l i)]))),(o_ 0 9 [(j5.row (nth l i))])] (H6 (row:=j5.row) (l:=out) (x:=(nth l i)) (T:=tt) (e:=39) (te:=jU) (z:=1) (b:=24) (y:=[.sl .nil 0 []]) kr kr rfl z8 z8 kr aU rfl rfl pX) (.s (.y 0 (.int .i64 (cb_ i)) (iN (i+1)) Yes.o (.h' (b7o g out l i) (.b 1 (.g (.l (k1 h1 h2))))))))))) (fun h2 h2'=>(.r (.h' (b7n g out l i) (.y 0 (.int .i64 (cb_ i)) (iN (i+1)) Yes.o (.h' [(o_ g 9 (mC out))] (.b 1 (.g (.l (k2 h1 h2)))))))))))))))) (fun h1 h1'=>(.l (k3 h1))))))
def pR (l:List j5) (i:Nat) (s:(List j5) × Nat × Nat):(List j5) × Nat × Nat:=(if (!(nth l i).gone)=true then (s.1++[(nth l i)],(s.2.1+1),(s.2.2+1)) else (s.1,s.2.1,s.2.2))
theorem b3h (l:l9C) (hl:l.length < 1048576)  (r_:Nat):∀ (out:l9C) (k:Nat) (g:Nat) (i:Nat) (sF:(l9C) × Nat × Nat),i+r_=l.length->k=out.length->k<=i->sF=iter (pR l) r_ i (out,k,g) ->
 j6 (l9 Tryz.prog (X xR) (p9 Tryz.f189 0)) (some [3,7,8,9]) (some [3,7,8,9]) (c5Z g k l i) [(o_ g 9 (mC out))] (.exit 0) (mkF 22 [(3,(AV.osl 0 sF.2.2 9 0 sF.2.1)),(7,(sA 9 (mC l))),(8,(iN l.length)),(9,(iN l.length))]) [(o_ sF.2.2 9 (mC sF.1))]:=by
 induction r_ with
 | zero =>
  intro out k g i sF hi_ hk hki  hF
  obtain rfl:l.length=i:=by omega
  have e_:sF=(out,k,g):=hF
  refine a1X l out k g l.length hl hk hki (Nat.le_refl _) (fun h _=>by simp at h <;> omega) (fun h _=>by simp at h <;> omega) (fun _=>?_)
  first | done | rfl | (rw [e_]; done) | (rw [e_]; rfl)
 | succ r_ ih =>
  intro out k g i sF hi_ hk hki  hF
  refine a1X l out k g i hl hk hki ow (fun h1 h2=>?_) (fun h1 h2=>?_) (fun h=>by simp at h <;> omega)
  · exact ih (out++[(nth l i)]) (k+1) (g+1) (i+1) sF ow N9 N9  (by rw [hF] <;> simp only [iter,pR,h2,if_true,Bool.false_eq_true,if_false])
  · exact ih out k g (i+1) sF ow N9 N9  (by rw [hF] <;> simp only [iter,pR,h2,if_true,Bool.false_eq_true,if_false])
theorem b3i (l:l9C):(J6 l,(J6 l).length,(J6 l).length)=iter (pR l) l.length 0 ([],0,0):=by
 rw [V5 (pR l) (fun s c=>if (fun c:j5=>!c.gone) c=true then (s.1++[c],s.2.1+1,s.2.2+1) else s) l (fun i s hi=>by simp [pR])]
 rw [wD (fun c:j5=>!c.gone) (fun c=>c) l]; simp [J6]
@[simp] abbrev d1J (a:l9C):Fr:=(mkF 22 [(3,(AV.osl 0 (J6 (G6 a)).length 9 0 (J6 (G6 a)).length)),(7,(sA 9 (mC (G6 a)))),(8,(iN ((G6 a).length))),(9,(iN ((G6 a).length)))])
@[simp] abbrev d1I (a:l9C):Heap:=[(o_ ((J6 (G6 a)).length) 9 (mC (J6 (G6 a))))]
theorem a9U (l:l9C) (hl:l.length < 1048576):AC 189 [(sA 9 (mC l))] [] ((sA 9 (mC (J6 (G6 l)))),[]):=by
 have hk:=yG (G6 l)
 have hs:=b7N l
 exact o9 (fn:=Tryz.f189) (ann:=xR) (Has.o Tryz.func189) (.r (.s (.s (.c 1 ((b3c l oa).lift kr kr [(o_ 0 9 (mC []))]) (.h' [(o_ 0 9 (mC []))] (.y 2 (.int .i64 ((List.length (mC (G6 l)):Nat):Int)) (iN ((G6 l).length)) (Yes.len _ _ _) (.g (.loop (d1J l) (show j6 b5W (some [3,7,8,9]) (some [3,7,8,9]) (mkF 22 [(3,(AV.osl 0 0 9 0 0)),(7,(sA 9 (mC (G6 l)))),(8,(iN ((G6 l).length))),(9,z_)]) [(o_ 0 9 (mC []))] (.exit 0) (d1J l) (d1I l) from (b3h (G6 l) ow (List.length (G6 l)) [] 0 0 0 (J6 (G6 l),(J6 (G6 l)).length,(J6 (G6 l)).length) ow rfl ow (b3i _))) (.r (.w 3 (mC (J6 (G6 l))) (And.intro (G7 (room:=none) kr om) (j5.p8 _ _):F5 (d1I l) 9 (AV.osl 0 (J6 (G6 l)).length 9 0 (J6 (G6 l)).length)=some (mC (J6 (G6 l)))/\AV.D5 0 (mC (J6 (G6 l)))=true) (.g (.h' [] (.q 0 (sA 9 (mC (J6 (G6 l)))))))))))))))))
theorem a1Y (l:l9C) (hl:l.length < 1048576):AC 189 [(sA 9 (mC l))] [] ((sA 9 (mC (K4 l))),[]):=by rw [<- b0y]; exact a9U l hl
def vF:Ann:={ gha:=[(1,.any 3 1),(7,.cut 0)],fin:=some 0,live:=[(3,[3,7,8,9])],out:=[(3,[3,7,8,9])] }
@[simp] abbrev c5c :=(l9 Tryz.prog (X vF) (p9 Tryz.f218 0))
theorem a0u (l:l9C) (b:List Int) (i:Nat) (hl:l.length < 1000) (hb:b.length<=i * 521) (hle_:i<=l.length) {eX:Ex} {FX:Fr} {HX:Heap} (k1:(decide ((i:Int) < (l.length:Int)))=true->j6 c5c (some [3,7,8,9]) (some [3,7,8,9]) (d0c b l i) [] eX FX HX) (k2:(decide ((i:Int) < (l.length:Int)))=false->((.exit 0:Ex),(a3L b l i),[])=(eX,FX,HX)):j6 c5c (some [3,7,8,9]) (some [3,7,8,9]) (a3L b l i) [] eX FX HX:=by
 have h1:=fH b (nth l i).key.app
 have h2:=fH (J2 b (nth l i).key.app) (nth l i).key.id
 have h3:=bR (J2 (J2 b (nth l i).key.app) (nth l i).key.id) (Y9 (nth l i))
 exact F7 (.r (.g (.two (decide ((i:Int) < (l.length:Int))) (fun h1 h1'=>(.r (.h' [(o_ 0 9 [[e_,e_,z_,z_,z_,z_,z_,z_,bF]])] (.is 0 9 9 (mC l) (i:Int) (j5.row (nth l i)) (J8.mk _ ow ow) (.s (.c 4 ((a0t b (nth l i).key.app oa).lift kr kr [(o_ 0 9 [(j5.row (nth l i))])]) (.c 8 ((a0t (J2 b (nth l i).key.app) (nth l i).key.id oa).lift kr kr [(o_ 0 9 [(j5.row (nth l i))])]) (.rd (AV.str (nth l i).key.id) [(o_ 0 9 [(j5.row (nth l i))])] (.s (.c 2 ((a9T (nth l i)).lift kr kr [(o_ 0 9 [(j5.row (nth l i))])]) (.c 3 ((b0j (J2 (J2 b (nth l i).key.app) (nth l i).key.id) (Y9 (nth l i)) oa).lift kr kr [(o_ 0 9 [(j5.row (nth l i))])]) (.c 6 ((b8P (J7 (J2 (J2 b (nth l i).key.app) (nth l i).key.id) (Y9 (nth l i))) (nth l i).lease oa).lift kr kr [(o_ 0 9 [(j5.row (nth l i))])]) (.rd (iI (nth l i).lease) [(o_ 0 9 [(j5.row (nth l i))])] (.rd (iI (nth l i).lease) [(o_ 0 9 [(j5.row (nth l i))])] (.s (.h' [(o_ 0 9 [(j5.row (nth l i))])] (.y 0 (.int .i64 (cb_ i)) (iN (i+1)) Yes.o (.h' [] (.b 0 (.g (.l (k1 h1)))))))))))))))))))))) (fun h1 h1'=>(.l (k2 h1))))))
def qC (l:List j5) (i:Nat) (s:(List Int)):(List Int):=(gM (J7 (J2 (J2 s (nth l i).key.app) (nth l i).key.id) (Y9 (nth l i))) (nth l i).lease)
theorem a9W (l:l9C) (hl:l.length < 1000)  (r_:Nat):∀ (b:List Int) (i:Nat) (sF:(List Int)),i+r_=l.length->b.length<=i * 521->sF=iter (qC l) r_ i (b) ->
 j6 (l9 Tryz.prog (X vF) (p9 Tryz.f218 0)) (some [3,7,8,9]) (some [3,7,8,9]) (a3L b l i) [] (.exit 0) (mkF 31 [(3,(sA 1 (List.map rU8 sF))),(7,(sA 9 (mC l))),(8,(iN l.length)),(9,(iN l.length))]) []:=by
 induction r_ with
 | zero =>
  intro b i sF hi_ hb  hF
  obtain rfl:l.length=i:=by omega
  have e_:sF=(b):=hF
  refine a0u l b l.length hl hb (Nat.le_refl _) (fun h=>by simp at h <;> omega) (fun _=>?_)
  first | done | rfl | (rw [e_]; done) | (rw [e_]; rfl)
 | succ r_ ih =>
  intro b i sF hi_ hb  hF
  refine a0u l b i hl hb ow (fun h1=>?_) (fun h=>by simp at h <;> omega)
  · exact ih (gM (J7 (J2 (J2 b (nth l i).key.app) (nth l i).key.id) (Y9 (nth l i))) (nth l i).lease) (i+1) sF ow (by have h9:(gM (J7 (J2 (J2 b (nth l i).key.app) (nth l i).key.id) (Y9 (nth l i))) (nth l i).lease).length<=b.length+521:=(by have h8:=yY b (nth l i); unfold dS at h8; exact h8); first | omega | assumption | (simp; done) | (simp; omega) | (simp [*]; done) | (simp [*]; omega))  (by rw [hF] <;> simp only [iter,qC,if_true,Bool.false_eq_true,if_false])
theorem a9X (l:l9C):l.foldl dS []=iter (qC l) l.length 0 []:=(V5 (qC l) dS l (fun i s hi=>by unfold qC dS; rfl) []).symm
@[simp] abbrev c5b (a:l9C):=(sA 1 (List.map rU8 (List.foldl dS [] (K4 a))))
@[simp] abbrev b7m (a:l9C):Fr:=(mkF 31 [(3,(c5b a)),(7,(sA 9 (mC (K4 a)))),(8,(iN ((K4 a).length))),(9,(iN ((K4 a).length)))])
theorem a9V (l:l9C) (hl:l.length < 1000):AC 218 [(sA 9 (mC l))] [] ((sA 1 (List.map rU8 (cO l))),[]):=by
 have h1:=mP l
 exact o9 (fn:=Tryz.f218) (ann:=vF) (Has.o Tryz.func218) (.r (.s (.s (.c 1 ((a1Y l oa).lift kr kr []) (.y 2 (.int .i64 ((List.length (mC (K4 l)):Nat):Int)) (iN ((K4 l).length)) (Yes.len _ _ _) (.g (.loop (b7m l) (show j6 c5c (some [3,7,8,9]) (some [3,7,8,9]) (mkF 31 [(3,(sA 1 [])),(7,(sA 9 (mC (K4 l)))),(8,(iN ((K4 l).length))),(9,z_)]) [] (.exit 0) (b7m l) [] from (a9W (K4 l) ow (List.length (K4 l)) [] 0 (List.foldl dS [] (K4 l)) ow yf_ (a9X _))) (.qr 0 (c5b l) (by unfold cO; rfl)))))))))
def b8z:Ann:={ fin:=some 0 }
theorem b3j (l:l9C) (hl:l.length < 1000):AC 188 [(sA 9 (mC l))] [] ((AV.int .u32 (ofB l)),[]):=by
 have h1:=a4e l
 exact o9 (fn:=Tryz.f188) (ann:=b8z) (Has.o Tryz.func188) (.r (.s (.c 1 ((a9V l oa).lift kr kr []) (.c 2 ((b8t (cO l) oa).lift kr kr []) (.q 0 (AV.int .u32 (gL (cO l))) (by unfold ofB; rfl))))))
def b4A:Ann:={ fin:=some 0 }
theorem a0B (n:Int) :AC 219 [(iI n)] [] (bF,[]) :=
 o9 (fn:=Tryz.f219) (ann:=b4A) (Has.o Tryz.func219) (.r (.g (.qr 0 (bB (n != n)) yf_)))
def a8d:Ann:={ fin:=some 0 }
theorem c1o {p:Prop} (h:p:=by simp_all [Q0] <;> omega):p:=h
theorem a5u (a b:Int) :AC 196 [(iI a),(iI b)] [] ((iI (Q0 a b)),[]) :=
 o9 (fn:=Tryz.f196) (ann:=a8d) (Has.o Tryz.func196) (.r (.s (.c 1 ((a0B a).lift kr kr []) (.s (.c 1 ((a0B b).lift kr kr []) (.s (.rn (.rn (.g (.two (decide (a < b)) (fun h1 h1'=>(.qr 0 (iI (-1)) c1o)) (fun h1 h1'=>(.r (.g (.two (decide (a > b)) (fun h2 h2'=>(.qr 0 (iI 1) c1o)) (fun h2 h2'=>(.qr 0 z_ c1o))))))))))))))))
def c8q:Ann:={ fin:=some 0 }
theorem c2V (x y z:Int) :AC 120 [(sA 1 [[(iI x)],[(iI y)],[(iI z)]])] [] ((iI (if x=0 then if y=0 then z else y else x)),[]) :=
 o9 (fn:=Tryz.f120) (ann:=c8q) (Has.o Tryz.func120) (.r (.s (.s (.g (.roll 4 (.r (.ru (.s (.g (.two (x != 0) (fun h1 h1'=>(.qr 0 (iI x) (by simp_all))) (fun h1 h1'=>(.r (.s (.ru (.s (.g (.two (y != 0) (fun h2 h2'=>(.qr 0 (iI y) (by simp_all))) (fun h2 h2'=>(.r (.s (.ru (.s (.g (.two (z != 0) (fun h3 h3'=>(.qr 0 (iI z) (by simp_all))) (fun h3 h3'=>(.r (.s (.g (.n (.qr 0 z_ (by simp_all)))))))))))))))))))))))))))))))
def P9 (a b:l8):Int:=if Q0 a.t b.t=0 then if Q0 a.n b.n=0 then Q0 a.node b.node else Q0 a.n b.n else Q0 a.t b.t
def b2m:Ann:={ refs:=[2,3],fin:=some 0 }
theorem a9A (a b:l8) :AC 147 [(AV.agg (l8.row a)),(AV.agg (l8.row b))] [] ((bB (decide (P9 a b < 0))),[]) :=
 o9 (fn:=Tryz.f147) (ann:=b2m) (Has.o Tryz.func147) (.r (.s (.c 4 ((nW a.t b.t).lift kr kr []) (.c 9 ((nW a.n b.n).lift kr kr []) (.c 14 ((a5u a.node b.node).lift kr kr []) (.c 16 (l6.pre (args:=[(sA 1 [[(iI (Q0 a.t b.t))],[(iI (Q0 a.n b.n))],[(iI (Q0 a.node b.node))]])]) (args':=[(AV.sl .clip 1 [[(iI (Q0 a.t b.t))],[(iI (Q0 a.n b.n))],[(iI (Q0 a.node b.node))]])]) ((c2V (Q0 a.t b.t) (Q0 a.n b.n) (Q0 a.node b.node)).lift kr kr []) ⟨⟨rfl,rfl,.inl rfl⟩,trivial⟩) (.q 0 (bB (decide ((if (Q0 a.t b.t)=0 then if (Q0 a.n b.n)=0 then (Q0 a.node b.node) else (Q0 a.n b.n) else (Q0 a.t b.t)) < 0))))))))))
end Go.Proofs.YtfjedpipdnlkfaaGreat.AM
namespace Go.Proofs.YtfjedpipdnlkfaaGreat.AM
open Go
theorem a9B {P:Program} {F:Fr} {H:Heap} {dst:Option Tmp} {x y:Operand} {lo:Option Operand} {t e0:TypeId} {type:TypeId} {pos:String} {after:Array Edge} {guard:Option (Nat × Bool)} {id g k e n l h:Nat} {els:List (List AV)} {room:Option Nat}
 (ht:P.underlying t=some (.slice e0)) (hk:∀ w:World,(Go.sizeOf e0).run P w=.ok k w) (hx:opv F x=some (.osl id g k e n)) (ho:H[id]?=some ⟨g,k,els,room⟩)
 (hlo:J5 F lo 0=some (l:Int)) (hhi:J5 F (some y) 0=some (h:Int)) (h1:l<=h) (h2:e+h<=els.length) :
 kP P F H ⟨dst,.slice t x lo (some y) none,type,pos,after,guard⟩ (.osl id g k (e+l) (h - l),H):=by
 intro G w C f hf hH
 have hv:=hf x yp_ _ hx
 have hgen:g=C.γ id:=hH.gen id _ ho
 have hl:=jK (G:=G) (w:=w) (C:=C) (f:=f) hlo fun z hz a ha=>hf z (by simp [Op.operands,hz]) a ha
 have hh:=jK (G:=G) (w:=w) (C:=C) (f:=f) hhi fun z hz a ha=>hf z yu_ a ha
 have hb:∀ len cap:Nat,h<=cap->(Instr.sliceBounds true len cap (lo.map f) (some (f y)) none).run P w=.ok (l,h,cap) w:=by
  intro len cap hc
  rcases hh with ⟨hh,_⟩ | ⟨z,kz,hz,hfz⟩
  · simp at hh
  · simp only [Option.some.injEq] at hz
    subst hz
    rcases hl with ⟨rfl,h0⟩ | ⟨z,kz',rfl,hz⟩
    · have:l=0:=by omega
      subst this
      simp [Instr.sliceBounds,hfz,run_sliceBound,hc]
    · simp [Instr.sliceBounds,hz,hfz,run_sliceBound,hc,h1]
 generalize hu:f x=u at hv
 cases hv with
 | osl _ _ _ _ _ _ ad cap hnc hle hl' =>
  obtain ⟨L,b,hι,hLb,hLk,hen,hcap,had⟩:=hl' hgen
  have hrm:=(hH.ob id _ L ho hι).len
  simp only at hrm
  have hr:(Instr.sliceAt t (f x) (lo.map f) (some (f y)) none).run P w=.ok (.slice (if cap=l then some ad else (some ad).map (·.add (l * k))) (h - l) (cap - l)) w:=by
   rw [hu]
   simp only [Instr.sliceAt,Instr.slice,Sem.run_bind,run_underlying ht,Result.andThen_ok]
   rw [hb n cap ya_]
   simp only [Result.andThen_ok,hk w,Sem.run_pure,Sem.run_bind]
  refine ⟨.slice (if cap=l then some ad else (some ad).map (·.add (l * k))) (h - l) (cap - l),w,?_,G,C,Ev.refl ..,hH,?_,Pd.refl⟩
  · simp only [execOp,Option.map_some,Option.map_none,Sem.run_bind,hr,Result.andThen_ok,Sem.run_pure]
  · have hif:(if cap=l then some ad else (some ad).map (·.add (l * k)))=some (if cap=l then ad else ad.add (l * k)):=by split <;> rfl
    rw [hif]
    refine .osl _ _ _ _ _ _ _ _ ya_ hle fun hg=>?_
    refine ⟨L,b,hι,hLb,hLk,by omega,by omega,fun hlt=>?_⟩
    rw [if_neg ya_,had ya_,X6,Nat.add_assoc,<- Nat.add_mul]
 | osl0 _ _ _ _ _ base hle hl' =>
  obtain ⟨L,hι,hLb,hLk⟩:=hl' hgen
  have hob:=hH.ob id _ L ho hι
  have h4:=hob.no hLb
  have h5:=hob.len
  simp only at h5
  have hl0:l=0:=by omega
  have hh0:h=0:=by omega
  have hr:(Instr.sliceAt t (f x) (lo.map f) (some (f y)) none).run P w=.ok (.slice base 0 0) w:=by
   rw [hu]
   simp only [Instr.sliceAt,Instr.slice,Sem.run_bind,run_underlying ht,Result.andThen_ok]
   rw [hb 0 0 ya_]
   simp [hk w,hl0,hh0]
  subst hl0; subst hh0
  refine ⟨.slice base 0 0,w,?_,G,C,Ev.refl ..,hH,.osl0 _ _ _ _ _ base hle hl',Pd.refl⟩
  simp only [execOp,Option.map_some,Option.map_none,Sem.run_bind,hr,Result.andThen_ok,Sem.run_pure]
theorem b2o {P:Program} {F:Fr} {H:Heap} {dst:Option Tmp} {x y:Operand} {t t' e0:TypeId} {type:TypeId} {pos:String} {after:Array Edge} {guard:Option (Nat × Bool)} {id g k e n id2 g2 e2 n2:Nat} {els els2:List (List AV)} {room room2:Option Nat}
 (ht:P.underlying t=some (.slice e0)) (hk:∀ w:World,(Go.sizeOf e0).run P w=.ok k w) (hx:opv F x=some (.osl id g k e n)) (ho:H[id]?=some ⟨g,k,els,room⟩) (hy:opv F y=some (.osl id2 g2 k e2 n2)) (ho2:H[id2]?=some ⟨g2,k,els2,room2⟩)
 (h0:0 < n) (hn:n<=n2) (he:e<=els.length) (he2:e2+n<=els2.length) :
 kP P F H ⟨dst,.call { callee:=.builtin .copy,args:=#[x,y],argTypes:=#[t,t'] },type,pos,after,guard⟩ (.int .i64 (n:Int),H.set id ⟨g,k,els.take e++(els2.drop e2).take n++els.drop (e+n),room⟩):=by
 intro G w C f hf hH
 have hv:=hf x yq_ _ hx
 have hvs:=hf y yq_ _ hy
 have hgen:g=C.γ id:=hH.gen id _ ho
 have hgen2:g2=C.γ id2:=hH.gen id2 _ ho2
 have hnl:((els2.drop e2).take n).length=n:=by simp; omega
 generalize hu2:f y=u2 at hvs
 cases hvs with
 | osl0=>omega
 | osl _ _ _ _ _ _ ad2 cap2 hnc2 hle2 hl2 =>
 have hvs':VR G w C (.osl id2 g2 k e2 n) (.slice (some ad2) n cap2):=.osl _ _ _ _ _ _ _ _ ya_ hle2 fun hg=>by
  obtain ⟨l,b,q1,q2,q3,q4,q5⟩:=hl2 hg
  exact ⟨l,b,q1,q2,q3,by omega,q5⟩
 obtain ⟨nv,hsrc⟩:=iK (P:=P) (k:=k) (xs:=(els2.drop e2).take n) hH hvs' (by simp [F5,ho2,he2])
 generalize hu:f x=u at hv
 cases hv with
 | osl0=>omega
 | osl _ _ _ _ _ _ ad cap hnc hle h =>
  obtain ⟨l,bb,hι,hlb,hlk,hen,hcap,had⟩:=h hgen
  have had':=had ya_
  subst had'
  have hob:=hH.ob id _ l ho hι
  obtain ⟨cur,et,hcur,hcsz,_⟩:=hob.cells bb hlb
  obtain ⟨h1,h2⟩:=sK hH ho hι hlb hlk hsrc.length hsrc.row hsrc.rel he ya_ hcur
  rw [hnl] at h2
  have hm:(e+n) * l.k<=l.room * l.k:=Nat.mul_le_mul_right _ ya_
  rw [Nat.add_mul] at hm
  have hnvl:nv.length=n * l.k:=by rw [hsrc.length,hlk,hnl]
  have hst:=run_storeCells_at P bb (l.sh+e * k) et nv 0 cur w hcur (by rw [<- hlk]; simp; omega) hsrc.oneCell
  simp only [Nat.add_zero] at hst
  have hmin:Nat.min n2 n=n:=Nat.min_eq_right hn
  have hfc:(Builtin.firstCells k n (.slice (some ad2) n2 cap2)).run P w=.ok nv.toArray w:=by
   have:=hsrc.cells w rfl
   rw [hnl] at this
   exact this
  have hr:(Builtin.copy_ #[t,t'] type #[f x,f y]).run P w=.ok (.int .i64 (n:Int)) (w.setRow bb (cur.toList.take (l.sh+e * l.k)++nv++cur.toList.drop (l.sh+e * l.k+nv.length)).toArray):=by
   rw [hu,hu2,hlk]
   simp [Builtin.copy_,run_underlying ht,Builtin.lenOf,hmin,hk w,hfc,hst,goInt]
  refine ⟨_,_,?_,G,C,h1,h2,.int ..,?_⟩
  · simp [execOp,resolve,invoke,builtin,hr]
  · refine ⟨by simp,fun j hj _ hιj=>⟨hιj,rfl,?_⟩⟩
    have hne:id≠j:=fun e'=>by subst e'; rw [hι] at hιj; simp at hιj
    exact List.getElem?_set_ne hne
theorem a2T {P:Program} (w:World) (tS tR e:TypeId) (ht:P.underlying tS=some (.slice e)) (size:Nat) (hz:∀ w,(Go.sizeOf e).run P w=.ok size w)
 (a b:Addr) (la ca lb cb:Nat) (hne:a.block≠b.block) (tA tB:TypeId) (kA kB:Nat)
 (hsa:w.shape? a.block=some (tA,kA)) (hsb:w.shape? b.block=some (tB,kB)) (hkB:kB≠0) (hkA:kA≠0)
 (hfb:w.frozen? b=false) (hfe:w.frozen? { block:=b.block,off:=kB }=false) :
 (Extern.SlicesOverlaps.overlaps #[tS,tS] #[tR] #[.slice (some a) la ca,.slice (some b) lb cb]).run P w=.ok (.bool false) w:=by
 have hnb:(a.block != b.block)=true:=by simpa using hne
 have hnb':(a.block == b.block)=false:=by simpa using hne
 change Sem.run P (α:=Value) (do
  let some t := (#[tS, tS] : Array TypeId)[0]? | stuck "slices.overlaps: no parameter types"
  let .slice elem ← underlying t | stuck "slices.overlaps: slice type expected"
  let size <- Go.sizeOf elem
  match (some a:Option Addr),(some b:Option Addr) with
  | some a,some b =>
   if la=0\/lb=0\/size=0 then pure (Value.bool false)
   else if a.block != b.block&&(<- frozen a)&&(<- frozen b) then unsupported .addressObserved
   else do
    if a.block != b.block then do
     noView a; noView b
     if ← mayBeOne a b then return Value.bool ((← choose (.extern "sameAddr.stringBytes" 2)) == 1)
    pure (Value.bool (a.block == b.block&&a.off < b.off+lb * size&&b.off < a.off+la * size))
  | _,_=>pure (Value.bool false)) w=_
 by_cases h0:la=0\/lb=0\/size=0
 · simp [run_underlying ht,hz,h0]
 · cases kB with
   | zero=>exact absurd rfl hkB
   | succ kB =>
    cases kA with
    | zero=>exact absurd rfl hkA
    | succ kA =>
    cases hfa:w.frozen? a <;> cases hfa2:w.frozen? { block:=a.block,off:=kA+1 } <;>
    simp [run_underlying ht,hz,h0,hnb,hnb',frozen,noView,viewAt,mayBeOne,stringish,shape,Sem.run,hsa,hsb,hfb,hfe,hfa,hfa2]
theorem a2A {P:Program} {f:FuncId} {tS tR e0:TypeId} {k:Nat} (hc:∀ vs w,(callFunc f vs).run P w=((Extern.SlicesOverlaps.overlaps #[tS,tS] #[tR] vs).run P w).andThen fun v w'=>.ok (.value v) w')
 (ht:P.underlying tS=some (.slice e0)) (hk:∀ w:World,(Go.sizeOf e0).run P w=.ok k w) (hk0:0 < k) {tg:Tg} {rows:List (List AV)} {id g e n:Nat} {H:Heap} {o:Ob} (ho:H[id]?=some o) (hg:o.gen=g) :
 l6 P f [.sl tg k rows,.osl id g k e n] H (.bool false,H):=by
 intro G w C vs hsz hargs hH
 have h0:=hargs 0 yf_
 have h1:=hargs 1 yf_
 have hvs:vs = #[vs.getD 0 undef,vs.getD 1 undef]:=by
  have hs2:vs.size=2:=by simpa using hsz
  apply Array.ext
  · simp [hs2]
  · intro i hi1 hi2
    rcases i with _ | _ | i
    · simp [Array.getD_eq_getD_getElem?,hs2]
    · simp [Array.getD_eq_getD_getElem?,hs2]
    · omega
 simp only [List.getD_cons_zero,List.getD_cons_succ] at h0 h1
 generalize vs.getD 0 undef=v0 at h0 hvs
 generalize vs.getD 1 undef=v1 at h1 hvs
 subst hvs
 have hdone:(Extern.SlicesOverlaps.overlaps #[tS,tS] #[tR] #[v0,v1]).run P w=.ok (.bool false) w->dU P f #[v0,v1] w (After G w C H (.bool false,H)):=fun hr=>by
  unfold dU
  have:=hc #[v0,v1] w
  rw [this]
  rw [hr,Result.andThen_ok]
  exact ⟨G,C,Ev.refl ..,hH,.bool ..,Pd.refl⟩
 apply hdone
 have hgen:g=C.γ id:=by rw [<- hg]; exact hH.gen id o ho
 have hsome:∀ (a:Option Addr) la ca (b:Option Addr) lb cb,(a=none\/b=none\/la=0\/lb=0)->(Extern.SlicesOverlaps.overlaps #[tS,tS] #[tR] #[.slice a la ca,.slice b lb cb]).run P w=.ok (.bool false) w:=by
  intro a la ca b lb cb h
  change Sem.run P (α:=Value) (do
   let some t := (#[tS, tS] : Array TypeId)[0]? | stuck "slices.overlaps: no parameter types"
   let .slice elem ← underlying t | stuck "slices.overlaps: slice type expected"
   let size <- Go.sizeOf elem
   match (a:Option Addr),(b:Option Addr) with
   | some a,some b =>
    if la=0\/lb=0\/size=0 then pure (Value.bool false)
    else if a.block != b.block&&(<- frozen a)&&(<- frozen b) then unsupported .addressObserved
    else do
     if a.block != b.block then do
      noView a; noView b
      if ← mayBeOne a b then return Value.bool ((← choose (.extern "sameAddr.stringBytes" 2)) == 1)
     pure (Value.bool (a.block == b.block&&a.off < b.off+lb * size&&b.off < a.off+la * size))
   | _,_=>pure (Value.bool false)) w=_
  cases a <;> cases b <;> simp [run_underlying ht,hk w]
  intro h1 h2 h3
  rcases h with h | h | h | h
  · simp at h
  · simp at h
  · exact absurd h h1
  · exact absurd h h2
 generalize hu0:v0=u0 at h0
 cases h0 with
 | nils=>
  cases h1 with
  | osl=>subst hu0; exact hsome _ _ _ _ _ _ (.inl rfl)
  | osl0=>subst hu0; exact hsome _ _ _ _ _ _ (.inl rfl)
 | sl _ _ _ _ ad cap htg hclip hle hs cv hkl hcl h1' hv =>
  subst hu0
  cases h1 with
  | osl0=>exact hsome _ _ _ _ _ _ (.inr (.inr (.inr rfl)))
  | osl _ _ _ _ _ _ ad2 cap2 hnc hle2 hl2 =>
   by_cases hr0:rows.length=0
   · exact hsome _ _ _ _ _ _ (.inr (.inr (.inl hr0)))
   by_cases hn0:n=0
   · exact hsome _ _ _ _ _ _ (.inr (.inr (.inr hn0)))
   obtain ⟨l,b,hι,hlb,hlk,hen,hcap,had⟩:=hl2 hgen
   have had':=had ya_
   have hne:rows≠[]:=fun e=>by simp [e] at hr0
   obtain ⟨hsp,hG⟩:=hs hne
   have hcell:=hcl 0 0 ya_ hk0
   obtain ⟨cs,et,hcs,hcsz,_⟩:=(hH.ob id o l ho hι).cells b hlb
   have hbG:=(hH.own id l b hι hlb).2
   have hm:(e+n) * l.k<=l.room * l.k:=Nat.mul_le_mul_right _ hen
   have hm2:1 * l.k<=(e+n) * l.k:=Nat.mul_le_mul_right _ ya_
   have hsa:∃ tA kA,w.shape? ad.block=some (tA,kA)/\kA≠0:=by
    unfold World.cell? at hcell
    unfold World.shape?
    split at hcell
    · rename_i c t fr hw
      refine ⟨t,c.size,by simp only at hw; rw [hw],fun e0=>?_⟩
      have:c = #[]:=Array.eq_empty_of_size_eq_zero e0
      simp [this] at hcell
    · simp at hcell
   obtain ⟨tA,kA,hsa,hkA⟩:=hsa
   have hb2:ad2.block=b:=by rw [had']
   refine a2T w tS tR e0 ht k hk ad ad2 _ _ _ _ (fun e'=>?_) tA et kA cs.size hsa (by rw [hb2]; simp [World.shape?,hcs]) ya_ hkA (by simp [World.frozen?,hb2,hcs]) (by simp [World.frozen?,hb2,hcs])
   rw [hb2] at e'
   exact hbG (e' ▸ hG)
end Go.Proofs.YtfjedpipdnlkfaaGreat.AM
