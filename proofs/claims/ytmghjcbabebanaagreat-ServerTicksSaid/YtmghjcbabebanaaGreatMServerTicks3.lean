/-
  Part 3 of 8: an abstract machine over the model; walks; plain laws.
-/
import Derived.Test.YtmghjcbabebanaaGreatMServerTicks2
import Derived.Laws.Externs
set_option linter.unusedVariables false
set_option linter.unusedSimpArgs false
set_option maxRecDepth 100000
namespace Go.Proofs.YtmghjcbabebanaaGreat.AM
open Go
theorem a7w {xs new:List (List AV)} {q:Nat} (hq:q<=xs.length) (r:Nat) (hr:r < (xs.take q++new++xs.drop (q+new.length)).length) :
 if q<=r/\r < q+new.length then (xs.take q++new++xs.drop (q+new.length)).getD r []=new.getD (r - q) [] else r < xs.length/\(xs.take q++new++xs.drop (q+new.length)).getD r []=xs.getD r []:=by
 have hl:(xs.take q).length=q:=by simp; omega
 simp only [List.getD_eq_getElem?_getD]
 split
 · rename_i h
   rw [List.append_assoc,List.getElem?_append_right ya_,hl,List.getElem?_append_left ya_]
 · rename_i h
   simp only [List.length_append,hl,List.length_drop] at hr
   rcases Nat.lt_or_ge r q with h1 | h1
   · refine ⟨by omega,?_⟩
     rw [List.append_assoc,List.getElem?_append_left ya_,List.getElem?_take_of_lt h1]
   · have h2:q+new.length<=r:=by omega
     refine ⟨by omega,?_⟩
     rw [List.getElem?_append_right (by simp [hl]; omega),List.getElem?_drop]
     congr 2
     simp [hl]; omega
theorem xB {G:Nat->Prop} {w:World} {C:Cx} {H:Heap} (hH:HR G w C H) {id:Nat} {o:Ob} {l:Loc} {bb k q:Nat} (ho:H[id]?=some o) (hι:C.ι id=some l) (hlb:l.b=some bb) (hlk:l.k=k)
 {new:List (List AV)} {nv:List Value} (hlen0:nv.length=new.length * k) (hrow0:∀ i,i < new.length->(new.getD i []).length=k) (hrel0:∀ i j,i < new.length->j < k->(nv.getD (i * k+j) undef).oneCell'=true/\VR G w C ((new.getD i []).getD j .skip) (nv.getD (i * k+j) undef)) (hq:q<=o.els.length) (hroom:q+new.length<=l.room) {cur:Array Value} {et:TypeId} (hcur:w.heap[bb]?=some (.cells cur et (0,0))) :
 Ev G w C G (w.setRow bb (cur.toList.take (l.sh+q * l.k)++nv++cur.toList.drop (l.sh+q * l.k+nv.length)).toArray) C /\
 HR G (w.setRow bb (cur.toList.take (l.sh+q * l.k)++nv++cur.toList.drop (l.sh+q * l.k+nv.length)).toArray) C (H.set id { o with els:=o.els.take q++new++o.els.drop (q+new.length) }):=by
 have hob:=hH.ob id o l ho hι
 have hgγ:=hH.gen id o ho
 obtain ⟨hk1,hrm1,hno1,hlen1,hrow1,hcs1⟩:=hob
 obtain ⟨cur',et',hcur',hcsz,hcell⟩:=hcs1 bb hlb
 obtain ⟨rfl,rfl⟩:cur'=cur/\et'=et:=by rw [hcur] at hcur'; simp at hcur'; exact ⟨hcur'.1.symm,hcur'.2.symm⟩
 have hlt:id < H.length:=by
  rcases Nat.lt_or_ge id H.length with h' | h'
  · exact h'
  · rw [List.getElem?_eq_none h'] at ho; simp at ho
 have hm:(q+new.length) * l.k<=l.room * l.k:=Nat.mul_le_mul_right _ hroom
 rw [Nat.add_mul] at hm
 have hnvl:nv.length=new.length * l.k:=by rw [hlen0,hlk]
 have hev:Mv G w C G (w.setRow bb (cur'.toList.take (l.sh+q * l.k)++nv++cur'.toList.drop (l.sh+q * l.k+nv.length)).toArray) C :=
  ⟨fun _ h=>h,fun b' hb'=>setRow_other w _ _ _ fun e'=>(hH.own id l bb hι hlb).2 (e' ▸ hb'),Y5.refl _⟩
 refine hH.upd (G':=G) (C':=C) id { o with els:=o.els.take q++new++o.els.drop (q+new.length) } rfl rfl rfl (fun j hj=>⟨rfl,rfl⟩) (Nat.le_refl _) (fun _ l2 hl2=>hl2)
  (fun j hj=>List.getElem?_set_ne (Ne.symm hj)) (List.getElem?_set_self hlt) ye_ ya_ hgγ (fun _ h=>h) (fun _ h=>.inl h)
  (fun b' _ hb'=>setRow_other w _ _ _ fun e'=>hb' l hι (by rw [hlb,e'])) ye_ (fun b' hb'=>by simpa using hH.gsz b' hb') (fun l2 b2 hl2 hb2=>.inl ⟨l2,hl2,hb2⟩) (rU w _ _ _ _ _ hcur) fun l2 hl2=>?_
 obtain rfl:l=l2:=by rw [hι] at hl2; simpa using hl2
 have hlsz:(cur'.toList.take (l.sh+q * l.k)++nv++cur'.toList.drop (l.sh+q * l.k+nv.length)).length=cur'.size:=by simp; omega
 have hlb':∀ b2,l.b=some b2->b2=bb:=fun b2 h2=>by rw [hlb] at h2; simpa using h2.symm
 refine ⟨fun b2 hb2=>?_,hk1,hrm1,hno1,by simp only [List.length_append,List.length_take,List.length_drop]; omega,fun r hr'=>?_,fun b2 hb2=>?_⟩
 · rw [hlb' b2 hb2]
   exact ⟨by simpa using (hH.own id l bb hι hlb).1,(hH.own id l bb hι hlb).2,fun j hj l2 hl2 e'=>hj (hH.inj _ _ _ _ bb hl2 hι e' hlb)⟩
 · have:=a7w hq r hr'
   split at this
   · rw [this,hlk]; exact hrow0 _ ya_
   · rw [this.2]; exact hrow1 _ this.1
 · rw [hlb' b2 hb2]
   refine ⟨_,et',setRow_heap w _ _ _ _ _ hcur,?_,fun r j hr' hj=>?_⟩
   · have h2:(cur'.toList.take (l.sh+q * l.k)++nv++cur'.toList.drop (l.sh+q * l.k+nv.length)).toArray.size=cur'.size:=by simpa using hlsz
     rw [h2]; exact hcsz
   · have hA2:((cur'.toList.take (l.sh+q * l.k)++nv++cur'.toList.drop (l.sh+q * l.k+nv.length)).toArray).getD (l.sh+r * l.k+j) undef=if q<=r/\r < q+new.length then nv.getD ((r - q) * l.k+j) undef else cur'.toList.getD (l.sh+r * l.k+j) undef:=by
      rw [<- b0d (xs:=new) hnvl (by rw [hnvl]; simp; omega) hj]
      simp [Array.getD_eq_getD_getElem?,List.getD_eq_getElem?_getD]
     rw [hA2]
     have:=a7w hq r hr'
     split at this
     · rename_i hin
       rw [if_pos hin,this]
       obtain ⟨h3,h4⟩:=hrel0 (r - q) j ya_ ya_
       rw [<- hlk] at h3 h4
       exact ⟨h3,h4.mv hev⟩
     · rename_i hin
       rw [if_neg hin,this.2]
       have hcg:cur'.toList.getD (l.sh+r * l.k+j) undef=cur'.getD (l.sh+r * l.k+j) undef:=by simp [Array.getD_eq_getD_getElem?,List.getD_eq_getElem?_getD]
       rw [hcg]
       obtain ⟨h3,h4⟩:=hcell r j this.1 hj
       exact ⟨h3,h4.mv hev⟩
theorem c2c {P:Program} {F:Fr} {H:Heap} {dst:Option Tmp} {x y:Operand} {t t' e0:TypeId} {type:TypeId} {pos:String} {after:Array Edge} {guard:Option (Nat × Bool)} {id g k e n:Nat} {els new:List (List AV)} {room:Option Nat} {s:AV}
 (ht:P.underlying t=some (.slice e0)) (hk:∀ w:World,(Go.sizeOf e0).run P w=.ok k w) (hx:opv F x=some (.osl id g k e n)) (ho:H[id]?=some ⟨g,k,els,room⟩) (hy:opv F y=some s) (hs:I5 H k s=some new)
 (h0:0 < new.length) (hn:new.length<=n) (he:e<=els.length) :
 lS P F H ⟨dst,.call { callee:=.builtin .copy,args:=#[x,y],argTypes:=#[t,t'] },type,pos,after,guard⟩ (.int .i64 (new.length:Int),H.set id ⟨g,k,els.take e++new++els.drop (e+new.length),room⟩):=by
 intro G w C f hf hH
 have hv:=hf x yp_ _ hx
 have hvs:=hf y yp_ _ hy
 have hgen:g=C.γ id:=hH.gen id _ ho
 obtain ⟨nv,hsrc⟩:=jT (P:=P) hH hvs hs
 generalize hu:f x=u at hv
 cases hv with
 | osl0=>omega
 | osl _ _ _ _ _ _ ad cap hnc hle h =>
  obtain ⟨l,bb,hι,hlb,hlk,hen,hcap,had⟩:=h hgen
  have had':=had ya_
  subst had'
  have hob:=hH.ob id _ l ho hι
  obtain ⟨cur,et,hcur,hcsz,_⟩:=hob.cells bb hlb
  obtain ⟨h1,h2⟩:=xB hH ho hι hlb hlk hsrc.length hsrc.row hsrc.rel he ya_ hcur
  have hm:(e+new.length) * l.k<=l.room * l.k:=Nat.mul_le_mul_right _ ya_
  rw [Nat.add_mul] at hm
  have hnvl:nv.length=new.length * l.k:=by rw [hsrc.length,hlk]
  have hst:=run_storeCells_at P bb (l.sh+e * k) et nv 0 cur w hcur (by rw [<- hlk]; simp; omega) hsrc.oneCell
  simp only [Nat.add_zero] at hst
  have hmin:Nat.min new.length n=new.length:=Nat.min_eq_left hn
  have hr:(Builtin.copy_ #[t,t'] type #[f x,f y]).run P w=.ok (.int .i64 (new.length:Int)) (w.setRow bb (cur.toList.take (l.sh+e * l.k)++nv++cur.toList.drop (l.sh+e * l.k+nv.length)).toArray):=by
   rw [hu,hlk]
   simp [Builtin.copy_,run_underlying ht,hsrc.len w,hmin,hk w,hsrc.cells w rfl,hst,goInt]
  refine ⟨_,_,?_,G,C,h1,h2,.int ..,?_⟩
  · simp [execOp,resolve,invoke,builtin,hr]
  · refine ⟨by simp,fun j hj _ hιj=>⟨hιj,rfl,?_⟩⟩
    have hne:id≠j:=fun e'=>by subst e'; rw [hι] at hιj; simp at hιj
    exact List.getElem?_set_ne hne
theorem b5p {P:Program} {F:Fr} {H:Heap} {dst:Option Tmp} {x:Operand} {t e0:TypeId} {type:TypeId} {pos:String} {after:Array Edge} {guard:Option (Nat × Bool)} {id g k e n:Nat} {els:List (List AV)} {room:Option Nat} {z:Value}
 (ht:P.underlying t=some (.slice e0)) (hz:∀ w:World,(zeroValue e0).run P w=.ok z w) (hzs:z.cells.size=k) (hz1:∀ v∈z.cells.toList,v.oneCell'=true) (hk0:0 < k) (hx:opv F x=some (.osl id g k e n)) (ho:H[id]?=some ⟨g,k,els,room⟩)
 (h0:0 < n) (he:e<=els.length) :
 lS P F H ⟨dst,.call { callee:=.builtin .clear,args:=#[x],argTypes:=#[t] },type,pos,after,guard⟩ (.unk,H.set id ⟨g,k,els.take e++List.replicate n (List.replicate k .unk)++els.drop (e+n),room⟩):=by
 intro G w C f hf hH
 have hv:=hf x yp_ _ hx
 have hgen:g=C.γ id:=hH.gen id _ ho
 generalize hu:f x=u at hv
 cases hv with
 | osl0=>omega
 | osl _ _ _ _ _ _ ad cap hnc hle h =>
  obtain ⟨l,bb,hι,hlb,hlk,hen,hcap,had⟩:=h hgen
  have had':=had ya_
  subst had'
  have hob:=hH.ob id _ l ho hι
  obtain ⟨cur,et,hcur,hcsz,_⟩:=hob.cells bb hlb
  have hzl:(Builtin.zeroCells z.cells n).toList.length=n * k:=by simp [Builtin.zeroCells,hzs]
  have hone:∀ v∈(Builtin.zeroCells z.cells n).toList,v.oneCell'=true:=fun v hv=>by
   simp only [Builtin.zeroCells,Array.toList_map,List.mem_map] at hv
   obtain ⟨i,hi,rfl⟩:=hv
   refine hz1 _ ?_
   have hlt:i % z.cells.size < z.cells.size:=Nat.mod_lt _ ya_
   rw [getElem!_pos z.cells _ hlt]
   simp
  have hl2:(List.replicate n (List.replicate k AV.unk)).length=n:=by simp
  obtain ⟨h1,h2⟩:=xB (new:=List.replicate n (List.replicate k AV.unk)) (nv:=(Builtin.zeroCells z.cells n).toList) hH ho hι hlb hlk (by rw [hl2,hzl]) (fun i hi=>by
   rw [hl2] at hi
   simp [List.getD_eq_getElem?_getD,List.getElem?_replicate,hi]) (fun i j hi hj=>by
   rw [hl2] at hi
   have hlt:=kD hi hj
   refine ⟨?_,?_⟩
   · rw [List.getD_eq_getElem?_getD,List.getElem?_eq_getElem (by rw [hzl]; exact hlt)]
     exact hone _ (List.getElem_mem _)
   · simp only [List.getD_eq_getElem?_getD,List.getElem?_replicate,hi,hj,if_true,Option.getD_some]
     exact .unk ..) he (by rw [hl2]; omega) hcur
  rw [hl2] at h2
  have hm:(e+n) * l.k<=l.room * l.k:=Nat.mul_le_mul_right _ ya_
  rw [Nat.add_mul] at hm
  have hst:=run_storeCells_at P bb (l.sh+e * k) et (Builtin.zeroCells z.cells n).toList 0 cur w hcur (by rw [hzl,<- hlk]; simp; omega) hone
  simp only [Nat.add_zero] at hst
  have hn0:n≠0:=by omega
  have hr:(Builtin.clear_ #[t] type #[f x]).run P w=.ok (.tuple #[]) (w.setRow bb (cur.toList.take (l.sh+e * l.k)++(Builtin.zeroCells z.cells n).toList++cur.toList.drop (l.sh+e * l.k+(Builtin.zeroCells z.cells n).toList.length)).toArray):=by
   rw [hu,hlk]
   simp only [Builtin.clear_]
   cases n with
   | zero=>omega
   | succ n=>simp [run_underlying ht,hz w,hst]
  refine ⟨.tuple #[],_,?_,G,C,h1,h2,.unk ..,?_⟩
  · simp [execOp,resolve,invoke,builtin,hr]
  · refine ⟨by simp,fun j hj _ hιj=>⟨hιj,rfl,?_⟩⟩
    have hne:id≠j:=fun e'=>by subst e'; rw [hι] at hιj; simp at hιj
    exact List.getElem?_set_ne hne
theorem a4y {P:Program} {G:Nat->Prop} {w:World} {C:Cx} {t t' ty e:TypeId} {i:TypeInfo} {z:Value} {kk kx:IntKind} (ht:P.underlying t=some (.slice e)) (ht':P.underlying t'=some (.int kk)) (hi:P.info? e=some i) (hz:i.zero=some z)
 (c:Nat) {ys:List (List AV)} {ov:List Value} (base:Option Addr) (sLen sCap:Nat) (ho:Src P G w C i.size (.slice base sLen sCap) ys ov) (hlen:ys.length=sLen)
 (hg:sCap < sLen+c) (hb:0 < i.bytes) (hs:0 < i.size) (hc:0 < c) (hby:(sLen+c) * i.bytes<=140737488355328) :
 (Builtin.append_ #[t,t'] ty #[.slice base sLen sCap,.int kx (c:Int)]).run P w =
  .ok (.slice (some ⟨w.heap.size,0,none⟩) (sLen+c) (grownCap w (sLen+c) sCap e))
   (w.drew.alloc (.cells (ov.toArray++Builtin.zeroCells z.cells c++Builtin.zeroCells z.cells (grownCap w (sLen+c) sCap e - (sLen+c))) e)):=by
 subst hlen
 have hn:¬ (ys.length+c<=sCap):=by omega
 have hfit:=growslice_fits hg hby
 have h48':¬ (281474976710656 < Builtin.nextslicecap (ys.length+c) sCap * i.bytes):=by omega
 have hb0:¬ i.bytes=0:=by omega
 have hfo:=ho.cells w.drew rfl
 have hcb:c * 1<=c * i.bytes:=Nat.mul_le_mul_left _ hb
 have hcm:c * i.bytes<=(ys.length+c) * i.bytes:=Nat.mul_le_mul_right _ ya_
 have hcs:c<=140737488355328:=by omega
 have hw:IntKind.i64.wrap (c:Int)=(c:Int):=a1f ya_ ya_
 have hcs0:¬ (c * i.size=0):=by
  have:=Nat.mul_pos hc hs; omega
 have h0:¬ ((c:Int) < 0):=by omega
 have h48:¬ ((281474976710656:Int) < (c:Int) * (i.bytes:Int)):=by
  have:((c * i.bytes:Nat):Int)<=140737488355328:=by omega
  rw [Int.natCast_mul] at this; omega
 have hmx:¬ ((9223372036854775807:Int) < (ys.length:Int)+(c:Int)):=by
  have:(ys.length+c) * 1<=(ys.length+c) * i.bytes:=Nat.mul_le_mul_left _ hb
  omega
 simp [Builtin.append_,run_underlying ht,run_underlying ht',Go.sizeOf,typeInfo,zeroValue,hi,hz,asInt,asIntOf,hw,h0,h48,hn,hb0,h48',hmx,hcs0,Question.forced,hfo,newRow,grownCap]
theorem c7H {z:Value} {k c:Nat} (hzs:z.cells.size=k) (hk0:0 < k) (hz1:∀ v∈z.cells.toList,v.oneCell'=true):(Builtin.zeroCells z.cells c).size=c * k/\∀ v∈(Builtin.zeroCells z.cells c).toList,v.oneCell'=true:=by
 refine ⟨by simp [Builtin.zeroCells,hzs],fun v hv=>?_⟩
 simp only [Builtin.zeroCells,Array.toList_map,List.mem_map] at hv
 obtain ⟨i,hi,rfl⟩:=hv
 refine hz1 _ ?_
 have hlt:i % z.cells.size < z.cells.size:=Nat.mod_lt _ ya_
 rw [getElem!_pos z.cells _ hlt]
 simp
theorem c4o {P:Program} {G:Nat->Prop} {w:World} {C:Cx} {H:Heap} (hH:HR G w C H) {t t' ty e:TypeId} {i:TypeInfo} {z:Value} {kk kx:IntKind} (ht:P.underlying t=some (.slice e)) (ht':P.underlying t'=some (.int kk)) (hi:P.info? e=some i) (hz:i.zero=some z)
 (hzs:z.cells.size=i.size) (hz1:∀ v∈z.cells.toList,v.oneCell'=true) (c:Nat) {ys:List (List AV)} {ov:List Value} (base:Option Addr) (sLen sCap:Nat) (ho:Src P G w C i.size (.slice base sLen sCap) ys ov) (hlen:ys.length=sLen)
 (hg:sCap < sLen+c) (hb:0 < i.bytes) (hs:0 < i.size) (hc:0 < c) (hby:(sLen+c) * i.bytes<=140737488355328) :
 ∃ v w',(Builtin.append_ #[t,t'] ty #[.slice base sLen sCap,.int kx (c:Int)]).run P w=.ok v w'/\After G w C H (.osl H.length 0 i.size 0 (sLen+c),H++[⟨0,i.size,ys++List.replicate c (List.replicate i.size .unk),none⟩]) v w':=by
 have hr:=a4y (ty:=ty) (kx:=kx) ht ht' hi hz c base sLen sCap ho hlen hg hb hs hc hby
 subst hlen
 have hge:=grownCap_ge w (ys.length+c) sCap e
 generalize grownCap w (ys.length+c) sCap e=cap at hr hge
 obtain ⟨z1,z2⟩:=c7H (c:=c) hzs hs hz1
 have hl2:(List.replicate c (List.replicate i.size AV.unk)).length=c:=by simp
 have hnone:=hH.out H.length (Nat.le_refl _)
 have hcells:∀ q,(ov.toArray++Builtin.zeroCells z.cells c++Builtin.zeroCells z.cells (cap - (ys.length+c))).getD q undef=(ov++(Builtin.zeroCells z.cells c).toList++(Builtin.zeroCells z.cells (cap - (ys.length+c))).toList).getD q undef:=fun q=>by
  rw [List.getD_eq_getElem?_getD,Array.getD_eq_getD_getElem?]
  congr 1
  rw [<- Array.getElem?_toList]
  simp
 have hrow2:∀ q,q < c->((List.replicate c (List.replicate i.size AV.unk)).getD q [])=List.replicate i.size AV.unk:=fun q hq=>by simp [List.getD_eq_getElem?_getD,List.getElem?_replicate,hq]
 have hm:=hH.made (w':=w.drew.alloc (.cells (ov.toArray++Builtin.zeroCells z.cells c++Builtin.zeroCells z.cells (cap - (ys.length+c))) e)) (H':=H++[⟨0,i.size,ys++List.replicate c (List.replicate i.size .unk),none⟩]) H.length i.size (ys++List.replicate c (List.replicate i.size .unk))
  (ov.toArray++Builtin.zeroCells z.cells c++Builtin.zeroCells z.cells (cap - (ys.length+c))) e rfl rfl rfl rfl cap 0 (by simpa using hge) ?_ (fun q hq=>?_) ya_ (fun _=>hnone.2) (fun j hj=>by
   rcases Nat.lt_or_ge j H.length with h' | h'
   · rw [List.getElem?_append_left h']
   · rw [List.getElem?_eq_none yg_,List.getElem?_eq_none ya_]) ye_ ye_ (Nat.le_refl _) fun q j hq hj=>?_
 · refine ⟨_,_,hr,G,_,hm.1,hm.2,.osl _ _ _ _ _ _ _ _ hge yi_ fun _=>⟨_,_,Cx.U3 ..,rfl,rfl,by simpa using hge,by simp,fun _=>by simp⟩,by simp,fun id hl _ hιd=>?_⟩
   have hne:id≠H.length:=by omega
   exact ⟨by rw [(Cx.L6 _ _ _ _ hne).1]; exact hιd,(Cx.L6 _ _ _ _ hne).2,by rw [List.getElem?_append_left hl]⟩
 · simp only [Array.size_append,List.size_toArray,size_zeroCells,hzs,ho.length,<- Nat.add_mul]
   refine Nat.mul_le_mul_right _ ?_
   omega
 · simp only [List.length_append,hl2] at hq
   rw [yO]
   split
   · rename_i h; exact ho.row _ h
   · rw [hrow2 _ ya_]; simp
 · simp only [List.length_append,hl2] at hq
   rw [hcells,b4I (xs:=List.replicate c (List.replicate i.size AV.unk)) ho.length (by rw [hl2]; simpa using z1) (by rw [hl2]; exact hq) hj,yO]
   split
   · rename_i h; exact ho.rel _ _ h hj
   · rename_i h
     rw [hrow2 _ ya_]
     have hlt:=kD (show q - ys.length < c by omega) hj
     refine ⟨?_,?_⟩
     · rw [List.getD_eq_getElem?_getD,List.getElem?_eq_getElem (show _ < (Builtin.zeroCells z.cells c).size by rw [z1]; exact hlt)]
       exact z2 _ (List.getElem_mem _)
     · simp only [List.getD_eq_getElem?_getD,List.getElem?_replicate,hj,if_true,Option.getD_some]
       exact .unk ..
theorem c2b {P:Program} {F:Fr} {H:Heap} {dst:Option Tmp} {x y:Operand} {t t' e0:TypeId} {type:TypeId} {pos:String} {after:Array Edge} {guard:Option (Nat × Bool)} {id g e n r c:Nat} {els ys:List (List AV)} {i:TypeInfo} {z:Value} {kk kx:IntKind}
 (ht:P.underlying t=some (.slice e0)) (ht':P.underlying t'=some (.int kk)) (hi:P.info? e0=some i) (hz:i.zero=some z) (hzs:z.cells.size=i.size) (hz1:∀ v∈z.cells.toList,v.oneCell'=true)
 (hx:opv F x=some (.osl id g i.size e n)) (ho:H[id]?=some ⟨g,i.size,els,some r⟩) (hrows:I5 H i.size (.osl id g i.size e n)=some ys) (hlen:ys.length=n) (hy:opv F y=some (.int kx (c:Int)))
 (hg:r - e < n+c) (hb:0 < i.bytes) (hs:0 < i.size) (hc:0 < c) (hby:(n+c) * i.bytes<=140737488355328) :
 lS P F H ⟨dst,.call { callee:=.builtin .append,args:=#[x,y],argTypes:=#[t,t'] },type,pos,after,guard⟩ (.osl H.length 0 i.size 0 (n+c),H++[⟨0,i.size,ys++List.replicate c (List.replicate i.size .unk),none⟩]):=by
 intro G w C f hf hH
 have hv:=hf x yp_ _ hx
 have hvy:=hf y yp_ _ hy
 have hgen:g=C.γ id:=hH.gen id _ ho
 obtain ⟨ov,hsrc⟩:=jT (P:=P) hH hv hrows
 generalize huy:f y=uy at hvy
 cases hvy
 have fin:∀ base sCap,f x=.slice base n sCap->sCap < n+c->∃ v w',(execOp f (⟨dst,.call { callee:=.builtin .append,args:=#[x,y],argTypes:=#[t,t'] },type,pos,after,guard⟩:Oper)).run P w=.ok (.value v) w'/\After G w C H (.osl H.length 0 i.size 0 (n+c),H++[⟨0,i.size,ys++List.replicate c (List.replicate i.size .unk),none⟩]) v w':=by
  intro base sCap hfx hcap
  rw [hfx] at hsrc
  obtain ⟨v,w',h1,h2⟩:=c4o (ty:=type) (kx:=kx) hH ht ht' hi hz hzs hz1 c base n sCap hsrc hlen hcap hb hs hc hby
  refine ⟨v,w',?_,h2⟩
  simp [execOp,resolve,invoke,builtin,hfx,huy,h1]
 generalize hu:f x=u at hv
 cases hv with
 | osl _ _ _ _ _ _ ad cap hnc hle h =>
  obtain ⟨l,bb,hι,hlb,hlk,hen,hcap,_⟩:=h hgen
  have:=(hH.ob id _ l ho hι).rm r rfl
  exact fin _ _ hu ya_
 | osl0 _ _ _ _ _ base hle h=>exact fin _ _ hu ya_
theorem b2Q {P:Program} {F:Fr} {H:Heap} {dst:Option Tmp} {x y m:Operand} {lo:Option Operand} {t e0:TypeId} {type:TypeId} {pos:String} {after:Array Edge} {guard:Option (Nat × Bool)} {id g k e n l h c:Nat}
 (ht:P.underlying t=some (.slice e0)) (hk:∀ w:World,(Go.sizeOf e0).run P w=.ok k w) (hx:opv F x=some (.osl id g k e n))
 (hlo:M5 F lo 0=some (l:Int)) (hhi:M5 F (some y) 0=some (h:Int)) (hmx:M5 F (some m) 0=some (c:Int)) (h1:l<=h) (h2:h<=c) (h3:c<=n) :
 lS P F H ⟨dst,.slice t x lo (some y) (some m),type,pos,after,guard⟩ (.unk,H):=by
 intro G w C f hf hH
 have hv:=hf x yo_ _ hx
 have hl:=lH (G:=G) (w:=w) (C:=C) (f:=f) hlo fun z hz a ha=>hf z (by simp [Op.operands,hz]) a ha
 have hh:=lH (G:=G) (w:=w) (C:=C) (f:=f) hhi fun z hz a ha=>hf z yt_ a ha
 have hm:=lH (G:=G) (w:=w) (C:=C) (f:=f) hmx fun z hz a ha=>hf z yt_ a ha
 have hb:∀ len cap:Nat,c<=cap->(Instr.sliceBounds true len cap (lo.map f) (some (f y)) (some (f m))).run P w=.ok (l,h,c) w:=by
  intro len cap hc
  rcases hm with ⟨hm,_⟩ | ⟨z,kz,hz,hfm⟩
  · simp at hm
  · simp only [Option.some.injEq] at hz
    subst hz
    rcases hh with ⟨hh,_⟩ | ⟨z,kz,hz,hfz⟩
    · simp at hh
    · simp only [Option.some.injEq] at hz
      subst hz
      rcases hl with ⟨rfl,h0⟩ | ⟨z,kz',rfl,hz⟩
      · have:l=0:=by omega
        subst this
        simp [Instr.sliceBounds,hfz,hfm,run_sliceBound,hc,h2]
      · simp [Instr.sliceBounds,hz,hfz,hfm,run_sliceBound,hc,h1,h2]
 have fin:∀ base cap,f x=.slice base n cap->n<=cap->∃ v,(Instr.sliceAt t (f x) (lo.map f) (some (f y)) (some (f m))).run P w=.ok v w:=by
  intro base cap hu hcap
  rw [hu]
  simp only [Instr.sliceAt,Instr.slice,Sem.run_bind,run_underlying ht,Result.andThen_ok]
  rw [hb n cap ya_]
  simp only [Result.andThen_ok,hk w,Sem.run_pure,Sem.run_bind]
  exact ⟨_,rfl⟩
 have done:(∃ v,(Instr.sliceAt t (f x) (lo.map f) (some (f y)) (some (f m))).run P w=.ok v w)->∃ v w',(execOp f (⟨dst,.slice t x lo (some y) (some m),type,pos,after,guard⟩:Oper)).run P w=.ok (.value v) w'/\After G w C H (.unk,H) v w':=by
  intro ⟨v,hr⟩
  refine ⟨v,w,?_,G,C,Ev.refl ..,hH,.unk ..,Pd.refl⟩
  simp only [execOp,Option.map_some,Option.map_none,Sem.run_bind,hr,Result.andThen_ok,Sem.run_pure]
 generalize hu:f x=u at hv
 cases hv with
 | osl _ _ _ _ _ _ ad cap hnc hle h=>exact done (fin _ _ hu hnc)
 | osl0 _ _ _ _ _ base hle h=>exact done (fin _ _ hu (Nat.le_refl _))
theorem j5.ghost {P:Program} {f:FuncId} {args:List AV} {H H1 H2:Heap} {a a' x:AV} {i id g:Nat} {o o1:Ob} (h:j5 P f args H (a,H1)) (hi:args[i]?=some x) (hx:(∃ e c,x=.obj id g e c)\/∃ k e n,x=.osl id g k e n)
 (ho:H[id]?=some o) (hg:o.gen=g) (ho1:H1[id]?=some o1) (hg1:o1.gen=g)
 (k:∀ (G:Nat->Prop) (w:World) (C:Cx) (v:Value),HR G w C H1->VR G w C a v->(∃ l,C.ι id=some l)->∃ G' C',Ev G w C G' w C'/\HR G' w C' H2/\VR G' w C' a' v/\Pd V5 C H1 C' H2):j5 P f args H (a',H2):=by
 intro G w C vs hsz hargs hH
 have hlt:i < args.length:=by
  rcases Nat.lt_or_ge i args.length with h' | h'
  · exact h'
  · rw [List.getElem?_eq_none h'] at hi; simp at hi
 have hv:=hargs i hlt
 rw [List.getD_eq_getElem?_getD,hi] at hv
 have hγ:=hH.gen id o ho
 obtain ⟨l,hl⟩:=VR.shows hv hx ya_
 refine (h G w C vs hsz hargs hH).mono fun v w' ⟨G',C',he,hh,hv,hp⟩=>?_
 have hγ1:=hh.gen id o1 ho1
 have hl':C'.ι id=some l:=(he.cx id).2 ya_ l hl
 obtain ⟨G2,C2,h1,h2,h3,h4⟩:=k G' w' C' v hh hv ⟨l,hl'⟩
 exact ⟨G2,C2,he.trans h1,h2,h3,hp.trans h4⟩
theorem j5.c4s {P:Program} {f:FuncId} {args:List AV} {H H1 H2:Heap} {a a':AV} (h:j5 P f args H (a,H1))
 (k:∀ (G:Nat->Prop) (w:World) (C:Cx) (v:Value),HR G w C H1->VR G w C a v->∃ G' C',Ev G w C G' w C'/\HR G' w C' H2/\VR G' w C' a' v/\Pd V5 C H1 C' H2):j5 P f args H (a',H2):=by
 intro G w C vs hsz hargs hH
 refine (h G w C vs hsz hargs hH).mono fun v w' ⟨G',C',he,hh,hv,hp⟩=>?_
 obtain ⟨G2,C2,h1,h2,h3,h4⟩:=k G' w' C' v hh hv
 exact ⟨G2,C2,he.trans h1,h2,h3,hp.trans h4⟩
section
variable {P:Program} {G:Nat->Prop} {w:World} {C:Cx} {H:Heap}
theorem a2M (hH:HR G w C H) {id j g gj k n:Nat} {o oj:Ob} {v:Value} (hne:id≠j) (ho:H[id]?=some o) (hoj:H[j]?=some oj) (hgo:o.gen=g) (hgj:oj.gen=gj) (hv:VR G w C (.osl j gj k 0 n) v) (hl:∃ l,C.ι id=some l) :
 ∃ G' C',Ev G w C G' w C'/\HR G' w C' ((H.set id { oj with gen:=g+1 }).set j ⟨gj+1,k,[],none⟩)/\VR G' w C' (.osl id (g+1) k 0 n) v/\Pd V5 C H C' ((H.set id { oj with gen:=g+1 }).set j ⟨gj+1,k,[],none⟩):=by
 obtain ⟨l,hl⟩:=hl
 have hγ:=hH.gen id o ho
 have hγj:=hH.gen j oj hoj
 have hlt:=uD ho
 have hltj:=uD hoj
 obtain ⟨lj,hlj,hlk⟩:=vT hv ya_
 have hC1:((C.lay id (C.ι j) (g+1)).lay j none (gj+1)).ι j=none:=Cx.U3 ..
 have hC2:((C.lay id (C.ι j) (g+1)).lay j none (gj+1)).γ j=gj+1:=Cx.bG ..
 have hC3:((C.lay id (C.ι j) (g+1)).lay j none (gj+1)).ι id=some lj:=by rw [(Cx.L6 _ _ _ _ hne).1,Cx.U3,hlj]
 have hC4:((C.lay id (C.ι j) (g+1)).lay j none (gj+1)).γ id=g+1:=by rw [(Cx.L6 _ _ _ _ hne).2,Cx.bG]
 have hC5:∀ i,i≠id->i≠j->((C.lay id (C.ι j) (g+1)).lay j none (gj+1)).ι i=C.ι i/\((C.lay id (C.ι j) (g+1)).lay j none (gj+1)).γ i=C.γ i:=fun i h1 h2=>by
  rw [(Cx.L6 _ _ _ _ h2).1,(Cx.L6 _ _ _ _ h2).2,(Cx.L6 _ _ _ _ h1).1,(Cx.L6 _ _ _ _ h1).2]; exact ⟨rfl,rfl⟩
 generalize (C.lay id (C.ι j) (g+1)).lay j none (gj+1)=C' at hC1 hC2 hC3 hC4 hC5
 have hcx:Y5 C C':=fun i=>by
  by_cases h1:i=id
  · subst h1; rw [hC4]; exact ⟨by omega,fun e=>by omega⟩
  · by_cases h2:i=j
    · subst h2; rw [hC2]; exact ⟨by omega,fun e=>by omega⟩
    · rw [(hC5 i h1 h2).1,(hC5 i h1 h2).2]; exact ⟨Nat.le_refl _,fun _ l hl=>hl⟩
 have hback:∀ i m,C'.ι i=some m->∃ i',C.ι i'=some m/\(i=id->i'=j)/\(i≠id->i'=i)/\i≠j:=fun i m hm=>by
  by_cases h2:i=j
  · subst h2; rw [hC1] at hm; simp at hm
  · by_cases h1:i=id
    · subst h1; rw [hC3] at hm; exact ⟨j,by rw [hlj]; exact hm,fun _=>rfl,fun h=>absurd rfl h,h2⟩
    · rw [(hC5 i h1 h2).1] at hm; exact ⟨i,hm,fun h=>absurd h h1,fun _=>rfl,h2⟩
 have hev:Ev G w C G w C':=⟨rfl,rfl,rfl,Nat.le_refl _,fun _ h=>h,fun _ _=>rfl,hcx,fun _ _ _=>rfl,fun _ h=>.inl h,fun i m b hm hb=>by
  obtain ⟨i',h1,_⟩:=hback i m hm
  exact .inl ⟨i',m,h1,hb⟩,fun _=>rfl⟩
 have hget1:((H.set id { oj with gen:=g+1 }).set j ⟨gj+1,k,[],none⟩)[j]?=some ⟨gj+1,k,[],none⟩:=List.getElem?_set_self (by simpa using hltj)
 have hget2:((H.set id { oj with gen:=g+1 }).set j ⟨gj+1,k,[],none⟩)[id]?=some { oj with gen:=g+1 }:=by rw [List.getElem?_set_ne (Ne.symm hne),List.getElem?_set_self hlt]
 have hget3:∀ i,i≠id->i≠j->((H.set id { oj with gen:=g+1 }).set j ⟨gj+1,k,[],none⟩)[i]?=H[i]?:=fun i h1 h2=>by rw [List.getElem?_set_ne (Ne.symm h2),List.getElem?_set_ne (Ne.symm h1)]
 refine ⟨G,C',hev,⟨fun i oi hi=>?_,fun i hi=>?_,fun i m b hm hb=>?_,fun i i2 m m2 b hi hi2 hb hb2=>?_,fun i oi m hi hm=>?_,hH.gsz⟩,?_,by simp,fun i hi hs hi0=>?_⟩
 · by_cases h2:i=j
   · subst h2; rw [hget1] at hi; simp at hi; subst hi; exact hC2.symm
   · by_cases h1:i=id
     · subst h1; rw [hget2] at hi; simp at hi; subst hi; exact hC4.symm
     · rw [hget3 i h1 h2] at hi; rw [(hC5 i h1 h2).2]; exact hH.gen i oi hi
 · simp only [List.length_set] at hi
   have h1:i≠id:=by omega
   have h2:i≠j:=by omega
   rw [(hC5 i h1 h2).1,(hC5 i h1 h2).2]; exact hH.out i hi
 · obtain ⟨i',h1,_⟩:=hback i m hm
   exact hH.own i' m b h1 hb
 · obtain ⟨i',p1,p2,p3,p4⟩:=hback i m hi
   obtain ⟨i2',q1,q2,q3,q4⟩:=hback i2 m2 hi2
   have:=hH.inj _ _ _ _ b p1 q1 hb hb2
   by_cases h1:i=id <;> by_cases h2:i2=id
   · omega
   · have:=p2 h1; have:=q3 h2; omega
   · have:=p3 h1; have:=q2 h2; omega
   · have:=p3 h1; have:=q3 h2; omega
 · obtain ⟨i',p1,p2,p3,p4⟩:=hback i m hm
   by_cases h1:i=id
   · have e:=p2 h1
     subst e h1
     rw [hget2] at hi
     simp only [Option.some.injEq] at hi
     subst hi
     have:=(hH.ob i' oj m hoj p1).ev hev (fun _ _=>rfl)
     exact ⟨this.k,this.rm,this.no,this.len,this.row,this.cells⟩
   · have e:=p3 h1
     subst e
     rw [hget3 i' h1 p4] at hi
     exact (hH.ob i' oi m hi p1).ev hev (fun _ _=>rfl)
 · cases hv with
   | osl _ _ _ _ _ _ ad cap hnc hle hl2 =>
    refine .osl _ _ _ _ _ _ _ _ hnc ya_ fun _=>?_
    obtain ⟨l2,b,q1,q2⟩:=hl2 ya_
    rw [hlj] at q1
    simp only [Option.some.injEq] at q1
    subst q1
    exact ⟨lj,b,hC3,q2⟩
   | osl0 _ _ _ _ _ base hle hl2 =>
    refine .osl0 _ _ _ _ _ _ ya_ fun _=>?_
    obtain ⟨l2,q1,q2⟩:=hl2 ya_
    rw [hlj] at q1
    simp only [Option.some.injEq] at q1
    subst q1
    exact ⟨lj,hC3,q2⟩
 · have h1:i≠id:=fun e=>by subst e; rw [hl] at hi0; simp at hi0
   have h2:i≠j:=fun e=>by subst e; rw [hlj] at hi0; simp at hi0
   exact ⟨by rw [(hC5 i h1 h2).1]; exact hi0,(hC5 i h1 h2).2,hget3 i h1 h2⟩
end
def iV (ids:List Nat) (n:Nat) (i:Nat):Nat:=if i < ids.length then ids.getD i 0 else n+(i - ids.length)
def dA (τ:Nat->Nat):Heap->Heap->Prop
 | [],[]=>True
 | o :: l,o' :: l'=>o.ren τ=o'/\dA τ l l'
 | _,_=>False
theorem dA.get {τ:Nat->Nat}:∀ {l l':Heap},dA τ l l'->l.length=l'.length/\∀ (i:Nat) (o:Ob),l[i]?=some o->l'[i]?=some (o.ren τ)
 | [],[],_=>⟨rfl,fun i o h=>by simp at h⟩
 | o :: l,o' :: l',h=>by
  obtain ⟨h1,h2⟩:=dA.get h.2
  refine ⟨by simp [h1],fun i oi hi=>?_⟩
  cases i with
  | zero=>simp at hi; subst hi; simp [h.1]
  | succ i=>simpa using h2 i oi yb_
def eY (H:Heap):List Nat->Heap->Heap
 | i :: ids,o :: os=>eY (H.set i o) ids os
 | _,_=>H
theorem jS:∀ (ids:List Nat) (os:Heap) (H:Heap),(eY H ids os).length=H.length
 | [],_,H=>by simp [eY]
 | _ :: _,[],H=>by simp [eY]
 | i :: ids,o :: os,H=>by rw [eY,jS ids os]; simp
theorem uN:∀ (ids:List Nat) (os:Heap) (H:Heap) (j:Nat),(∀ i∈ids,i≠j)->(eY H ids os)[j]?=H[j]?
 | [],_,H,j,_=>by simp [eY]
 | _ :: _,[],H,j,_=>by simp [eY]
 | i :: ids,o :: os,H,j,h=>by
  rw [eY,uN ids os _ j (fun i hi=>h i (by simp [hi])),List.getElem?_set_ne (h i ye_)]
def nodupB:List Nat->Bool
 | []=>true
 | i :: ids=>!ids.contains i&&nodupB ids
theorem a4l:∀ (ids:List Nat) (os:Heap) (H:Heap),nodupB ids=true->(∀ i∈ids,i < H.length)->ids.length=os.length->∀ (q:Nat) (o:Ob),os[q]?=some o->(eY H ids os)[ids.getD q 0]?=some o
 | [],[],H,_,_,_,q,o,hq=>by simp at hq
 | i :: ids,o :: os,H,hn,hlt,hlen,q,o',hq=>by
  simp only [nodupB,Bool.and_eq_true,Bool.not_eq_true',List.contains_eq_mem,decide_eq_false_iff_not] at hn
  simp only [eY]
  cases q with
  | zero =>
   simp at hq; subst hq
   simp only [List.getD_cons_zero]
   rw [uN ids os _ i (fun j hj e=>hn.1 (e ▸ hj)),List.getElem?_set_self (hlt i ye_)]
  | succ q =>
   simp only [List.getD_cons_succ]
   exact a4l ids os _ hn.2 (fun j hj=>by simpa using hlt j (by simp [hj])) (by simpa using hlen) q o' (by simpa using hq)
theorem a7z:∀ (ids:List Nat),nodupB ids=true->∀ i j,i < ids.length->j < ids.length->ids.getD i 0=ids.getD j 0->i=j
 | [],_,i,_,hi,_,_=>by simp at hi
 | a :: ids,hn,i,j,hi,hj,e=>by
  simp only [nodupB,Bool.and_eq_true,Bool.not_eq_true',List.contains_eq_mem,decide_eq_false_iff_not] at hn
  have hmem:∀ q,q < ids.length->ids.getD q 0∈ids:=fun q hq=>by
   rw [List.getD_eq_getElem?_getD,List.getElem?_eq_getElem hq]; exact List.getElem_mem _
  cases i with
  | zero =>
   cases j with
   | zero=>rfl
   | succ j=>simp only [List.getD_cons_zero,List.getD_cons_succ] at e; exact absurd (e ▸ hmem j yr_) hn.1
  | succ i =>
   cases j with
   | zero=>simp only [List.getD_cons_zero,List.getD_cons_succ] at e; exact absurd (e.symm ▸ hmem i yb_) hn.1
   | succ j=>simp only [List.getD_cons_succ] at e; rw [a7z ids hn.2 i j yb_ yr_ e]
theorem Ob.ren0 {τ:Nat->Nat} {o:Ob} (h:AV.F3 0 o.els=true):o.ren τ=o:=Ob.ren_fix (fun i hi=>absurd hi (Nat.not_lt_zero i)) o h
theorem j5.put {P:Program} {f:FuncId} {args args':List AV} {a a':AV} {Hs H1 N Hb Hg H1' N':Heap} (ids:List Nat) (h:j5 P f args Hs (a,H1++N)) (hids:(nodupB ids&&ids.all (fun i=>decide (i < Hb.length)))=true)
 (hlen:ids.length=Hs.length) (hn:H1.length=Hs.length) (hargs:AV.bdds Hs.length args=true) (hbs:dY Hs.length Hs=true) (hg:(ids.map fun i=>Hb.getD i default)=Hg) (hget:dA (iV ids Hb.length) Hs Hg)
 (h1:dA (iV ids Hb.length) H1 H1') (h2:dA (iV ids Hb.length) N N') (ha:AV.rens (iV ids Hb.length) args=args') (hr:a.ren (iV ids Hb.length)=a'):j5 P f args' Hb (a',eY Hb ids H1'++N'):=by
 simp only [Bool.and_eq_true,List.all_eq_true,decide_eq_true_eq] at hids
 obtain ⟨hnd,hlt⟩:=hids
 subst ha hr hg
 have hτ:∀ i,i < Hs.length->iV ids Hb.length i=ids.getD i 0:=fun i hi=>by simp [iV,hlen,hi]
 have hτ2:∀ i,Hs.length<=i->iV ids Hb.length i=Hb.length+(i - Hs.length):=fun i hi=>by
  have:¬ i < Hs.length:=by omega
  simp [iV,hlen,this]
 have hmem:∀ q,q < Hs.length->ids.getD q 0∈ids:=fun q hq=>by
  rw [List.getD_eq_getElem?_getD,List.getElem?_eq_getElem ya_]; exact List.getElem_mem _
 obtain ⟨g1,g2⟩:=hget.get
 obtain ⟨p1,p2⟩:=h1.get
 obtain ⟨n1,n2⟩:=h2.get
 refine h.frame (τ:=iV ids Hb.length) (Hb:=Hb) (Hb':=eY Hb ids H1'++N') ⟨fun i hi=>by rw [hτ i hi]; exact hlt _ (hmem i hi),hτ2,fun i j hi hj e=>by
  rw [hτ i hi,hτ j hj] at e; exact a7z ids hnd i j ya_ ya_ e,fun i o ho=>?_⟩ hargs (fun i o ho=>nX hbs ho) (by simp [jS,hn,n1]) (fun i o ho=>?_) fun j hj hj2=>?_
 · have hi:=uD ho
   rw [hτ i hi]
   have:=g2 i o ho
   rw [List.getElem?_map] at this
   have hi':i < ids.length:=by omega
   rw [List.getElem?_eq_getElem hi'] at this
   simp only [Option.map_some,Option.some.injEq] at this
   have hlt':=hlt _ (List.getElem_mem hi')
   rw [List.getD_eq_getElem?_getD (l:=ids),List.getElem?_eq_getElem hi',Option.getD_some,<- this,List.getD_eq_getElem?_getD,List.getElem?_eq_getElem hlt',Option.getD_some]
 · rcases Nat.lt_or_ge i H1.length with hi | hi
   · rw [List.getElem?_append_left hi] at ho
     rw [hτ i ya_,List.getElem?_append_left (by rw [jS]; exact hlt _ (hmem i ya_))]
     exact a4l ids H1' Hb hnd hlt ya_ i _ (p2 i o ho)
   · rw [List.getElem?_append_right hi] at ho
     rw [hτ2 i ya_,List.getElem?_append_right (by rw [jS]; omega),jS]
     have:Hb.length+(i - Hs.length) - Hb.length=i - H1.length:=by omega
     rw [this]
     exact n2 _ o ho
 · rw [List.getElem?_append_left (by rw [jS]; exact hj)]
   refine uN ids H1' Hb j fun i hi e=>?_
   obtain ⟨q,hq,e2⟩:=List.getElem_of_mem hi
   refine hj2 q ya_ ?_
   rw [hτ q ya_,List.getD_eq_getElem?_getD,List.getElem?_eq_getElem hq,Option.getD_some,e2,e]
open Go.Proofs.YtmghjcbabebanaaGreat
theorem om {p:Prop} (h:p:=by first | omega | (simp; done) | (simp; omega)):p:=h
theorem oa {p:Prop} (h:p:=by first | omega | assumption | (simp; done) | (simp; omega) | (simp_all; done) | (simp_all; omega)):p:=h
theorem ow {p:Prop} (h:p:=by omega):p:=h
theorem kr {α:Sort _} {a b:α} (h:a=b:=by kernel_rfl):a=b:=h
theorem ob {p:Prop} (h:p:=by first | (simp [dY,AV.F3,AV.bdds,AV.bdd]; done) | simp [dY,AV.F3,AV.bdds,AV.bdd,-List.map_append,-List.map_set,-List.map_take,-List.map_drop,-List.map_cons,-List.map_map]):p:=h
theorem Has.o {P : Program} {f : FuncId} {fn : Func} (h1 : P.funcs[f]? = some fn) (h2 : fn.body.isNone = false := by kernel_rfl) (h3 : (fn.name == "runtime.NumGoroutine") = false := by kernel_rfl) (h4 : fn.body.all codeOk = true := by kernel_rfl) : Has P f fn := ⟨h1, h2, h3, h4⟩
class IsP (c:Bool) (p q:outParam Prop):Prop where
 t:c=true->p
 f:c=false->q
instance (priority:=10) isP0 (c:Bool):IsP c (c=true) (c=false):=⟨id,id⟩
instance isPd (p:Prop) [Decidable p]:IsP (decide p) p (¬ p):=⟨decide_eq_true_iff.1,decide_eq_false_iff_not.1⟩
instance isPe (x y:Int):IsP (x == y) (x=y) (¬ x=y):=⟨beq_iff_eq.1,beq_eq_false_iff_ne.1⟩
instance isPne (x y:Int):IsP (x != y) (¬ x=y) (x=y):=⟨bne_iff_ne.1,fun h=>by simpa using h⟩
instance isPn (c:Bool) (p q:Prop) [h:IsP c p q]:IsP (!c) q p:=⟨fun e=>h.f (by simpa using e),fun e=>h.t (by simpa using e)⟩
instance isPa (c d:Bool) (p q p' q':Prop) [h:IsP c p q] [k:IsP d p' q']:IsP (c&&d) (p/\p') (q\/q'):=⟨fun e=>by rw [Bool.and_eq_true] at e; exact ⟨h.t e.1,k.t e.2⟩,fun e=>by rw [Bool.and_eq_false_iff] at e; exact e.imp h.f k.f⟩
instance isPo (c d:Bool) (p q p' q':Prop) [h:IsP c p q] [k:IsP d p' q']:IsP (c || d) (p\/p') (q/\q'):=⟨fun e=>by rw [Bool.or_eq_true] at e; exact e.imp h.t k.t,fun e=>by rw [Bool.or_eq_false_iff] at e; exact ⟨h.f e.1,k.f e.2⟩⟩
structure OK (H:Heap) (r:AV × Heap) (t:Tr) (p:Prop):Prop where
 h:p
structure RK (H:Heap) (r:AV × Heap) (hs:Hs) (a b:List (Nat × List (List AV))) (t:Tr) (p:Prop):Prop where
 h:p
section
variable {H H' H0:Heap} {zr:AV × Heap} {tr tA tB:Tr} {p pA pB q:Prop} {hs hs':Hs} {ra rb ra' rb':List (Nat × List (List AV))}
theorem OK.l (h:p):OK H zr .nil p:=⟨h⟩
theorem OK.e (v:AV) (h:(v,H)=zr:=by rfl):OK H zr .nil ((v,H)=zr):=⟨h⟩
theorem OK.f (n:Nat) (v:AV) (k:OK H zr tr p) (h:AV.bdd n v=true/\dY n H=true:=by exact ob):OK H zr tr ((AV.bdd n v=true/\dY n H=true)/\p):=⟨⟨h,k.h⟩⟩
theorem OK.h' (H':Heap) (k:OK H' zr tr p):OK H zr tr p:=⟨k.h⟩
theorem OK.two (c:Bool) {u u':Prop} [i:IsP c u u'] (x:c=true->u->OK H zr tA pA) (y:c=false->u'->OK H zr tB pB):OK H zr (.two tA tB) (cond c pA pB):=by
 cases hc:c with
 | true=>exact ⟨(x hc (i.t hc)).h⟩
 | false=>exact ⟨(y hc (i.f hc)).h⟩
theorem OK.yes (k:OK H zr tr p):OK H zr (.two tr .nil) p:=⟨k.h⟩
theorem OK.no (k:OK H zr tr p):OK H zr (.two .nil tr) p:=⟨k.h⟩
theorem OK.roll (n:Nat) (k:OK H zr tr p):OK H zr (.roll n tr) p:=⟨k.h⟩
theorem OK.loop {Q:(Ex->Fr->Heap->Prop)->Fr->Heap->Prop} {l o:Option (List Nat)} {F F':Fr} {e:Ex} (F'':Fr) (h:l6 Q l o F H0 e F' H') (k:OK H' zr tr p):OK H zr (.loop e F'' H' tr) (l6 Q l o F H0 e F' H'/\p):=⟨⟨h,k.h⟩⟩
theorem OK.r (k:RK H zr hs ra rb tr p):OK H zr (.reg hs ra rb tr) p:=⟨k.h⟩
theorem RK.g (k:OK H zr tr p):RK H zr [] [] [] tr p:=⟨k.h⟩
theorem RK.h' (H':Heap) (k:RK H' zr hs ra rb tr p):RK H zr hs ra rb tr p:=⟨k.h⟩
theorem RK.o (h:q) (k:RK H zr hs ra rb tr p):RK H zr hs ra rb tr (q/\p):=⟨⟨h,k.h⟩⟩
theorem RK.t (i:Nat) (v:AV) (H':Heap) (h:q) (k:RK H zr hs ra rb tr p):RK H zr ((i,(v,H')) :: hs) ra rb tr (q/\p):=⟨⟨h,k.h⟩⟩
theorem RK.c (i:Nat) {P:Program} {f:FuncId} {args:List AV} {v:AV} (h:j5 P f args H0 (v,H')) (k:RK H zr hs ra rb tr p):RK H zr ((i,(v,H')) :: hs) ra rb tr (j5 P f args H0 (v,H')/\p):=⟨⟨h,k.h⟩⟩
theorem RK.ch (i:Nat) (H1:Heap) {P:Program} {f:FuncId} {args:List AV} {v:AV} (h:j5 P f args H0 (v,H')) (k:RK H1 zr hs ra rb tr p):RK H zr ((i,(v,H1)) :: hs) ra rb tr (j5 P f args H0 (v,H')/\p):=⟨⟨h,k.h⟩⟩
theorem RK.y (i:Nat) (v w:AV) (h:Yes v H w) (k:RK H zr hs ra rb tr p):RK H zr ((i,(w,H)) :: hs) ra rb tr (Yes v H w/\p):=⟨⟨h,k.h⟩⟩
theorem RK.rd (v:AV) (H':Heap) (k:RK H zr hs ra rb tr p):RK H zr hs ra rb tr ((some (v,H')=some (v,H'))/\p):=⟨⟨rfl,k.h⟩⟩
theorem RK.b (n:Nat) (k:RK H zr hs ra rb tr p) (h:dY n H=true:=by exact ob):RK H zr hs ra rb tr ((dY n H=true)/\p):=⟨⟨h,k.h⟩⟩
theorem RK.is (i k' k2:Nat) (rows:List (List AV)) (e:Int) (cs:List AV) (h:N7 k' k2 rows e H cs) (k:RK H zr hs ra rb tr p):RK H zr ((i,(.ref cs 0,H)) :: hs) ra rb tr (N7 k' k2 rows e H cs/\p):=⟨⟨h,k.h⟩⟩
theorem RK.io (i id g k' k2 e0 n:Nat) (e:Int) (j:Nat) (h:I7 id g k' k2 e0 n e H j) (k:RK H zr hs ra rb tr p):RK H zr ((i,(.obj id g j 0,H)) :: hs) ra rb tr (I7 id g k' k2 e0 n e H j/\p):=⟨⟨h,k.h⟩⟩
theorem RK.st (i id g j n c:Nat) (u:AV) (H':Heap) (h:a2F H id j n c (rowAt H id g j) (AV.fit u n)=some (AV.skip,H')) (k:RK H' zr hs ra rb tr p):RK H zr ((i,(AV.skip,H')) :: hs) ra rb tr (a2F H id j n c (rowAt H id g j) (AV.fit u n)=some (AV.skip,H')/\p):=⟨⟨h,k.h⟩⟩
theorem RK.ap (i:Nat) (T:TypeId) (u v w:AV) (H':Heap) (h:dZ tt H T u v=some (w,H')) (k:RK H' zr hs ra rb tr p):RK H zr ((i,(w,H')) :: hs) ra rb tr (dZ tt H T u v=some (w,H')/\p):=⟨⟨h,k.h⟩⟩
theorem RK.ao (i:Nat) (T:TypeId) (u v w:AV) (H':Heap) (h:fC tt H T u v=some (w,H')) (k:RK H' zr hs ra rb tr p):RK H zr ((i,(w,H')) :: hs) ra rb tr (fC tt H T u v=some (w,H')/\p):=⟨⟨h,k.h⟩⟩
theorem RK.so (i id g n e m:Nat) (lo hi:Int) (w:AV) (h:Option.map (fun a=>(a,H)) ((bounds lo hi m).map fun p=>AV.osl id g n (e+p.1) (p.2 - p.1))=some (w,H)) (k:RK H zr hs ra rb tr p):RK H zr ((i,(w,H)) :: hs) ra rb tr (Option.map (fun a=>(a,H)) ((bounds lo hi m).map fun p=>AV.osl id g n (e+p.1) (p.2 - p.1))=some (w,H)/\p):=⟨⟨h,k.h⟩⟩
theorem RK.two (c:Bool) {u u':Prop} [i:IsP c u u'] (x:c=true->u->RK H zr hs ra rb tA pA) (y:c=false->u'->RK H zr hs' ra' rb' tB pB):RK H zr (hs++hs') (ra++ra') (rb++rb') (.two tA tB) (cond c pA pB):=by
 cases hc:c with
 | true=>exact ⟨(x hc (i.t hc)).h⟩
 | false=>exact ⟨(y hc (i.f hc)).h⟩
theorem RK.yes (k:RK H zr hs ra rb tr p):RK H zr hs ra rb (.two tr .nil) p:=⟨k.h⟩
theorem RK.no (k:RK H zr hs ra rb tr p):RK H zr hs ra rb (.two .nil tr) p:=⟨k.h⟩
theorem RK.w (s:Nat) (xs:List (List AV)) (h:q) (k:RK H zr hs ra rb tr p):RK H zr hs ((s,xs) :: ra) rb tr (q/\p):=⟨⟨h,k.h⟩⟩
theorem RK.w' (s:Nat) (xs:List (List AV)) (h:q) (k:RK H zr hs ra rb tr p):RK H zr hs ra ((s,xs) :: rb) tr (q/\p):=⟨⟨h,k.h⟩⟩
end
theorem dA.split {τ:Nat->Nat}:∀ {l a b:Heap},dA τ l (a++b)->dA τ (l.take a.length) a/\dA τ (l.drop a.length) b
 | l,[],b,h=>by simpa [dA] using h
 | [],o :: a,b,h=>by simp [dA] at h
 | x :: l,o :: a,b,h=>by
  simp only [List.cons_append,dA] at h
  obtain ⟨h1,h2⟩:=dA.split h.2
  exact ⟨⟨h.1,h1⟩,h2⟩
theorem j5.put2 {P:Program} {f:FuncId} {args:List AV} {v:AV} {Hs HsR:Heap} (ids:List Nat) (Hb:Heap) (v':AV) (Hb':Heap) (h:j5 P f args Hs (v,HsR))
 (hget:dA (iV ids Hb.length) Hs (ids.map fun i=>Hb.getD i default)) (hnew:dA (iV ids Hb.length) HsR ((ids.map fun i=>Hb'.getD i default)++Hb'.drop Hb.length))
 (hids:(nodupB ids&&ids.all (fun i=>decide (i < Hb.length)))=true:=by kernel_rfl) (hlen:ids.length=Hs.length:=by kernel_rfl) (hargs:AV.bdds Hs.length args=true:=by kernel_rfl)
 (hbs:dY Hs.length Hs=true:=by exact ob) (hr:v.ren (iV ids Hb.length)=v':=by rfl) (hH:eY Hb ids (ids.map fun i=>Hb'.getD i default)++Hb'.drop Hb.length=Hb':=by kernel_rfl) :
 j5 P f (AV.rens (iV ids Hb.length) args) Hb (v',Hb'):=by
 obtain ⟨h1,h2⟩:=dA.split hnew
 have e:HsR.take (ids.map fun i=>Hb'.getD i default).length++HsR.drop (ids.map fun i=>Hb'.getD i default).length=HsR:=List.take_append_drop _ _
 rw [<- e] at h
 have hl:=h1.get.1
 rw [<- hH]
 exact j5.put ids h hids hlen (by rw [hl]; simpa using hlen) hargs hbs rfl hget h1 h2 rfl hr
attribute [local irreducible] j5 K5 H6 E9 l6
theorem x9 {f:FuncId} {fn:Func} {ann:Ann} {t:Tr} {args:List AV} {H:Heap} {r:AV × Heap} {p:Prop} (hf:Has Tryz.prog f fn) (k:OK H r t p) (e:p=K5 Tryz.prog (X ann) fn t args H r:=by kernel_rfl) (hb:H.length<=ann.base:=by exact Nat.le_of_ble_eq_true (by kernel_rfl)):j5 Tryz.prog f args H r :=
 spec hb hf (Eq.mp e k.h)
theorem J7 {P:Program} {X:Env} {c:Code} {live out:Option (List Nat)} {F F':Fr} {H H':Heap} {e:Ex} {t:Tr} {p:Prop} (k:OK H (.skip,[]) t p)
 (h:p=H6 P X c (fun _ e2 F2 H2=>match e2 with | .normal=>l6 (E9 P X c) live out (jJ live F2) H2 e F' H' | e2=>(e2,jJ out F2,H2)=(e,F',H')) t F H:=by kernel_rfl):l6 (E9 P X c) live out F H e F' H' :=
 l6.step t (Eq.mp h k.h)
structure Key where
 app:ByteArray
 id:ByteArray
 deriving Inhabited
def Key.row (x:Key):List AV:=[(AV.str x.app),(AV.str x.id)]
@[simp] theorem Key.U9 (n:Nat) (x:Key):AV.bdds n x.row=true:=by simp [Key.row,AV.bdds,AV.bdd]
@[simp] theorem Key.z8 (n:Nat) (l:List Key):AV.F3 n (l.map Key.row)=true:=by induction l with | nil=>rfl | cons x l ih=>simp [AV.F3,Key.U9,ih]
structure y9 where
 t:Int
 node:Int
 n:Int
 deriving Inhabited
def y9.row (x:y9):List AV:=[(AV.int .i64 x.t),(AV.int .i64 x.node),(AV.int .i64 x.n)]
@[simp] theorem y9.U9 (n:Nat) (x:y9):AV.bdds n x.row=true:=by simp [y9.row,AV.bdds,AV.bdd]
@[simp] theorem y9.z8 (n:Nat) (l:List y9):AV.F3 n (l.map y9.row)=true:=by induction l with | nil=>rfl | cons x l ih=>simp [AV.F3,y9.U9,ih]
structure j4 where
 key:Key
 status:Int
 over:Int
 lease:Int
 stamp:y9
 gone:Bool
 deriving Inhabited
def j4.row (x:j4):List AV:=[(AV.str x.key.app),(AV.str x.key.id),(AV.int .i64 x.status),(AV.int .i64 x.over),(AV.int .i64 x.lease),(AV.int .i64 x.stamp.t),(AV.int .i64 x.stamp.node),(AV.int .i64 x.stamp.n),(AV.bool x.gone)]
@[simp] theorem j4.U9 (n:Nat) (x:j4):AV.bdds n x.row=true:=by simp [j4.row,AV.bdds,AV.bdd]
@[simp] theorem j4.z8 (n:Nat) (l:List j4):AV.F3 n (l.map j4.row)=true:=by induction l with | nil=>rfl | cons x l ih=>simp [AV.F3,j4.U9,ih]
structure Entry where
 card:j4
 seen:Int
 deriving Inhabited
def Entry.row (x:Entry):List AV:=[(AV.str x.card.key.app),(AV.str x.card.key.id),(AV.int .i64 x.card.status),(AV.int .i64 x.card.over),(AV.int .i64 x.card.lease),(AV.int .i64 x.card.stamp.t),(AV.int .i64 x.card.stamp.node),(AV.int .i64 x.card.stamp.n),(AV.bool x.card.gone),(AV.int .i64 x.seen)]
@[simp] theorem Entry.U9 (n:Nat) (x:Entry):AV.bdds n x.row=true:=by simp [Entry.row,AV.bdds,AV.bdd]
@[simp] theorem Entry.z8 (n:Nat) (l:List Entry):AV.F3 n (l.map Entry.row)=true:=by induction l with | nil=>rfl | cons x l ih=>simp [AV.F3,Entry.U9,ih]
def y5 (n:Int):List AV:=[.int .i64 n]
def rU8 (n:Int):List AV:=[.int .u8 n]
def a3m (s:ByteArray):List AV:=[.str s]
def b6l (b:Bool):List AV:=[.bool b]
@[simp] theorem aB (n:Nat) (l:List Int):AV.F3 n (l.map y5)=true:=by induction l with | nil=>rfl | cons x l ih=>simp [AV.F3,y5,AV.bdds,AV.bdd,ih]
@[simp] theorem yC (n:Nat) (l:List Int):AV.F3 n (l.map rU8)=true:=by induction l with | nil=>rfl | cons x l ih=>simp [AV.F3,rU8,AV.bdds,AV.bdd,ih]
@[simp] theorem e0u (n:Nat) (l:List ByteArray):AV.F3 n (l.map a3m)=true:=by induction l with | nil=>rfl | cons x l ih=>simp [AV.F3,a3m,AV.bdds,AV.bdd,ih]
@[simp] theorem e0p (n:Nat) (l:List Bool):AV.F3 n (l.map b6l)=true:=by induction l with | nil=>rfl | cons x l ih=>simp [AV.F3,b6l,AV.bdds,AV.bdd,ih]
def Key.eqb (a b:Key):Bool:=(a.app.toList == b.app.toList)&&((a.id.toList == b.id.toList)&&true)
def gP (a b:ByteArray):Int:=if Op.bytesLess a.toList b.toList then -1 else if a.toList == b.toList then 0 else 1
def V7 (a b:Int):Int:=if a < b then -1 else if a > b then 1 else 0
def U7 (a b:Key):Int:=if gP a.app b.app=0 then gP a.id b.id else gP a.app b.app
def mO (a b:Key):Bool:=decide (U7 a b < 0)
def b7r:Ann:={ fin:=some 0 }
theorem a2S (s : ByteArray)  : j5 Tryz.prog 217 [(AV.str s)] ([] : Heap) ((AV.bool false), ([] : Heap)) :=
  x9 (fn := Tryz.f217) (ann := b7r) (Has.o Tryz.func217) (.r (.g (.r (.g (.f 0 (AV.bool (!(s.toList == s.toList))) (.e (AV.bool (!(s.toList == s.toList))) (by
        simp)))))))
def b0T:Ann:={ fin:=some 0 }
theorem a0F (a b : ByteArray)  : j5 Tryz.prog 207 [(AV.str a), (AV.str b)] ([] : Heap) ((AV.int .i64 (gP a b)), ([] : Heap)) :=
  x9 (fn := Tryz.f207) (ann := b0T) (Has.o Tryz.func207) (.r (.g (.r (.c 1 ((a2S a).lift kr kr ([] : Heap)) (.g (.r (.c 1 ((a2S b).lift kr kr ([] : Heap)) (.g (.r (.g (.no (.r (.g (.no (.r (.g (.two (Op.bytesLess a.toList b.toList) (fun h1 h1' => (.r (.g (.f 0 (AV.int .i64 (-1)) (.e (AV.int .i64 (-1)) (by
        simp_all [gP])))))) (fun h1 h1' => (.r (.g (.two (!(Op.bytesLess a.toList b.toList || a.toList == b.toList)) (fun h2 h2' => (.r (.g (.f 0 (AV.int .i64 1) (.e (AV.int .i64 1) (by
        simp_all [gP])))))) (fun h2 h2' => (.r (.g (.f 0 (AV.int .i64 0) (.e (AV.int .i64 0) (by
        simp_all [gP])))))))))))))))))))))))))))
def b7t:Ann:={ fin:=some 0 }
theorem a2U (n : Int)  : j5 Tryz.prog 167 [(AV.int .i64 n)] ([] : Heap) ((AV.bool false), ([] : Heap)) :=
  x9 (fn := Tryz.f167) (ann := b7t) (Has.o Tryz.func167) (.r (.g (.r (.g (.f 0 (AV.bool (n != n)) (.e (AV.bool (n != n)) (by
        simp)))))))
def b0V:Ann:={ fin:=some 0 }
theorem yu_ {p : Prop} (h : p := by
        simp_all [V7] <;> omega) : p := h
theorem rX (a b:Int) :j5 Tryz.prog 123 [(AV.int .i64 a),(AV.int .i64 b)] ([]:Heap) ((AV.int .i64 (V7 a b)),([]:Heap)) :=
 x9 (fn:=Tryz.f123) (ann:=b0V) (Has.o Tryz.func123) (.r (.g (.r (.c 1 ((a2U a).lift kr kr ([]:Heap)) (.g (.r (.c 1 ((a2U b).lift kr kr ([]:Heap)) (.g (.r (.g (.no (.r (.g (.no (.r (.g (.two (decide (a < b)) (fun h1 h1'=>(.r (.g (.f 0 (AV.int .i64 (-1)) (.e (AV.int .i64 (-1)) yu_))))) (fun h1 h1'=>(.r (.g (.two (decide (a > b)) (fun h2 h2'=>(.r (.g (.f 0 (AV.int .i64 1) (.e (AV.int .i64 1) yu_))))) (fun h2 h2'=>(.r (.g (.f 0 (AV.int .i64 0) (.e (AV.int .i64 0) yu_))))))))))))))))))))))))))
def d5T:Ann:={ fin:=some 0 }
theorem b0e (x y : Int)  : j5 Tryz.prog 122 [(AV.sl .any 1 [[(AV.int .i64 x)], [(AV.int .i64 y)]])] ([] : Heap) ((AV.int .i64 (if x = 0 then y else x)), ([] : Heap)) :=
  x9 (fn := Tryz.f122) (ann := d5T) (Has.o Tryz.func122) (.r (.g (.r (.g (.r (.g (.roll 3 (.r (.g (.yes (.r (.g (.r (.g (.two (x != 0) (fun h1 h1' => (.r (.g (.f 0 (AV.int .i64 x) (.e (AV.int .i64 x) (by
        simp_all)))))) (fun h1 h1' => (.r (.g (.r (.g (.yes (.r (.g (.r (.g (.two (y != 0) (fun h2 h2' => (.r (.g (.f 0 (AV.int .i64 y) (.e (AV.int .i64 y) (by
        simp_all)))))) (fun h2 h2' => (.r (.g (.r (.g (.no (.r (.g (.f 0 (AV.int .i64 0) (.e (AV.int .i64 0) (by
        simp_all)))))))))))))))))))))))))))))))))))))
def b7b:Ann:={ refs:=[2,3],fin:=some 0 }
theorem a2R (a b : Key)  : j5 Tryz.prog 174 [(AV.agg (Key.row a)), (AV.agg (Key.row b))] ([] : Heap) ((AV.int .i64 (U7 a b)), ([] : Heap)) :=
  x9 (fn := Tryz.f174) (ann := b7b) (Has.o Tryz.func174) (.r (.g (.r (.c 4 ((a0F a.app b.app).lift kr kr ([] : Heap)) (.c 9 ((a0F a.id b.id).lift kr kr ([] : Heap)) (.c 11 (j5.pre (args := [(AV.sl .any 1 [[(AV.int .i64 (gP a.app b.app))], [(AV.int .i64 (gP a.id b.id))]])]) (args' := [(AV.sl .clip 1 [[(AV.int .i64 (gP a.app b.app))], [(AV.int .i64 (gP a.id b.id))]])]) ((b0e (gP a.app b.app) (gP a.id b.id)).lift kr kr ([] : Heap)) ⟨⟨rfl, rfl, .inl rfl⟩, trivial⟩) (.g (.f 0 (AV.int .i64 (if (gP a.app b.app) = 0 then (gP a.id b.id) else (gP a.app b.app))) (.e (AV.int .i64 (if (gP a.app b.app) = 0 then (gP a.id b.id) else (gP a.app b.app))) (by
        simp [U7]))))))))))
def b3A:Ann:={ refs:=[2,3],fin:=some 0 }
theorem uZ (a b:Key) :j5 Tryz.prog 166 [(AV.agg (Key.row a)),(AV.agg (Key.row b))] ([]:Heap) ((AV.bool (mO a b)),([]:Heap)) :=
 x9 (fn:=Tryz.f166) (ann:=b3A) (Has.o Tryz.func166) (.r (.g (.r (.c 2 ((a2R a b).lift kr kr ([]:Heap)) (.g (.f 0 (AV.bool (decide ((U7 a b) < 0))) (.e (AV.bool (decide ((U7 a b) < 0))))))))))
theorem rlA {τ:Nat->Nat} {o0 o1 o2 o3 o4 o5 p0 p2 p3 p5:Ob} (h0:o0.ren τ=p0:=by rfl) (h1:AV.F3 0 o1.els=true:=by exact Entry.z8 0 _) (h2:o2.ren τ=p2:=by rfl) (h3:o3.ren τ=p3:=by rfl) (h4:AV.F3 0 o4.els=true:=by exact Key.z8 0 _) (h5:o5.ren τ=p5:=by rfl):dA τ [o0,o1,o2,o3,o4,o5] [p0,o1,p2,p3,o4,p5]:=⟨h0,⟨Ob.ren0 h1,⟨h2,⟨h3,⟨Ob.ren0 h4,⟨h5,trivial⟩⟩⟩⟩⟩⟩
theorem rlB {τ:Nat->Nat} {o0 o1 o2 o3 o4 o5 o6 o7 o8 o9 o10 o11 p0 p2 p3 p5 p6 p8 p10 p11:Ob} (h0:o0.ren τ=p0:=by rfl) (h1:AV.F3 0 o1.els=true:=by exact Entry.z8 0 _) (h2:o2.ren τ=p2:=by rfl) (h3:o3.ren τ=p3:=by rfl) (h4:AV.F3 0 o4.els=true:=by exact Key.z8 0 _) (h5:o5.ren τ=p5:=by rfl) (h6:o6.ren τ=p6:=by rfl) (h7:AV.F3 0 o7.els=true:=by exact aB 0 _) (h8:o8.ren τ=p8:=by rfl) (h9:AV.F3 0 o9.els=true:=by exact j4.z8 0 _) (h10:o10.ren τ=p10:=by rfl) (h11:o11.ren τ=p11:=by rfl):dA τ [o0,o1,o2,o3,o4,o5,o6,o7,o8,o9,o10,o11] [p0,o1,p2,p3,o4,p5,p6,o7,p8,o9,p10,p11]:=⟨h0,⟨Ob.ren0 h1,⟨h2,⟨h3,⟨Ob.ren0 h4,⟨h5,⟨h6,⟨Ob.ren0 h7,⟨h8,⟨Ob.ren0 h9,⟨h10,⟨h11,trivial⟩⟩⟩⟩⟩⟩⟩⟩⟩⟩⟩⟩
theorem rlC {τ:Nat->Nat} {o0 o1 o2 o3 p0 p2:Ob} (h0:o0.ren τ=p0:=by rfl) (h1:AV.F3 0 o1.els=true:=by exact aB 0 _) (h2:o2.ren τ=p2:=by rfl) (h3:AV.F3 0 o3.els=true:=by exact j4.z8 0 _):dA τ [o0,o1,o2,o3] [p0,o1,p2,o3]:=⟨h0,⟨Ob.ren0 h1,⟨h2,⟨Ob.ren0 h3,trivial⟩⟩⟩⟩
theorem rlD {τ:Nat->Nat} {o0 o1 p0:Ob} (h0:o0.ren τ=p0:=by rfl) (h1:AV.F3 0 o1.els=true:=by exact Key.z8 0 _):dA τ [o0,o1] [p0,o1]:=⟨h0,⟨Ob.ren0 h1,trivial⟩⟩
theorem rlE {τ:Nat->Nat} {o0 o1 o2 o3 p0 p2:Ob} (h0:o0.ren τ=p0:=by rfl) (h1:AV.F3 0 o1.els=true:=by exact Entry.z8 0 _) (h2:o2.ren τ=p2:=by rfl) (h3:AV.F3 0 o3.els=true:=by exact Key.z8 0 _):dA τ [o0,o1,o2,o3] [p0,o1,p2,o3]:=⟨h0,⟨Ob.ren0 h1,⟨h2,⟨Ob.ren0 h3,trivial⟩⟩⟩⟩
theorem rlF {τ:Nat->Nat} {o0 o1 p0:Ob} (h0:o0.ren τ=p0:=by rfl) (h1:AV.F3 0 o1.els=true:=by exact Entry.z8 0 _):dA τ [o0,o1] [p0,o1]:=⟨h0,⟨Ob.ren0 h1,trivial⟩⟩
theorem OK.q {H:Heap} {zr:AV × Heap} (n:Nat) (v:AV) (h:(v,H)=zr:=by rfl) (h2:AV.bdd n v=true/\dY n H=true:=by exact ob):OK H zr .nil ((AV.bdd n v=true/\dY n H=true)/\((v,H)=zr)):=⟨⟨h2,h⟩⟩
theorem RK.q {H:Heap} {zr:AV × Heap} (n:Nat) (v:AV) (h:(v,H)=zr:=by rfl) (h2:AV.bdd n v=true/\dY n H=true:=by exact ob):RK H zr [] [] [] .nil ((AV.bdd n v=true/\dY n H=true)/\((v,H)=zr)):=⟨⟨h2,h⟩⟩
theorem OK.qr {H:Heap} {zr:AV × Heap} (n:Nat) (v:AV) (h:(v,H)=zr:=by rfl) (h2:AV.bdd n v=true/\dY n H=true:=by exact ob):OK H zr (.reg [] [] [] .nil) ((AV.bdd n v=true/\dY n H=true)/\((v,H)=zr)):=⟨⟨h2,h⟩⟩
section
variable {H:Heap} {zr:AV × Heap} {tr:Tr} {p:Prop} {hs:Hs} {ra rb:List (Nat × List (List AV))}
theorem RK.s (k:RK H zr hs ra rb tr p):RK H zr [] [] [] (.reg hs ra rb tr) p:=⟨k.h⟩
theorem RK.n (k:RK H zr hs ra rb tr p):RK H zr hs ra rb (.two .nil tr) p:=⟨k.h⟩
theorem OK.n (k:OK H zr tr p):OK H zr (.two .nil tr) p:=⟨k.h⟩
theorem RK.n2 (k:RK H zr hs ra rb tr p):RK H zr hs ra rb (.two .nil (.two .nil tr)) p:=⟨k.h⟩
theorem OK.n2 (k:OK H zr tr p):OK H zr (.two .nil (.two .nil tr)) p:=⟨k.h⟩
theorem RK.n3 (k:RK H zr hs ra rb tr p):RK H zr hs ra rb (.two .nil (.two .nil (.two .nil tr))) p:=⟨k.h⟩
theorem OK.n3 (k:OK H zr tr p):OK H zr (.two .nil (.two .nil (.two .nil tr))) p:=⟨k.h⟩
theorem RK.n4 (k:RK H zr hs ra rb tr p):RK H zr hs ra rb (.two .nil (.two .nil (.two .nil (.two .nil tr)))) p:=⟨k.h⟩
theorem OK.n4 (k:OK H zr tr p):OK H zr (.two .nil (.two .nil (.two .nil (.two .nil tr)))) p:=⟨k.h⟩
theorem RK.n5 (k:RK H zr hs ra rb tr p):RK H zr hs ra rb (.two .nil (.two .nil (.two .nil (.two .nil (.two .nil tr))))) p:=⟨k.h⟩
theorem OK.n5 (k:OK H zr tr p):OK H zr (.two .nil (.two .nil (.two .nil (.two .nil (.two .nil tr))))) p:=⟨k.h⟩
theorem RK.n6 (k:RK H zr hs ra rb tr p):RK H zr hs ra rb (.two .nil (.two .nil (.two .nil (.two .nil (.two .nil (.two .nil tr)))))) p:=⟨k.h⟩
theorem OK.n6 (k:OK H zr tr p):OK H zr (.two .nil (.two .nil (.two .nil (.two .nil (.two .nil (.two .nil tr)))))) p:=⟨k.h⟩
theorem RK.u (k:RK H zr hs ra rb tr p):RK H zr hs ra rb (.two tr .nil) p:=⟨k.h⟩
theorem OK.u (k:OK H zr tr p):OK H zr (.two tr .nil) p:=⟨k.h⟩
theorem RK.u2 (k:RK H zr hs ra rb tr p):RK H zr hs ra rb (.two (.two tr .nil) .nil) p:=⟨k.h⟩
theorem OK.u2 (k:OK H zr tr p):OK H zr (.two (.two tr .nil) .nil) p:=⟨k.h⟩
theorem RK.u3 (k:RK H zr hs ra rb tr p):RK H zr hs ra rb (.two (.two (.two tr .nil) .nil) .nil) p:=⟨k.h⟩
theorem OK.u3 (k:OK H zr tr p):OK H zr (.two (.two (.two tr .nil) .nil) .nil) p:=⟨k.h⟩
theorem RK.u4 (k:RK H zr hs ra rb tr p):RK H zr hs ra rb (.two (.two (.two (.two tr .nil) .nil) .nil) .nil) p:=⟨k.h⟩
theorem OK.u4 (k:OK H zr tr p):OK H zr (.two (.two (.two (.two tr .nil) .nil) .nil) .nil) p:=⟨k.h⟩
theorem RK.u5 (k:RK H zr hs ra rb tr p):RK H zr hs ra rb (.two (.two (.two (.two (.two tr .nil) .nil) .nil) .nil) .nil) p:=⟨k.h⟩
theorem OK.u5 (k:OK H zr tr p):OK H zr (.two (.two (.two (.two (.two tr .nil) .nil) .nil) .nil) .nil) p:=⟨k.h⟩
theorem RK.u6 (k:RK H zr hs ra rb tr p):RK H zr hs ra rb (.two (.two (.two (.two (.two (.two tr .nil) .nil) .nil) .nil) .nil) .nil) p:=⟨k.h⟩
theorem OK.u6 (k:OK H zr tr p):OK H zr (.two (.two (.two (.two (.two (.two tr .nil) .nil) .nil) .nil) .nil) .nil) p:=⟨k.h⟩
theorem RK.rn (k:RK H zr hs ra rb tr p):RK H zr [] [] [] (.two .nil (.reg hs ra rb tr)) p:=⟨k.h⟩
theorem OK.rn (k:RK H zr hs ra rb tr p):OK H zr (.two .nil (.reg hs ra rb tr)) p:=⟨k.h⟩
theorem RK.rn2 (k:RK H zr hs ra rb tr p):RK H zr [] [] [] (.two .nil (.two .nil (.reg hs ra rb tr))) p:=⟨k.h⟩
theorem OK.rn2 (k:RK H zr hs ra rb tr p):OK H zr (.two .nil (.two .nil (.reg hs ra rb tr))) p:=⟨k.h⟩
theorem RK.ru (k:RK H zr hs ra rb tr p):RK H zr [] [] [] (.two (.reg hs ra rb tr) .nil) p:=⟨k.h⟩
theorem OK.ru (k:RK H zr hs ra rb tr p):OK H zr (.two (.reg hs ra rb tr) .nil) p:=⟨k.h⟩
theorem RK.ru2 (k:RK H zr hs ra rb tr p):RK H zr [] [] [] (.two (.two (.reg hs ra rb tr) .nil) .nil) p:=⟨k.h⟩
theorem OK.ru2 (k:RK H zr hs ra rb tr p):OK H zr (.two (.two (.reg hs ra rb tr) .nil) .nil) p:=⟨k.h⟩
end
abbrev AC:=j5 Tryz.prog
@[simp] abbrev e_:AV:=AV.str ⟨#[]⟩
@[simp] abbrev bF:AV:=AV.bool false
@[simp] abbrev bT:AV:=AV.bool true
@[simp] abbrev iW (n:Int):AV:=AV.int .i64 (IntKind.i64.wrap n)
@[simp] abbrev o_ (g k:Nat) (l:List (List AV)):Ob:=⟨g,k,l,none⟩
theorem Yes.o {m n:Int} {H:Heap} (h1:-9223372036854775808<=n:=by omega) (h2:n<=9223372036854775807:=by omega) (h:m=n:=by omega):Yes (.int .i64 (IntKind.i64.wrap m)) H (.int .i64 n):=Yes.add h1 h2 h
@[simp] abbrev w9:AV:=AV.sl .nil 0 []
@[simp] abbrev H9:AV:=AV.int .u32 0
@[simp] abbrev F4:AV:=AV.tup []
@[simp] abbrev j3 (i:Nat):AV:=AV.obj i 0 0 0
@[simp] abbrev d9 (i g k n:Nat):AV:=AV.osl i g k 0 n
@[simp] abbrev p9 (l:List AV):AV:=AV.agg l
@[simp] abbrev R8:Key:=Key.mk (ByteArray.mk #[]) (ByteArray.mk #[])
@[simp] abbrev l9 (a b:Nat):Bool:=decide ((a:Int) < (b:Int))
@[simp] abbrev O4 (i g k e n:Nat):AV:=AV.osl i g k e n
@[simp] abbrev A8 (f:Nat) (l:List AV):AV:=AV.func f l
theorem J8 {n:Nat}:n<=n:=Nat.le_refl n
theorem D5 {a b:Ob} (h:a=b:=by rfl):a=b/\True:=⟨h,trivial⟩
@[simp] abbrev z_:AV:=AV.int .i64 0
@[simp] abbrev iI (n:Int):AV:=AV.int .i64 n
@[simp] abbrev iN (n:Nat):AV:=AV.int .i64 (n:Int)
@[simp] abbrev bB (b:Bool):AV:=AV.bool b
@[simp] abbrev sA (k:Nat) (l:List (List AV)):AV:=AV.sl .any k l
@[simp] abbrev oO (i g e c:Nat):AV:=AV.obj i g e c
structure Tp where
 l:List Int
 pos:Nat
 deriving Inhabited
def Tp.row (x:Tp):List AV:=[(sA 1 (List.map y5 x.l)),(iN x.pos)]
@[simp] theorem Tp.U9 (n:Nat) (x:Tp):AV.bdds n x.row=true:=by simp [Tp.row,AV.bdds,AV.bdd]
@[simp] theorem Tp.z8 (n:Nat) (l:List Tp):AV.F3 n (l.map Tp.row)=true:=by induction l with | nil=>rfl | cons x l ih=>simp [AV.F3,Tp.U9,ih]
def held (n:Int):Int:=max 0 (min n 4611686018427387904)
theorem yI (n:Int):0<=held n/\held n<=4611686018427387904:=by unfold held; omega
def F9 (e:Entry) (now:Int):Int:=if e.card.gone=true then 0 else max 0 (held now - held e.seen - held e.card.lease)
def a6U (e:Entry) (now:Int):Int:=held now - held e.seen
def M8 (a b:Key):Int:=if mO a b=true then -1 else if mO b a=true then 1 else 0
def wN (x:Int) (hi:Nat):Nat:=if 0<=x/\x<=hi then x.toNat else if Int.tmod x (((hi+1:Nat):Int)) < 0 then (Int.tmod x (((hi+1:Nat):Int))+hi+1).toNat else (Int.tmod x (((hi+1:Nat):Int))).toNat
theorem d5B (x:Int) (n:Nat) (h:0 < n):-(n:Int) < Int.tmod x n/\Int.tmod x n < n:=by
 have h1:=Int.tmod_lt_of_pos x (show (0:Int) < n by omega)
 have h2:=Int.tmod_lt_of_pos (-x) (show (0:Int) < n by omega)
 rw [Int.neg_tmod] at h2
 omega
def c9R:Ann:={ fin:=some 0 }
theorem yv_ {p:Prop} (h:p:=by split <;> omega):p:=h
theorem qO (n:Int) :AC 208 [(iI n)] [] ((iI (held n)),[]) :=
 x9 (fn:=Tryz.f208) (ann:=c9R) (Has.o Tryz.func208) (.r (.s (.y 1 (.int .i64 (if 4611686018427387904 < n then 4611686018427387904 else n)) (iI (min n 4611686018427387904)) (Yes.int yv_) (.y 2 (.int .i64 (if (min n 4611686018427387904) > 0 then (min n 4611686018427387904) else 0)) (iI (max 0 (min n 4611686018427387904))) (Yes.int yv_) (.q 0 (iI (max 0 (min n 4611686018427387904))) (by simp [held]))))))
def c9H:Ann:={ refs:=[2],fin:=some 0 }
abbrev ca_ (a:Int) (b:Entry):=(iI (max 0 (((held a) - (held b.seen)) - (held b.card.lease))))
theorem vW (e:Entry) (now:Int) :AC 177 [(p9 (Entry.row e)),(iI now)] [] ((iI (F9 e now)),[]):=by
 have h1:=yI now
 have h2:=yI e.seen
 have h3:=yI e.card.lease
 exact x9 (fn:=Tryz.f177) (ann:=c9H) (Has.o Tryz.func177) (.r (.s (.g (.two e.card.gone (fun h1 h1'=>(.qr 0 z_ (by simp_all [F9]))) (fun h1 h1'=>(.r (.c 1 ((qO now).lift kr kr []) (.c 4 ((qO e.seen).lift kr kr []) (.y 5 (iW ((held now) - (held e.seen))) (iI ((held now) - (held e.seen))) Yes.o (.c 9 ((qO e.card.lease).lift kr kr []) (.y 10 (iW (((held now) - (held e.seen)) - (held e.card.lease))) (iI (((held now) - (held e.seen)) - (held e.card.lease))) Yes.o (.y 11 (.int .i64 (if (((held now) - (held e.seen)) - (held e.card.lease)) > 0 then (((held now) - (held e.seen)) - (held e.card.lease)) else 0)) (ca_ now e) (Yes.int yv_) (.q 0 (ca_ now e) (by simp_all [F9]))))))))))))))
def d6r:Ann:={ refs:=[2],fin:=some 0 }
theorem d1s (e:Entry) (now:Int) :AC 184 [(p9 (Entry.row e)),(iI now)] [] ((iI (a6U e now)),[]):=by
 have h1:=yI now
 have h2:=yI e.seen
 exact x9 (fn:=Tryz.f184) (ann:=d6r) (Has.o Tryz.func184) (.r (.s (.c 1 ((qO now).lift kr kr []) (.c 4 ((qO e.seen).lift kr kr []) (.y 5 (iW ((held now) - (held e.seen))) (iI ((held now) - (held e.seen))) Yes.o (.q 0 (iI ((held now) - (held e.seen))) (by simp_all [a6U])))))))
def c3l:Ann:={ refs:=[2,3],fin:=some 0 }
theorem b6J (a b:Key) :AC 180 [(p9 (Key.row a)),(p9 (Key.row b))] [] ((iI (M8 a b)),[]) :=
 x9 (fn:=Tryz.f180) (ann:=c3l) (Has.o Tryz.func180) (.r (.s (.c 2 ((uZ a b).lift kr kr []) (.g (.two (mO a b) (fun h1 h1'=>(.qr 0 (iI (-1)) (by simp_all [M8]))) (fun h1 h1'=>(.r (.c 2 ((uZ b a).lift kr kr []) (.g (.two (mO b a) (fun h2 h2'=>(.qr 0 (iI 1) (by simp_all [M8]))) (fun h2 h2'=>(.qr 0 z_ (by simp_all [M8])))))))))))))
def b4X:Ann:={ fin:=some 0 }
theorem yw_ {p:Prop} (h:p:=by simp_all [wN]; all_goals first | done | omega | (split <;> omega) | (split <;> first | omega | (split <;> omega))):p:=h
@[simp] abbrev cb_ (a:Nat):=(IntKind.i64.wrap ((a:Int)+1))
abbrev cc_ (a:Int) (b:Nat):=(iI (Int.tmod a ((b+1:Nat):Int)))
abbrev cd_ (a:Int) (b:Nat):=(iI (0+((((Int.tmod a ((b+1:Nat):Int))+(b:Int)) - 0)+1)))
abbrev ce_ (a:Int) (b:Nat):=(iI (0+(Int.tmod a ((b+1:Nat):Int))))
theorem b2J (x:Int) (hi:Nat) (hh:hi < 1099511627776):AC 23 [(iI x),z_,(iN hi)] [] ((iN (wN x hi)),[]):=by
 have hb:=d5B x (hi+1) ow
 exact x9 (fn:=Tryz.f23) (ann:=b4X) (Has.o Tryz.func23) (.r (.s (.two (decide (x >= 0)) (fun h1 h1'=>(.u2 (.g (.two (decide (x<=(hi:Int))) (fun h2 h2'=>(.qr 0 (iI x) yw_)) (fun h2 h2'=>(.r (.y 3 (iW ((hi:Int) - 0)) (iN hi) Yes.o (.y 4 (.int .i64 (cb_ hi)) (iN (hi+1)) Yes.o (.t 5 (cc_ x hi) [] (a3n ow rfl:Option.map (fun a=>(a,([]:Heap))) (if (((hi+1:Nat):Int):Int)=0 then none else some (cc_ x hi))=some ((cc_ x hi),([]:Heap))) (.s (.g (.two (decide ((Int.tmod x ((hi+1:Nat):Int)) < 0)) (fun h3 h3'=>(.r (.y 2 (iW ((Int.tmod x ((hi+1:Nat):Int))+(hi:Int))) (iI ((Int.tmod x ((hi+1:Nat):Int))+(hi:Int))) Yes.o (.y 4 (iW (((Int.tmod x ((hi+1:Nat):Int))+(hi:Int)) - 0)) (iI (((Int.tmod x ((hi+1:Nat):Int))+(hi:Int)) - 0)) Yes.o (.y 5 (iW ((((Int.tmod x ((hi+1:Nat):Int))+(hi:Int)) - 0)+1)) (iI ((((Int.tmod x ((hi+1:Nat):Int))+(hi:Int)) - 0)+1)) Yes.o (.s (.y 2 (iW (0+((((Int.tmod x ((hi+1:Nat):Int))+(hi:Int)) - 0)+1))) (cd_ x hi) Yes.o (.q 0 (cd_ x hi) yw_)))))))) (fun h3 h3'=>(.r (.y 2 (iW (0+(Int.tmod x ((hi+1:Nat):Int)))) (ce_ x hi) Yes.o (.q 0 (ce_ x hi) yw_)))))))))))))))) (fun h1 h1'=>(.n2 (.rn (.y 3 (iW ((hi:Int) - 0)) (iN hi) Yes.o (.y 4 (.int .i64 (cb_ hi)) (iN (hi+1)) Yes.o (.t 5 (cc_ x hi) [] (a3n ow rfl:Option.map (fun a=>(a,([]:Heap))) (if (((hi+1:Nat):Int):Int)=0 then none else some (cc_ x hi))=some ((cc_ x hi),([]:Heap))) (.s (.g (.two (decide ((Int.tmod x ((hi+1:Nat):Int)) < 0)) (fun h2 h2'=>(.r (.y 2 (iW ((Int.tmod x ((hi+1:Nat):Int))+(hi:Int))) (iI ((Int.tmod x ((hi+1:Nat):Int))+(hi:Int))) Yes.o (.y 4 (iW (((Int.tmod x ((hi+1:Nat):Int))+(hi:Int)) - 0)) (iI (((Int.tmod x ((hi+1:Nat):Int))+(hi:Int)) - 0)) Yes.o (.y 5 (iW ((((Int.tmod x ((hi+1:Nat):Int))+(hi:Int)) - 0)+1)) (iI ((((Int.tmod x ((hi+1:Nat):Int))+(hi:Int)) - 0)+1)) Yes.o (.s (.y 2 (iW (0+((((Int.tmod x ((hi+1:Nat):Int))+(hi:Int)) - 0)+1))) (cd_ x hi) Yes.o (.q 0 (cd_ x hi) yw_)))))))) (fun h2 h2'=>(.r (.y 2 (iW (0+(Int.tmod x ((hi+1:Nat):Int)))) (ce_ x hi) Yes.o (.q 0 (ce_ x hi) yw_))))))))))))))))
def Tp.next (t:Tp) (n:Nat):Nat:=if t.l.length<=t.pos\/n < 1 then 0 else wN (nth t.l t.pos) 1073741824 % n
def Tp.step (t:Tp) (n:Nat):Tp:=if t.l.length<=t.pos\/n < 1 then t else ⟨t.l,t.pos+1⟩
theorem Tp.next_lt (t:Tp) (n:Nat) (h:0 < n):t.next n < n:=by
 unfold Tp.next
 split
 · omega
 · exact Nat.mod_lt _ h
def c8V:Ann:={ base:=1,fin:=some 1 }
@[simp] abbrev a2H (a:Tp):Heap:=[(o_ 0 2 [[(sA 1 (a.l.map y5)),(iN (a.pos+1))]])]
theorem yx_ {p:Prop} (h:p:=by (try delta a2H); (simp only [Tp.next,Tp.step]); (first | rw [if_pos ow,if_pos ow] | rw [if_neg ow,if_neg ow]); first | rfl | simp [Tp.row]):p:=h
theorem H7 (t:Tp) (n:Nat) (hl:t.l.length < 9223372036854775808):AC 27 [(AV.obj 0 0 0 0),(AV.int .i64 (n:Int))] [(o_ 0 2 [(Tp.row t)])] ((AV.int .i64 (t.next n:Int)),[(o_ 0 2 [(Tp.row (t.step n))])]) :=
 x9 (fn:=Tryz.f27) (ann:=c8V) (Has.o Tryz.func27) (.r (.s (.y 8 (.int .i64 ((List.length (t.l.map y5):Nat):Int)) (AV.int .i64 (t.l.length:Int)) (Yes.len _ _ _) (.two (decide ((t.pos:Int) >= (t.l.length:Int))) (fun h1 h1'=>(.u (.g (.u (.qr 1 (AV.int .i64 0) yx_))))) (fun h1 h1'=>(.n (.g (.two (decide ((n:Int) < 1)) (fun h2 h2'=>(.qr 1 (AV.int .i64 0) yx_)) (fun h2 h2'=>(.r (.y 4 (iW ((t.pos:Int)+1)) (AV.int .i64 ((t.pos+1:Nat):Int)) Yes.o (.s (.h' (a2H t) (.y 8 (iW (((t.pos+1:Nat):Int) - 1)) (AV.int .i64 ((t.pos+1 - 1:Nat):Int)) Yes.o (.is 9 1 1 (t.l.map y5) ((t.pos+1 - 1:Nat):Int) (y5 (nth t.l (t.pos+1 - 1))) (N7.mk _ ow ow) (.c 11 ((b2J (nth t.l (t.pos+1 - 1)) 1073741824 oa).lift kr kr (a2H t)) (.t 13 (AV.int .i64 (((wN (nth t.l (t.pos+1 - 1)) 1073741824) % n:Nat):Int)) (a2H t) (d5L ow:Option.map (fun a=>(a,(a2H t))) (if ((n:Int):Int)=0 then none else some (AV.int .i64 (Int.tmod ((wN (nth t.l (t.pos+1 - 1)) 1073741824:Nat):Int) (n:Int))))=some ((AV.int .i64 (((wN (nth t.l (t.pos+1 - 1)) 1073741824) % n:Nat):Int)),(a2H t))) (.q 1 (AV.int .i64 (((wN (nth t.l (t.pos+1 - 1)) 1073741824) % n:Nat):Int)) yx_))))))))))))))))))
theorem Tp.bA (t:Tp) (n:Nat):(t.step n).l=t.l:=by unfold Tp.step; split <;> rfl
def e0W:List ByteArray:=[(ByteArray.mk #[97,112,112]),(ByteArray.mk #[98]),(ByteArray.mk #[97,112,112,49]),(ByteArray.mk #[122,57])]
def e0A:List ByteArray:=[(ByteArray.mk #[105,100]),(ByteArray.mk #[97]),(ByteArray.mk #[105,100,50]),(ByteArray.mk #[120,48]),(ByteArray.mk #[109])]
def Tp.key (t:Tp):Key:=⟨nth e0W (t.next 4),nth e0A ((t.step 4).next 5)⟩
def Tp.keyT (t:Tp):Tp:=(t.step 4).step 5
def Tp.stamp (t:Tp):y9:=⟨(t.next 40:Nat),((t.step 40).next 6:Nat),(((t.step 40).step 6).next 9:Nat)⟩
def Tp.kC (t:Tp):Tp:=((t.step 40).step 6).step 9
theorem Tp.mP (t:Tp):t.keyT.l=t.l:=by simp [Tp.keyT,Tp.bA]
theorem Tp.a3g (t:Tp):t.kC.l=t.l:=by simp [Tp.kC,Tp.bA]
def Tp.c1 (t:Tp):Tp:=t.keyT.step 2
def Tp.c2 (t:Tp):Tp:=t.c1.step 7
def Tp.c3 (t:Tp):Tp:=t.c2.step 60
def Tp.c4 (t:Tp):Tp:=t.c3.kC
def Tp.card (t:Tp):j4:=⟨t.key,(1+t.keyT.next 2:Nat),(t.c1.next 7 / 2:Nat),(1+t.c2.next 60:Nat),t.c3.stamp,((t.c4.next 4:Nat):Int) == 0⟩
def Tp.K8 (t:Tp):Tp:=t.c4.step 4
theorem Tp.uE (t:Tp):t.K8.l=t.l:=by simp [Tp.K8,Tp.c4,Tp.c3,Tp.c2,Tp.c1,Tp.mP,Tp.a3g,Tp.bA]
def d6f:Ann:={ base:=1,fin:=some 1 }
abbrev d5s :Ob:=(o_ 0 2 [[e_,e_]])
abbrev d2A (a:Tp):Heap:=[(o_ 0 2 [(Tp.row (a.step 4))]),d5s]
abbrev d9I (a:Tp):Heap:=[(o_ 0 2 [(Tp.row ((a.step 4).step 5))]),d5s]
theorem yy_ {p:Prop} (h:p:=by first | omega | (simp [Tp.bA,Tp.mP,Tp.a3g,Tp.uE]; omega)):p:=h
abbrev cf_ (a:Tp):=(p9 [(AV.str (nth ([(ByteArray.mk #[97,112,112]),(ByteArray.mk #[98]),(ByteArray.mk #[97,112,112,49]),(ByteArray.mk #[122,57])]) (a.next 4))),(AV.str (nth ([(ByteArray.mk #[105,100]),(ByteArray.mk #[97]),(ByteArray.mk #[105,100,50]),(ByteArray.mk #[120,48]),(ByteArray.mk #[109])]) ((a.step 4).next 5)))])
theorem uY (t:Tp) (hl:t.l.length < 9223372036854775808):AC 52 [(j3 0)] [(o_ 0 2 [(Tp.row t)])] ((p9 (Key.row t.key)),[(o_ 0 2 [(Tp.row t.keyT)])]):=by
 have h4:=t.next_lt 4 ow
 have h5:=(t.step 4).next_lt 5 ow
 exact x9 (fn:=Tryz.f52) (ann:=d6f) (Has.o Tryz.func52) (.r (.s (.ch 2 (d2A t) (j5.put2 [0] [(o_ 0 2 [(Tp.row t)]),(o_ 0 2 [[e_,e_]])] (iN (t.next 4)) (d2A t) (H7 t 4 yy_) D5 D5) (.is 3 1 1 (([(ByteArray.mk #[97,112,112]),(ByteArray.mk #[98]),(ByteArray.mk #[97,112,112,49]),(ByteArray.mk #[122,57])]).map a3m) ((t.next 4:Nat):Int) (a3m (nth ([(ByteArray.mk #[97,112,112]),(ByteArray.mk #[98]),(ByteArray.mk #[97,112,112,49]),(ByteArray.mk #[122,57])]) (t.next 4))) (N7.mk _ ow yg_) (.ch 7 (d9I t) (j5.put2 [0] (d2A t) (iN ((t.step 4).next 5)) (d9I t) (H7 (t.step 4) 5 yy_) D5 D5) (.is 8 1 1 (([(ByteArray.mk #[105,100]),(ByteArray.mk #[97]),(ByteArray.mk #[105,100,50]),(ByteArray.mk #[120,48]),(ByteArray.mk #[109])]).map a3m) (((t.step 4).next 5:Nat):Int) (a3m (nth ([(ByteArray.mk #[105,100]),(ByteArray.mk #[97]),(ByteArray.mk #[105,100,50]),(ByteArray.mk #[120,48]),(ByteArray.mk #[109])]) ((t.step 4).next 5))) (N7.mk _ ow yg_) (.g (.h' [(o_ 0 2 [(Tp.row ((t.step 4).step 5))])] (.q 1 (cf_ t))))))))))
def c1Y:Ann:={ base:=1,fin:=some 1 }
abbrev tO :Ob:=(o_ 0 3 [[z_,z_,z_]])
abbrev d2z (a:Tp):Heap:=[(o_ 0 2 [(Tp.row (a.step 40))]),tO]
abbrev d2y (a:Tp):Heap:=[(o_ 0 2 [(Tp.row ((a.step 40).step 6))]),tO]
abbrev d9H (a:Tp):Heap:=[(o_ 0 2 [(Tp.row (((a.step 40).step 6).step 9))]),tO]
abbrev cg_ (a:Tp):=(p9 [(iN (a.next 40)),(iN ((a.step 40).next 6)),(iN (((a.step 40).step 6).next 9))])
theorem b5j (t:Tp) (hl:t.l.length < 9223372036854775808):AC 82 [(j3 0)] [(o_ 0 2 [(Tp.row t)])] ((p9 (y9.row t.stamp)),[(o_ 0 2 [(Tp.row t.kC)])]) :=
 x9 (fn:=Tryz.f82) (ann:=c1Y) (Has.o Tryz.func82) (.r (.s (.ch 1 (d2z t) (j5.put2 [0] [(o_ 0 2 [(Tp.row t)]),(o_ 0 3 [[z_,z_,z_]])] (iN (t.next 40)) (d2z t) (H7 t 40 yy_) D5 D5) (.ch 3 (d2y t) (j5.put2 [0] (d2z t) (iN ((t.step 40).next 6)) (d2y t) (H7 (t.step 40) 6 yy_) D5 D5) (.ch 5 (d9H t) (j5.put2 [0] (d2y t) (iN (((t.step 40).step 6).next 9)) (d9H t) (H7 ((t.step 40).step 6) 9 yy_) D5 D5) (.g (.h' [(o_ 0 2 [(Tp.row (((t.step 40).step 6).step 9))])] (.q 1 (cg_ t)))))))))
def c1P:Ann:={ base:=1,fin:=some 1 }
abbrev a2G :Ob:=(o_ 0 9 [[e_,e_,z_,z_,z_,z_,z_,z_,bF]])
abbrev d2x (a:Tp):Heap:=[(o_ 0 2 [(Tp.row a.keyT)]),a2G]
abbrev d2w (a:Tp):Heap:=[(o_ 0 2 [(Tp.row (a.keyT.step 2))]),a2G]
abbrev d2v (a:Tp):Heap:=[(o_ 0 2 [(Tp.row ((a.keyT.step 2).step 7))]),a2G]
abbrev d2u (a:Tp):Heap:=[(o_ 0 2 [(Tp.row (((a.keyT.step 2).step 7).step 60))]),a2G]
abbrev c1z (a:Tp):Heap:=[(o_ 0 2 [(Tp.row (((a.keyT.step 2).step 7).step 60).kC)]),a2G]
abbrev d5t (a:Tp):Heap:=[(o_ 0 2 [(Tp.row ((((a.keyT.step 2).step 7).step 60).kC.step 4))]),a2G]
theorem yz_ {p:Prop} (h:p:=by first | omega | (simp [Tp.c4,Tp.c3,Tp.c2,Tp.c1,Tp.bA,Tp.mP,Tp.a3g,Tp.uE]; omega)):p:=h
abbrev ch_ (a:Tp):=(p9 [(AV.str a.key.app),(AV.str a.key.id),(iN (1+(a.keyT.next 2))),(iN (((a.keyT.step 2).next 7) / 2)),(iN (1+(((a.keyT.step 2).step 7).next 60))),(iI (((a.keyT.step 2).step 7).step 60).stamp.t),(iI (((a.keyT.step 2).step 7).step 60).stamp.node),(iI (((a.keyT.step 2).step 7).step 60).stamp.n),(bB ((((((a.keyT.step 2).step 7).step 60).kC.next 4:Nat):Int) == 0))])
theorem b5d (t:Tp) (hl:t.l.length < 9223372036854775808):AC 39 [(j3 0)] [(o_ 0 2 [(Tp.row t)])] ((p9 (j4.row t.card)),[(o_ 0 2 [(Tp.row t.K8)])]):=by
 have h2:=t.keyT.next_lt 2 ow
 have h7:=t.c1.next_lt 7 ow
 have h60:=t.c2.next_lt 60 ow
 unfold Tp.c2 Tp.c1 at *
 exact x9 (fn:=Tryz.f39) (ann:=c1P) (Has.o Tryz.func39) (.r (.s (.ch 1 (d2x t) (j5.put2 [0] [(o_ 0 2 [(Tp.row t)]),(o_ 0 9 [[e_,e_,z_,z_,z_,z_,z_,z_,bF]])] (p9 (Key.row t.key)) (d2x t) (uY t yz_) D5 D5) (.ch 3 (d2w t) (j5.put2 [0] (d2x t) (iN (t.keyT.next 2)) (d2w t) (H7 t.keyT 2 yz_) D5 D5) (.y 4 (iW (1+((t.keyT.next 2:Nat):Int))) (iN (1+(t.keyT.next 2))) Yes.o (.ch 6 (d2v t) (j5.put2 [0] (d2w t) (iN ((t.keyT.step 2).next 7)) (d2v t) (H7 (t.keyT.step 2) 7 yz_) D5 D5) (.y 7 (iW (Int.tdiv (((t.keyT.step 2).next 7:Nat):Int) 2)) (iN (((t.keyT.step 2).next 7) / 2)) (Yes.quo ow) (.ch 9 (d2u t) (j5.put2 [0] (d2v t) (iN (((t.keyT.step 2).step 7).next 60)) (d2u t) (H7 ((t.keyT.step 2).step 7) 60 yz_) D5 D5) (.y 10 (iW (1+((((t.keyT.step 2).step 7).next 60:Nat):Int))) (iN (1+(((t.keyT.step 2).step 7).next 60))) Yes.o (.ch 12 (c1z t) (j5.put2 [0] (d2u t) (p9 (y9.row (((t.keyT.step 2).step 7).step 60).stamp)) (c1z t) (b5j (((t.keyT.step 2).step 7).step 60) yz_) D5 D5) (.ch 14 (d5t t) (j5.put2 [0] (c1z t) (iN ((((t.keyT.step 2).step 7).step 60).kC.next 4)) (d5t t) (H7 (((t.keyT.step 2).step 7).step 60).kC 4 yz_) D5 D5) (.g (.h' [(o_ 0 2 [(Tp.row ((((t.keyT.step 2).step 7).step 60).kC.step 4))])] (.q 1 (ch_ t)))))))))))))))
attribute [local irreducible] Tp.K8 Tp.card Tp.next Tp.step
def Tp.cards (t:Tp):Nat->List j4
 | 0=>[]
 | n+1=>t.card :: t.K8.cards n
def Tp.J5 (t:Tp):Nat->Tp
 | 0=>t
 | n+1=>t.K8.J5 n
theorem Tp.a3P (n:Nat):∀ (t:Tp),(t.J5 n).l=t.l:=by
 induction n with
 | zero=>intro t; simp only [Tp.J5]
 | succ n ih=>intro t; simp only [Tp.J5]; rw [ih,Tp.uE]
theorem Tp.a8i (n:Nat):∀ (t:Tp),(t.cards n).length=n:=by
 induction n with
 | zero=>intro t; rfl
 | succ n ih=>intro t; simp only [Tp.cards,List.length_cons]; rw [ih]
def a1C:Ann:={ gha:=[(1,.vir 5 9),(6,.frz 4)],base:=1,fin:=some 1,live:=[(3,[0,5,6])],out:=[(3,[0,5,6])] }
abbrev l9C:=List j4
@[simp] abbrev mC (l:l9C):List (List AV):=List.map j4.row l
@[simp] abbrev d9G (a:Tp) (b:Nat) (c:l9C):Heap:=[(o_ 0 2 [(Tp.row a.K8)]),(o_ (b+1) 9 (mC (c++[a.card])))]
@[simp] abbrev d9F (a:Nat) (b:Nat) (c:Nat):Fr:=(mkF 21 [(0,(j3 0)),(5,(d9 1 a 9 b)),(6,(iN c))])
@[simp] abbrev d2t (a:Tp) (b:Nat) (c:l9C):Heap:=[(o_ 0 2 [(Tp.row a)]),(o_ b 9 (mC c))]
abbrev d9E (a:Tp) (b:Nat) (c:l9C):Heap:=[(o_ 0 2 [(Tp.row a.K8)]),(o_ b 9 (mC c))]
theorem D8 {p:Prop} (h:p:=by decide):p:=h
theorem Z0 {p:Prop} (h:p:=by first | assumption | omega | (simp; done) | (simp; omega)):p:=h
theorem gV {p:Prop} (h:p:=by first | omega | (show _ * 88<=_; omega) | (simp; omega)):p:=h
@[simp] abbrev ci_ :=(C8 a1C Tryz.f15 0)
abbrev cj_ (a:Nat):=(IntKind.i64.wrap ((a:Int) - 1))
@[reducible] def bZ:TI:={ d:=.struct [(28,0),(3,2),(3,3),(2,4),(48,5),(4,8)],size:=9,bytes:=88,zero:=[.str ⟨#[]⟩,.str ⟨#[]⟩,.int .i64 0,.int .i64 0,.int .i64 0,.int .i64 0,.int .i64 0,.int .i64 0,.bool false] }
theorem a5e (t:Tp) (g m n:Nat) (out:l9C) (hl:t.l.length < 9223372036854775808) (hm:m=out.length) (hb:m < 1099511627776) (hn:n < 1099511627776) {eX:Ex} {FX:Fr} {HX:Heap} (k1:(decide ((n:Int) > 0))=true->l6 ci_ (some [0,5,6]) (some [0,5,6]) (mkF 21 [(0,(j3 0)),(5,(d9 1 (g+1) 9 (m+1))),(6,(iN (n - 1)))]) (d9G t g out) eX FX HX) (k2:(decide ((n:Int) > 0))=false->((.exit 0:Ex),(d9F g m n),(d2t t g out))=(eX,FX,HX)):l6 ci_ (some [0,5,6]) (some [0,5,6]) (d9F g m n) (d2t t g out) eX FX HX :=
 J7 (.r (.g (.two (decide ((n:Int) > 0)) (fun h1 h1'=>(.r (.ch 2 (d9E t g out) (j5.put2 [0] (d2t t g out) (p9 (j4.row t.card)) (d9E t g out) (b5d t oa) D5 D5) (.ap 4 30 (d9 1 g 9 m) (AV.sl .clip 9 [(j4.row t.card)]) (d9 1 (g+1) 9 (m+1)) (d9G t g out) (I4 (row:=j4.row) (l:=out) (x:=t.card) (T:=tt) (e:=50) (te:=bZ) (z:=1) (b:=24) (y:=[.sl .nil 0 []]) kr kr rfl D8 D8 kr Z0 rfl rfl gV) (.s (.y 1 (.int .i64 (cj_ n)) (iN (n - 1)) Yes.o (.g (.l (k1 h1))))))))) (fun h1 h1'=>(.l (k2 h1))))))
theorem b9z (n:Nat):∀ (t:Tp) (g m:Nat) (out:l9C) (gF mF:Nat) (outF:l9C) (tF:Tp),t.l.length < 9223372036854775808->m=out.length->m+n < 1099511627776->gF=g+n->mF=m+n->outF=out++t.cards n->tF=t.J5 n ->
 l6 (C8 a1C Tryz.f15 0) (some [0,5,6]) (some [0,5,6]) (mkF 21 [(0,(j3 0)),(5,(d9 1 g 9 m)),(6,(iN n))]) [(o_ 0 2 [(Tp.row t)]),(o_ g 9 (mC out))] (.exit 0) (mkF 21 [(0,(j3 0)),(5,(d9 1 gF 9 mF)),(6,(iN 0))]) [(o_ 0 2 [(Tp.row tF)]),(o_ gF 9 (mC outF))]:=by
 induction n with
 | zero =>
  intro t g m out gF mF outF tF hl hm hb h1 h2 h3 h4
  refine a5e t g m 0 out hl hm ow ow (fun h=>by simp at h) fun _=>?_
  simp [h1,h2,h3,h4,Tp.cards,Tp.J5]
 | succ n ih =>
  intro t g m out gF mF outF tF hl hm hb h1 h2 h3 h4
  refine a5e t g m (n+1) out hl hm ow ow (fun _=>?_) fun h=>by simp at h
  exact ih t.K8 (g+1) (m+1) (out++[t.card]) gF mF outF tF (by rw [Tp.uE]; exact hl) (by simp [hm]) ow ow ow (by simp [h3,Tp.cards]) (by simp [h4,Tp.J5])
abbrev d5r (a:Tp) (b:Nat):Ob:=(o_ 0 2 [(Tp.row ((a.step (b+1)).J5 (a.next (b+1))))])
abbrev d9D (a:Tp) (b:Nat):Heap:=[d5r a b]
abbrev d9C (a:Tp):Heap:=[(o_ 0 2 [(Tp.row a)]),(o_ 0 9 (mC []))]
abbrev d2s (a:Tp) (b:Nat):Heap:=[(o_ 0 2 [(Tp.row (a.step (b+1)))]),(o_ 0 9 (mC []))]
abbrev d9B (a:Tp) (b:Nat):Fr:=(mkF 21 [(0,(j3 0)),(5,(d9 1 (a.next (b+1)) 9 (a.next (b+1)))),(6,(iN 0))])
abbrev d9A (a:Tp) (b:Nat):Heap:=[d5r a b,(o_ (a.next (b+1)) 9 (mC ((a.step (b+1)).cards (a.next (b+1)))))]
theorem tK (t:Tp) (n:Nat) (hl:t.l.length < 9223372036854775808) (hn:n < 1048576):AC 15 [(j3 0),(iN n)] [(o_ 0 2 [(Tp.row t)])] ((sA 9 (mC (t.step (n+1) |>.cards (t.next (n+1))))),(d9D t n)):=by
 have hx:=t.next_lt (n+1) ow
 exact x9 (fn:=Tryz.f15) (ann:=a1C) (Has.o Tryz.func15) (.r (.s (.s (.h' (d9C t) (.y 2 (.int .i64 (cb_ n)) (iN (n+1)) Yes.o (.ch 3 (d2s t n) (j5.put2 [0] (d9C t) (iN (t.next (n+1))) (d2s t n) (H7 t (n+1) oa) D5 D5) (.g (.loop (d9B t n) (show l6 ci_ (some [0,5,6]) (some [0,5,6]) (mkF 21 [(0,(j3 0)),(5,(d9 1 0 9 0)),(6,(iN (t.next (n+1))))]) (d2s t n) (.exit 0) (d9B t n) (d9A t n) from (b9z (t.next (n+1)) (t.step (n+1)) 0 0 [] (t.next (n+1)) (t.next (n+1)) _ _ (by rw [Tp.bA]; exact hl) rfl ow ow ow rfl rfl)) (.r (.w' 4 (mC ((t.step (n+1)).cards (t.next (n+1)))) (And.intro (G5 (room:=none) kr (by first | omega | (simp [Tp.a8i]; done) | (simp [Tp.a8i]; omega))) (j4.z8 _ _):I5 (d9A t n) 9 (d9 1 (t.next (n+1)) 9 (t.next (n+1)))=some (mC ((t.step (n+1)).cards (t.next (n+1))))/\AV.F3 0 (mC ((t.step (n+1)).cards (t.next (n+1))))=true) (.g (.h' (d9D t n) (.q 1 (sA 9 (mC ((t.step (n+1)).cards (t.next (n+1))))))))))))))))))
attribute [local irreducible] Tp.J5 Tp.cards Tp.key Tp.keyT
section
variable {α:Type} [Inhabited α]
def sink (cmp:α->α->Int) (a:Nat):Nat->List α->List α
 | 0,l=>l
 | j+1,l=>if decide (((j+1:Nat):Int) > (a:Int))=true then if decide (cmp (nth l (j+1)) (nth l j) < 0)=true then sink cmp a j ((l.set (j+1) (nth l j)).set j (nth l (j+1))) else l else l
def A9 (cmp:α->α->Int) (a:Nat):Nat->Nat->List α->List α
 | 0,_,l=>l
 | k+1,i,l=>A9 cmp a k (i+1) (sink cmp a i l)
theorem uM (cmp:α->α->Int) (a j:Nat):∀ (l:List α),(sink cmp a j l).length=l.length:=by
 induction j with
 | zero=>intro l; simp only [sink]
 | succ j ih =>
  intro l
  simp only [sink]
  split
  · split
    · rw [ih]; simp
    · rfl
  · rfl
theorem dU (cmp:α->α->Int) (a k:Nat):∀ (i:Nat) (l:List α),(A9 cmp a k i l).length=l.length:=by
 induction k with
 | zero=>intro i l; simp only [A9]
 | succ k ih=>intro i l; simp only [A9]; rw [ih,uM]
end
def vB:Ann:={ base:=1,fin:=some 1,live:=[(1,[0,1,2,3,8]),(4,[0,1,2,3,8,9])],out:=[(1,[0,1,2,3,8]),(4,[0,1,2,3,8])] }
abbrev l9E:=List Entry
@[simp] abbrev mE (l:l9E):List (List AV):=List.map Entry.row l
@[simp] abbrev c1y (a:Nat) (b:l9E) (c:Nat):Heap:=[(o_ a 10 (mE ((b.set c (nth b (c - 1))).set (c - 1) (nth b c))))]
@[simp] abbrev a7b (a:Nat) (b:Nat) (c:Nat) (d:Nat) (e:Nat) (f:List AV) (g:Nat):Fr:=(mkF 53 [(0,(d9 0 a 10 b)),(1,(iN c)),(2,(iN d)),(3,(A8 e f)),(8,(iN g))])
theorem yY {p:Prop} (h:p:=by simp [Entry.row]):p:=h
theorem yX {p:Prop} (h:p:=by simp [setAt,dI,List.map_set,Entry.row]):p:=h
@[simp] abbrev ck_ :=(C8 vB Tryz.f218 1)
abbrev cl_ (a:l9E) (b:Nat):=(p9 (Entry.row (nth a b)))
abbrev cm_ (a:l9E) (b:Nat):=(p9 (Entry.row (nth a (b - 1))))
abbrev h9E (cmp:Entry->Entry->Int) (f:Nat) (xs:List AV):Prop:=∀ (x y:Entry) (H:Heap),AC f ([AV.agg (Entry.row x),AV.agg (Entry.row y)]++xs) H (AV.int .i64 (cmp x y),H)
theorem a7N (cmp:Entry->Entry->Int) (f:Nat) (xs:List AV) (hc:h9E cmp f xs) (a b i n g:Nat) (j:Nat) (l:l9E) (hn:n=l.length) (hb:n < 1099511627776) (hbn:b<=n) (hj:j < n) {eX:Ex} {FX:Fr} {HX:Heap} (k1:(decide ((j:Int) > (a:Int)))=true->(decide ((cmp (nth l j) (nth l (j - 1))) < 0))=true->l6 ck_ (some [0,1,2,3,8,9]) (some [0,1,2,3,8]) (mkF 53 [(0,(d9 0 g 10 n)),(1,(iN a)),(2,(iN b)),(3,(A8 f xs)),(8,(iN i)),(9,(iN (j - 1)))]) (c1y g l j) eX FX HX) (k2:(decide ((j:Int) > (a:Int)))=true->(decide ((cmp (nth l j) (nth l (j - 1))) < 0))=false->((.exit 2:Ex),(a7b g n a b f xs i),[(o_ g 10 (mE l))])=(eX,FX,HX)) (k3:(decide ((j:Int) > (a:Int)))=false->((.exit 2:Ex),(a7b g n a b f xs i),[(o_ g 10 (mE l))])=(eX,FX,HX)):l6 ck_ (some [0,1,2,3,8,9]) (some [0,1,2,3,8]) (mkF 53 [(0,(d9 0 g 10 n)),(1,(iN a)),(2,(iN b)),(3,(A8 f xs)),(8,(iN i)),(9,(iN j))]) [(o_ g 10 (mE l))] eX FX HX :=
 J7 (.r (.two (decide ((j:Int) > (a:Int))) (fun h1 h1'=>(.u3 (.io 7 0 g 10 10 0 n (j:Int) j (I7.mk _ ow ow) (.u (.t 8 (cl_ l j) [(o_ g 10 (mE l))] (J6 (F7 (row:=Entry.row) (l:=l) (k:=10) (room:=none) kr om) kr:M6 tt 93 0 [(o_ g 10 (mE l))] (rowAt [(o_ g 10 (mE l))] 0 g j)=some ((cl_ l j),([(o_ g 10 (mE l))]:Heap))) (.u3 (.y 11 (.int .i64 (cj_ j)) (iN (j - 1)) Yes.o (.u (.io 12 0 g 10 10 0 n ((j - 1:Nat):Int) (j - 1) (I7.mk _ ow ow) (.u (.t 13 (cm_ l j) [(o_ g 10 (mE l))] (J6 (F7 (row:=Entry.row) (l:=l) (k:=10) (room:=none) kr om) kr:M6 tt 93 0 [(o_ g 10 (mE l))] (rowAt [(o_ g 10 (mE l))] 0 g (j - 1))=some ((cm_ l j),([(o_ g 10 (mE l))]:Heap))) (.u (.c 14 (hc (nth l j) (nth l (j - 1)) [(o_ g 10 (mE l))]) (.u (.g (.two (decide ((cmp (nth l j) (nth l (j - 1))) < 0)) (fun h2 h2'=>(.r (.y 4 (.int .i64 (cj_ j)) (iN (j - 1)) Yes.o (.y 7 (.int .i64 (cj_ j)) (iN (j - 1)) Yes.o (.io 8 0 g 10 10 0 n ((j - 1:Nat):Int) (j - 1) (I7.mk _ ow ow) (.t 9 (cm_ l j) [(o_ g 10 (mE l))] (J6 (F7 (row:=Entry.row) (l:=l) (k:=10) (room:=none) kr om) kr:M6 tt 93 0 [(o_ g 10 (mE l))] (rowAt [(o_ g 10 (mE l))] 0 g (j - 1))=some ((cm_ l j),([(o_ g 10 (mE l))]:Heap))) (.io 12 0 g 10 10 0 n (j:Int) j (I7.mk _ ow ow) (.t 13 (cl_ l j) [(o_ g 10 (mE l))] (J6 (F7 (row:=Entry.row) (l:=l) (k:=10) (room:=none) kr om) kr:M6 tt 93 0 [(o_ g 10 (mE l))] (rowAt [(o_ g 10 (mE l))] 0 g j)=some ((cl_ l j),([(o_ g 10 (mE l))]:Heap))) (.io 14 0 g 10 10 0 n (j:Int) j (I7.mk _ ow ow) (.st 15 0 g j 10 0 (cm_ l j) [(o_ g 10 (mE (l.set j (nth l (j - 1)))))] (U0 (us:=(Entry.row (nth l (j - 1)))) (F7 (row:=Entry.row) (l:=l) (k:=10) (room:=none) kr om) kr yY yX) (.io 16 0 g 10 10 0 n ((j - 1:Nat):Int) (j - 1) (I7.mk _ ow ow) (.st 17 0 g (j - 1) 10 0 (cl_ l j) (c1y g l j) (U0 (us:=(Entry.row (nth l j))) (F7 (row:=Entry.row) (l:=l.set j (nth l (j - 1))) (k:=10) (room:=none) kr om) kr yY yX) (.s (.y 1 (.int .i64 (cj_ j)) (iN (j - 1)) Yes.o (.g (.l (k1 h1 h2))))))))))))))))) (fun h2 h2'=>(.l (k2 h1 h2))))))))))))))))))) (fun h1 h1'=>(.n6 (.n5 (.g (.n (.l (k3 h1)))))))))
theorem a9n {p:Prop} (h:p:=by rw [h2]; simp):p:=h
theorem a3e {p:Prop} (h:p:=by rw [h1]; simp):p:=h
theorem b7w (cmp:Entry->Entry->Int) (f:Nat) (xs:List AV) (hc:h9E cmp f xs) (a b i n g:Nat) (j:Nat):∀ (l lF:l9E),n=l.length->n < 1099511627776->b<=n->j < n->lF=sink cmp a j l ->
 l6 (C8 vB Tryz.f218 1) (some [0,1,2,3,8,9]) (some [0,1,2,3,8]) (mkF 53 [(0,(d9 0 g 10 n)),(1,(iN a)),(2,(iN b)),(3,(A8 f xs)),(8,(iN i)),(9,(iN j))]) [(o_ g 10 (mE l))] (.exit 2) (mkF 53 [(0,(d9 0 g 10 n)),(1,(iN a)),(2,(iN b)),(3,(A8 f xs)),(8,(iN i))]) [(o_ g 10 (mE lF))]:=by
 induction j with
 | zero =>
  intro l lF hn hb hbn hj h
  refine a7N cmp f xs hc a b i n g 0 l hn hb hbn hj (fun h1=>?_) (fun h1=>?_) (fun h1=>?_)
  · simp at h1; omega
  · simp at h1; omega
  · rw [h]; rfl
 | succ j ih =>
  intro l lF hn hb hbn hj h
  refine a7N cmp f xs hc a b i n g (j+1) l hn hb hbn hj (fun h1 h2=>?_) (fun h1 h2=>?_) (fun h1=>?_)
  · simp only [Nat.add_sub_cancel] at h2
    exact ih ((l.set (j+1) (nth l j)).set j (nth l (j+1))) lF (by simp [hn]) hb hbn ow (by rw [h]; simp only [sink]; rw [if_pos h1,if_pos h2])
  · simp only [Nat.add_sub_cancel] at h2
    rw [h]; simp only [sink]; rw [if_pos h1,if_neg a9n]
  · rw [h]; simp only [sink]; rw [if_neg a3e]
@[simp] abbrev cn_ :=(C8 vB Tryz.f218 0)
theorem a7M (cmp:Entry->Entry->Int) (f:Nat) (xs:List AV) (hc:h9E cmp f xs) (a b i n g:Nat) (l:l9E) (hn:n=l.length) (hb:n < 1099511627776) (hbn:b<=n) {eX:Ex} {FX:Fr} {HX:Heap} (k1:(l9 i b)=true->l6 cn_ (some [0,1,2,3,8]) (some [0,1,2,3,8]) (mkF 53 [(0,(d9 0 g 10 n)),(1,(iN a)),(2,(iN b)),(3,(A8 f xs)),(8,(iN (i+1)))]) [(o_ g 10 (mE (sink cmp a i l)))] eX FX HX) (k2:(l9 i b)=false->((.exit 0:Ex),(a7b g n a b f xs i),[(o_ g 10 (mE l))])=(eX,FX,HX)):l6 cn_ (some [0,1,2,3,8]) (some [0,1,2,3,8]) (a7b g n a b f xs i) [(o_ g 10 (mE l))] eX FX HX :=
 J7 (.r (.g (.two (l9 i b) (fun h1 h1'=>(.r (.g (.loop (a7b g n a b f xs i) (show l6 ck_ (some [0,1,2,3,8,9]) (some [0,1,2,3,8]) (mkF 53 [(0,(d9 0 g 10 n)),(1,(iN a)),(2,(iN b)),(3,(A8 f xs)),(8,(iN i)),(9,(iN i))]) [(o_ g 10 (mE l))] (.exit 2) (a7b g n a b f xs i) [(o_ g 10 (mE (sink cmp a i l)))] from (b7w cmp f xs hc a b i n g i l _ hn hb hbn ow rfl)) (.r (.y 1 (.int .i64 (cb_ i)) (iN (i+1)) Yes.o (.g (.l (k1 h1))))))))) (fun h1 h1'=>(.l (k2 h1))))))
theorem rQ {p:Prop} (h:p:=by simp at h; omega):p:=h
theorem c4i (cmp:Entry->Entry->Int) (f:Nat) (xs:List AV) (hc:h9E cmp f xs) (a b n g:Nat) (k:Nat)
 : ∀ (i:Nat) (l lF:l9E) (iF:Nat),n=l.length->n < 1099511627776->b<=n->iF=i+k->b<=i+k->i+k<=max b i->lF=A9 cmp a k i l ->
 l6 (C8 vB Tryz.f218 0) (some [0,1,2,3,8]) (some [0,1,2,3,8]) (mkF 53 [(0,(d9 0 g 10 n)),(1,(iN a)),(2,(iN b)),(3,(A8 f xs)),(8,(iN i))]) [(o_ g 10 (mE l))] (.exit 0) (mkF 53 [(0,(d9 0 g 10 n)),(1,(iN a)),(2,(iN b)),(3,(A8 f xs)),(8,(iN iF))]) [(o_ g 10 (mE lF))]:=by
 induction k with
 | zero =>
  intro i l lF iF hn hb hbn h1 h2 h2' h3
  refine a7M cmp f xs hc a b i n g l hn hb hbn (fun h=>?_) (fun h=>?_)
  · simp at h; omega
  · rw [h3,h1]; simp only [A9]; rfl
 | succ k ih =>
  intro i l lF iF hn hb hbn h1 h2 h2' h3
  refine a7M cmp f xs hc a b i n g l hn hb hbn (fun h=>?_) (fun h=>?_)
  · exact ih (i+1) (sink cmp a i l) lF iF (by rw [uM]; exact hn) hb hbn ow ow rQ (by rw [h3]; simp only [A9])
  · simp at h; omega
abbrev d9z (a:Nat) (b:Nat) (c:Nat) (d:Nat) (e:Nat) (f:List AV):Fr:=(mkF 53 [(0,(d9 0 a 10 b)),(1,(iN c)),(2,(iN d)),(3,(A8 e f)),(8,(iN (((c+1)+(d - (c+1))))))])
theorem c4h (cmp:Entry->Entry->Int) (f:Nat) (xs:List AV) (a b n g:Nat) (l:l9E) (hc:h9E cmp f xs) (hxs:AV.bdds 1 xs=true) (hn:n=l.length) (hb:n < 1099511627776) (hbn:b<=n) (hab:a < 1099511627776):AC 218 [(d9 0 g 10 n),(iN a),(iN b),(A8 f xs)] [(o_ g 10 (mE l))] (F4,[(o_ g 10 (mE (A9 cmp a (b - (a+1)) (a+1) l)))]) :=
 x9 (fn:=Tryz.f218) (ann:=vB) (Has.o Tryz.func218) (.r (.y 1 (.int .i64 (cb_ a)) (iN (a+1)) Yes.o (.g (.loop (d9z g n a b f xs) (show l6 cn_ (some [0,1,2,3,8]) (some [0,1,2,3,8]) (mkF 53 [(0,(d9 0 g 10 n)),(1,(iN a)),(2,(iN b)),(3,(A8 f xs)),(8,(iN (a+1)))]) [(o_ g 10 (mE l))] (.exit 0) (d9z g n a b f xs) [(o_ g 10 (mE (A9 cmp a (b - (a+1)) (a+1) l)))] from (c4i cmp f xs hc a b n g (b - (a+1)) (a+1) l _ _ hn hb hbn rfl ow ow rfl)) (.q 1 F4)))))
theorem lZ {p:Prop} (h:p:=by simp [AV.bdds,AV.bdd, *]):p:=h
theorem b4D (cmp:Entry->Entry->Int) (f:Nat) (xs:List AV) (a b n g:Nat) (l:l9E) (hc:h9E cmp f xs) (hxs:AV.bdds 1 xs=true) (hn:n=l.length) (hb:n < 1099511627776) (hbn:b<=n) (hab:a < 1099511627776) (H:Heap):AC 218 [(d9 0 g 10 n),(iN a),(iN b),(A8 f xs)] (([(o_ g 10 (mE l))]:Heap)++H) (F4,([(o_ g 10 (mE (A9 cmp a (b - (a+1)) (a+1) l)))]:Heap)++H):=(c4h cmp f xs a b n g l hc hxs hn hb hbn hab).ext lZ kr ob ob kr H
def vC:Ann:={ base:=1,fin:=some 1,live:=[(1,[0,1,2,3,8]),(4,[0,1,2,3,8,9])],out:=[(1,[0,1,2,3,8]),(4,[0,1,2,3,8])] }
@[simp] abbrev c1x (a:Nat) (b:l9C) (c:Nat):Heap:=[(o_ a 9 (mC ((b.set c (nth b (c - 1))).set (c - 1) (nth b c))))]
@[simp] abbrev a7a (a:Nat) (b:Nat) (c:Nat) (d:Nat) (e:Nat) (f:List AV) (g:Nat):Fr:=(mkF 53 [(0,(d9 0 a 9 b)),(1,(iN c)),(2,(iN d)),(3,(A8 e f)),(8,(iN g))])
theorem wR {p:Prop} (h:p:=by simp [j4.row]):p:=h
theorem wQ {p:Prop} (h:p:=by simp [setAt,dI,List.map_set,j4.row]):p:=h
@[simp] abbrev co_ :=(C8 vC Tryz.f215 1)
@[simp] abbrev cp_ (a:l9C) (b:Nat):=(p9 (j4.row (nth a b)))
abbrev cq_ (a:l9C) (b:Nat):=(p9 (j4.row (nth a (b - 1))))
abbrev h9C (cmp:j4->j4->Int) (f:Nat) (xs:List AV):Prop:=∀ (x y:j4) (H:Heap),AC f ([AV.agg (j4.row x),AV.agg (j4.row y)]++xs) H (AV.int .i64 (cmp x y),H)
theorem a7P (cmp:j4->j4->Int) (f:Nat) (xs:List AV) (hc:h9C cmp f xs) (a b i n g:Nat) (j:Nat) (l:l9C) (hn:n=l.length) (hb:n < 1099511627776) (hbn:b<=n) (hj:j < n) {eX:Ex} {FX:Fr} {HX:Heap} (k1:(decide ((j:Int) > (a:Int)))=true->(decide ((cmp (nth l j) (nth l (j - 1))) < 0))=true->l6 co_ (some [0,1,2,3,8,9]) (some [0,1,2,3,8]) (mkF 53 [(0,(d9 0 g 9 n)),(1,(iN a)),(2,(iN b)),(3,(A8 f xs)),(8,(iN i)),(9,(iN (j - 1)))]) (c1x g l j) eX FX HX) (k2:(decide ((j:Int) > (a:Int)))=true->(decide ((cmp (nth l j) (nth l (j - 1))) < 0))=false->((.exit 2:Ex),(a7a g n a b f xs i),[(o_ g 9 (mC l))])=(eX,FX,HX)) (k3:(decide ((j:Int) > (a:Int)))=false->((.exit 2:Ex),(a7a g n a b f xs i),[(o_ g 9 (mC l))])=(eX,FX,HX)):l6 co_ (some [0,1,2,3,8,9]) (some [0,1,2,3,8]) (mkF 53 [(0,(d9 0 g 9 n)),(1,(iN a)),(2,(iN b)),(3,(A8 f xs)),(8,(iN i)),(9,(iN j))]) [(o_ g 9 (mC l))] eX FX HX :=
 J7 (.r (.two (decide ((j:Int) > (a:Int))) (fun h1 h1'=>(.u3 (.io 7 0 g 9 9 0 n (j:Int) j (I7.mk _ ow ow) (.u (.t 8 (cp_ l j) [(o_ g 9 (mC l))] (J6 (F7 (row:=j4.row) (l:=l) (k:=9) (room:=none) kr om) kr:M6 tt 50 0 [(o_ g 9 (mC l))] (rowAt [(o_ g 9 (mC l))] 0 g j)=some ((cp_ l j),([(o_ g 9 (mC l))]:Heap))) (.u3 (.y 11 (.int .i64 (cj_ j)) (iN (j - 1)) Yes.o (.u (.io 12 0 g 9 9 0 n ((j - 1:Nat):Int) (j - 1) (I7.mk _ ow ow) (.u (.t 13 (cq_ l j) [(o_ g 9 (mC l))] (J6 (F7 (row:=j4.row) (l:=l) (k:=9) (room:=none) kr om) kr:M6 tt 50 0 [(o_ g 9 (mC l))] (rowAt [(o_ g 9 (mC l))] 0 g (j - 1))=some ((cq_ l j),([(o_ g 9 (mC l))]:Heap))) (.u (.c 14 (hc (nth l j) (nth l (j - 1)) [(o_ g 9 (mC l))]) (.u (.g (.two (decide ((cmp (nth l j) (nth l (j - 1))) < 0)) (fun h2 h2'=>(.r (.y 4 (.int .i64 (cj_ j)) (iN (j - 1)) Yes.o (.y 7 (.int .i64 (cj_ j)) (iN (j - 1)) Yes.o (.io 8 0 g 9 9 0 n ((j - 1:Nat):Int) (j - 1) (I7.mk _ ow ow) (.t 9 (cq_ l j) [(o_ g 9 (mC l))] (J6 (F7 (row:=j4.row) (l:=l) (k:=9) (room:=none) kr om) kr:M6 tt 50 0 [(o_ g 9 (mC l))] (rowAt [(o_ g 9 (mC l))] 0 g (j - 1))=some ((cq_ l j),([(o_ g 9 (mC l))]:Heap))) (.io 12 0 g 9 9 0 n (j:Int) j (I7.mk _ ow ow) (.t 13 (cp_ l j) [(o_ g 9 (mC l))] (J6 (F7 (row:=j4.row) (l:=l) (k:=9) (room:=none) kr om) kr:M6 tt 50 0 [(o_ g 9 (mC l))] (rowAt [(o_ g 9 (mC l))] 0 g j)=some ((cp_ l j),([(o_ g 9 (mC l))]:Heap))) (.io 14 0 g 9 9 0 n (j:Int) j (I7.mk _ ow ow) (.st 15 0 g j 9 0 (cq_ l j) [(o_ g 9 (mC (l.set j (nth l (j - 1)))))] (U0 (us:=(j4.row (nth l (j - 1)))) (F7 (row:=j4.row) (l:=l) (k:=9) (room:=none) kr om) kr wR wQ) (.io 16 0 g 9 9 0 n ((j - 1:Nat):Int) (j - 1) (I7.mk _ ow ow) (.st 17 0 g (j - 1) 9 0 (cp_ l j) (c1x g l j) (U0 (us:=(j4.row (nth l j))) (F7 (row:=j4.row) (l:=l.set j (nth l (j - 1))) (k:=9) (room:=none) kr om) kr wR wQ) (.s (.y 1 (.int .i64 (cj_ j)) (iN (j - 1)) Yes.o (.g (.l (k1 h1 h2))))))))))))))))) (fun h2 h2'=>(.l (k2 h1 h2))))))))))))))))))) (fun h1 h1'=>(.n6 (.n5 (.g (.n (.l (k3 h1)))))))))
theorem b7x (cmp:j4->j4->Int) (f:Nat) (xs:List AV) (hc:h9C cmp f xs) (a b i n g:Nat) (j:Nat):∀ (l lF:l9C),n=l.length->n < 1099511627776->b<=n->j < n->lF=sink cmp a j l ->
 l6 (C8 vC Tryz.f215 1) (some [0,1,2,3,8,9]) (some [0,1,2,3,8]) (mkF 53 [(0,(d9 0 g 9 n)),(1,(iN a)),(2,(iN b)),(3,(A8 f xs)),(8,(iN i)),(9,(iN j))]) [(o_ g 9 (mC l))] (.exit 2) (mkF 53 [(0,(d9 0 g 9 n)),(1,(iN a)),(2,(iN b)),(3,(A8 f xs)),(8,(iN i))]) [(o_ g 9 (mC lF))]:=by
 induction j with
 | zero =>
  intro l lF hn hb hbn hj h
  refine a7P cmp f xs hc a b i n g 0 l hn hb hbn hj (fun h1=>?_) (fun h1=>?_) (fun h1=>?_)
  · simp at h1; omega
  · simp at h1; omega
  · rw [h]; rfl
 | succ j ih =>
  intro l lF hn hb hbn hj h
  refine a7P cmp f xs hc a b i n g (j+1) l hn hb hbn hj (fun h1 h2=>?_) (fun h1 h2=>?_) (fun h1=>?_)
  · simp only [Nat.add_sub_cancel] at h2
    exact ih ((l.set (j+1) (nth l j)).set j (nth l (j+1))) lF (by simp [hn]) hb hbn ow (by rw [h]; simp only [sink]; rw [if_pos h1,if_pos h2])
  · simp only [Nat.add_sub_cancel] at h2
    rw [h]; simp only [sink]; rw [if_pos h1,if_neg a9n]
  · rw [h]; simp only [sink]; rw [if_neg a3e]
@[simp] abbrev cr_ :=(C8 vC Tryz.f215 0)
theorem a7O (cmp:j4->j4->Int) (f:Nat) (xs:List AV) (hc:h9C cmp f xs) (a b i n g:Nat) (l:l9C) (hn:n=l.length) (hb:n < 1099511627776) (hbn:b<=n) {eX:Ex} {FX:Fr} {HX:Heap} (k1:(l9 i b)=true->l6 cr_ (some [0,1,2,3,8]) (some [0,1,2,3,8]) (mkF 53 [(0,(d9 0 g 9 n)),(1,(iN a)),(2,(iN b)),(3,(A8 f xs)),(8,(iN (i+1)))]) [(o_ g 9 (mC (sink cmp a i l)))] eX FX HX) (k2:(l9 i b)=false->((.exit 0:Ex),(a7a g n a b f xs i),[(o_ g 9 (mC l))])=(eX,FX,HX)):l6 cr_ (some [0,1,2,3,8]) (some [0,1,2,3,8]) (a7a g n a b f xs i) [(o_ g 9 (mC l))] eX FX HX :=
 J7 (.r (.g (.two (l9 i b) (fun h1 h1'=>(.r (.g (.loop (a7a g n a b f xs i) (show l6 co_ (some [0,1,2,3,8,9]) (some [0,1,2,3,8]) (mkF 53 [(0,(d9 0 g 9 n)),(1,(iN a)),(2,(iN b)),(3,(A8 f xs)),(8,(iN i)),(9,(iN i))]) [(o_ g 9 (mC l))] (.exit 2) (a7a g n a b f xs i) [(o_ g 9 (mC (sink cmp a i l)))] from (b7x cmp f xs hc a b i n g i l _ hn hb hbn ow rfl)) (.r (.y 1 (.int .i64 (cb_ i)) (iN (i+1)) Yes.o (.g (.l (k1 h1))))))))) (fun h1 h1'=>(.l (k2 h1))))))
theorem c4l (cmp:j4->j4->Int) (f:Nat) (xs:List AV) (hc:h9C cmp f xs) (a b n g:Nat) (k:Nat)
 : ∀ (i:Nat) (l lF:l9C) (iF:Nat),n=l.length->n < 1099511627776->b<=n->iF=i+k->b<=i+k->i+k<=max b i->lF=A9 cmp a k i l ->
 l6 (C8 vC Tryz.f215 0) (some [0,1,2,3,8]) (some [0,1,2,3,8]) (mkF 53 [(0,(d9 0 g 9 n)),(1,(iN a)),(2,(iN b)),(3,(A8 f xs)),(8,(iN i))]) [(o_ g 9 (mC l))] (.exit 0) (mkF 53 [(0,(d9 0 g 9 n)),(1,(iN a)),(2,(iN b)),(3,(A8 f xs)),(8,(iN iF))]) [(o_ g 9 (mC lF))]:=by
 induction k with
 | zero =>
  intro i l lF iF hn hb hbn h1 h2 h2' h3
  refine a7O cmp f xs hc a b i n g l hn hb hbn (fun h=>?_) (fun h=>?_)
  · simp at h; omega
  · rw [h3,h1]; simp only [A9]; rfl
 | succ k ih =>
  intro i l lF iF hn hb hbn h1 h2 h2' h3
  refine a7O cmp f xs hc a b i n g l hn hb hbn (fun h=>?_) (fun h=>?_)
  · exact ih (i+1) (sink cmp a i l) lF iF (by rw [uM]; exact hn) hb hbn ow ow rQ (by rw [h3]; simp only [A9])
  · simp at h; omega
abbrev d9y (a:Nat) (b:Nat) (c:Nat) (d:Nat) (e:Nat) (f:List AV):Fr:=(mkF 53 [(0,(d9 0 a 9 b)),(1,(iN c)),(2,(iN d)),(3,(A8 e f)),(8,(iN (((c+1)+(d - (c+1))))))])
theorem c4k (cmp:j4->j4->Int) (f:Nat) (xs:List AV) (a b n g:Nat) (l:l9C) (hc:h9C cmp f xs) (hxs:AV.bdds 1 xs=true) (hn:n=l.length) (hb:n < 1099511627776) (hbn:b<=n) (hab:a < 1099511627776):AC 215 [(d9 0 g 9 n),(iN a),(iN b),(A8 f xs)] [(o_ g 9 (mC l))] (F4,[(o_ g 9 (mC (A9 cmp a (b - (a+1)) (a+1) l)))]) :=
 x9 (fn:=Tryz.f215) (ann:=vC) (Has.o Tryz.func215) (.r (.y 1 (.int .i64 (cb_ a)) (iN (a+1)) Yes.o (.g (.loop (d9y g n a b f xs) (show l6 cr_ (some [0,1,2,3,8]) (some [0,1,2,3,8]) (mkF 53 [(0,(d9 0 g 9 n)),(1,(iN a)),(2,(iN b)),(3,(A8 f xs)),(8,(iN (a+1)))]) [(o_ g 9 (mC l))] (.exit 0) (d9y g n a b f xs) [(o_ g 9 (mC (A9 cmp a (b - (a+1)) (a+1) l)))] from (c4l cmp f xs hc a b n g (b - (a+1)) (a+1) l _ _ hn hb hbn rfl ow ow rfl)) (.q 1 F4)))))
theorem b4E (cmp:j4->j4->Int) (f:Nat) (xs:List AV) (a b n g:Nat) (l:l9C) (hc:h9C cmp f xs) (hxs:AV.bdds 1 xs=true) (hn:n=l.length) (hb:n < 1099511627776) (hbn:b<=n) (hab:a < 1099511627776) (H:Heap):AC 215 [(d9 0 g 9 n),(iN a),(iN b),(A8 f xs)] (([(o_ g 9 (mC l))]:Heap)++H) (F4,([(o_ g 9 (mC (A9 cmp a (b - (a+1)) (a+1) l)))]:Heap)++H):=(c4k cmp f xs a b n g l hc hxs hn hb hbn hab).ext lZ kr ob ob kr H
attribute [local irreducible] A9 sink
theorem aU {α:Type} [Inhabited α] {l:List α} {i:Nat} (h:i < l.length):l.drop i=nth l i :: l.drop (i+1):=by
 rw [List.drop_eq_getElem_cons h]
 congr 1
 simp [nth,List.getD_eq_getElem?_getD,List.getElem?_eq_getElem h]
def cmpL (now:Int) (a b:Entry):Int:=if V7 (F9 b now) (F9 a now)=0 then M8 a.card.key b.card.key else V7 (F9 b now) (F9 a now)
def b3s:Ann:={ refs:=[3,4],fin:=some 0 }
theorem b0b (now:Int) (a b:Entry) :AC 179 [(p9 (Entry.row a)),(p9 (Entry.row b)),(AV.ref [(iI now)] 0)] [] ((iI (cmpL now a b)),[]) :=
 x9 (fn:=Tryz.f179) (ann:=b3s) (Has.o Tryz.func179) (.r (.s (.c 2 ((vW b now).lift kr kr []) (.c 5 ((vW a now).lift kr kr []) (.c 6 ((rX (F9 b now) (F9 a now)).lift kr kr []) (.c 13 ((b6J a.card.key b.card.key).lift kr kr []) (.c 15 (j5.pre (args:=[(sA 1 [[(iI (V7 (F9 b now) (F9 a now)))],[(iI (M8 a.card.key b.card.key))]])]) (args':=[(AV.sl .clip 1 [[(iI (V7 (F9 b now) (F9 a now)))],[(iI (M8 a.card.key b.card.key))]])]) ((b0e (V7 (F9 b now) (F9 a now)) (M8 a.card.key b.card.key)).lift kr kr []) ⟨⟨rfl,rfl,.inl rfl⟩,trivial⟩) (.q 0 (iI (if (V7 (F9 b now) (F9 a now))=0 then (M8 a.card.key b.card.key) else (V7 (F9 b now) (F9 a now))))))))))))
theorem b6G (now:Int) (a b:Entry)  (H:Heap):AC 179 [(p9 (Entry.row a)),(p9 (Entry.row b)),(AV.ref [(iI now)] 0)] H ((iI (cmpL now a b)),H):=(b0b now a b ).lift kr kr H
def Q5 (n:Int):Nat:=(Int.tdiv (max 0 (min n 1048576) * 15+100 - 1) 100).toNat
theorem d5D (x:Int) (h:0<=x):0<=Int.tdiv x 100/\Int.tdiv x 100<=x:=by
 rw [Int.tdiv_eq_ediv_of_nonneg h]; omega
def c9e:Ann:={ fin:=some 0 }
abbrev cs_ (a:Int):=(iI (Int.tdiv ((((max 0 (min a 1048576)) * 15)+100) - 1) 100))
theorem c3t (n:Int) :AC 182 [(iI n)] [] ((iN (Q5 n)),[]):=by
 have hx:=d5D (max 0 (min n 1048576) * 15+100 - 1) ow
 exact x9 (fn:=Tryz.f182) (ann:=c9e) (Has.o Tryz.func182) (.r (.s (.y 1 (.int .i64 (if 1048576 < n then 1048576 else n)) (iI (min n 1048576)) (Yes.int yv_) (.y 2 (.int .i64 (if (min n 1048576) > 0 then (min n 1048576) else 0)) (iI (max 0 (min n 1048576))) (Yes.int yv_) (.y 3 (iW ((max 0 (min n 1048576)) * 15)) (iI ((max 0 (min n 1048576)) * 15)) Yes.o (.y 4 (iW (((max 0 (min n 1048576)) * 15)+100)) (iI (((max 0 (min n 1048576)) * 15)+100)) Yes.o (.y 5 (iW ((((max 0 (min n 1048576)) * 15)+100) - 1)) (iI ((((max 0 (min n 1048576)) * 15)+100) - 1)) Yes.o (.t 6 (cs_ n) [] (d6A ow ow ow:Option.map (fun a=>(a,([]:Heap))) (if (100:Int)=0 then none else some (iI (IntKind.i64.wrap (Int.tdiv ((((max 0 (min n 1048576)) * 15)+100) - 1) 100))))=some ((cs_ n),([]:Heap))) (.q 0 (cs_ n) (by simp [Q5]; omega))))))))))
def a1c:Ann:={ gha:=[(1,.vir 3 2),(6,.cut 1),(7,.frz 2)],fin:=some 0,live:=[(3,[3,6,7,8])],out:=[(3,[3,6,7,8])] }
abbrev l9K:=List Key
@[simp] abbrev mK (l:l9K):List (List AV):=List.map Key.row l
@[simp] abbrev d9x (a:Nat) (b:l9K) (c:l9E) (d:Nat):Heap:=[(o_ (a+1) 2 (mK (b++[(nth c d).card.key])))]
@[simp] abbrev d9w (a:Nat) (b:Nat) (c:l9E) (d:Nat):Fr:=(mkF 20 [(3,(d9 0 a 2 b)),(6,(sA 10 (mE c))),(7,(iN c.length)),(8,(iN d))])
theorem b4W {p:Prop} (h:p:=by first | omega | (show _ * 32<=_; omega) | (simp; omega)):p:=h
@[simp] abbrev ct_ :=(C8 a1c Tryz.f181 0)
@[reducible] def a6g:TI:={ d:=.struct [(9,0),(9,1)],size:=2,bytes:=32,zero:=[.str ⟨#[]⟩,.str ⟨#[]⟩] }
theorem a4Q (l:l9E) (i k g:Nat) (out:l9K) (hk:k=out.length) (hki:k<=l.length) (hl:l.length < 1099511627776) {eX:Ex} {FX:Fr} {HX:Heap} (k1:(l9 i l.length)=true->l6 ct_ (some [3,6,7,8]) (some [3,6,7,8]) (mkF 20 [(3,(d9 0 (g+1) 2 (k+1))),(6,(sA 10 (mE l))),(7,(iN l.length)),(8,(iN (i+1)))]) (d9x g out l i) eX FX HX) (k2:(l9 i l.length)=false->((.exit 0:Ex),(d9w g k l i),[(o_ g 2 (mK out))])=(eX,FX,HX)):l6 ct_ (some [3,6,7,8]) (some [3,6,7,8]) (d9w g k l i) [(o_ g 2 (mK out))] eX FX HX :=
 J7 (.r (.g (.two (l9 i l.length) (fun h1 h1'=>(.r (.h' [(o_ g 2 (mK out)),(o_ 0 10 [[e_,e_,z_,z_,z_,z_,z_,z_,bF,z_]])] (.is 0 10 10 (mE l) (i:Int) (Entry.row (nth l i)) (N7.mk _ ow ow) (.s (.h' [(o_ g 2 (mK out)),(o_ 0 10 [(Entry.row (nth l i))])] (.ap 5 31 (d9 0 g 2 k) (AV.sl .clip 2 [(Key.row (nth l i).card.key)]) (d9 0 (g+1) 2 (k+1)) [(o_ (g+1) 2 (mK (out++[(nth l i).card.key]))),(o_ 0 10 [(Entry.row (nth l i))])] (I4 (row:=Key.row) (l:=out) (x:=(nth l i).card.key) (T:=tt) (e:=28) (te:=a6g) (z:=1) (b:=24) (y:=[.sl .nil 0 []]) kr kr rfl D8 D8 kr Z0 rfl rfl b4W) (.s (.y 0 (.int .i64 (cb_ i)) (iN (i+1)) Yes.o (.h' (d9x g out l i) (.b 1 (.g (.l (k1 h1)))))))))))))) (fun h1 h1'=>(.l (k2 h1))))))
theorem uH {p:Prop} (h:p:=by simp [hk]):p:=h
theorem b7a (l:l9E) (r:Nat):∀ (i k g:Nat) (out:l9K) (kF gF:Nat) (outF:l9K),i+r=l.length->k=out.length->k=i->l.length < 1099511627776->kF=k+r->gF=g+r->outF=out++(l.drop i).map (·.card.key) ->
 l6 (C8 a1c Tryz.f181 0) (some [3,6,7,8]) (some [3,6,7,8]) (mkF 20 [(3,(d9 0 g 2 k)),(6,(sA 10 (mE l))),(7,(iN l.length)),(8,(iN i))]) [(o_ g 2 (mK out))] (.exit 0) (mkF 20 [(3,(d9 0 gF 2 kF)),(6,(sA 10 (mE l))),(7,(iN l.length)),(8,(iN l.length))]) [(o_ gF 2 (mK outF))]:=by
 induction r with
 | zero =>
  intro i k g out kF gF outF hi hk hki hl h1 h2 h3
  refine a4Q l i k g out hk ow hl (fun h=>by simp at h; omega) fun _=>?_
  have:l.drop i=[]:=List.drop_of_length_le ow
  have e1:kF=k:=by omega
  have e2:gF=g:=by omega
  have e3:i=l.length:=by omega
  have e4:outF=out:=by rw [h3,this]; simp
  rw [e1,e2,e3,e4]
 | succ r ih =>
  intro i k g out kF gF outF hi hk hki hl h1 h2 h3
  refine a4Q l i k g out hk ow hl (fun _=>?_) fun h=>by simp at h; omega
  exact ih (i+1) (k+1) (g+1) (out++[(nth l i).card.key]) kF gF outF ow uH ow hl ow ow (by rw [h3,aU ow]; simp)
abbrev d9v (a:l9E):Fr:=(mkF 20 [(3,(d9 0 a.length 2 a.length)),(6,(sA 10 (mE a))),(7,(iN a.length)),(8,(iN a.length))])
abbrev d9u (a:l9E):Heap:=[(o_ a.length 2 (mK (a.map (·.card.key))))]
theorem a4R (l:l9E) (hl:l.length < 1099511627776):AC 181 [(sA 10 (mE l))] [] ((sA 2 (mK (l.map (·.card.key)))),[]) :=
 x9 (fn:=Tryz.f181) (ann:=a1c) (Has.o Tryz.func181) (.r (.s (.s (.h' [(o_ 0 2 (mK []))] (.y 1 (.int .i64 ((List.length (mE l):Nat):Int)) (iN l.length) (Yes.len _ _ _) (.g (.loop (d9v l) (show l6 ct_ (some [3,6,7,8]) (some [3,6,7,8]) (mkF 20 [(3,(d9 0 0 2 0)),(6,(sA 10 (mE l))),(7,(iN l.length)),(8,z_)]) [(o_ 0 2 (mK []))] (.exit 0) (d9v l) (d9u l) from (b7a l l.length 0 0 0 [] _ _ _ ow rfl rfl hl ow ow ye_)) (.r (.w' 2 (mK (l.map (·.card.key))) (And.intro (G5 (room:=none) kr om) (Key.z8 _ _):I5 (d9u l) 2 (d9 0 l.length 2 l.length)=some (mK (l.map (·.card.key)))/\AV.F3 0 (mK (l.map (·.card.key)))=true) (.g (.h' [] (.q 0 (sA 2 (mK (l.map (·.card.key))))))))))))))))
def zP:Ann:={ refs:=[4],gha:=[(3,.vir 8 10),(11,.cut 1),(12,.frz 8)],fin:=some 0,live:=[(5,[2,4,7,8,13,14,15])],out:=[(5,[2,4,7,8,13,14,15])] }
def aC (now late:Int) (s:Nat × List Entry × Nat) (e:Entry):Nat × List Entry × Nat :=
 (if (!e.card.gone)=true then s.1+1 else s.1,if decide (F9 e now > late)=true then s.2.1++[e] else s.2.1,if decide (F9 e now > late)=true then s.2.2+1 else s.2.2)
@[simp] abbrev d5q (a:Nat) (b:l9E) (c:l9E) (d:Nat):Ob:=(o_ (a+1) 10 (mE (b++[(nth c d)])))
@[simp] abbrev c1w (a:Nat) (b:l9E) (c:l9E) (d:Nat):Heap:=[d5q a b c d]
@[simp] abbrev d9t (a:Int) (b:Int) (c:Nat) (d:Nat) (e:Nat) (f:l9E) (g:Nat):Fr:=(mkF 46 [(2,(iI a)),(4,(AV.ref [(iI b)] 0)),(7,(iN c)),(8,(d9 0 d 10 e)),(13,(sA 10 (mE f))),(14,(iN f.length)),(15,(iN g))])
abbrev a0B (a:Nat) (b:l9E) (c:l9E) (d:Nat):Heap:=[(o_ a 10 (mE b)),(o_ 0 10 [(Entry.row (nth c d))])]
abbrev d9s (a:Nat) (b:l9E) (c:l9E) (d:Nat):Heap:=[d5q a b c d,(o_ 0 10 [(Entry.row (nth c d))])]
theorem b4V {p:Prop} (h:p:=by first | omega | (show _ * 96<=_; omega) | (simp; omega)):p:=h
@[simp] abbrev cu_ :=(C8 zP Tryz.f133 0)
@[simp] abbrev cv_ (a b:Nat):=(d9 0 (a+1) 10 (b+1))
@[reducible] def kZ:TI:={ d:=.struct [(50,0),(2,9)],size:=10,bytes:=96,zero:=[.str ⟨#[]⟩,.str ⟨#[]⟩,.int .i64 0,.int .i64 0,.int .i64 0,.int .i64 0,.int .i64 0,.int .i64 0,.bool false,.int .i64 0] }
theorem a7x (l:l9E) (now late:Int) (i live k g:Nat) (few:l9E) (hk:k=few.length) (hki:k<=l.length) (hv:live<=l.length) (hl:l.length < 1099511627776) {eX:Ex} {FX:Fr} {HX:Heap} (k1:(l9 i l.length)=true->(!(nth l i).card.gone)=true->(decide ((F9 (nth l i) now) > late))=true->l6 cu_ (some [2,4,7,8,13,14,15]) (some [2,4,7,8,13,14,15]) (mkF 46 [(2,(iI late)),(4,(AV.ref [(iI now)] 0)),(7,(iN (live+1))),(8,(cv_ g k)),(13,(sA 10 (mE l))),(14,(iN l.length)),(15,(iN (i+1)))]) (c1w g few l i) eX FX HX) (k2:(l9 i l.length)=true->(!(nth l i).card.gone)=true->(decide ((F9 (nth l i) now) > late))=false->l6 cu_ (some [2,4,7,8,13,14,15]) (some [2,4,7,8,13,14,15]) (mkF 46 [(2,(iI late)),(4,(AV.ref [(iI now)] 0)),(7,(iN (live+1))),(8,(d9 0 g 10 k)),(13,(sA 10 (mE l))),(14,(iN l.length)),(15,(iN (i+1)))]) [(o_ g 10 (mE few))] eX FX HX) (k3:(l9 i l.length)=true->(!(nth l i).card.gone)=false->(decide ((F9 (nth l i) now) > late))=true->l6 cu_ (some [2,4,7,8,13,14,15]) (some [2,4,7,8,13,14,15]) (mkF 46 [(2,(iI late)),(4,(AV.ref [(iI now)] 0)),(7,(iN live)),(8,(cv_ g k)),(13,(sA 10 (mE l))),(14,(iN l.length)),(15,(iN (i+1)))]) (c1w g few l i) eX FX HX) (k4:(l9 i l.length)=true->(!(nth l i).card.gone)=false->(decide ((F9 (nth l i) now) > late))=false->l6 cu_ (some [2,4,7,8,13,14,15]) (some [2,4,7,8,13,14,15]) (mkF 46 [(2,(iI late)),(4,(AV.ref [(iI now)] 0)),(7,(iN live)),(8,(d9 0 g 10 k)),(13,(sA 10 (mE l))),(14,(iN l.length)),(15,(iN (i+1)))]) [(o_ g 10 (mE few))] eX FX HX) (k5:(l9 i l.length)=false->((.exit 0:Ex),(d9t late now live g k l i),[(o_ g 10 (mE few))])=(eX,FX,HX)):l6 cu_ (some [2,4,7,8,13,14,15]) (some [2,4,7,8,13,14,15]) (d9t late now live g k l i) [(o_ g 10 (mE few))] eX FX HX :=
 J7 (.r (.g (.two (l9 i l.length) (fun h1 h1'=>(.r (.h' [(o_ g 10 (mE few)),(o_ 0 10 [[e_,e_,z_,z_,z_,z_,z_,z_,bF,z_]])] (.is 0 10 10 (mE l) (i:Int) (Entry.row (nth l i)) (N7.mk _ ow ow) (.s (.g (.two (!(nth l i).card.gone) (fun h2 h2'=>(.r (.h' (a0B g few l i) (.y 1 (.int .i64 (cb_ live)) (iN (live+1)) Yes.o (.s (.c 2 ((vW (nth l i) now).lift kr kr (a0B g few l i)) (.g (.two (decide ((F9 (nth l i) now) > late)) (fun h3 h3'=>(.r (.ap 3 89 (d9 0 g 10 k) (AV.sl .clip 10 [(Entry.row (nth l i))]) (cv_ g k) (d9s g few l i) (I4 (row:=Entry.row) (l:=few) (x:=(nth l i)) (T:=tt) (e:=93) (te:=kZ) (z:=1) (b:=24) (y:=[.sl .nil 0 []]) kr kr rfl D8 D8 kr Z0 rfl rfl b4V) (.s (.y 0 (.int .i64 (cb_ i)) (iN (i+1)) Yes.o (.h' (c1w g few l i) (.b 1 (.g (.l (k1 h1 h2 h3)))))))))) (fun h3 h3'=>(.r (.y 0 (.int .i64 (cb_ i)) (iN (i+1)) Yes.o (.h' [(o_ g 10 (mE few))] (.b 1 (.g (.l (k2 h1 h2 h3)))))))))))))))) (fun h2 h2'=>(.r (.c 2 ((vW (nth l i) now).lift kr kr (a0B g few l i)) (.g (.two (decide ((F9 (nth l i) now) > late)) (fun h3 h3'=>(.r (.h' (a0B g few l i) (.ap 3 89 (d9 0 g 10 k) (AV.sl .clip 10 [(Entry.row (nth l i))]) (cv_ g k) (d9s g few l i) (I4 (row:=Entry.row) (l:=few) (x:=(nth l i)) (T:=tt) (e:=93) (te:=kZ) (z:=1) (b:=24) (y:=[.sl .nil 0 []]) kr kr rfl D8 D8 kr Z0 rfl rfl b4V) (.s (.y 0 (.int .i64 (cb_ i)) (iN (i+1)) Yes.o (.h' (c1w g few l i) (.b 1 (.g (.l (k3 h1 h2 h3))))))))))) (fun h3 h3'=>(.r (.h' (a0B g few l i) (.y 0 (.int .i64 (cb_ i)) (iN (i+1)) Yes.o (.h' [(o_ g 10 (mE few))] (.b 1 (.g (.l (k4 h1 h2 h3))))))))))))))))))))) (fun h1 h1'=>(.l (k5 h1))))))
theorem c3i (l:l9E) (now late:Int) (r:Nat):∀ (i live k g:Nat) (few:l9E) (sF:Nat × l9E × Nat),i+r=l.length->k=few.length->k<=i->live<=i->l.length < 1099511627776->sF=(l.drop i).foldl (aC now late) (live,few,g) ->
 l6 (C8 zP Tryz.f133 0) (some [2,4,7,8,13,14,15]) (some [2,4,7,8,13,14,15]) (mkF 46 [(2,(iI late)),(4,(AV.ref [(iI now)] 0)),(7,(iN live)),(8,(d9 0 g 10 k)),(13,(sA 10 (mE l))),(14,(iN l.length)),(15,(iN i))]) [(o_ g 10 (mE few))] (.exit 0) (mkF 46 [(2,(iI late)),(4,(AV.ref [(iI now)] 0)),(7,(iN sF.1)),(8,(d9 0 sF.2.2 10 sF.2.1.length)),(13,(sA 10 (mE l))),(14,(iN l.length)),(15,(iN l.length))]) [(o_ sF.2.2 10 (mE sF.2.1))]:=by
 induction r with
 | zero =>
  intro i live k g few sF hi hk hki hv hl h1
  refine a7x l now late i live k g few hk ow ow hl (fun h=>by simp at h; omega) (fun h=>by simp at h; omega) (fun h=>by simp at h; omega) (fun h=>by simp at h; omega) fun _=>?_
  have:l.drop i=[]:=List.drop_of_length_le ow
  rw [this] at h1
  have e3:i=l.length:=by omega
  rw [h1,e3,hk]
  rfl
 | succ r ih =>
  intro i live k g few sF hi hk hki hv hl h1
  rw [aU ow,List.foldl_cons] at h1
  refine a7x l now late i live k g few hk ow ow hl (fun _ h2 h3=>?_) (fun _ h2 h3=>?_) (fun _ h2 h3=>?_) (fun _ h2 h3=>?_) fun h=>by simp at h; omega
  · exact ih (i+1) (live+1) (k+1) (g+1) (few++[nth l i]) sF ow uH ow ow hl (by rw [h1]; simp only [aC,h2,h3,if_true])
  · exact ih (i+1) (live+1) k g few sF ow hk ow ow hl (by rw [h1]; simp only [aC,h2,h3,if_true,Bool.false_eq_true,if_false])
  · exact ih (i+1) live (k+1) (g+1) (few++[nth l i]) sF ow uH ow ow hl (by rw [h1]; simp only [aC,h2,h3,if_true,Bool.false_eq_true,if_false])
  · exact ih (i+1) live k g few sF ow hk ow ow hl (by rw [h1]; simp only [aC,h2,h3,Bool.false_eq_true,if_false])
def F5 (l:List Entry) (now late:Int):Nat × List Entry × Nat:=l.foldl (aC now late) (0,[],0)
theorem b0c (now late:Int) (l:l9E):∀ (s:Nat × l9E × Nat),(l.foldl (aC now late) s).2.1.length<=s.2.1.length+l.length/\(l.foldl (aC now late) s).1<=s.1+l.length:=by
 induction l with
 | nil=>intro s; simp
 | cons e l ih =>
  intro s
  have h:=ih (aC now late s e)
  simp only [List.foldl_cons,List.length_cons]
  have h1:(aC now late s e).2.1.length<=s.2.1.length+1/\(aC now late s e).1<=s.1+1:=by
   simp only [aC]
   constructor
   · split <;> simp
   · split <;> omega
  omega
theorem c3k (l:l9E) (now late:Int):(F5 l now late).2.1.length<=l.length/\(F5 l now late).1<=l.length:=by
 have:=b0c now late l (0,[],0)
 simpa [F5] using this
def R7 (l:List Entry) (now late:Int):List Entry:=A9 (cmpL now) 0 ((F5 l now (max 0 late)).2.1.length - 1) 1 (F5 l now (max 0 late)).2.1
def V3 (l:List Entry) (now late:Int):Nat:=min (R7 l now late).length (Q5 (F5 l now (max 0 late)).1)
def G9 (l:List Entry) (now late:Int):List Key:=((R7 l now late).take (V3 l now late)).map (·.card.key)
attribute [local irreducible] F5 F9 G9 M8 Q5 R7 V3 cmpL
def F8 (a b:Key):Bool:=if (!(a.app.toList == b.app.toList))=true then Op.bytesLess a.app.toList b.app.toList else Op.bytesLess a.id.toList b.id.toList
attribute [local irreducible] F8
def K4 (s:List j4 × Nat) (c:j4):List j4 × Nat :=
 if decide ((s.1.length:Int) > 0)=true then if Key.eqb (nth s.1 (s.1.length - 1)).key c.key=true then (s.1.set (s.1.length - 1) c,s.2) else (s.1++[c],s.2+1) else (s.1++[c],s.2+1)
theorem b0h (s:l9C × Nat) (c:j4):(K4 s c).1.length<=s.1.length+1:=by
 unfold K4; split
 · split <;> simp
 · simp
theorem c3m (l:l9C):∀ (s:l9C × Nat),(l.foldl K4 s).1.length<=s.1.length+l.length:=by
 induction l with
 | nil=>intro s; simp
 | cons c l ih=>intro s; have h1:=ih (K4 s c); have h2:=b0h s c; simp only [List.foldl_cons,List.length_cons]; omega
attribute [local irreducible] K4
def b4i:Ann:={ gha:=[(2,.vir 2 9)],fin:=some 1 }
theorem b1c  :AC 137 [w9] [] ((d9 0 0 9 0),[(o_ 0 9 (mC []))]) :=
 x9 (fn:=Tryz.f137) (ann:=b4i) (Has.o Tryz.func137) (.r (.s (.ru (.g (.h' [(o_ 0 9 (mC []))] (.q 1 (d9 0 0 9 0)))))))
def b4h:Ann:={ own:=[7],fin:=some 1 }
theorem Y3 {p:Prop} (h:p:=by first | (simp [I5,List.map_take,List.map_drop,List.take_of_length_le]; done) | simp [I5,rU8,y5,a3m,b6l]):p:=h
theorem b1b (l:l9C) (hl:l.length < 1099511627776):AC 137 [(AV.sl .op 9 (mC l))] [] ((d9 0 0 9 l.length),[(o_ 0 9 (mC l))]) :=
 x9 (fn:=Tryz.f137) (ann:=b4h) (Has.o Tryz.func137) (.r (.s (.rn (.ao 2 30 (AV.sl .clip 9 []) (AV.sl .op 9 (mC l)) (d9 0 0 9 l.length) [(o_ 0 9 (mC l))] (aI (T:=tt) (e:=50) (te:=bZ) (z:=1) (b:=24) (y:=[.sl .nil 0 []]) (row:=j4.row) kr kr rfl D8 D8 ye_ Y3 rfl rfl rfl om) (.q 1 (d9 0 0 9 l.length))))))
theorem kG (l:l9C) (hl:l.length < 1099511627776):AC 137 [(sA 9 (mC l))] [] ((d9 0 0 9 l.length),[(o_ 0 9 (mC l))]):=j5.a2q (fun h=>by
 have h2:l=[]:=by simpa using h
 subst h2; exact b1c) (b1b l hl)
theorem c5d (l:l9C) (hl:l.length < 1099511627776) (H:Heap):AC 137 [(sA 9 (mC l))] H (.osl H.length 0 9 0 l.length,H++([(o_ 0 9 (mC l))]:Heap)):=(kG l hl).a3y kr (by simp [AV.F3,j4.z8]) H
def b2S:Ann:={ refs:=[2,3],fin:=some 0 }
theorem a9y (a b:j4) :AC 173 [(p9 (j4.row a)),(p9 (j4.row b))] [] ((iI (U7 a.key b.key)),[]) :=
 x9 (fn:=Tryz.f173) (ann:=b2S) (Has.o Tryz.func173) (.r (.s (.c 4 ((a2R a.key b.key).lift kr kr []) (.q 0 (iI (U7 a.key b.key))))))
theorem b5q (a b:j4)  (H:Heap):AC 173 [(p9 (j4.row a)),(p9 (j4.row b))] H ((iI (U7 a.key b.key)),H):=(a9y a b ).lift kr kr H
def c5e:Ann:={ fin:=some 0 }
theorem a9m {p:Prop} (h:p:=by simp [List.map_take,List.map_drop,List.take_of_length_le]):p:=h
theorem b8h (l:l9C) (hl:l.length < 1099511627776):AC 175 [(sA 9 (mC l))] [] ((AV.sl .cn 9 (mC l)),[]) :=
 x9 (fn:=Tryz.f175) (ann:=c5e) (Has.o Tryz.func175) (.r (.s (.y 2 (.int .i64 ((List.length (mC l):Nat):Int)) (iN l.length) (Yes.len _ _ _) (.y 4 (.int .i64 ((List.length (mC l):Nat):Int)) (iN l.length) (Yes.len _ _ _) (.t 5 (AV.sl .cn 9 (mC l)) [] (a7i (l:=0) (h:=l.length) om om om om a9m (by first | rfl | omega | (simp; done) | (simp; omega)):Option.map (fun a=>(a,([]:Heap))) (if 9=9\/((mC l)).isEmpty=true then (if ((l.length:Int):Int)=(l.length:Int) then (bounds 0 (l.length:Int) (mC l).length).map fun p=>AV.sl .cn 9 ((List.take p.2 (mC l)).drop p.1) else none) else none)=some ((AV.sl .cn 9 (mC l)),([]:Heap))) (.q 0 (AV.sl .cn 9 (mC l))))))))
def J4 (l:List j4):List j4:=A9 (fun a b=>U7 a.key b.key) 0 (l.length - 1) 1 l
theorem qJ (l:l9C):(J4 l).length=l.length:=by unfold J4; rw [dU]
def a8o:Ann:={ gha:=[(2,.frz 3)],fin:=some 0 }
def U6 (s:List j4):List j4 × Nat:=s.foldl K4 ([],0)
def F6 (l:List j4):List j4:=(U6 (J4 l)).1
theorem a1b (l:l9C):(F6 l).length<=l.length:=by
 have:=c3m (J4 l) ([],0)
 rw [qJ] at this
 simpa [F6,U6] using this
def a3A:Ann:={ gha:=[(1,.vir 3 9),(9,.cut 1),(10,.frz 2)],fin:=some 0,live:=[(3,[3,8,9,10])],out:=[(3,[3,8,9,10])] }
@[simp] abbrev d9m (a:Nat) (b:l9C) (c:Nat) (d:l9C) (e:Nat):Heap:=[(o_ a 9 (mC (b.set (c - 1) (nth d e))))]
@[simp] abbrev cw_ (a b:Nat):=(d9 0 (a+1) 9 (b+1))
@[simp] abbrev d9l (a:Nat) (b:Nat) (c:l9C) (d:Nat):Fr:=(mkF 40 [(3,(cw_ a b)),(8,(sA 9 (mC c))),(9,(iN c.length)),(10,(iN (d+1)))])
@[simp] abbrev a5Z (a:Nat) (b:l9C) (c:l9C) (d:Nat):Ob:=(o_ (a+1) 9 (mC (b++[(nth c d)])))
@[simp] abbrev a1Z (a:Nat) (b:l9C) (c:l9C) (d:Nat):Heap:=[a5Z a b c d]
@[simp] abbrev d9k (a:Nat) (b:Nat) (c:l9C) (d:Nat):Fr:=(mkF 40 [(3,(d9 0 a 9 b)),(8,(sA 9 (mC c))),(9,(iN c.length)),(10,(iN d))])
abbrev a1Y (a:Nat) (b:l9C) (c:l9C) (d:Nat):Heap:=[(o_ a 9 (mC b)),(o_ 0 9 [(j4.row (nth c d))])]
abbrev d9j (a:Nat) (b:l9C) (c:l9C) (d:Nat):Heap:=[a5Z a b c d,(o_ 0 9 [(j4.row (nth c d))])]
@[simp] abbrev cx_ :=(C8 a3A Tryz.f71 0)
@[simp] abbrev cy_ (a:l9C) (b:Nat):=(AV.sl .clip 9 [(j4.row (nth a b))])
theorem a7F (s out:l9C) (i k g:Nat) (hk:k=out.length) (hki:k<=s.length) (hl:s.length < 1048576) {eX:Ex} {FX:Fr} {HX:Heap} (k1:(l9 i s.length)=true->(decide ((k:Int) > 0))=true->(Key.eqb (nth out (k - 1)).key (nth s i).key)=true->l6 cx_ (some [3,8,9,10]) (some [3,8,9,10]) (mkF 40 [(3,(d9 0 g 9 k)),(8,(sA 9 (mC s))),(9,(iN s.length)),(10,(iN (i+1)))]) (d9m g out k s i) eX FX HX) (k2:(l9 i s.length)=true->(decide ((k:Int) > 0))=true->(Key.eqb (nth out (k - 1)).key (nth s i).key)=false->l6 cx_ (some [3,8,9,10]) (some [3,8,9,10]) (d9l g k s i) (a1Z g out s i) eX FX HX) (k3:(l9 i s.length)=true->(decide ((k:Int) > 0))=false->l6 cx_ (some [3,8,9,10]) (some [3,8,9,10]) (d9l g k s i) (a1Z g out s i) eX FX HX) (k4:(l9 i s.length)=false->((.exit 0:Ex),(d9k g k s i),[(o_ g 9 (mC out))])=(eX,FX,HX)):l6 cx_ (some [3,8,9,10]) (some [3,8,9,10]) (d9k g k s i) [(o_ g 9 (mC out))] eX FX HX :=
 J7 (.r (.g (.two (l9 i s.length) (fun h1 h1'=>(.r (.h' [(o_ g 9 (mC out)),(o_ 0 9 [[e_,e_,z_,z_,z_,z_,z_,z_,bF]])] (.is 0 9 9 (mC s) (i:Int) (j4.row (nth s i)) (N7.mk _ ow ow) (.s (.s (.two (decide ((k:Int) > 0)) (fun h2 h2'=>(.u2 (.h' (a1Y g out s i) (.y 5 (.int .i64 (cj_ k)) (iN (k - 1)) Yes.o (.u (.io 6 0 g 9 9 0 k ((k - 1:Nat):Int) (k - 1) (I7.mk _ ow ow) (.u2 (.t 8 (p9 (Key.row (nth out (k - 1)).key)) (a1Y g out s i) (J6 (F7 (row:=j4.row) (l:=out) (k:=9) (room:=none) kr om) kr:M6 tt 28 0 (a1Y g out s i) (rowAt (a1Y g out s i) 0 g (k - 1))=some ((p9 (Key.row (nth out (k - 1)).key)),(a1Y g out s i))) (.u3 (.g (.two (Key.eqb (nth out (k - 1)).key (nth s i).key) (fun h3 h3'=>(.r (.y 2 (.int .i64 (cj_ k)) (iN (k - 1)) Yes.o (.io 4 0 g 9 9 0 k ((k - 1:Nat):Int) (k - 1) (I7.mk _ ow ow) (.st 5 0 g (k - 1) 9 0 (cp_ s i) [(o_ g 9 (mC (out.set (k - 1) (nth s i)))),(o_ 0 9 [(j4.row (nth s i))])] (U0 (us:=(j4.row (nth s i))) (F7 (row:=j4.row) (l:=out) (k:=9) (room:=none) kr om) kr wR wQ) (.s (.y 0 (.int .i64 (cb_ i)) (iN (i+1)) Yes.o (.h' (d9m g out k s i) (.b 1 (.g (.l (k1 h1 h2 h3)))))))))))) (fun h3 h3'=>(.r (.ap 3 30 (d9 0 g 9 k) (cy_ s i) (cw_ g k) (d9j g out s i) (I4 (row:=j4.row) (l:=out) (x:=(nth s i)) (T:=tt) (e:=50) (te:=bZ) (z:=1) (b:=24) (y:=[.sl .nil 0 []]) kr kr rfl D8 D8 kr Z0 rfl rfl gV) (.s (.y 0 (.int .i64 (cb_ i)) (iN (i+1)) Yes.o (.h' (a1Z g out s i) (.b 1 (.g (.l (k2 h1 h2 h3))))))))))))))))))))) (fun h2 h2'=>(.n6 (.n2 (.rn (.h' (a1Y g out s i) (.ap 3 30 (d9 0 g 9 k) (cy_ s i) (cw_ g k) (d9j g out s i) (I4 (row:=j4.row) (l:=out) (x:=(nth s i)) (T:=tt) (e:=50) (te:=bZ) (z:=1) (b:=24) (y:=[.sl .nil 0 []]) kr kr rfl D8 D8 kr Z0 rfl rfl gV) (.s (.y 0 (.int .i64 (cb_ i)) (iN (i+1)) Yes.o (.h' (a1Z g out s i) (.b 1 (.g (.l (k3 h1 h2)))))))))))))))))))) (fun h1 h1'=>(.l (k4 h1))))))
theorem yV {p:Prop} (h:p:=by rw [h3]; simp):p:=h
theorem c3L (s:l9C) (r:Nat):∀ (out:l9C) (i k g:Nat) (sF:l9C × Nat),i+r=s.length->k=out.length->k<=i->s.length < 1048576->sF=(s.drop i).foldl K4 (out,g) ->
 l6 (C8 a3A Tryz.f71 0) (some [3,8,9,10]) (some [3,8,9,10]) (mkF 40 [(3,(d9 0 g 9 k)),(8,(sA 9 (mC s))),(9,(iN s.length)),(10,(iN i))]) [(o_ g 9 (mC out))] (.exit 0) (mkF 40 [(3,(d9 0 sF.2 9 sF.1.length)),(8,(sA 9 (mC s))),(9,(iN s.length)),(10,(iN s.length))]) [(o_ sF.2 9 (mC sF.1))]:=by
 induction r with
 | zero =>
  intro out i k g sF hi hk hki hl h
  refine a7F s out i k g hk ow hl (fun h=>by simp at h; omega) (fun h=>by simp at h; omega) (fun h=>by simp at h; omega) fun _=>?_
  have:s.drop i=[]:=List.drop_of_length_le ow
  rw [this] at h
  have e3:i=s.length:=by omega
  rw [h,e3,hk]
  rfl
 | succ r ih =>
  intro out i k g sF hi hk hki hl h
  rw [aU ow,List.foldl_cons] at h
  refine a7F s out i k g hk ow hl (fun _ h2 h3=>?_) (fun _ h2 h3=>?_) (fun _ h2=>?_) fun h=>by simp at h; omega
  · rw [hk] at h2 h3
    exact ih (out.set (k - 1) (nth s i)) (i+1) k g sF ow uH ow hl (by rw [h,hk]; simp only [K4]; rw [if_pos h2,if_pos h3])
  · rw [hk] at h2 h3
    exact ih (out++[nth s i]) (i+1) (k+1) (g+1) sF ow uH ow hl (by rw [h]; simp only [K4]; rw [if_pos h2,if_neg yV])
  · rw [hk] at h2
    exact ih (out++[nth s i]) (i+1) (k+1) (g+1) sF ow uH ow hl (by rw [h]; simp only [K4]; rw [if_neg a9n])
def y9.eqb (a b:y9):Bool:=(a.t == b.t)&&((a.node == b.node)&&((a.n == b.n)&&true))
def j4.eqb (a b:j4):Bool:=(Key.eqb a.key b.key)&&((a.status == b.status)&&((a.over == b.over)&&((a.lease == b.lease)&&((y9.eqb a.stamp b.stamp)&&((a.gone == b.gone)&&true)))))
theorem Key.oJ (a:Key):Key.eqb a a=true:=by simp [Key.eqb]
theorem j4.oJ (a:j4):j4.eqb a a=true:=by simp [j4.eqb,y9.eqb,Key.eqb]
def vO:Ann:={ fin:=some 0,live:=[(4,[0,1,12,13])],out:=[(4,[0,1,12,13])] }
@[simp] abbrev c1v (a:l9C) (b:l9C) (c:Nat):Fr:=(mkF 26 [(0,(sA 9 (mC a))),(1,(sA 9 (mC b))),(12,(iN a.length)),(13,(iN c))])
theorem a4r (a:l9C) (b:l9C)  (i:Nat) (hl:a.length < 1099511627776) (hb:a.length=b.length) (hle_:i<=a.length) {eX:Ex} {FX:Fr} {HX:Heap} (k1:(l9 i a.length)=true->(!(j4.eqb (nth a i) (nth b i)))=true->((.ret:Ex),(c1v a b i),[])=(eX,FX,HX)) (k2:(l9 i a.length)=true->(!(j4.eqb (nth a i) (nth b i)))=false->l6 (C8 vO Tryz.f80 0) (some [0,1,12,13]) (some [0,1,12,13]) (mkF 26 [(0,(sA 9 (mC a))),(1,(sA 9 (mC b))),(12,(iN a.length)),(13,(iN (i+1)))]) [] eX FX HX) (k3:(l9 i a.length)=false->((.exit 0:Ex),(c1v a b i),[])=(eX,FX,HX)):l6 (C8 vO Tryz.f80 0) (some [0,1,12,13]) (some [0,1,12,13]) (c1v a b i) [] eX FX HX :=
 J7 (.r (.g (.two (l9 i a.length) (fun h1 h1'=>(.r (.s (.is 2 9 9 (mC a) (i:Int) (j4.row (nth a i)) (N7.mk _ ow ow) (.is 6 9 9 (mC b) (i:Int) (j4.row (nth b i)) (N7.mk _ ow ow) (.g (.two (!(j4.eqb (nth a i) (nth b i))) (fun h2 h2'=>(.r (.g (.l (k1 h1 h2))))) (fun h2 h2'=>(.r (.y 0 (.int .i64 (cb_ i)) (iN (i+1)) Yes.o (.g (.l (k2 h1 h2))))))))))))) (fun h1 h1'=>(.l (k3 h1))))))
def a2l (a:List j4) (b:List j4) (i:Nat) (s:Unit):Unit:=()
def a7o (a:List j4) (b:List j4)  (i:Nat):Prop:=(((decide ((i:Int) < (a.length:Int)))=true)/\((!(j4.eqb (nth a i) (nth b i)))=true))
@[simp] abbrev d5p (a:l9C) (b:l9C):Fr:=(mkF 26 [(0,(sA 9 (mC a))),(1,(sA 9 (mC b))),(12,(iN a.length)),(13,(iN a.length))])
theorem b4U {p:Prop} (h:p:=by have hb_:=hbad i ow; (try rw [<- hs_] at hb_); exact hb_ (⟨h1,h2⟩)):p:=h
theorem b5O (a:l9C) (b:l9C) (hl:a.length < 1099511627776) (hb:a.length=b.length)  (hbad:∀ (i:Nat),i < a.length->¬ a7o a b  i) (r_:Nat):∀  (i:Nat) (sF:Unit),i+r_=a.length->()=(iter (a2l a b) i 0 ())->sF=iter (a2l a b) r_ i () ->
 l6 (C8 vO Tryz.f80 0) (some [0,1,12,13]) (some [0,1,12,13]) (c1v a b i) [] (.exit 0) (d5p a b) []:=by
 induction r_ with
 | zero =>
  intro  i sF hi_  hs_ hF
  obtain rfl:a.length=i:=by omega
  have e_:sF=():=hF
  refine a4r a b  a.length hl hb J8 (fun h _=>by simp at h <;> omega) (fun h _=>by simp at h <;> omega) (fun _=>?_)
  first | done | rfl | (rw [e_]; done) | (rw [e_]; rfl)
 | succ r_ ih =>
  intro  i sF hi_  hs_ hF
  refine a4r a b  i hl hb ow (fun h1 h2=>?_) (fun h1 h2=>?_) (fun h=>by simp at h <;> omega)
  · exact False.elim b4U
  · exact ih  (i+1) sF ow  (by rw [qN,<- hs_] <;> simp only [a2l,h2,if_true,Bool.false_eq_true,if_false]) (by rw [hF] <;> simp only [iter,a2l,h2,if_true,Bool.false_eq_true,if_false])
theorem b5N (a b:l9C) (hl:a.length < 1099511627776) (h:a=b):AC 80 [(sA 9 (mC a)),(sA 9 (mC b))] [] (bT,[]):=by
 have hb:a.length=b.length:=by rw [h]
 exact x9 (fn:=Tryz.f80) (ann:=vO) (Has.o Tryz.func80) (.r (.s (.y 1 (.int .i64 ((List.length (mC a):Nat):Int)) (iN a.length) (Yes.len _ _ _) (.y 3 (.int .i64 ((List.length (mC b):Nat):Int)) (iN b.length) (Yes.len _ _ _) (.y 4 (bB ((a.length:Int) != (b.length:Int))) bF (Yes.b (by rw [hb]; simp)) (.rn (.y 1 (.int .i64 ((List.length (mC a):Nat):Int)) (iN a.length) (Yes.len _ _ _) (.g (.loop (d5p a b) (b5O a b hl hb (fun i hi=>by subst h; simp [a7o,j4.oJ]) a.length 0 () ow rfl rfl) (.qr 0 bT))))))))))
def vN:Ann:={ fin:=some 0,live:=[(4,[0,1,12,13])],out:=[(4,[0,1,12,13])] }
@[simp] abbrev a9g (a:l9K) (b:l9K) (c:Nat):Fr:=(mkF 26 [(0,(sA 2 (mK a))),(1,(sA 2 (mK b))),(12,(iN a.length)),(13,(iN c))])
theorem a4q (a:l9K) (b:l9K)  (i:Nat) (hl:a.length < 1099511627776) (hb:a.length=b.length) (hle_:i<=a.length) {eX:Ex} {FX:Fr} {HX:Heap} (k1:(l9 i a.length)=true->(!(Key.eqb (nth a i) (nth b i)))=true->((.ret:Ex),(a9g a b i),[])=(eX,FX,HX)) (k2:(l9 i a.length)=true->(!(Key.eqb (nth a i) (nth b i)))=false->l6 (C8 vN Tryz.f81 0) (some [0,1,12,13]) (some [0,1,12,13]) (mkF 26 [(0,(sA 2 (mK a))),(1,(sA 2 (mK b))),(12,(iN a.length)),(13,(iN (i+1)))]) [] eX FX HX) (k3:(l9 i a.length)=false->((.exit 0:Ex),(a9g a b i),[])=(eX,FX,HX)):l6 (C8 vN Tryz.f81 0) (some [0,1,12,13]) (some [0,1,12,13]) (a9g a b i) [] eX FX HX :=
 J7 (.r (.g (.two (l9 i a.length) (fun h1 h1'=>(.r (.s (.is 2 2 2 (mK a) (i:Int) (Key.row (nth a i)) (N7.mk _ ow ow) (.is 6 2 2 (mK b) (i:Int) (Key.row (nth b i)) (N7.mk _ ow ow) (.g (.two (!(Key.eqb (nth a i) (nth b i))) (fun h2 h2'=>(.r (.g (.l (k1 h1 h2))))) (fun h2 h2'=>(.r (.y 0 (.int .i64 (cb_ i)) (iN (i+1)) Yes.o (.g (.l (k2 h1 h2))))))))))))) (fun h1 h1'=>(.l (k3 h1))))))
def a2k (a:List Key) (b:List Key) (i:Nat) (s:Unit):Unit:=()
def a7n (a:List Key) (b:List Key)  (i:Nat):Prop:=(((decide ((i:Int) < (a.length:Int)))=true)/\((!(Key.eqb (nth a i) (nth b i)))=true))
@[simp] abbrev d5o (a:l9K) (b:l9K):Fr:=(mkF 26 [(0,(sA 2 (mK a))),(1,(sA 2 (mK b))),(12,(iN a.length)),(13,(iN a.length))])
theorem b5M (a:l9K) (b:l9K) (hl:a.length < 1099511627776) (hb:a.length=b.length)  (hbad:∀ (i:Nat),i < a.length->¬ a7n a b  i) (r_:Nat):∀  (i:Nat) (sF:Unit),i+r_=a.length->()=(iter (a2k a b) i 0 ())->sF=iter (a2k a b) r_ i () ->
 l6 (C8 vN Tryz.f81 0) (some [0,1,12,13]) (some [0,1,12,13]) (a9g a b i) [] (.exit 0) (d5o a b) []:=by
 induction r_ with
 | zero =>
  intro  i sF hi_  hs_ hF
  obtain rfl:a.length=i:=by omega
  have e_:sF=():=hF
  refine a4q a b  a.length hl hb J8 (fun h _=>by simp at h <;> omega) (fun h _=>by simp at h <;> omega) (fun _=>?_)
  first | done | rfl | (rw [e_]; done) | (rw [e_]; rfl)
 | succ r_ ih =>
  intro  i sF hi_  hs_ hF
  refine a4q a b  i hl hb ow (fun h1 h2=>?_) (fun h1 h2=>?_) (fun h=>by simp at h <;> omega)
  · exact False.elim b4U
  · exact ih  (i+1) sF ow  (by rw [qN,<- hs_] <;> simp only [a2k,h2,if_true,Bool.false_eq_true,if_false]) (by rw [hF] <;> simp only [iter,a2k,h2,if_true,Bool.false_eq_true,if_false])
theorem b5L (a b:l9K) (hl:a.length < 1099511627776) (h:a=b):AC 81 [(sA 2 (mK a)),(sA 2 (mK b))] [] (bT,[]):=by
 have hb:a.length=b.length:=by rw [h]
 exact x9 (fn:=Tryz.f81) (ann:=vN) (Has.o Tryz.func81) (.r (.s (.y 1 (.int .i64 ((List.length (mK a):Nat):Int)) (iN a.length) (Yes.len _ _ _) (.y 3 (.int .i64 ((List.length (mK b):Nat):Int)) (iN b.length) (Yes.len _ _ _) (.y 4 (bB ((a.length:Int) != (b.length:Int))) bF (Yes.b (by rw [hb]; simp)) (.rn (.y 1 (.int .i64 ((List.length (mK a):Nat):Int)) (iN a.length) (Yes.len _ _ _) (.g (.loop (d5o a b) (b5M a b hl hb (fun i hi=>by subst h; simp [a7n,Key.oJ]) a.length 0 () ow rfl rfl) (.qr 0 bT))))))))))
theorem b7I {α β:Type} (p:α->Bool) (f:α->β) (l:List α):∀ (out:List β) (k g:Nat),
 l.foldl (fun (s:List β × Nat × Nat) c=>if p c=true then (s.1++[f c],s.2.1+1,s.2.2+1) else s) (out,k,g)=(out++(l.filter p).map f,k+((l.filter p).map f).length,g+((l.filter p).map f).length):=by
 induction l with
 | nil=>intro out k g; simp
 | cons c l ih =>
  intro out k g
  rw [List.foldl_cons]
  by_cases h:p c=true
  · rw [if_pos h,ih]; simp [List.filter_cons,h]; omega
  · rw [if_neg h,ih]; simp [List.filter_cons,h]
end Go.Proofs.YtmghjcbabebanaaGreat.AM
namespace Go.Proofs.YtmghjcbabebanaaGreat.AM
open Go
attribute [local irreducible] Tp.J5 Tp.K8 Tp.card Tp.cards Tp.key Tp.keyT Tp.next Tp.step
theorem qR:∀ (x:List UInt8),Op.bytesLess x x=false
 | []=>rfl
 | a :: x=>by
  have:=qR x
  simp [Op.bytesLess,this]
theorem a0n:∀ (x y:List UInt8),Op.bytesLess x y=true->Op.bytesLess y x=false
 | [],[],h=>by simp [Op.bytesLess] at h
 | [],b :: y,h=>rfl
 | a :: x,[],h=>by simp [Op.bytesLess] at h
 | a :: x,b :: y,h=>by
  simp only [Op.bytesLess,Bool.or_eq_true,Bool.and_eq_true,decide_eq_true_eq,beq_iff_eq] at h
  rcases h with h | ⟨rfl,h⟩
  · have h1:¬ b < a:=fun h'=>by exact absurd (UInt8.lt_trans h h') (UInt8.lt_irrefl _)
    have h2:¬ b=a:=fun e=>by subst e; exact UInt8.lt_irrefl _ h
    simp [Op.bytesLess,h1,h2]
  · have:=a0n x y h
    simp [Op.bytesLess,this]
theorem a3S:∀ (x y z:List UInt8),Op.bytesLess x y=true->Op.bytesLess y z=true->Op.bytesLess x z=true
 | [],[],z,h,_=>by simp [Op.bytesLess] at h
 | [],b :: y,[],_,h=>by simp [Op.bytesLess] at h
 | [],b :: y,c :: z,_,_=>rfl
 | a :: x,[],z,h,_=>by simp [Op.bytesLess] at h
 | a :: x,b :: y,[],_,h=>by simp [Op.bytesLess] at h
 | a :: x,b :: y,c :: z,h,k=>by
  simp only [Op.bytesLess,Bool.or_eq_true,Bool.and_eq_true,decide_eq_true_eq,beq_iff_eq] at h k ⊢
  rcases h with h | ⟨rfl,h⟩
  · rcases k with k | ⟨rfl,k⟩
    · exact .inl (UInt8.lt_trans h k)
    · exact .inl h
  · rcases k with k | ⟨rfl,k⟩
    · exact .inl k
    · exact .inr ⟨rfl,a3S x y z h k⟩
theorem b1z:∀ (x y:List UInt8),Op.bytesLess x y=false->Op.bytesLess y x=false->x=y
 | [],[],_,_=>rfl
 | [],b :: y,h,_=>by simp [Op.bytesLess] at h
 | a :: x,[],_,h=>by simp [Op.bytesLess] at h
 | a :: x,b :: y,h,k=>by
  simp only [Op.bytesLess,Bool.or_eq_false_iff,decide_eq_false_iff_not] at h k
  have e:a=b:=by
   rcases UInt8.lt_or_lt_of_ne (a:=a) (b:=b) |> fun f=>Classical.em (a=b) with e | e
   · exact e
   · rcases UInt8.lt_or_lt_of_ne e with h1 | h1
     · exact absurd h1 h.1
     · exact absurd h1 k.1
  subst e
  simp only [beq_self_eq_true,Bool.true_and] at h k
  rw [b1z x y h.2 k.2]
theorem ba_eq {a b:ByteArray} (h:a.toList=b.toList):a=b:=by
 rw [ByteArray.toList_eq,ByteArray.toList_eq] at h
 obtain ⟨⟨a⟩⟩:=a
 obtain ⟨⟨b⟩⟩:=b
 simp at h
 rw [h]
theorem Key.d6p (a b:Key):Key.eqb a b=true↔a=b:=by
 unfold Key.eqb
 constructor
 · intro h
   simp only [Bool.and_true,Bool.and_eq_true,beq_iff_eq] at h
   cases a; cases b
   exact congr (congrArg Key.mk (ba_eq h.1)) (ba_eq h.2)
 · intro h; subst h; simp
theorem a8k (a:Key):F8 a a=false:=by simp [F8,qR]
theorem b1B {a b:Key} (h:F8 a b=true):F8 b a=false:=by
 unfold F8 at *
 by_cases e:a.app.toList=b.app.toList
 · have e':b.app.toList=a.app.toList:=e.symm
   simp [e] at h
   simp [e']
   exact a0n _ _ h
 · have e':¬ b.app.toList=a.app.toList:=fun x=>e x.symm
   simp [e] at h
   simp [e']
   exact a0n _ _ h
theorem b1A {a b c:Key} (h:F8 a b=true) (k:F8 b c=true):F8 a c=true:=by
 unfold F8 at *
 by_cases e:a.app.toList=b.app.toList
 · by_cases f:b.app.toList=c.app.toList
   · simp [e] at h; simp [f] at k; simp [e,f]
     exact a3S _ _ _ h k
   · simp [f] at k
     have:¬ a.app.toList=c.app.toList:=by rw [e]; exact f
     simp [this]; rw [e]; exact k
 · simp [e] at h
   by_cases f:b.app.toList=c.app.toList
   · have:¬ a.app.toList=c.app.toList:=by rw [<- f]; exact e
     simp [this]; rw [<- f]; exact h
   · simp [f] at k
     have h1:=a3S _ _ _ h k
     have:¬ a.app.toList=c.app.toList:=fun x=>by rw [x] at h; have:=a0n _ _ h; rw [k] at this; simp at this
     simp [this]; exact h1
theorem c5q {a b:Key} (h:F8 a b=false) (k:F8 b a=false):a=b:=by
 unfold F8 at *
 by_cases e:a.app.toList=b.app.toList
 · have e':b.app.toList=a.app.toList:=e.symm
   simp [e] at h; simp [e'] at k
   have h2:=b1z _ _ h k
   cases a; cases b
   exact congr (congrArg Key.mk (ba_eq e)) (ba_eq h2)
 · have e':¬ b.app.toList=a.app.toList:=fun x=>e x.symm
   simp [e] at h; simp [e'] at k
   exact absurd (b1z _ _ h k) e
theorem d9U {a b:Key} (h:F8 a b=true):a≠b:=fun e=>by subst e; rw [a8k] at h; simp at h
theorem d1m {a b c:Key} (h:F8 a b=true) (k:F8 c b=false):F8 a c=true:=by
 cases e:F8 b c with
 | true=>exact b1A h e
 | false=>rw [<- c5q e k]; exact h
theorem a3a {a b c:Key} (h:F8 b a=false) (k:F8 c b=false):F8 c a=false:=by
 cases e:F8 c a with
 | false=>rfl
 | true=>have:=d1m e h; rw [this] at k; simp at k
theorem iO (a b:Key):mO a b=F8 a b:=by
 unfold mO U7 gP F8
 by_cases h1:Op.bytesLess a.app.toList b.app.toList=true
 · have:¬ a.app.toList=b.app.toList:=fun e=>by rw [e,qR] at h1; simp at h1
   simp [h1,this]
 · by_cases h2:a.app.toList=b.app.toList
   · simp [h2,qR]
     by_cases h3:Op.bytesLess a.id.toList b.id.toList=true
     · simp [h3]
     · by_cases h4:a.id.toList=b.id.toList
       · simp [h4,qR]
       · simp [h3,h4]
   · simp [h1,h2]
def StC (a b:j4):Prop:=F8 a.key b.key=true
theorem tX {α:Type} [Inhabited α] {l:List α} {i:Nat} (h:i < l.length):nth l i∈l:=List.mem_of_getElem? (yE h)
theorem Z7 {α:Type} [Inhabited α] {l:List α} {i:Nat} (h:i < l.length):nth l i=l[i]:=by
 simp [nth,List.getD_eq_getElem?_getD,List.getElem?_eq_getElem h]
theorem a4F {α:Type} [Inhabited α] {R:α->α->Prop} {l:List α}:List.Pairwise R l↔∀ i j,i < j->j < l.length->R (nth l i) (nth l j):=by
 rw [List.pairwise_iff_getElem]
 constructor
 · intro h i j hij hj
   rw [Z7 (show i < l.length by omega),Z7 hj]
   exact h i j _ _ hij
 · intro h i j hi hj hij
   have:=h i j hij hj
   rwa [Z7 hi,Z7 hj] at this
theorem dF {α:Type} [Inhabited α] {l:List α} {x:α} (h:x∈l):∃ i,i < l.length/\nth l i=x:=by
 obtain ⟨i,hi,rfl⟩:=List.getElem_of_mem h
 exact ⟨i,hi,Z7 hi⟩
theorem fK {α:Type} [Inhabited α] {l:List α} {i k:Nat} (h:i < k):nth (l.take k) i=nth l i:=by
 simp [nth,List.getD_eq_getElem?_getD,List.getElem?_take,h]
theorem nY {α:Type} [Inhabited α] {l:List α} {i k:Nat}:nth (l.drop k) i=nth l (k+i):=by
 simp [nth,List.getD_eq_getElem?_getD,List.getElem?_drop]
theorem swap_perm {α:Type} [Inhabited α] {l:List α} {i j:Nat} (hi:i < l.length) (hj:j < l.length):List.Perm ((l.set i (nth l j)).set j (nth l i)) l:=by
 rw [Z7 hi,Z7 hj]
 exact List.set_set_perm hi hj
theorem c2q {α:Type} [Inhabited α] (cmp:α->α->Int) (a j:Nat):∀ (l:List α),j < l.length->List.Perm (sink cmp a j l) l:=by
 induction j with
 | zero=>intro l _; simp only [sink]; exact List.Perm.refl _
 | succ j ih =>
  intro l h
  simp only [sink]
  split
  · split
    · exact (ih _ yg_).trans (swap_perm h ya_)
    · exact List.Perm.refl _
  · exact List.Perm.refl _
theorem b0C {α:Type} [Inhabited α] (cmp:α->α->Int) (a k:Nat):∀ (i:Nat) (l:List α),i+k<=l.length->List.Perm (A9 cmp a k i l) l:=by
 induction k with
 | zero=>intro i l _; simp only [A9]; exact List.Perm.refl _
 | succ k ih =>
  intro i l h
  simp only [A9]
  exact (ih (i+1) _ (by rw [uM]; omega)).trans (c2q cmp a i l ya_)
theorem a8x {α:Type} [Inhabited α] (cmp:α->α->Int) (l:List α):List.Perm (A9 cmp 0 (l.length - 1) 1 l) l:=by
 rcases Nat.eq_zero_or_pos l.length with h | h
 · have:l=[]:=List.eq_nil_of_length_eq_zero h
   subst this; simp [A9]
 · exact b0C cmp 0 _ 1 l ya_
def mQ {α:Type} (p:α->Bool):List α->Nat->Option Nat
 | [],_=>none
 | x :: xs,i=>if p x=true then some i else mQ p xs (i+1)
def ixI {α:Type} (p:α->Bool) (l:List α):Int:=match mQ p l 0 with | some n=>(n:Int) | none=>-1
theorem qL {α:Type} [Inhabited α] {p:α->Bool} (l:List α):∀ (i n:Nat),mQ p l i=some n->i<=n/\n < i+l.length/\p (nth l (n - i))=true/\∀ j,j < n - i->p (nth l j)=false:=by
 induction l with
 | nil=>intro i n h; simp [mQ] at h
 | cons x xs ih =>
  intro i n h
  simp only [mQ] at h
  by_cases hx:p x=true
  · rw [if_pos hx] at h
    obtain rfl:i=n:=by simpa using h
    refine ⟨Nat.le_refl _,by simp,by simpa [nth] using hx,fun j hj=>by omega⟩
  · rw [if_neg hx] at h
    obtain ⟨h1,h2,h3,h4⟩:=ih (i+1) n h
    have e1:n - i=(n - (i+1))+1:=by omega
    refine ⟨by omega,by simp only [List.length_cons]; omega,by rw [e1]; simpa [nth] using h3,fun j hj=>?_⟩
    cases j with
    | zero=>simpa [nth] using hx
    | succ j=>simpa [nth] using h4 j ya_
theorem qM {α:Type} [Inhabited α] {p:α->Bool} (l:List α):∀ (i:Nat),mQ p l i=none->∀ j,j < l.length->p (nth l j)=false:=by
 induction l with
 | nil=>intro i h j hj; simp at hj
 | cons x xs ih =>
  intro i h j hj
  simp only [mQ] at h
  by_cases hx:p x=true
  · rw [if_pos hx] at h; simp at h
  · rw [if_neg hx] at h
    cases j with
    | zero=>simpa [nth] using hx
    | succ j=>simpa [nth] using ih (i+1) h j yr_
theorem d6L {α:Type} [Inhabited α] (p:α->Bool) (l:List α):ixI p l < l.length:=by
 unfold ixI
 cases h:mQ p l 0 with
 | none=>simp <;> omega
 | some n=>have:=qL l 0 n h; simp; omega
theorem d6M {α:Type} (p:α->Bool) (l:List α):-1<=ixI p l:=by
 unfold ixI
 cases h:mQ p l 0 with
 | none=>simp
 | some n=>simp <;> omega
open Go.Proofs.YtmghjcbabebanaaGreat
attribute [local irreducible] A9 E9 F5 F6 F8 F9 G9 H6 J4 K4 K5 M8 Q5 R7 U6 U7 V3 cmpL j5 l6 sink
def lW:Ann:={ refs:=[3],fin:=some 0,live:=[(2,[0,3,7,8])],out:=[(2,[4])] }
theorem sW (v:Key) (l:l9K) (i:Nat) (hl:l.length < 1099511627776) (hi:i<=l.length) {eX:Ex} {FX:Fr} {HX:Heap} (k1:(l9 i l.length)=true->(Key.eqb v (nth l i))=true->((.ret:Ex),(mkF 19 [(4,(iN i))]),[])=(eX,FX,HX)) (k2:(l9 i l.length)=true->(Key.eqb v (nth l i))=false->l6 (C8 lW Tryz.f130 0) (some [0,3,7,8]) (some [4]) (mkF 19 [(0,(sA 2 (mK l))),(3,(AV.ref (Key.row v) 0)),(7,(iN l.length)),(8,(iN (i+1)))]) [] eX FX HX) (k3:(l9 i l.length)=false->((.exit 0:Ex),(mkF 19 []),[])=(eX,FX,HX)):l6 (C8 lW Tryz.f130 0) (some [0,3,7,8]) (some [4]) (mkF 19 [(0,(sA 2 (mK l))),(3,(AV.ref (Key.row v) 0)),(7,(iN l.length)),(8,(iN i))]) [] eX FX HX :=
 J7 (.r (.g (.two (l9 i l.length) (fun h1 h1'=>(.r (.s (.is 3 2 2 (mK l) (i:Int) (Key.row (nth l i)) (N7.mk _ ow ow) (.g (.two (Key.eqb v (nth l i)) (fun h2 h2'=>(.r (.g (.l (k1 h1 h2))))) (fun h2 h2'=>(.r (.y 0 (.int .i64 (cb_ i)) (iN (i+1)) Yes.o (.g (.l (k2 h1 h2)))))))))))) (fun h1 h1'=>(.l (k3 h1))))))
theorem b7g (v:Key) (l:l9K) (hl:l.length < 1099511627776) (n:Nat) (hn:n < l.length) (hp:Key.eqb v (nth l n)=true) (r:Nat):∀ (i:Nat),i+r=n->(∀ j,i<=j->j < n->Key.eqb v (nth l j)=false) ->
 l6 (C8 lW Tryz.f130 0) (some [0,3,7,8]) (some [4]) (mkF 19 [(0,(sA 2 (mK l))),(3,(AV.ref (Key.row v) 0)),(7,(iN l.length)),(8,(iN i))]) [] (.ret) (mkF 19 [(4,(iN n))]) []:=by
 induction r with
 | zero =>
  intro i hi h
  obtain rfl:i=n:=by omega
  refine sW v l i hl ow (fun _ _=>rfl) (fun _ h2=>?_) (fun h1=>?_)
  · rw [hp] at h2; simp at h2
  · simp at h1; omega
 | succ r ih =>
  intro i hi h
  refine sW v l i hl ow (fun _ h2=>?_) (fun _ h2=>?_) (fun h1=>?_)
  · rw [h i J8 ow] at h2; simp at h2
  · exact ih (i+1) ow (fun j h3 h4=>h j ow h4)
  · simp at h1; omega
theorem b7h (v:Key) (l:l9K) (hl:l.length < 1099511627776) (r:Nat):∀ (i:Nat),i+r=l.length->(∀ j,i<=j->j < l.length->Key.eqb v (nth l j)=false) ->
 l6 (C8 lW Tryz.f130 0) (some [0,3,7,8]) (some [4]) (mkF 19 [(0,(sA 2 (mK l))),(3,(AV.ref (Key.row v) 0)),(7,(iN l.length)),(8,(iN i))]) [] (.exit 0) (mkF 19 []) []:=by
 induction r with
 | zero =>
  intro i hi h
  refine sW v l i hl ow (fun h1 _=>?_) (fun h1 h2=>?_) (fun h1=>rfl)
  · simp at h1; omega
  · simp at h1; omega
 | succ r ih =>
  intro i hi h
  refine sW v l i hl ow (fun _ h2=>?_) (fun _ h2=>?_) (fun h1=>?_)
  · rw [h i J8 ow] at h2; simp at h2
  · exact ih (i+1) ow (fun j h3 h4=>h j ow h4)
  · simp at h1; omega
abbrev e1t (a:l9K) (b:Key):Fr:=(mkF 19 [(0,(sA 2 (mK a))),(3,(AV.ref (Key.row b) 0)),(7,(iN a.length)),(8,z_)])
theorem b3B (v:Key) (l:l9K) (n:Nat) (hl:l.length < 1099511627776) (hn:n < l.length) (hp:Key.eqb v (nth l n)=true) (h:∀ j,0<=j->j < n->Key.eqb v (nth l j)=false):AC 130 [(sA 2 (mK l)),(p9 (Key.row v))] [] ((iN n),[]) :=
 x9 (fn:=Tryz.f130) (ann:=lW) (Has.o Tryz.func130) (.r (.s (.y 1 (.int .i64 ((List.length (mK l):Nat):Int)) (iN l.length) (Yes.len _ _ _) (.g (.loop (mkF 19 [(4,(iN n))]) (b7g v l hl n hn hp n 0 ow h) (.q 0 (iN n)))))))
theorem b3C (v:Key) (l:l9K) (hl:l.length < 1099511627776) (h:∀ j,0<=j->j < l.length->Key.eqb v (nth l j)=false):AC 130 [(sA 2 (mK l)),(p9 (Key.row v))] [] ((iI (-1)),[]) :=
 x9 (fn:=Tryz.f130) (ann:=lW) (Has.o Tryz.func130) (.r (.s (.y 1 (.int .i64 ((List.length (mK l):Nat):Int)) (iN l.length) (Yes.len _ _ _) (.g (.loop (mkF 19 []) (b7h v l hl l.length 0 ow h) (.qr 0 (iI (-1))))))))
theorem b7f (v:Key) (l:l9K) (hl:l.length < 1099511627776):AC 130 [(sA 2 (mK l)),(p9 (Key.row v))] [] ((iI (ixI (Key.eqb v) l)),[]):=by
 unfold ixI
 cases h:mQ (Key.eqb v) l 0 with
 | none=>exact b3C v l hl (fun j _ hj=>qM l 0 h j hj)
 | some n =>
  obtain ⟨_,h2,h3,h4⟩:=qL l 0 n h
  exact b3B v l n hl ow h3 (fun j _ hj=>h4 j hj)
def fP (l:List Key) (v:Key):Bool:=decide (ixI (Key.eqb v) l >= 0)
def b7y:Ann:={ refs:=[3],fin:=some 0 }
theorem a2W (l:l9K) (v:Key) (hl:l.length < 1099511627776):AC 73 [(sA 2 (mK l)),(p9 (Key.row v))] [] ((bB (fP l v)),[]) :=
 x9 (fn:=Tryz.f73) (ann:=b7y) (Has.o Tryz.func73) (.r (.s (.c 2 ((b7f v l oa).lift kr kr []) (.q 0 (bB (decide ((ixI (Key.eqb v) l) >= 0)))))))
def O7:List Key->List Key
 | []=>[]
 | k :: r=>if (!(fP r k))=true then k :: O7 r else O7 r
theorem a4P (l:l9K):(O7 l).length<=l.length:=by
 induction l with
 | nil=>simp [O7]
 | cons k l ih=>simp only [O7]; split <;> simp only [List.length_cons] <;> omega
def l7 (a:List Key):List Key:=a.drop (a.length - 16)
theorem zL (a:l9K):(l7 a).length=min a.length 16:=by unfold l7; rw [List.length_drop]; omega
theorem c7L {p:Prop} (h:p:=by rw [List.length_drop]; omega):p:=h
theorem c8N (a:l9K) (k:Key):(l7 a++[k]).drop ((l7 a).length+1 - 16)=l7 (a++[k]):=by
 rw [zL]
 unfold l7
 rw [List.length_append,List.length_singleton]
 rcases Nat.lt_or_ge a.length 16 with h | h
 · have e1:a.length - 16=0:=by omega
   have e2:min a.length 16+1 - 16=0:=by omega
   have e3:a.length+1 - 16=0:=by omega
   rw [e1,e2,e3]; simp
 · have e2:min a.length 16+1 - 16=1:=by omega
   have e3:a.length+1 - 16=(a.length - 16)+1:=by omega
   rw [e2,e3,List.drop_append_of_le_length c7L,List.drop_append_of_le_length ya_,List.drop_drop]
theorem b6d {a:l9K} {n:Nat} (h1:n<=a.length) (h2:a.length - n<=16):(l7 a).drop ((l7 a).length - (a.length - n))=a.drop n:=by
 rw [zL]
 unfold l7
 rw [List.drop_drop]
 congr 1; omega
def okS (al:List Key) (n:Int):Bool:=decide (0<=n)&&(decide (n<=(al.length:Int))&&decide ((al.length:Int) - n<=16))
def M4 (al:List Key) (n:Int):List Key:=if okS al n=true then O7 (al.drop n.toNat) else []
theorem b4x {al:l9K} {m:Nat} (h1:m<=al.length) (h2:al.length - m<=16):okS al (m:Int)=true:=by unfold okS; simp; omega
theorem a7y {al:l9K} {n:Int} (h:n < 0\/(al.length:Int) < n\/16 < (al.length:Int) - n):okS al n=false:=by unfold okS; simp; omega
theorem b5F {al:l9K} {m:Nat} (h1:m<=al.length) (h2:al.length - m<=16):M4 al (m:Int)=O7 (al.drop m):=by unfold M4; rw [if_pos (b4x h1 h2)]; rfl
theorem a9E {al:l9K} {n:Int} (h:n < 0\/(al.length:Int) < n\/16 < (al.length:Int) - n):M4 al n=[]:=by unfold M4; rw [if_neg (by rw [a7y h]; simp)]
theorem a4k (al:l9K) (n:Int):(M4 al n).length<=16:=by
 unfold M4
 split
 · rename_i h
   unfold okS at h
   simp at h
   have h1:=a4P (al.drop n.toNat)
   rw [List.length_drop] at h1
   omega
 · simp
end Go.Proofs.YtmghjcbabebanaaGreat.AM
namespace Go.Proofs.YtmghjcbabebanaaGreat.AM
open Go
theorem b2P {P:Program} {F:Fr} {H:Heap} {dst:Option Tmp} {x y:Operand} {lo:Option Operand} {t e0:TypeId} {type:TypeId} {pos:String} {after:Array Edge} {guard:Option (Nat × Bool)} {id g k e n l h:Nat} {els:List (List AV)} {room:Option Nat}
 (ht:P.underlying t=some (.slice e0)) (hk:∀ w:World,(Go.sizeOf e0).run P w=.ok k w) (hx:opv F x=some (.osl id g k e n)) (ho:H[id]?=some ⟨g,k,els,room⟩)
 (hlo:M5 F lo 0=some (l:Int)) (hhi:M5 F (some y) 0=some (h:Int)) (h1:l<=h) (h2:e+h<=els.length) :
 lS P F H ⟨dst,.slice t x lo (some y) none,type,pos,after,guard⟩ (.osl id g k (e+l) (h - l),H):=by
 intro G w C f hf hH
 have hv:=hf x yo_ _ hx
 have hgen:g=C.γ id:=hH.gen id _ ho
 have hl:=lH (G:=G) (w:=w) (C:=C) (f:=f) hlo fun z hz a ha=>hf z (by simp [Op.operands,hz]) a ha
 have hh:=lH (G:=G) (w:=w) (C:=C) (f:=f) hhi fun z hz a ha=>hf z yt_ a ha
 have hb:∀ len cap:Nat,h<=cap->(Instr.sliceBounds true len cap (lo.map f) (some (f y)) none).run P w=.ok (l,h,cap) w:=by
  intro len cap hc
  rcases hh with ⟨hh,_⟩ | ⟨z,kz,hz,hfz⟩
  · simp at hh
  · simp only [Option.some.injEq] at hz
    subst hz
    rcases hl with ⟨rfl,h0⟩ | ⟨z,kz',rfl,hz⟩
    · have:l=0:=by omega
      subst this
      simp [Instr.sliceBounds,hfz,run_sliceBound,hc]
    · simp [Instr.sliceBounds,hz,hfz,run_sliceBound,hc,h1]
 generalize hu:f x=u at hv
 cases hv with
 | osl _ _ _ _ _ _ ad cap hnc hle hl' =>
  obtain ⟨L,b,hι,hLb,hLk,hen,hcap,had⟩:=hl' hgen
  have hrm:=(hH.ob id _ L ho hι).len
  simp only at hrm
  have hr:(Instr.sliceAt t (f x) (lo.map f) (some (f y)) none).run P w=.ok (.slice (if cap=l then some ad else (some ad).map (·.add (l * k))) (h - l) (cap - l)) w:=by
   rw [hu]
   simp only [Instr.sliceAt,Instr.slice,Sem.run_bind,run_underlying ht,Result.andThen_ok]
   rw [hb n cap ya_]
   simp only [Result.andThen_ok,hk w,Sem.run_pure,Sem.run_bind]
  refine ⟨.slice (if cap=l then some ad else (some ad).map (·.add (l * k))) (h - l) (cap - l),w,?_,G,C,Ev.refl ..,hH,?_,Pd.refl⟩
  · simp only [execOp,Option.map_some,Option.map_none,Sem.run_bind,hr,Result.andThen_ok,Sem.run_pure]
  · have hif:(if cap=l then some ad else (some ad).map (·.add (l * k)))=some (if cap=l then ad else ad.add (l * k)):=by split <;> rfl
    rw [hif]
    refine .osl _ _ _ _ _ _ _ _ ya_ hle fun hg=>?_
    refine ⟨L,b,hι,hLb,hLk,by omega,by omega,fun hlt=>?_⟩
    rw [if_neg ya_,had ya_,Z6,Nat.add_assoc,<- Nat.add_mul]
 | osl0 _ _ _ _ _ base hle hl' =>
  obtain ⟨L,hι,hLb,hLk⟩:=hl' hgen
  have hob:=hH.ob id _ L ho hι
  have h4:=hob.no hLb
  have h5:=hob.len
  simp only at h5
  have hl0:l=0:=by omega
  have hh0:h=0:=by omega
  have hr:(Instr.sliceAt t (f x) (lo.map f) (some (f y)) none).run P w=.ok (.slice base 0 0) w:=by
   rw [hu]
   simp only [Instr.sliceAt,Instr.slice,Sem.run_bind,run_underlying ht,Result.andThen_ok]
   rw [hb 0 0 ya_]
   simp [hk w,hl0,hh0]
  subst hl0; subst hh0
  refine ⟨.slice base 0 0,w,?_,G,C,Ev.refl ..,hH,.osl0 _ _ _ _ _ base hle hl',Pd.refl⟩
  simp only [execOp,Option.map_some,Option.map_none,Sem.run_bind,hr,Result.andThen_ok,Sem.run_pure]
theorem b5o {P:Program} {F:Fr} {H:Heap} {dst:Option Tmp} {x y:Operand} {t t' e0:TypeId} {type:TypeId} {pos:String} {after:Array Edge} {guard:Option (Nat × Bool)} {id g k e n id2 g2 e2 n2:Nat} {els els2:List (List AV)} {room room2:Option Nat}
 (ht:P.underlying t=some (.slice e0)) (hk:∀ w:World,(Go.sizeOf e0).run P w=.ok k w) (hx:opv F x=some (.osl id g k e n)) (ho:H[id]?=some ⟨g,k,els,room⟩) (hy:opv F y=some (.osl id2 g2 k e2 n2)) (ho2:H[id2]?=some ⟨g2,k,els2,room2⟩)
 (h0:0 < n) (hn:n<=n2) (he:e<=els.length) (he2:e2+n<=els2.length) :
 lS P F H ⟨dst,.call { callee:=.builtin .copy,args:=#[x,y],argTypes:=#[t,t'] },type,pos,after,guard⟩ (.int .i64 (n:Int),H.set id ⟨g,k,els.take e++(els2.drop e2).take n++els.drop (e+n),room⟩):=by
 intro G w C f hf hH
 have hv:=hf x yp_ _ hx
 have hvs:=hf y yp_ _ hy
 have hgen:g=C.γ id:=hH.gen id _ ho
 have hgen2:g2=C.γ id2:=hH.gen id2 _ ho2
 have hnl:((els2.drop e2).take n).length=n:=by simp; omega
 generalize hu2:f y=u2 at hvs
 cases hvs with
 | osl0=>omega
 | osl _ _ _ _ _ _ ad2 cap2 hnc2 hle2 hl2 =>
 have hvs':VR G w C (.osl id2 g2 k e2 n) (.slice (some ad2) n cap2):=.osl _ _ _ _ _ _ _ _ ya_ hle2 fun hg=>by
  obtain ⟨l,b,q1,q2,q3,q4,q5⟩:=hl2 hg
  exact ⟨l,b,q1,q2,q3,by omega,q5⟩
 obtain ⟨nv,hsrc⟩:=jT (P:=P) (k:=k) (xs:=(els2.drop e2).take n) hH hvs' (by simp [I5,ho2,he2])
 generalize hu:f x=u at hv
 cases hv with
 | osl0=>omega
 | osl _ _ _ _ _ _ ad cap hnc hle h =>
  obtain ⟨l,bb,hι,hlb,hlk,hen,hcap,had⟩:=h hgen
  have had':=had ya_
  subst had'
  have hob:=hH.ob id _ l ho hι
  obtain ⟨cur,et,hcur,hcsz,_⟩:=hob.cells bb hlb
  obtain ⟨h1,h2⟩:=xB hH ho hι hlb hlk hsrc.length hsrc.row hsrc.rel he ya_ hcur
  rw [hnl] at h2
  have hm:(e+n) * l.k<=l.room * l.k:=Nat.mul_le_mul_right _ ya_
  rw [Nat.add_mul] at hm
  have hnvl:nv.length=n * l.k:=by rw [hsrc.length,hlk,hnl]
  have hst:=run_storeCells_at P bb (l.sh+e * k) et nv 0 cur w hcur (by rw [<- hlk]; simp; omega) hsrc.oneCell
  simp only [Nat.add_zero] at hst
  have hmin:Nat.min n2 n=n:=Nat.min_eq_right hn
  have hfc:(Builtin.firstCells k n (.slice (some ad2) n2 cap2)).run P w=.ok nv.toArray w:=by
   have:=hsrc.cells w rfl
   rw [hnl] at this
   exact this
  have hr:(Builtin.copy_ #[t,t'] type #[f x,f y]).run P w=.ok (.int .i64 (n:Int)) (w.setRow bb (cur.toList.take (l.sh+e * l.k)++nv++cur.toList.drop (l.sh+e * l.k+nv.length)).toArray):=by
   rw [hu,hu2,hlk]
   simp [Builtin.copy_,run_underlying ht,Builtin.lenOf,hmin,hk w,hfc,hst,goInt]
  refine ⟨_,_,?_,G,C,h1,h2,.int ..,?_⟩
  · simp [execOp,resolve,invoke,builtin,hr]
  · refine ⟨by simp,fun j hj _ hιj=>⟨hιj,rfl,?_⟩⟩
    have hne:id≠j:=fun e'=>by subst e'; rw [hι] at hιj; simp at hιj
    exact List.getElem?_set_ne hne
theorem a6k {P:Program} (w:World) (tS tR e:TypeId) (ht:P.underlying tS=some (.slice e)) (size:Nat) (hz:∀ w,(Go.sizeOf e).run P w=.ok size w)
 (a b:Addr) (la ca lb cb:Nat) (hne:a.block≠b.block) (tA tB:TypeId) (kA kB:Nat)
 (hsa:w.shape? a.block=some (tA,kA)) (hsb:w.shape? b.block=some (tB,kB)) (hkB:kB≠0) (hkA:kA≠0)
 (hfb:w.frozen? b=false) (hfe:w.frozen? { block:=b.block,off:=kB }=false) :
 (Extern.SlicesOverlaps.overlaps #[tS,tS] #[tR] #[.slice (some a) la ca,.slice (some b) lb cb]).run P w=.ok (.bool false) w:=by
 have hnb:(a.block != b.block)=true:=by simpa using hne
 have hnb':(a.block == b.block)=false:=by simpa using hne
 change Sem.run P (α:=Value) (do
  let some t := (#[tS, tS] : Array TypeId)[0]? | stuck "slices.overlaps: no parameter types"
  let .slice elem ← underlying t | stuck "slices.overlaps: slice type expected"
  let size <- Go.sizeOf elem
  match (some a:Option Addr),(some b:Option Addr) with
  | some a,some b =>
   if la=0\/lb=0\/size=0 then pure (Value.bool false)
   else if a.block != b.block&&(<- frozen a)&&(<- frozen b) then unsupported .addressObserved
   else do
    if a.block != b.block then do
     noView a; noView b
     if ← mayBeOne a b then return Value.bool ((← choose (.extern "sameAddr.stringBytes" 2)) == 1)
    pure (Value.bool (a.block == b.block&&a.off < b.off+lb * size&&b.off < a.off+la * size))
  | _,_=>pure (Value.bool false)) w=_
 by_cases h0:la=0\/lb=0\/size=0
 · simp [run_underlying ht,hz,h0]
 · cases kB with
   | zero=>exact absurd rfl hkB
   | succ kB =>
    cases kA with
    | zero=>exact absurd rfl hkA
    | succ kA =>
    cases hfa:w.frozen? a <;> cases hfa2:w.frozen? { block:=a.block,off:=kA+1 } <;>
    simp [run_underlying ht,hz,h0,hnb,hnb',frozen,noView,viewAt,mayBeOne,stringish,shape,Sem.run,hsa,hsb,hfb,hfe,hfa,hfa2]
theorem a5k {P:Program} {f:FuncId} {tS tR e0:TypeId} {k:Nat} (hc:∀ vs w,(callFunc f vs).run P w=((Extern.SlicesOverlaps.overlaps #[tS,tS] #[tR] vs).run P w).andThen fun v w'=>.ok (.value v) w')
 (ht:P.underlying tS=some (.slice e0)) (hk:∀ w:World,(Go.sizeOf e0).run P w=.ok k w) (hk0:0 < k) {tg:Tg} {rows:List (List AV)} {id g e n:Nat} {H:Heap} {o:Ob} (ho:H[id]?=some o) (hg:o.gen=g) :
 j5 P f [.sl tg k rows,.osl id g k e n] H (.bool false,H):=by
 intro G w C vs hsz hargs hH
 have h0:=hargs 0 ye_
 have h1:=hargs 1 ye_
 have hvs:vs = #[vs.getD 0 undef,vs.getD 1 undef]:=by
  have hs2:vs.size=2:=by simpa using hsz
  apply Array.ext
  · simp [hs2]
  · intro i hi1 hi2
    rcases i with _ | _ | i
    · simp [Array.getD_eq_getD_getElem?,hs2]
    · simp [Array.getD_eq_getD_getElem?,hs2]
    · omega
 simp only [List.getD_cons_zero,List.getD_cons_succ] at h0 h1
 generalize vs.getD 0 undef=v0 at h0 hvs
 generalize vs.getD 1 undef=v1 at h1 hvs
 subst hvs
 have hdone:(Extern.SlicesOverlaps.overlaps #[tS,tS] #[tR] #[v0,v1]).run P w=.ok (.bool false) w->fI P f #[v0,v1] w (After G w C H (.bool false,H)):=fun hr=>by
  unfold fI
  have:=hc #[v0,v1] w
  rw [this]
  rw [hr,Result.andThen_ok]
  exact ⟨G,C,Ev.refl ..,hH,.bool ..,Pd.refl⟩
 apply hdone
 have hgen:g=C.γ id:=by rw [<- hg]; exact hH.gen id o ho
 have hsome:∀ (a:Option Addr) la ca (b:Option Addr) lb cb,(a=none\/b=none\/la=0\/lb=0)->(Extern.SlicesOverlaps.overlaps #[tS,tS] #[tR] #[.slice a la ca,.slice b lb cb]).run P w=.ok (.bool false) w:=by
  intro a la ca b lb cb h
  change Sem.run P (α:=Value) (do
   let some t := (#[tS, tS] : Array TypeId)[0]? | stuck "slices.overlaps: no parameter types"
   let .slice elem ← underlying t | stuck "slices.overlaps: slice type expected"
   let size <- Go.sizeOf elem
   match (a:Option Addr),(b:Option Addr) with
   | some a,some b =>
    if la=0\/lb=0\/size=0 then pure (Value.bool false)
    else if a.block != b.block&&(<- frozen a)&&(<- frozen b) then unsupported .addressObserved
    else do
     if a.block != b.block then do
      noView a; noView b
      if ← mayBeOne a b then return Value.bool ((← choose (.extern "sameAddr.stringBytes" 2)) == 1)
     pure (Value.bool (a.block == b.block&&a.off < b.off+lb * size&&b.off < a.off+la * size))
   | _,_=>pure (Value.bool false)) w=_
  cases a <;> cases b <;> simp [run_underlying ht,hk w]
  intro h1 h2 h3
  rcases h with h | h | h | h
  · simp at h
  · simp at h
  · exact absurd h h1
  · exact absurd h h2
 generalize hu0:v0=u0 at h0
 cases h0 with
 | nils=>
  cases h1 with
  | osl=>subst hu0; exact hsome _ _ _ _ _ _ (.inl rfl)
  | osl0=>subst hu0; exact hsome _ _ _ _ _ _ (.inl rfl)
 | sl _ _ _ _ ad cap htg hclip hle hs cv hkl hcl h1' hv =>
  subst hu0
  cases h1 with
  | osl0=>exact hsome _ _ _ _ _ _ (.inr (.inr (.inr rfl)))
  | osl _ _ _ _ _ _ ad2 cap2 hnc hle2 hl2 =>
   by_cases hr0:rows.length=0
   · exact hsome _ _ _ _ _ _ (.inr (.inr (.inl hr0)))
   by_cases hn0:n=0
   · exact hsome _ _ _ _ _ _ (.inr (.inr (.inr hn0)))
   obtain ⟨l,b,hι,hlb,hlk,hen,hcap,had⟩:=hl2 hgen
   have had':=had ya_
   have hne:rows≠[]:=fun e=>by simp [e] at hr0
   obtain ⟨hsp,hG⟩:=hs hne
   have hcell:=hcl 0 0 ya_ hk0
   obtain ⟨cs,et,hcs,hcsz,_⟩:=(hH.ob id o l ho hι).cells b hlb
   have hbG:=(hH.own id l b hι hlb).2
   have hm:(e+n) * l.k<=l.room * l.k:=Nat.mul_le_mul_right _ hen
   have hm2:1 * l.k<=(e+n) * l.k:=Nat.mul_le_mul_right _ ya_
   have hsa:∃ tA kA,w.shape? ad.block=some (tA,kA)/\kA≠0:=by
    unfold World.cell? at hcell
    unfold World.shape?
    split at hcell
    · rename_i c t fr hw
      refine ⟨t,c.size,by simp only at hw; rw [hw],fun e0=>?_⟩
      have:c = #[]:=Array.eq_empty_of_size_eq_zero e0
      simp [this] at hcell
    · simp at hcell
   obtain ⟨tA,kA,hsa,hkA⟩:=hsa
   have hb2:ad2.block=b:=by rw [had']
   refine a6k w tS tR e0 ht k hk ad ad2 _ _ _ _ (fun e'=>?_) tA et kA cs.size hsa (by rw [hb2]; simp [World.shape?,hcs]) ya_ hkA (by simp [World.frozen?,hb2,hcs]) (by simp [World.frozen?,hb2,hcs])
   rw [hb2] at e'
   exact hbG (e' ▸ hG)
def uO:Code->Nat->Option (Array Oper)
 | .region id ops _,r=>bif Nat.beq id r then some ops else none
 | .seq a b,r=>match uO a r with
  | some x=>some x
  | none=>uO b r
 | .cond _ a b,r=>match uO a r with
  | some x=>some x
  | none=>uO b r
 | .block _ c,r=>uO c r
 | .loop c,r=>uO c r
 | _,_=>none
def Y4 (fn:Func) (r i:Nat):Oper:=match (fn.body.bind (uO · r)).bind (·[i]?) with
 | some o=>o
 | none => ⟨none, .move (.tmp 0), 0, "", #[], none⟩
def aF (o:Oper) (i:Nat):Operand:=match o.op with
 | .call c=>c.args.getD i (.tmp 0)
 | .slice _ x _ _ _=>x
 | _=>.tmp 0
def loO (o:Oper):Option Operand:=match o.op with
 | .slice _ _ lo _ _=>lo
 | _=>none
def hiO (o:Oper):Operand:=match o.op with
 | .slice _ _ _ (some hi) _=>hi
 | _=>.tmp 0
def mxO (o:Oper):Operand:=match o.op with
 | .slice _ _ _ _ (some m)=>m
 | _=>.tmp 0
section
variable {P:Program} {X:Env} {F:Fr} {H H2:Heap} {ar:Nat} {o:Oper} {a:AV}
theorem Sat.sem (hs:dM X o=true) (h:lS P F H o (a,H2)):Sat P X F H ar o a H2:=by
 unfold Sat
 rw [hs]
 exact .inl h
theorem dQ {T:TT} (hT:TOk P T) {t e:TypeId} {ti:TI} (ht:T t=some ti) (hd:ti.d=.slice e):P.underlying t=some (.slice e):=by
 have:=(hT t ti ht).und
 rw [hd] at this
 exact this
theorem d5A {T:TT} (hT:TOk P T) {t:TypeId} {ti:TI} {k:IntKind} (ht:T t=some ti) (hd:ti.d=.int k):P.underlying t=some (.int k):=by
 have:=(hT t ti ht).und
 rw [hd] at this
 exact this
theorem a8r {v:Value} {a:AV} (h:jI v=some a):v.oneCell'=true:=by
 unfold jI at h
 split at h <;> first | rfl | simp at h
theorem nW:∀ {vs:List Value} {as_:List AV},aW vs=some as_->∀ v∈vs,v.oneCell'=true
 | [],_,_,v,hv=>by simp at hv
 | x :: xs,as_,h,v,hv=>by
  simp only [aW] at h
  split at h
  · rename_i a l h1 h2
    simp only [List.mem_cons] at hv
    rcases hv with rfl | hv
    · exact a8r h1
    · exact nW h2 v hv
  · simp at h
theorem wW:∀ {vs:List Value} {as_:List AV},aW vs=some as_->vs.length=as_.length
 | [],as_,h=>by simp [aW] at h; subst h; rfl
 | x :: xs,as_,h=>by
  simp only [aW] at h
  split at h
  · rename_i a l h1 h2
    simp only [Option.some.injEq] at h
    subst h
    simp [wW h2]
  · simp at h
theorem a3l (hT:TOk P X.T) {t t' e0:TypeId} {ti te:TI} (hop:o.op=.call { callee:=.builtin .copy,args:=#[aF o 0,aF o 1],argTypes:=#[t,t'] }) (hsem:dM X o=true) (ht:X.T t=some ti) (htd:ti.d=.slice e0) (hte:X.T e0=some te)
 {id g k e n:Nat} {els new els':List (List AV)} {room:Option Nat} {s:AV} {c:Int} (hk:te.size=k) (hx:opv F (aF o 0)=some (.osl id g k e n)) (ho:H[id]?=some ⟨g,k,els,room⟩) (hy:opv F (aF o 1)=some s) (hs:I5 H k s=some new)
 (h0:0 < new.length) (hn:new.length<=n) (he:e<=els.length) (hels:els.take e++new++els.drop (e+new.length)=els') (hc:c=(new.length:Int)) (hH:H.set id ⟨g,k,els',room⟩=H2):Sat P X F H ar o (.int .i64 c) H2:=by
 refine Sat.sem hsem ?_
 subst hH hels hc hk
 obtain ⟨dst,op,type,pos,after,guard⟩:=o
 simp only at hop
 generalize aF _ 0=x at hop hx
 generalize aF _ 1=y at hop hy
 subst hop
 exact c2c (dQ hT ht htd) (fun w=>(hT _ _ hte).sizeOf w) hx ho hy hs h0 hn he
theorem c2x (hT:TOk P X.T) {t t' e0:TypeId} {ti te:TI} (hop:o.op=.call { callee:=.builtin .copy,args:=#[aF o 0,aF o 1],argTypes:=#[t,t'] }) (hsem:dM X o=true) (ht:X.T t=some ti) (htd:ti.d=.slice e0) (hte:X.T e0=some te)
 {id g k e n id2 g2 e2 n2:Nat} {els els2 els':List (List AV)} {room room2:Option Nat} {c:Int} (hk:te.size=k) (hx:opv F (aF o 0)=some (.osl id g k e n)) (ho:H[id]?=some ⟨g,k,els,room⟩) (hy:opv F (aF o 1)=some (.osl id2 g2 k e2 n2)) (ho2:H[id2]?=some ⟨g2,k,els2,room2⟩)
 (h0:0 < n) (hn:n<=n2) (he:e<=els.length) (he2:e2+n<=els2.length) (hels:els.take e++(els2.drop e2).take n++els.drop (e+n)=els') (hc:c=(n:Int)) (hH:H.set id ⟨g,k,els',room⟩=H2):Sat P X F H ar o (.int .i64 c) H2:=by
 refine Sat.sem hsem ?_
 subst hH hels hc hk
 obtain ⟨dst,op,type,pos,after,guard⟩:=o
 simp only at hop
 generalize aF _ 0=x at hop hx
 generalize aF _ 1=y at hop hy
 subst hop
 exact b5o (dQ hT ht htd) (fun w=>(hT _ _ hte).sizeOf w) hx ho hy ho2 h0 hn he he2
theorem b4s (hT:TOk P X.T) {t e0:TypeId} {ti:TI} (hop:o.op=.call { callee:=.builtin .cap,args:=#[aF o 0],argTypes:=#[t] }) (hsem:dM X o=true) (ht:X.T t=some ti) (htd:ti.d=.slice e0)
 {id g k e n r:Nat} {els:List (List AV)} {c:Int} (hx:opv F (aF o 0)=some (.osl id g k e n)) (ho:H[id]?=some ⟨g,k,els,some r⟩) (hc:c=((r - e:Nat):Int)):Sat P X F H ar o (.int .i64 c) H:=by
 refine Sat.sem hsem ?_
 subst hc
 obtain ⟨dst,op,type,pos,after,guard⟩:=o
 simp only at hop
 generalize aF _ 0=x at hop hx
 subst hop
 exact c8f (dQ hT ht htd) hx ho
theorem a0R (hT:TOk P X.T) {t e0:TypeId} {ti te:TI} (hop:o.op=.call { callee:=.builtin .clear,args:=#[aF o 0],argTypes:=#[t] }) (hsem:dM X o=true) (ht:X.T t=some ti) (htd:ti.d=.slice e0) (hte:X.T e0=some te)
 {id g k e n:Nat} {els els':List (List AV)} {room:Option Nat} (hk:te.size=k) (hk0:0 < k) (hx:opv F (aF o 0)=some (.osl id g k e n)) (ho:H[id]?=some ⟨g,k,els,room⟩)
 (h0:0 < n) (he:e<=els.length) (hels:els.take e++List.replicate n (List.replicate k .unk)++els.drop (e+n)=els') (hH:H.set id ⟨g,k,els',room⟩=H2):Sat P X F H ar o .unk H2:=by
 refine Sat.sem hsem ?_
 subst hH hels hk
 obtain ⟨dst,op,type,pos,after,guard⟩:=o
 simp only at hop
 generalize aF _ 0=x at hop hx
 subst hop
 obtain ⟨i,hi,hsz,hby,z,hz,hzs,hzl,hza⟩:=(hT _ _ hte).info
 refine b5p (dQ hT ht htd) (z:=z) (fun w=>by simp [zeroValue,typeInfo,hi,hz]) (by have:=wW hzs; simp at this; omega) (nW hzs) hk0 hx ho h0 he
theorem c2v (hT:TOk P X.T) {t e0:TypeId} {ti te:TI} (hop:o.op=.slice t (aF o 0) (loO o) (some (hiO o)) none) (hsem:dM X o=true) (ht:X.T t=some ti) (htd:ti.d=.slice e0) (hte:X.T e0=some te)
 {id g k e n r l h e' n':Nat} {els:List (List AV)} (hk:te.size=k) (hx:opv F (aF o 0)=some (.osl id g k e n)) (ho:H[id]?=some ⟨g,k,els,some r⟩) (hlo:M5 F (loO o) 0=some (l:Int)) (hhi:M5 F (some (hiO o)) 0=some (h:Int)) (h1:l<=h) (h2:e+h<=r) (he':e'=e+l) (hn':n'=h - l) :
 Sat P X F H ar o (.osl id g k e' n') H:=by
 refine Sat.sem hsem ?_
 subst hk he' hn'
 obtain ⟨dst,op,type,pos,after,guard⟩:=o
 simp only at hop
 generalize aF _ 0=x at hop hx
 generalize loO _=lo at hop hlo
 generalize hiO _=hi at hop hhi
 subst hop
 exact b5m (dQ hT ht htd) (fun w=>(hT _ _ hte).sizeOf w) hx ho hlo hhi h1 h2
theorem a4p (hT:TOk P X.T) {t e0:TypeId} {ti te:TI} (hop:o.op=.slice t (aF o 0) (loO o) (some (hiO o)) none) (hsem:dM X o=true) (ht:X.T t=some ti) (htd:ti.d=.slice e0) (hte:X.T e0=some te)
 {id g k e n l h e' n':Nat} {els:List (List AV)} {room:Option Nat} (hk:te.size=k) (hx:opv F (aF o 0)=some (.osl id g k e n)) (ho:H[id]?=some ⟨g,k,els,room⟩) (hlo:M5 F (loO o) 0=some (l:Int)) (hhi:M5 F (some (hiO o)) 0=some (h:Int)) (h1:l<=h) (h2:e+h<=els.length) (he':e'=e+l) (hn':n'=h - l) :
 Sat P X F H ar o (.osl id g k e' n') H:=by
 refine Sat.sem hsem ?_
 subst hk he' hn'
 obtain ⟨dst,op,type,pos,after,guard⟩:=o
 simp only at hop
 generalize aF _ 0=x at hop hx
 generalize loO _=lo at hop hlo
 generalize hiO _=hi at hop hhi
 subst hop
 exact b2P (dQ hT ht htd) (fun w=>(hT _ _ hte).sizeOf w) hx ho hlo hhi h1 h2
theorem zH (hT:TOk P X.T) {t e0:TypeId} {ti te:TI} (hop:o.op=.slice t (aF o 0) (loO o) (some (hiO o)) (some (mxO o))) (hsem:dM X o=true) (ht:X.T t=some ti) (htd:ti.d=.slice e0) (hte:X.T e0=some te)
 {id g k e n l h c:Nat} (hk:te.size=k) (hx:opv F (aF o 0)=some (.osl id g k e n)) (hlo:M5 F (loO o) 0=some (l:Int)) (hhi:M5 F (some (hiO o)) 0=some (h:Int)) (hmx:M5 F (some (mxO o)) 0=some (c:Int)) (h1:l<=h) (h2:h<=c) (h3:c<=n) :
 Sat P X F H ar o .unk H:=by
 refine Sat.sem hsem ?_
 subst hk
 obtain ⟨dst,op,type,pos,after,guard⟩:=o
 simp only at hop
 generalize aF _ 0=x at hop hx
 generalize loO _=lo at hop hlo
 generalize hiO _=hi at hop hhi
 generalize mxO _=mx at hop hmx
 subst hop
 exact b2Q (dQ hT ht htd) (fun w=>(hT _ _ hte).sizeOf w) hx hlo hhi hmx h1 h2 h3
theorem c8l (hT:TOk P X.T) {t t' e0:TypeId} {ti ti' te:TI} {kk kx:IntKind} (hop:o.op=.call { callee:=.builtin .append,args:=#[aF o 0,aF o 1],argTypes:=#[t,t'] }) (hsem:dM X o=true) (ht:X.T t=some ti) (htd:ti.d=.slice e0) (hte:X.T e0=some te) (ht':X.T t'=some ti') (htd':ti'.d=.int kk)
 {id g k e n n' r c:Nat} {els ys els':List (List AV)} (hk:te.size=k) (hx:opv F (aF o 0)=some (.osl id g k e n)) (ho:H[id]?=some ⟨g,k,els,some r⟩) (hrows:I5 H k (.osl id g k e n)=some ys) (hlen:ys.length=n) (hy:opv F (aF o 1)=some (.int kx (c:Int)))
 (hg:r - e < n+c) (hb:0 < te.bytes) (hs:0 < k) (hc:0 < c) (hby:(n+c) * te.bytes<=140737488355328) (hels:ys++List.replicate c (List.replicate k .unk)=els') (hn':n'=n+c) (hH:H++[⟨0,k,els',none⟩]=H2) :
 Sat P X F H ar o (.osl H.length 0 k 0 n') H2:=by
 refine Sat.sem hsem ?_
 subst hk hels hH hn'
 obtain ⟨dst,op,type,pos,after,guard⟩:=o
 simp only at hop
 generalize aF _ 0=x at hop hx
 generalize aF _ 1=y at hop hy
 subst hop
 obtain ⟨i,hi,hsz,hbt,z,hz,hzs,hzl,hza⟩:=(hT _ _ hte).info
 rw [<- hsz] at hx ho hrows hs ⊢
 rw [<- hbt] at hb hby
 exact c2b (dQ hT ht htd) (d5A hT ht' htd') hi hz (by have:=wW hzs; simp at this; omega) (nW hzs) hx ho hrows hlen hy hg hb hs hc hby
end
theorem a0E {T:TT} {H H2:Heap} {t e0:TypeId} {ti te:TI} {id g k i j m n':Nat} {els els':List (List AV)} (ht:T t=some ti) (htd:ti.d=.slice e0) (hte:T e0=some te) (hk:te.size=k) (hk0:0 < k) (ho:H[id]?=some ⟨g,k,els,none⟩) (hij:i < j) (hj:j+m<=els.length)
 (hels:els.take i++(els.drop j).take m++els.drop (i+m)=els') (hn:n'=i+m) (hH:H.set id ⟨g,k,els',none⟩=H2):dZ T H t (.osl id g k 0 i) (.osl id g k j m)=some (.osl id g k 0 n',H2):=by
 obtain ⟨d,sz,bt,z⟩:=ti
 simp only at htd
 subst htd hk hn hels hH
 have hlt:id < H.length:=uD ho
 have hnl:((els.drop j).take m).length=m:=by simp; omega
 unfold dZ
 simp only [ht,hte,I5,ho,true_and,if_pos hj]
 cases hnew:(els.drop j).take m with
 | nil =>
  simp only
  have hm:m=0:=by rw [hnew] at hnl; simpa using hnl.symm
  subst hm
  have hs:H.set id ⟨g,te.size,els,none⟩=H:=by
   apply List.ext_getElem?
   intro q
   by_cases hq:id=q
   · subst hq; rw [List.getElem?_set_self hlt,ho]
   · rw [List.getElem?_set_ne hq]
  simp [hs]
 | cons x xs =>
  rw [hnew] at hnl
  have h1:¬ (0+i=els.length):=by omega
  have h2:0+i+(x :: xs).length<=els.length:=by omega
  simp only [hk0,and_self,if_true,if_neg h1,if_pos h2,hnl,Nat.zero_add]
  simp only [Nat.zero_add] at h1 h2
  rw [hnl] at h2
  simp [h1,h2]
section
variable {α:Type} (row:α->List AV) (x:α) (u:List AV)
theorem e0z (l:List α) {i c:Nat} (hi:i<=l.length) (hc:0 < c):((l.take i).map row++List.replicate c u).take i++[row x]++((l.take i).map row++List.replicate c u).drop (i+1)=(l.take i++[x]).map row++List.replicate (c - 1) u:=by
 have hl:((l.take i).map row).length=i:=by simp; omega
 rw [List.take_append_of_le_length ya_,List.take_of_length_le ya_,List.drop_append,hl,List.drop_of_length_le ya_]
 simp
theorem e0y (l:List α) {i c:Nat} (hi:i<=l.length) (hc:c=l.length - i):((l.take i++[x]).map row++List.replicate c u).take (i+1)++(l.drop i).map row++((l.take i++[x]).map row++List.replicate c u).drop (i+1+((l.drop i).map row).length)=(l.take i++x :: l.drop i).map row:=by
 have hl:((l.take i++[x]).map row).length=i+1:=by simp; omega
 have h2:((l.take i++[x]).map row++List.replicate c u).drop (i+1+((l.drop i).map row).length)=[]:=List.drop_of_length_le (by rw [List.length_append,hl,List.length_replicate,List.length_map,List.length_drop]; omega)
 rw [h2,List.take_append_of_le_length ya_,List.take_of_length_le ya_]
 simp
theorem e0x (l:List α) {i:Nat} (hi:i < l.length):(l.map row).take (i+1)++((l.map row).drop i).take (l.length - i)++(l.map row).drop (i+1+(l.length - i))=(l.take (i+1)++l.drop i).map row:=by
 rw [List.take_of_length_le (l:=(l.map row).drop i) ye_,List.drop_of_length_le (i:=i+1+(l.length - i)) yg_]
 simp [List.map_take,List.map_drop]
theorem e0w (l:List α) {i:Nat} (hi:i < l.length):((l.take (i+1)++l.drop i).map row).take i++[row x]++((l.take (i+1)++l.drop i).map row).drop (i+1)=(l.take i++x :: l.drop i).map row:=by
 have hl:(l.take (i+1)).length=i+1:=by simp; omega
 rw [<- List.map_take,<- List.map_drop,List.take_append_of_le_length ya_,List.take_take,List.drop_append,hl,List.drop_of_length_le ya_]
 simp
theorem e0M (l:List α) {i:Nat} (hi:i < l.length):(l.map row).take i++((l.map row).drop (i+1)).take (l.length - (i+1))++(l.map row).drop (i+(l.length - (i+1)))=(l.take i++l.drop (i+1)++l.drop (l.length - 1)).map row:=by
 rw [List.take_of_length_le (l:=(l.map row).drop (i+1)) ye_,show i+(l.length - (i+1))=l.length - 1 by omega]
 simp [List.map_take,List.map_drop]
theorem e0L (l:List α) {i:Nat} (hi:i < l.length):((l.take i++l.drop (i+1)++l.drop (l.length - 1)).map row).take (l.length - 1)++List.replicate 1 u++((l.take i++l.drop (i+1)++l.drop (l.length - 1)).map row).drop (l.length - 1+1)=(l.take i++l.drop (i+1)).map row++[u]:=by
 have hl:((l.take i++l.drop (i+1)).map row).length=l.length - 1:=by simp; omega
 have h2:((l.take i++l.drop (i+1)++l.drop (l.length - 1)).map row).drop (l.length - 1+1)=[]:=List.drop_of_length_le (by rw [List.map_append,List.length_append,hl,List.length_map,List.length_drop]; omega)
 rw [h2,List.map_append,List.take_append_of_le_length ya_,List.take_of_length_le ya_]
 simp [List.replicate]
end
theorem j5.insert {P:Program} {f:FuncId} {α:Type} {row:α->List AV} {k:Nat} (hrow:∀ (n:Nat) (l:List α),AV.F3 n (l.map row)=true) {l:List α} {x:α} {g i:Nat} (hi:i<=l.length)
 (hE:j5 P f [.osl 0 g k 0 l.length,.int .i64 (l.length:Int),.sl .clip k [row x]] [⟨g,k,l.map row,none⟩] (.osl 0 (g+1) k 0 (l.length+1),[⟨g+1,k,(l++[x]).map row,none⟩]))
 (hG:i < l.length->∀ r,r < l.length+1->j5 P f [.osl 0 g k 0 l.length,.int .i64 (i:Int),.sl .clip k [row x]] [⟨g,k,l.map row,some r⟩] (.osl 1 0 k 0 (l.length+1),[⟨g,k,l.map row,some r⟩,⟨0,k,(l.take i++x :: l.drop i).map row,none⟩]))
 (hR:i < l.length->∀ r,l.length+1<=r->j5 P f [.osl 0 g k 0 l.length,.int .i64 (i:Int),.sl .clip k [row x]] [⟨g,k,l.map row,some r⟩] (.osl 0 g k 0 (l.length+1),[⟨g,k,(l.take i++x :: l.drop i).map row,some r⟩])) :
 j5 P f [.osl 0 g k 0 l.length,.int .i64 (i:Int),.sl .clip k [row x]] [⟨g,k,l.map row,none⟩] (.osl 0 (g+1) k 0 (l.length+1),[⟨g+1,k,(l.take i++x :: l.drop i).map row,none⟩]):=by
 by_cases hil:i=l.length
 · subst hil
   rw [List.take_length,List.drop_length]
   exact hE
 have hlt:i < l.length:=by omega
 refine j5.room (id:=0) (i:=0) (g:=g) (k:=k) (e:=0) (n:=l.length) (els:=l.map row) rfl rfl fun r hr=>?_
 show j5 P f _ [⟨g,k,l.map row,some r⟩] _
 have hlen:(l.take i++x :: l.drop i).length=l.length+1:=by simp; omega
 rcases Nat.lt_or_ge r (l.length+1) with h | h
 · have h1:=(hG hlt r h).ghost (i:=0) (id:=0) (g:=g) (x:=.osl 0 g k 0 l.length) (a':=.osl 0 (g+1) k 0 (l.length+1)) (H2:=[⟨g+1,k,(l.take i++x :: l.drop i).map row,none⟩]++[⟨1,k,[],none⟩]) rfl (.inr ⟨_,_,_,rfl⟩) rfl rfl rfl rfl
    fun G w C v hH hv hl=>a2M (id:=0) (j:=1) (g:=g) (gj:=0) hH D8 rfl rfl rfl rfl hv hl
   refine h1.forget rfl rfl fun id o ho=>.inr ?_
   cases id with
   | zero =>
    simp only [List.getElem?_cons_zero,Option.some.injEq] at ho
    subst ho
    exact hrow _ _
   | succ id=>simp at ho
 · have h1:=(hR hlt r h).c4s (a':=.osl 0 (g+1) k 0 (l.length+1)) (H2:=[⟨g+1,k,(l.take i++x :: l.drop i).map row,some r⟩]) fun G w C v hH hv=>by
    obtain ⟨C',q⟩:=a7R hH hv (o:=⟨g,k,(l.take i++x :: l.drop i).map row,some r⟩) rfl rfl (Nat.le_succ g)
    exact ⟨G,C',q⟩
   have h2:=h1.shrink (m:=l.length+1) rfl
   have e:((l.take i++x :: l.drop i).map row).take (l.length+1)=(l.take i++x :: l.drop i).map row:=List.take_of_length_le (by rw [List.length_map]; omega)
   rw [e] at h2
   exact h2
theorem j5.delete {P:Program} {f:FuncId} {args:List AV} {H:Heap} {g k n:Nat} {els els':List (List AV)} (h:j5 P f args H (.osl 0 g k 0 n,[⟨g,k,els,none⟩])) (he:els.take n=els'):j5 P f args H (.osl 0 g k 0 n,[⟨g,k,els',none⟩]):=by
 have:=h.shrink (m:=n) rfl
 rw [he] at this
 exact this
open Go.Proofs.YtmghjcbabebanaaGreat
attribute [local irreducible] A9 E9 F5 F8 F9 G9 H6 K4 K5 M8 Q5 R7 Tp.J5 Tp.K8 Tp.card Tp.cards Tp.key Tp.keyT Tp.next Tp.step V3 cmpL j5 l6 sink
theorem d6O (vs:Array Value) (w:World):(callFunc 170 vs).run Tryz.prog w=((Extern.SlicesOverlaps.overlaps #[89,89] #[4] vs).run Tryz.prog w).andThen fun v w'=>.ok (.value v) w' :=
 run_callFunc_extern (fn:=Tryz.f170) kr kr kr kr kr vs w
def c7D:Ann:={ base:=1,fin:=some 1 }
abbrev cz_ (a:Nat) (b:l9E):=(d9 0 a 10 b.length)
abbrev bO (a:Entry):=(AV.sl .clip 10 [(Entry.row a)])
theorem c1E (l:l9E) (x:Entry) (g:Nat) (hl:l.length < 1048576):AC 126 [(cz_ g l),(iN l.length),(bO x)] [(o_ g 10 (mE l))] ((d9 0 (g+1) 10 (l.length+1)),[(o_ (g+1) 10 (mE (l++[x])))]) :=
 x9 (fn:=Tryz.f126) (ann:=c7D) (Has.o Tryz.func126) (.r (.s (.so 2 0 g 10 0 l.length (l.length:Int) (l.length:Int) (O4 0 g 10 l.length (l.length - l.length)) (P7 (l:=l.length) (h:=l.length) om om om om om om) (.s (.s (.rn (.s (.y 2 (bB ((l.length:Int) == (l.length:Int))) bT (Yes.b om) (.ru (.ap 2 89 (cz_ g l) (bO x) (d9 0 (g+1) 10 (l.length+1)) [(o_ (g+1) 10 (mE (l++[x])))] (I4 (row:=Entry.row) (l:=l) (x:=x) (T:=tt) (e:=93) (te:=kZ) (z:=1) (b:=24) (y:=[.sl .nil 0 []]) kr kr rfl D8 D8 kr Z0 rfl rfl b4V) (.q 1 (d9 0 (g+1) 10 (l.length+1)))))))))))))
def rC:Ann:={ big:=[40,60],base:=1 }
abbrev c0T (a:Nat) (b:l9E) (c:Nat) (d:Nat) (e:Entry):Heap:=[⟨a,10,(mE b),some c⟩,(o_ 0 10 (mE (b.take d++e :: b.drop d)))]
abbrev sH (a b:Nat) (c:l9E):=(O4 0 a 10 b (c.length - b))
abbrev d8T (a:Nat) (b:l9E) (c:Nat) (d:Entry):Fr:=(mkF 95 [(0,(cz_ a b)),(1,(iN c)),(2,(bO d)),(6,w9),(7,(iI 1)),(8,(iN b.length)),(10,(cz_ a b)),(11,(iN c)),(12,(sH a c b)),(13,(bO d)),(14,(iI 1)),(15,(iI 1)),(16,bF),(18,(cz_ a b)),(19,(iN b.length)),(20,(iN c)),(21,(iN b.length)),(22,bF),(26,(iN b.length)),(27,(iI 1)),(28,(iN (b.length+1))),(29,(cz_ a b))])
abbrev c0S (a:Nat) (b:l9E) (c:Nat) (d:Nat):Heap:=[⟨a,10,(mE b),some c⟩,(o_ 0 10 (mE (b.take d)++List.replicate (b.length+1 - d) (List.replicate 10 AV.unk)))]
abbrev c0R (a:Nat) (b:l9E) (c:Nat) (d:Nat) (e:Entry):Heap:=[⟨a,10,(mE b),some c⟩,(o_ 0 10 (mE (b.take d++[e])++List.replicate (b.length+1 - d - 1) (List.replicate 10 AV.unk)))]
abbrev vH (a:l9E):=(d9 1 0 10 (a.length+1))
abbrev b9D (a:l9E):=(IntKind.i64.wrap ((a.length:Int)+1))
theorem c1D (l:l9E) (x:Entry) (g i r:Nat) (hi:i < l.length) (hl:l.length < 1048576) (hr:r < l.length+1):AC 126 [(cz_ g l),(iN i),(bO x)] [⟨g,10,(mE l),some r⟩] ((vH l),(c0T g l r i x)) :=
 x9 (fn:=Tryz.f126) (ann:=rC) (Has.o Tryz.func126) (.r (.s (.so 2 0 g 10 0 l.length (i:Int) (l.length:Int) (sH g i l) (P7 (l:=i) (h:=l.length) om om om om om om) (.s (.s (.rn (.s (.y 2 (bB ((i:Int) == (l.length:Int))) bF (Yes.b om) (.rn (.y 2 (.int .i64 (b9D l)) (iN (l.length+1)) Yes.o (.t 4 (iN r) [⟨g,10,(mE l),some r⟩] (b4s (o:=(Y4 Tryz.f126 8 4)) (t:=89) (e0:=93) (ti:={ d:=.slice 93,size:=1,bytes:=24,zero:=[.sl .nil 0 []] }) (id:=0) (g:=g) (e:=0) (n:=l.length) (k:=10) (r:=r) (els:=(mE l)) dV kr kr kr rfl kr kr rfl:Sat Tryz.prog (X rC) (d8T g l i x) [⟨g,10,(mE l),some r⟩] 1 (Y4 Tryz.f126 8 4) (iN r) [⟨g,10,(mE l),some r⟩]) (.y 5 (bB (decide (((l.length+1:Nat):Int) > (r:Int)))) bT (Yes.b om) (.ru (.so 2 0 g 10 0 l.length 0 (i:Int) (d9 0 g 10 i) (P7 (l:=0) (h:=i) om om om om om om) (.y 5 (.int .i64 (b9D l)) (iN (l.length+1)) Yes.o (.y 7 (iW (((l.length+1:Nat):Int) - (i:Int))) (iN (l.length+1 - i)) Yes.o (.t 8 (vH l) (c0S g l r i) (c8l (o:=(Y4 Tryz.f126 9 8)) (t:=89) (e0:=93) (ti:={ d:=.slice 93,size:=1,bytes:=24,zero:=[.sl .nil 0 []] }) (id:=0) (g:=g) (e:=0) (n:=i) (t':=3) (te:=kZ) (ti':={ d:=.int .i64,size:=1,bytes:=8,zero:=[.int .i64 0] }) (kk:=.i64) (kx:=.i64) (k:=10) (r:=r) (c:=l.length+1 - i) (els:=(mE l)) (ys:=mE (l.take i)) (els':=(mE (l.take i)++List.replicate (l.length+1 - i) (List.replicate 10 AV.unk))) dV kr kr kr rfl kr kr rfl rfl kr kr (by simp [I5,List.map_take]; omega) om kr om D8 D8 om (by show _ * 96<=_; omega) om om rfl:Sat Tryz.prog (X rC) (mkF 95 [(0,(cz_ g l)),(1,(iN i)),(2,(bO x)),(6,w9),(7,(iI 1)),(8,(iN l.length)),(10,(cz_ g l)),(11,(iN i)),(12,(sH g i l)),(13,(bO x)),(14,(iI 1)),(15,(iI 1)),(16,bF),(18,(cz_ g l)),(19,(iN l.length)),(20,(iN i)),(21,(iN l.length)),(22,bF),(26,(iN l.length)),(27,(iI 1)),(28,(iN (l.length+1))),(29,(cz_ g l)),(30,(iN r)),(31,bT),(32,(cz_ g l)),(33,(iN i)),(34,(d9 0 g 10 i)),(35,(iN l.length)),(36,(iI 1)),(37,(iN (l.length+1))),(38,(iN i)),(39,(iN (l.length+1 - i)))]) [⟨g,10,(mE l),some r⟩] 1 (Y4 Tryz.f126 9 8) (vH l) (c0S g l r i)) (.s (.h' (c0S g l r i) (.so 2 1 0 10 0 (l.length+1) (i:Int) (((l.length+1):Nat):Int) (O4 1 0 10 i ((l.length+1) - i)) (P7 (l:=i) (h:=(l.length+1)) om om om om om om) (.t 4 (iI 1) (c0R g l r i x) (a3l (o:=(Y4 Tryz.f126 10 4)) (t:=89) (e0:=93) (ti:={ d:=.slice 93,size:=1,bytes:=24,zero:=[.sl .nil 0 []] }) (id:=1) (g:=0) (e:=i) (n:=((l.length+1) - i)) (t':=89) (te:=kZ) (k:=10) (els:=(mE (l.take i)++List.replicate (l.length+1 - i) (List.replicate 10 AV.unk))) (els':=(mE (l.take i++[x])++List.replicate (l.length+1 - i - 1) (List.replicate 10 AV.unk))) (room:=none) (new:=[(Entry.row x)]) (s:=(bO x)) dV kr kr kr rfl kr rfl kr kr kr kr om om om (e0z Entry.row x _ l ow ow) (rfl) rfl:Sat Tryz.prog (X rC) (mkF 95 [(0,(cz_ g l)),(1,(iN i)),(2,(bO x)),(6,w9),(7,(iI 1)),(8,(iN l.length)),(9,(vH l)),(10,(cz_ g l)),(11,(iN i)),(12,(sH g i l)),(13,(bO x)),(14,(iI 1)),(15,(iI 1)),(16,bF),(18,(cz_ g l)),(19,(iN l.length)),(20,(iN i)),(21,(iN l.length)),(22,bF),(26,(iN l.length)),(27,(iI 1)),(28,(iN (l.length+1))),(29,(cz_ g l)),(30,(iN r)),(31,bT),(32,(cz_ g l)),(33,(iN i)),(34,(d9 0 g 10 i)),(35,(iN l.length)),(36,(iI 1)),(37,(iN (l.length+1))),(38,(iN i)),(39,(iN (l.length+1 - i))),(40,(vH l)),(41,(vH l)),(42,(iN i)),(43,(O4 1 0 10 i ((l.length+1) - i))),(44,(bO x))]) (c0S g l r i) 2 (Y4 Tryz.f126 10 4) (iI 1) (c0R g l r i x)) (.s (.h' (c0R g l r i x) (.y 3 (.int .i64 (cb_ i)) (iN (i+1)) Yes.o (.so 4 1 0 10 0 (l.length+1) ((i+1:Nat):Int) (((l.length+1):Nat):Int) (O4 1 0 10 (i+1) ((l.length+1) - (i+1))) (P7 (l:=i+1) (h:=(l.length+1)) om om om om om om) (.so 7 0 g 10 0 l.length (i:Int) (l.length:Int) (sH g i l) (P7 (l:=i) (h:=l.length) om om om om om om) (.t 8 (iN ((l.length - i))) (c0T g l r i x) (a3l (o:=(Y4 Tryz.f126 11 8)) (t:=89) (e0:=93) (ti:={ d:=.slice 93,size:=1,bytes:=24,zero:=[.sl .nil 0 []] }) (id:=1) (g:=0) (e:=(i+1)) (n:=((l.length+1) - (i+1))) (t':=89) (te:=kZ) (k:=10) (els:=(mE (l.take i++[x])++List.replicate (l.length+1 - i - 1) (List.replicate 10 AV.unk))) (els':=(mE (l.take i++x :: l.drop i))) (room:=none) (new:=mE (l.drop i)) (s:=(sH g i l)) dV kr kr kr rfl kr rfl kr kr kr (by simp [I5,List.map_drop,List.take_of_length_le] <;> omega) om om om (e0y Entry.row x _ l ow ow) om rfl:Sat Tryz.prog (X rC) (mkF 95 [(0,(cz_ g l)),(1,(iN i)),(2,(bO x)),(6,w9),(7,(iI 1)),(8,(iN l.length)),(9,(vH l)),(10,(cz_ g l)),(11,(iN i)),(12,(sH g i l)),(13,(bO x)),(14,(iI 1)),(15,(iI 1)),(16,bF),(18,(cz_ g l)),(19,(iN l.length)),(20,(iN i)),(21,(iN l.length)),(22,bF),(26,(iN l.length)),(27,(iI 1)),(28,(iN (l.length+1))),(29,(cz_ g l)),(30,(iN r)),(31,bT),(32,(cz_ g l)),(33,(iN i)),(34,(d9 0 g 10 i)),(35,(iN l.length)),(36,(iI 1)),(37,(iN (l.length+1))),(38,(iN i)),(39,(iN (l.length+1 - i))),(40,(vH l)),(41,(vH l)),(42,(iN i)),(43,(O4 1 0 10 i ((l.length+1) - i))),(44,(bO x)),(45,(iI 1)),(46,(vH l)),(47,(iN i)),(48,(iI 1)),(49,(iN (i+1))),(50,(O4 1 0 10 (i+1) ((l.length+1) - (i+1)))),(51,(cz_ g l)),(52,(iN i)),(53,(sH g i l))]) (c0R g l r i x) 2 (Y4 Tryz.f126 11 8) (iN ((l.length - i))) (c0T g l r i x)) (.s (.g (.h' (c0T g l r i x) (.e (vH l))))))))))))))))))))))))))))))))
def rA:Ann:={ big:=[40,60],base:=1,fin:=some 1 }
abbrev c0Q (a:Nat) (b:l9E) (c:Nat) (d:Entry) (e:Nat):Heap:=[⟨a,10,(mE (b.take c++d :: b.drop c)),some e⟩]
abbrev c0P (a:Nat) (b:l9E) (c:Nat) (d:Nat):Heap:=[⟨a,10,(mE (b.take (c+1)++b.drop c)),some d⟩]
abbrev lM (a:Nat) (b:l9E):=(d9 0 a 10 (b.length+1))
abbrev a3Q (a b:Nat) (c:l9E):=(O4 0 a 10 (b+1) ((c.length+1) - (b+1)))
theorem c1C (l:l9E) (x:Entry) (g i r:Nat) (hi:i < l.length) (hl:l.length < 1048576) (hr:l.length+1<=r):AC 126 [(cz_ g l),(iN i),(bO x)] [⟨g,10,(mE l),some r⟩] ((lM g l),(c0Q g l i x r)) :=
 x9 (fn:=Tryz.f126) (ann:=rA) (Has.o Tryz.func126) (.r (.s (.so 2 0 g 10 0 l.length (i:Int) (l.length:Int) (sH g i l) (P7 (l:=i) (h:=l.length) om om om om om om) (.s (.s (.rn (.s (.y 2 (bB ((i:Int) == (l.length:Int))) bF (Yes.b om) (.rn (.y 2 (.int .i64 (b9D l)) (iN (l.length+1)) Yes.o (.t 4 (iN r) [⟨g,10,(mE l),some r⟩] (b4s (o:=(Y4 Tryz.f126 8 4)) (t:=89) (e0:=93) (ti:={ d:=.slice 93,size:=1,bytes:=24,zero:=[.sl .nil 0 []] }) (id:=0) (g:=g) (e:=0) (n:=l.length) (k:=10) (r:=r) (els:=(mE l)) dV kr kr kr rfl kr kr rfl:Sat Tryz.prog (X rA) (d8T g l i x) [⟨g,10,(mE l),some r⟩] 1 (Y4 Tryz.f126 8 4) (iN r) [⟨g,10,(mE l),some r⟩]) (.y 5 (bB (decide (((l.length+1:Nat):Int) > (r:Int)))) bF (Yes.b om) (.rn (.y 3 (.int .i64 (b9D l)) (iN (l.length+1)) Yes.o (.t 4 (lM g l) [⟨g,10,(mE l),some r⟩] (c2v (o:=(Y4 Tryz.f126 13 4)) (t:=89) (e0:=93) (ti:={ d:=.slice 93,size:=1,bytes:=24,zero:=[.sl .nil 0 []] }) (id:=0) (g:=g) (e:=0) (n:=l.length) (te:=kZ) (k:=10) (r:=r) (l:=0) (h:=l.length+1) (els:=(mE l)) dV kr kr kr rfl kr rfl kr kr kr kr om om om om:Sat Tryz.prog (X rA) (mkF 95 [(0,(cz_ g l)),(1,(iN i)),(2,(bO x)),(6,w9),(7,(iI 1)),(8,(iN l.length)),(10,(cz_ g l)),(11,(iN i)),(12,(sH g i l)),(13,(bO x)),(14,(iI 1)),(15,(iI 1)),(16,bF),(18,(cz_ g l)),(19,(iN l.length)),(20,(iN i)),(21,(iN l.length)),(22,bF),(26,(iN l.length)),(27,(iI 1)),(28,(iN (l.length+1))),(29,(cz_ g l)),(30,(iN r)),(31,bF),(56,(cz_ g l)),(57,(iN l.length)),(58,(iI 1)),(59,(iN (l.length+1)))]) [⟨g,10,(mE l),some r⟩] 1 (Y4 Tryz.f126 13 4) (lM g l) [⟨g,10,(mE l),some r⟩]) (.s (.y 4 (.int .i64 (cb_ i)) (iN (i+1)) Yes.o (.so 5 0 g 10 0 (l.length+1) ((i+1:Nat):Int) (((l.length+1):Nat):Int) (a3Q g i l) (P7 (l:=i+1) (h:=(l.length+1)) om om om om om om) (.t 6 bF [⟨g,10,(mE l),some r⟩] (a5k (tS:=89) (tR:=4) (e0:=93) (o:=⟨g,10,(mE l),some r⟩) d6O (dQ dV (ti:={ d:=.slice 93,size:=1,bytes:=24,zero:=[.sl .nil 0 []] }) kr rfl) (fun w=>(dV 93 { d:=.struct [(50,0),(2,9)],size:=10,bytes:=96,zero:=[.str ⟨#[]⟩,.str ⟨#[]⟩,.int .i64 0,.int .i64 0,.int .i64 0,.int .i64 0,.int .i64 0,.int .i64 0,.bool false,.int .i64 0] } kr).sizeOf w) D8 kr rfl:AC 170 [(bO x),(a3Q g i l)] [⟨g,10,(mE l),some r⟩] (bF,([⟨g,10,(mE l),some r⟩]:Heap))) (.ru (.y 3 (.int .i64 (cb_ i)) (iN (i+1)) Yes.o (.so 4 0 g 10 0 (l.length+1) ((i+1:Nat):Int) (((l.length+1):Nat):Int) (a3Q g i l) (P7 (l:=i+1) (h:=(l.length+1)) om om om om om om) (.so 7 0 g 10 0 (l.length+1) (i:Int) (((l.length+1):Nat):Int) (O4 0 g 10 i ((l.length+1) - i)) (P7 (l:=i) (h:=(l.length+1)) om om om om om om) (.t 8 (iN (((l.length+1) - (i+1)))) (c0P g l i r) (c2x (o:=(Y4 Tryz.f126 15 8)) (t:=89) (e0:=93) (ti:={ d:=.slice 93,size:=1,bytes:=24,zero:=[.sl .nil 0 []] }) (id:=0) (g:=g) (e:=(i+1)) (n:=((l.length+1) - (i+1))) (t':=89) (te:=kZ) (k:=10) (els:=(mE l)) (els':=(mE (l.take (i+1)++l.drop i))) (room:=some r) (id2:=0) (g2:=g) (e2:=i) (n2:=((l.length+1) - i)) (els2:=(mE l)) (room2:=some r) dV kr kr kr rfl kr rfl kr kr kr kr om om om om (by rw [show l.length+1 - (i+1)=l.length - i by omega]; exact e0x Entry.row l hi) rfl rfl:Sat Tryz.prog (X rA) (mkF 95 [(0,(lM g l)),(1,(iN i)),(2,(bO x)),(6,w9),(7,(iI 1)),(8,(iN l.length)),(10,(cz_ g l)),(11,(iN i)),(12,(sH g i l)),(13,(bO x)),(14,(iI 1)),(15,(iI 1)),(16,bF),(18,(cz_ g l)),(19,(iN l.length)),(20,(iN i)),(21,(iN l.length)),(22,bF),(26,(iN l.length)),(27,(iI 1)),(28,(iN (l.length+1))),(29,(cz_ g l)),(30,(iN r)),(31,bF),(56,(cz_ g l)),(57,(iN l.length)),(58,(iI 1)),(59,(iN (l.length+1))),(60,(lM g l)),(61,(bO x)),(62,(lM g l)),(63,(iN i)),(64,(iI 1)),(65,(iN (i+1))),(66,(a3Q g i l)),(67,bF),(68,bT),(69,(lM g l)),(70,(iN i)),(71,(iI 1)),(72,(iN (i+1))),(73,(a3Q g i l)),(74,(lM g l)),(75,(iN i)),(76,(O4 0 g 10 i ((l.length+1) - i)))]) [⟨g,10,(mE l),some r⟩] 1 (Y4 Tryz.f126 15 8) (iN (((l.length+1) - (i+1)))) (c0P g l i r)) (.s (.h' (c0P g l i r) (.so 2 0 g 10 0 (l.length+1) (i:Int) (((l.length+1):Nat):Int) (O4 0 g 10 i ((l.length+1) - i)) (P7 (l:=i) (h:=(l.length+1)) om om om om om om) (.t 4 (iI 1) (c0Q g l i x r) (a3l (o:=(Y4 Tryz.f126 16 4)) (t:=89) (e0:=93) (ti:={ d:=.slice 93,size:=1,bytes:=24,zero:=[.sl .nil 0 []] }) (id:=0) (g:=g) (e:=i) (n:=((l.length+1) - i)) (t':=89) (te:=kZ) (k:=10) (els:=(mE (l.take (i+1)++l.drop i))) (els':=(mE (l.take i++x :: l.drop i))) (room:=some r) (new:=[(Entry.row x)]) (s:=(bO x)) dV kr kr kr rfl kr rfl kr kr kr kr om om om (e0w Entry.row x l hi) (rfl) rfl:Sat Tryz.prog (X rA) (mkF 95 [(0,(lM g l)),(1,(iN i)),(2,(bO x)),(6,w9),(7,(iI 1)),(8,(iN l.length)),(10,(cz_ g l)),(11,(iN i)),(12,(sH g i l)),(13,(bO x)),(14,(iI 1)),(15,(iI 1)),(16,bF),(18,(cz_ g l)),(19,(iN l.length)),(20,(iN i)),(21,(iN l.length)),(22,bF),(26,(iN l.length)),(27,(iI 1)),(28,(iN (l.length+1))),(29,(cz_ g l)),(30,(iN r)),(31,bF),(56,(cz_ g l)),(57,(iN l.length)),(58,(iI 1)),(59,(iN (l.length+1))),(60,(lM g l)),(61,(bO x)),(62,(lM g l)),(63,(iN i)),(64,(iI 1)),(65,(iN (i+1))),(66,(a3Q g i l)),(67,bF),(68,bT),(69,(lM g l)),(70,(iN i)),(71,(iI 1)),(72,(iN (i+1))),(73,(a3Q g i l)),(74,(lM g l)),(75,(iN i)),(76,(O4 0 g 10 i ((l.length+1) - i))),(77,(iN (((l.length+1) - (i+1))))),(78,(lM g l)),(79,(iN i)),(80,(O4 0 g 10 i ((l.length+1) - i))),(81,(bO x))]) (c0P g l i r) 1 (Y4 Tryz.f126 16 4) (iI 1) (c0Q g l i x r)) (.s (.g (.h' (c0Q g l i x r) (.q 1 (lM g l)))))))))))))))))))))))))))))))))
@[simp] abbrev e1h (a:Nat) (b:l9E) (c:Nat) (d:Entry):Heap:=[(o_ (a+1) 10 (mE (b.take c++d :: b.drop c)))]
theorem c7C (l:l9E) (x:Entry) (g i n:Nat) (hn:n=l.length) (hi:i<=l.length) (hl:l.length < 1048576):AC 126 [(d9 0 g 10 n),(iN i),(AV.sl .clip 10 [(Entry.row x)])] [(o_ g 10 (mE l))] ((d9 0 (g+1) 10 (n+1)),(e1h g l i x)):=by
 subst hn
 exact j5.insert Entry.z8 hi (c1E l x g hl) (fun h r hr=>c1D l x g i r h hl hr) (fun h r hr=>c1C l x g i r h hl hr)
def wJ:Ann:={ big:=[13,31],base:=1 }
abbrev c0O (a:Nat) (b:l9E) (c:Nat):Heap:=[(o_ a 10 (mE (b.take c++b.drop (c+1))++[(List.replicate 10 AV.unk)]))]
abbrev b2c (a:Nat) (b:l9E) (c:Nat):Heap:=[(o_ a 10 (mE (b.take c++b.drop (c+1)++b.drop (b.length - 1))))]
abbrev vG (a:Nat) (b:l9E):=(d9 0 a 10 (b.length - 1))
theorem c1F (l:l9E) (g i:Nat) (hi:i < l.length) (hl:l.length < 1048576):AC 185 [(cz_ g l),(iN i),(iN (i+1))] [(o_ g 10 (mE l))] ((vG g l),(c0O g l i)) :=
 x9 (fn:=Tryz.f185) (ann:=wJ) (Has.o Tryz.func185) (.r (.s (.t 5 AV.unk [(o_ g 10 (mE l))] (zH (o:=(Y4 Tryz.f185 1 5)) (t:=89) (e0:=93) (ti:={ d:=.slice 93,size:=1,bytes:=24,zero:=[.sl .nil 0 []] }) (id:=0) (g:=g) (e:=0) (n:=l.length) (te:=kZ) (k:=10) (l:=i) (h:=i+1) (c:=l.length) dV kr kr kr rfl kr rfl kr kr kr kr om om om:Sat Tryz.prog (X wJ) (mkF 33 [(0,(cz_ g l)),(1,(iN i)),(2,(iN (i+1))),(6,w9),(8,(cz_ g l)),(9,(iN i)),(10,(iN (i+1))),(11,(cz_ g l)),(12,(iN l.length))]) [(o_ g 10 (mE l))] 1 (Y4 Tryz.f185 1 5) AV.unk [(o_ g 10 (mE l))]) (.s (.y 2 (bB ((i:Int) == ((i+1:Nat):Int))) bF (Yes.b yg_) (.rn (.s (.so 2 0 g 10 0 l.length 0 (i:Int) (d9 0 g 10 i) (P7 (l:=0) (h:=i) om om om om om om) (.so 5 0 g 10 0 l.length ((i+1:Nat):Int) (l.length:Int) (O4 0 g 10 (i+1) (l.length - (i+1))) (P7 (l:=i+1) (h:=l.length) om om om om om om) (.ap 6 89 (d9 0 g 10 i) (O4 0 g 10 (i+1) (l.length - (i+1))) (vG g l) (b2c g l i) (a0E (els:=(mE l)) (ti:={ d:=.slice 93,size:=1,bytes:=24,zero:=[.sl .nil 0 []] }) (te:=kZ) (e0:=93) kr rfl kr rfl D8 kr om om (e0M Entry.row l hi) om rfl) (.s (.t 4 (O4 0 g 10 (l.length - 1) 1) (b2c g l i) (a4p (o:=(Y4 Tryz.f185 6 4)) (t:=89) (e0:=93) (ti:={ d:=.slice 93,size:=1,bytes:=24,zero:=[.sl .nil 0 []] }) (id:=0) (g:=g) (e:=0) (n:=(l.length - 1)) (te:=kZ) (k:=10) (room:=none) (l:=(l.length - 1)) (h:=l.length) (els:=(mE (l.take i++l.drop (i+1)++l.drop (l.length - 1)))) dV kr kr kr rfl kr rfl kr kr kr kr om om om om:Sat Tryz.prog (X wJ) (mkF 33 [(0,(vG g l)),(1,(iN i)),(2,(iN (i+1))),(6,w9),(7,(iN l.length)),(8,(cz_ g l)),(9,(iN i)),(10,(iN (i+1))),(11,(cz_ g l)),(12,(iN l.length)),(13,AV.unk),(14,(iN i)),(15,(iN (i+1))),(16,bF),(18,(cz_ g l)),(19,(iN l.length)),(20,(cz_ g l)),(21,(iN i)),(22,(d9 0 g 10 i)),(23,(cz_ g l)),(24,(iN (i+1))),(25,(O4 0 g 10 (i+1) (l.length - (i+1)))),(26,(vG g l)),(27,(vG g l)),(28,(vG g l)),(29,(iN ((l.length - 1)))),(30,(iN l.length))]) (b2c g l i) 1 (Y4 Tryz.f185 6 4) (O4 0 g 10 (l.length - 1) 1) (b2c g l i)) (.t 5 AV.unk (c0O g l i) (a0R (o:=(Y4 Tryz.f185 6 5)) (t:=89) (e0:=93) (ti:={ d:=.slice 93,size:=1,bytes:=24,zero:=[.sl .nil 0 []] }) (id:=0) (g:=g) (e:=(l.length - 1)) (n:=1) (te:=kZ) (k:=10) (els:=(mE (l.take i++l.drop (i+1)++l.drop (l.length - 1)))) (els':=(mE (l.take i++l.drop (i+1))++[(List.replicate 10 AV.unk)])) (room:=none) dV kr kr kr rfl kr rfl D8 kr kr om yg_ (e0L Entry.row (List.replicate 10 AV.unk) l hi) rfl:Sat Tryz.prog (X wJ) (mkF 33 [(0,(vG g l)),(1,(iN i)),(2,(iN (i+1))),(6,w9),(7,(iN l.length)),(8,(cz_ g l)),(9,(iN i)),(10,(iN (i+1))),(11,(cz_ g l)),(12,(iN l.length)),(13,AV.unk),(14,(iN i)),(15,(iN (i+1))),(16,bF),(18,(cz_ g l)),(19,(iN l.length)),(20,(cz_ g l)),(21,(iN i)),(22,(d9 0 g 10 i)),(23,(cz_ g l)),(24,(iN (i+1))),(25,(O4 0 g 10 (i+1) (l.length - (i+1)))),(26,(vG g l)),(27,(vG g l)),(28,(vG g l)),(29,(iN ((l.length - 1)))),(30,(iN l.length)),(31,(O4 0 g 10 (l.length - 1) 1))]) (b2c g l i) 1 (Y4 Tryz.f185 6 5) AV.unk (c0O g l i)) (.s (.g (.h' (c0O g l i) (.e (vG g l))))))))))))))))))
theorem c7G (l:l9E) (g i n:Nat) (hn:n=l.length) (hi:i < l.length) (hl:l.length < 1048576):AC 185 [(d9 0 g 10 n),(iN i),(iN (i+1))] [(o_ g 10 (mE l))] ((d9 0 g 10 (n - 1)),[(o_ g 10 (mE (l.take i++l.drop (i+1))))]):=by
 subst hn
 exact (c1F l g i hi hl).delete (by rw [List.take_append_of_le_length yg_,List.take_of_length_le yg_])
end Go.Proofs.YtmghjcbabebanaaGreat.AM
namespace Go.Proofs.YtmghjcbabebanaaGreat.AM
open Go
def AV.a0P (els:List (List AV)):Bool:=els.all fun r=>r.all AV.scal
theorem b5J {els:List (List AV)} (h:AV.a0P els=true) {i j:Nat} (hi:i < els.length) (hj:j < (els.getD i []).length):((els.getD i []).getD j .skip).scal=true:=by
 have h1:els.getD i []∈els:=by
  rw [List.getD_eq_getElem?_getD,List.getElem?_eq_getElem hi]; exact List.getElem_mem _
 have h3:=List.all_eq_true.1 h _ h1
 generalize els.getD i []=r at hj h3 ⊢
 have h2:r.getD j .skip∈r:=by
  rw [List.getD_eq_getElem?_getD,List.getElem?_eq_getElem hj]; exact List.getElem_mem _
 exact List.all_eq_true.1 h3 _ h2
theorem gW {α:Type} {row:α->List AV} (h:∀ x,(row x).all AV.scal=true) (l:List α):AV.a0P (l.map row)=true:=by
 unfold AV.a0P
 rw [List.all_eq_true]
 intro r hr
 obtain ⟨x,_,rfl⟩:=List.mem_map.1 hr
 exact h x
theorem j5.iC {P:Program} {f:FuncId} {args args':List AV} {g k n:Nat} {o:Ob} (h:j5 P f args [] (.osl 0 g k 0 n,[o])) (ho:AV.a0P o.els=true) {H:Heap} (hb:Brs H args' args):j5 P f args' H (.osl H.length g k 0 n,H++[o]):=by
 intro G w C vs hsz hargs hH
 obtain ⟨hlen,hbr⟩:=Brs.get hb
 have key:∀ i,i < args.length->VR (fun b=>G b\/∃ id l,C.ι id=some l/\l.b=some b) w Cx.none (args.getD i .skip) (vs.getD i undef):=by
  intro i hi
  have hv:=hargs i ya_
  rcases hbr i hi with ⟨e,h0⟩ | ⟨id,g,k,e,n,rows,h1,h2,h3,h4⟩
  · rw [e] at hv
    have:=hv.cut 0 h0
    rw [vE] at this
    exact this.mono (fun b hb=>.inl hb) (fun _ _=>rfl) (Y5.refl _)
  · rw [h1] at hv
    rw [h2]
    obtain ⟨G',C',e1,e2,e3,_⟩:=gN hH hv h3 h4
    have:=e3.cut 0 rfl
    rw [vE] at this
    refine this.mono (fun b hb=>?_) (fun _ _=>rfl) (Y5.refl _)
    rcases e1.grow b hb with h5 | h5 | h5
    · exact .inl h5
    · exact .inr h5
    · have:=e2.gsz b hb; omega
 refine (h _ w Cx.none vs ya_ key
  ⟨fun id o ho=>by simp at ho,fun id _=>⟨rfl,rfl⟩,fun id l b hl=>by simp [Cx.none] at hl,fun i j l l' b hl=>by simp [Cx.none] at hl,fun id o l ho=>by simp at ho,
   fun b hb=>hb.elim (hH.gsz b) fun ⟨id,l,h1,h2⟩=>(hH.own id l b h1 h2).1⟩).mono fun v w' ⟨G2,C2,he,hh,hv,hp⟩=>?_
 have hall:∀ b,b < w.heap.size->w'.heap[b]?=w.heap[b]?:=fun b hb=>he.rest b hb fun id l hl=>by simp [Cx.none] at hl
 obtain ⟨hγn,hιn⟩:=hH.out H.length (Nat.le_refl _)
 have hnew:∀ l b,C2.ι 0=some l->l.b=some b->w.heap.size<=b:=fun l b hl hb=>by
  rcases he.own 0 l b hl hb with ⟨j,m,hm,_⟩ | h1
  · simp [Cx.none] at hm
  · exact h1
 have hC1:(C.lay H.length (C2.ι 0) (C2.γ 0)).ι H.length=C2.ι 0:=Cx.U3 ..
 have hC2:(C.lay H.length (C2.ι 0) (C2.γ 0)).γ H.length=C2.γ 0:=Cx.bG ..
 have hC3:∀ j,j≠H.length->(C.lay H.length (C2.ι 0) (C2.γ 0)).ι j=C.ι j/\(C.lay H.length (C2.ι 0) (C2.γ 0)).γ j=C.γ j:=fun j hj=>Cx.L6 _ _ _ _ hj
 generalize C.lay H.length (C2.ι 0) (C2.γ 0)=C' at hC1 hC2 hC3
 have hcx:Y5 C C':=fun j=>by
  by_cases hj:j=H.length
  · subst hj; rw [hC2,hγn,hC1,hιn]; exact ⟨Nat.zero_le _,fun _ l hl=>by simp at hl⟩
  · rw [(hC3 j hj).1,(hC3 j hj).2]; exact ⟨Nat.le_refl _,fun _ l hl=>hl⟩
 have hev:Ev G w C G w' C':=⟨he.os,he.tape,he.output,he.size,fun _ h=>h,fun b hb=>hall b (hH.gsz b hb),hcx,fun b hb _=>hall b hb,fun _ h=>.inl h,fun id l b h1 h2=>by
  by_cases hj:id=H.length
  · subst hj; rw [hC1] at h1; exact .inr (hnew l b h1 h2)
  · rw [(hC3 id hj).1] at h1; exact .inl ⟨id,l,h1,h2⟩,he.frz⟩
 have hget:∀ (j:Nat) (oj:Ob),(H++[o])[j]?=some oj->(j < H.length/\H[j]?=some oj)\/(j=H.length/\oj=o):=fun j oj hj=>by
  rcases Nat.lt_or_ge j H.length with h' | h'
  · rw [List.getElem?_append_left h'] at hj; exact .inl ⟨h',hj⟩
  · have:=uD hj
    simp at this
    obtain rfl:j=H.length:=by omega
    simp at hj
    exact .inr ⟨rfl,hj.symm⟩
 refine ⟨G,C',hev,⟨fun j oj hj=>?_,fun j hj=>?_,fun j l b hl hlb=>?_,fun i j l l' b hi hj hb hb'=>?_,fun j oj l hj hl=>?_,fun b hb=>Nat.lt_of_lt_of_le (hH.gsz b hb) he.size⟩,?_,by simp,fun j hj _ hιj=>?_⟩
 · rcases hget j oj hj with ⟨h1,h2⟩ | ⟨rfl,rfl⟩
   · rw [(hC3 j ya_).2]; exact hH.gen j oj h2
   · rw [hC2]; exact hh.gen 0 oj rfl
 · simp only [List.length_append,List.length_singleton] at hj
   rw [(hC3 j ya_).1,(hC3 j ya_).2]; exact hH.out j ya_
 · by_cases hj:j=H.length
   · subst hj; rw [hC1] at hl
     obtain ⟨q1,q2⟩:=hh.own 0 l b hl hlb
     exact ⟨q1,fun hg=>q2 (he.lock b (.inl hg))⟩
   · rw [(hC3 j hj).1] at hl
     obtain ⟨q1,q2⟩:=hH.own j l b hl hlb
     exact ⟨Nat.lt_of_lt_of_le q1 he.size,q2⟩
 · by_cases h1:i=H.length <;> by_cases h2:j=H.length
   · omega
   · subst h1; rw [hC1] at hi; rw [(hC3 j h2).1] at hj
     have:=hnew l b hi hb; have:=(hH.own j l' b hj hb').1; omega
   · subst h2; rw [hC1] at hj; rw [(hC3 i h1).1] at hi
     have:=hnew l' b hj hb'; have:=(hH.own i l b hi hb).1; omega
   · rw [(hC3 i h1).1] at hi; rw [(hC3 j h2).1] at hj
     exact hH.inj i j l l' b hi hj hb hb'
 · rcases hget j oj hj with ⟨h1,h2⟩ | ⟨rfl,rfl⟩
   · rw [(hC3 j ya_).1] at hl
     exact (hH.ob j oj l h2 hl).ev hev fun b hb=>hall b (hH.own j l b hl hb).1
   · rw [hC1] at hl
     have hob:=hh.ob 0 oj l rfl hl
     refine ⟨hob.k,hob.rm,hob.no,hob.len,hob.row,fun b hb=>?_⟩
     obtain ⟨cs,et,q1,q2,q3⟩:=hob.cells b hb
     exact ⟨cs,et,q1,q2,fun i j hi hj=>⟨(q3 i j hi hj).1,(q3 i j hi hj).2.scal (b5J ho hi (by rw [hob.row i hi]; exact hj))⟩⟩
 · cases hv with
   | osl _ _ _ _ _ _ ad cap hnc hle hl =>
    refine .osl _ _ _ _ _ _ _ _ hnc (by rw [hC2]; exact hle) fun hg=>?_
    rw [hC2] at hg
    rw [hC1]
    exact hl hg
   | osl0 _ _ _ _ _ base hle hl =>
    refine .osl0 _ _ _ _ _ _ (by rw [hC2]; exact hle) fun hg=>?_
    rw [hC2] at hg
    rw [hC1]
    exact hl hg
 · rw [(hC3 j ya_).1,(hC3 j ya_).2,List.getElem?_append_left hj]
   exact ⟨hιj,rfl,rfl⟩
end Go.Proofs.YtmghjcbabebanaaGreat.AM
