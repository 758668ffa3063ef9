/-
  Texts of this claim, part 3 of 8: an abstract machine over the model; what functions come to; plain laws.
-/
import Derived.Test.YtfjedpipdnlkfaaGreatMZ62
import Derived.Laws.Externs
set_option linter.unusedVariables false
set_option linter.unusedSimpArgs false
namespace Go.Proofs.YtfjedpipdnlkfaaGreat.AM
open Go
theorem a4o {xs new:List (List AV)} {q:Nat} (hq:q<=xs.length) (r:Nat) (hr:r < (xs.take q++new++xs.drop (q+new.length)).length) :
 if q<=r/\r < q+new.length then (xs.take q++new++xs.drop (q+new.length)).getD r []=new.getD (r - q) [] else r < xs.length/\(xs.take q++new++xs.drop (q+new.length)).getD r []=xs.getD r []:=by
 have hl:(xs.take q).length=q:=by simp; omega
 simp only [List.getD_eq_getElem?_getD]
 split
 · rename_i h
   rw [List.append_assoc,List.getElem?_append_right ya_,hl,List.getElem?_append_left ya_]
 · rename_i h
   simp only [List.length_append,hl,List.length_drop] at hr
   rcases Nat.lt_or_ge r q with h1 | h1
   · refine ⟨by omega,?_⟩
     rw [List.append_assoc,List.getElem?_append_left ya_,List.getElem?_take_of_lt h1]
   · have h2:q+new.length<=r:=by omega
     refine ⟨by omega,?_⟩
     rw [List.getElem?_append_right (by simp [hl]; omega),List.getElem?_drop]
     congr 2
     simp [hl]; omega
theorem sD {G:Nat->Prop} {w:World} {C:Cx} {H:Heap} (hH:HR G w C H) {id:Nat} {o:Ob} {l:Loc} {bb k q:Nat} (ho:H[id]?=some o) (hι:C.ι id=some l) (hlb:l.b=some bb) (hlk:l.k=k)
 {new:List (List AV)} {nv:List Value} (hlen0:nv.length=new.length * k) (hrow0:∀ i,i < new.length->(new.getD i []).length=k) (hrel0:∀ i j,i < new.length->j < k->(nv.getD (i * k+j) undef).oneCell'=true/\VR G w C ((new.getD i []).getD j .skip) (nv.getD (i * k+j) undef)) (hq:q<=o.els.length) (hroom:q+new.length<=l.room) {cur:Array Value} {et:TypeId} (hcur:w.heap[bb]?=some (.cells cur et (0,0))) :
 Ev G w C G (w.setRow bb (cur.toList.take (l.sh+q * l.k)++nv++cur.toList.drop (l.sh+q * l.k+nv.length)).toArray) C /\
 HR G (w.setRow bb (cur.toList.take (l.sh+q * l.k)++nv++cur.toList.drop (l.sh+q * l.k+nv.length)).toArray) C (H.set id { o with els:=o.els.take q++new++o.els.drop (q+new.length) }):=by
 have hob:=hH.ob id o l ho hι
 have hgγ:=hH.gen id o ho
 obtain ⟨hk1,hrm1,hno1,hlen1,hrow1,hcs1⟩:=hob
 obtain ⟨cur',et',hcur',hcsz,hcell⟩:=hcs1 bb hlb
 obtain ⟨rfl,rfl⟩:cur'=cur/\et'=et:=by rw [hcur] at hcur'; simp at hcur'; exact ⟨hcur'.1.symm,hcur'.2.symm⟩
 have hlt:id < H.length:=by
  rcases Nat.lt_or_ge id H.length with h' | h'
  · exact h'
  · rw [List.getElem?_eq_none h'] at ho; simp at ho
 have hm:(q+new.length) * l.k<=l.room * l.k:=Nat.mul_le_mul_right _ hroom
 rw [Nat.add_mul] at hm
 have hnvl:nv.length=new.length * l.k:=by rw [hlen0,hlk]
 have hev:Mv G w C G (w.setRow bb (cur'.toList.take (l.sh+q * l.k)++nv++cur'.toList.drop (l.sh+q * l.k+nv.length)).toArray) C :=
  ⟨fun _ h=>h,fun b' hb'=>setRow_other w _ _ _ fun e'=>(hH.own id l bb hι hlb).2 (e' ▸ hb'),U8.refl _⟩
 refine hH.upd (G':=G) (C':=C) id { o with els:=o.els.take q++new++o.els.drop (q+new.length) } rfl rfl rfl (fun j hj=>⟨rfl,rfl⟩) (Nat.le_refl _) (fun _ l2 hl2=>hl2)
  (fun j hj=>List.getElem?_set_ne (Ne.symm hj)) (List.getElem?_set_self hlt) yf_ ya_ hgγ (fun _ h=>h) (fun _ h=>.inl h)
  (fun b' _ hb'=>setRow_other w _ _ _ fun e'=>hb' l hι (by rw [hlb,e'])) yf_ (fun b' hb'=>by simpa using hH.gsz b' hb') (fun l2 b2 hl2 hb2=>.inl ⟨l2,hl2,hb2⟩) (nO w _ _ _ _ _ hcur) fun l2 hl2=>?_
 obtain rfl:l=l2:=by rw [hι] at hl2; simpa using hl2
 have hlsz:(cur'.toList.take (l.sh+q * l.k)++nv++cur'.toList.drop (l.sh+q * l.k+nv.length)).length=cur'.size:=by simp; omega
 have hlb':∀ b2,l.b=some b2->b2=bb:=fun b2 h2=>by rw [hlb] at h2; simpa using h2.symm
 refine ⟨fun b2 hb2=>?_,hk1,hrm1,hno1,by simp only [List.length_append,List.length_take,List.length_drop]; omega,fun r hr'=>?_,fun b2 hb2=>?_⟩
 · rw [hlb' b2 hb2]
   exact ⟨by simpa using (hH.own id l bb hι hlb).1,(hH.own id l bb hι hlb).2,fun j hj l2 hl2 e'=>hj (hH.inj _ _ _ _ bb hl2 hι e' hlb)⟩
 · have:=a4o hq r hr'
   split at this
   · rw [this,hlk]; exact hrow0 _ ya_
   · rw [this.2]; exact hrow1 _ this.1
 · rw [hlb' b2 hb2]
   refine ⟨_,et',setRow_heap w _ _ _ _ _ hcur,?_,fun r j hr' hj=>?_⟩
   · have h2:(cur'.toList.take (l.sh+q * l.k)++nv++cur'.toList.drop (l.sh+q * l.k+nv.length)).toArray.size=cur'.size:=by simpa using hlsz
     rw [h2]; exact hcsz
   · have hA2:((cur'.toList.take (l.sh+q * l.k)++nv++cur'.toList.drop (l.sh+q * l.k+nv.length)).toArray).getD (l.sh+r * l.k+j) undef=if q<=r/\r < q+new.length then nv.getD ((r - q) * l.k+j) undef else cur'.toList.getD (l.sh+r * l.k+j) undef:=by
      rw [<- a6Y (xs:=new) hnvl (by rw [hnvl]; simp; omega) hj]
      simp [Array.getD_eq_getD_getElem?,List.getD_eq_getElem?_getD]
     rw [hA2]
     have:=a4o hq r hr'
     split at this
     · rename_i hin
       rw [if_pos hin,this]
       obtain ⟨h3,h4⟩:=hrel0 (r - q) j ya_ ya_
       rw [<- hlk] at h3 h4
       exact ⟨h3,h4.mv hev⟩
     · rename_i hin
       rw [if_neg hin,this.2]
       have hcg:cur'.toList.getD (l.sh+r * l.k+j) undef=cur'.getD (l.sh+r * l.k+j) undef:=by simp [Array.getD_eq_getD_getElem?,List.getD_eq_getElem?_getD]
       rw [hcg]
       obtain ⟨h3,h4⟩:=hcell r j this.1 hj
       exact ⟨h3,h4.mv hev⟩
theorem b7C {P:Program} {F:Fr} {H:Heap} {dst:Option Tmp} {x y:Operand} {t t' e0:TypeId} {type:TypeId} {pos:String} {after:Array Edge} {guard:Option (Nat × Bool)} {id g k e n:Nat} {els new:List (List AV)} {room:Option Nat} {s:AV}
 (ht:P.underlying t=some (.slice e0)) (hk:∀ w:World,(Go.sizeOf e0).run P w=.ok k w) (hx:opv F x=some (.osl id g k e n)) (ho:H[id]?=some ⟨g,k,els,room⟩) (hy:opv F y=some s) (hs:F4 H k s=some new)
 (h0:0 < new.length) (hn:new.length<=n) (he:e<=els.length) :
 kI P F H ⟨dst,.call { callee:=.builtin .copy,args:=#[x,y],argTypes:=#[t,t'] },type,pos,after,guard⟩ (.int .i64 (new.length:Int),H.set id ⟨g,k,els.take e++new++els.drop (e+new.length),room⟩):=by
 intro G w C f hf hH
 have hv:=hf x yq_ _ hx
 have hvs:=hf y yq_ _ hy
 have hgen:g=C.γ id:=hH.gen id _ ho
 obtain ⟨nv,hsrc⟩:=iD (P:=P) hH hvs hs
 generalize hu:f x=u at hv
 cases hv with
 | osl0=>omega
 | osl _ _ _ _ _ _ ad cap hnc hle h =>
  obtain ⟨l,bb,hι,hlb,hlk,hen,hcap,had⟩:=h hgen
  have had':=had ya_
  subst had'
  have hob:=hH.ob id _ l ho hι
  obtain ⟨cur,et,hcur,hcsz,_⟩:=hob.cells bb hlb
  obtain ⟨h1,h2⟩:=sD hH ho hι hlb hlk hsrc.length hsrc.row hsrc.rel he ya_ hcur
  have hm:(e+new.length) * l.k<=l.room * l.k:=Nat.mul_le_mul_right _ ya_
  rw [Nat.add_mul] at hm
  have hnvl:nv.length=new.length * l.k:=by rw [hsrc.length,hlk]
  have hst:=run_storeCells_at P bb (l.sh+e * k) et nv 0 cur w hcur (by rw [<- hlk]; simp; omega) hsrc.oneCell
  simp only [Nat.add_zero] at hst
  have hmin:Nat.min new.length n=new.length:=Nat.min_eq_left hn
  have hr:(Builtin.copy_ #[t,t'] type #[f x,f y]).run P w=.ok (.int .i64 (new.length:Int)) (w.setRow bb (cur.toList.take (l.sh+e * l.k)++nv++cur.toList.drop (l.sh+e * l.k+nv.length)).toArray):=by
   rw [hu,hlk]
   simp [Builtin.copy_,run_underlying ht,hsrc.len w,hmin,hk w,hsrc.cells w rfl,hst,goInt]
  refine ⟨_,_,?_,G,C,h1,h2,.int ..,?_⟩
  · simp [execOp,resolve,invoke,builtin,hr]
  · refine ⟨by simp,fun j hj _ hιj=>⟨hιj,rfl,?_⟩⟩
    have hne:id≠j:=fun e'=>by subst e'; rw [hι] at hιj; simp at hιj
    exact List.getElem?_set_ne hne
theorem b2g {P:Program} {F:Fr} {H:Heap} {dst:Option Tmp} {x:Operand} {t e0:TypeId} {type:TypeId} {pos:String} {after:Array Edge} {guard:Option (Nat × Bool)} {id g k e n:Nat} {els:List (List AV)} {room:Option Nat} {z:Value}
 (ht:P.underlying t=some (.slice e0)) (hz:∀ w:World,(zeroValue e0).run P w=.ok z w) (hzs:z.cells.size=k) (hz1:∀ v∈z.cells.toList,v.oneCell'=true) (hk0:0 < k) (hx:opv F x=some (.osl id g k e n)) (ho:H[id]?=some ⟨g,k,els,room⟩)
 (h0:0 < n) (he:e<=els.length) :
 kI P F H ⟨dst,.call { callee:=.builtin .clear,args:=#[x],argTypes:=#[t] },type,pos,after,guard⟩ (.unk,H.set id ⟨g,k,els.take e++List.replicate n (List.replicate k .unk)++els.drop (e+n),room⟩):=by
 intro G w C f hf hH
 have hv:=hf x yq_ _ hx
 have hgen:g=C.γ id:=hH.gen id _ ho
 generalize hu:f x=u at hv
 cases hv with
 | osl0=>omega
 | osl _ _ _ _ _ _ ad cap hnc hle h =>
  obtain ⟨l,bb,hι,hlb,hlk,hen,hcap,had⟩:=h hgen
  have had':=had ya_
  subst had'
  have hob:=hH.ob id _ l ho hι
  obtain ⟨cur,et,hcur,hcsz,_⟩:=hob.cells bb hlb
  have hzl:(Builtin.zeroCells z.cells n).toList.length=n * k:=by simp [Builtin.zeroCells,hzs]
  have hone:∀ v∈(Builtin.zeroCells z.cells n).toList,v.oneCell'=true:=fun v hv=>by
   simp only [Builtin.zeroCells,Array.toList_map,List.mem_map] at hv
   obtain ⟨i,hi,rfl⟩:=hv
   refine hz1 _ ?_
   have hlt:i % z.cells.size < z.cells.size:=Nat.mod_lt _ ya_
   rw [getElem!_pos z.cells _ hlt]
   simp
  have hl2:(List.replicate n (List.replicate k AV.unk)).length=n:=by simp
  obtain ⟨h1,h2⟩:=sD (new:=List.replicate n (List.replicate k AV.unk)) (nv:=(Builtin.zeroCells z.cells n).toList) hH ho hι hlb hlk (by rw [hl2,hzl]) (fun i hi=>by
   rw [hl2] at hi
   simp [List.getD_eq_getElem?_getD,List.getElem?_replicate,hi]) (fun i j hi hj=>by
   rw [hl2] at hi
   have hlt:=iU hi hj
   refine ⟨?_,?_⟩
   · rw [List.getD_eq_getElem?_getD,List.getElem?_eq_getElem (by rw [hzl]; exact hlt)]
     exact hone _ (List.getElem_mem _)
   · simp only [List.getD_eq_getElem?_getD,List.getElem?_replicate,hi,hj,if_true,Option.getD_some]
     exact .unk ..) he (by rw [hl2]; omega) hcur
  rw [hl2] at h2
  have hm:(e+n) * l.k<=l.room * l.k:=Nat.mul_le_mul_right _ ya_
  rw [Nat.add_mul] at hm
  have hst:=run_storeCells_at P bb (l.sh+e * k) et (Builtin.zeroCells z.cells n).toList 0 cur w hcur (by rw [hzl,<- hlk]; simp; omega) hone
  simp only [Nat.add_zero] at hst
  have hn0:n≠0:=by omega
  have hr:(Builtin.clear_ #[t] type #[f x]).run P w=.ok (.tuple #[]) (w.setRow bb (cur.toList.take (l.sh+e * l.k)++(Builtin.zeroCells z.cells n).toList++cur.toList.drop (l.sh+e * l.k+(Builtin.zeroCells z.cells n).toList.length)).toArray):=by
   rw [hu,hlk]
   simp only [Builtin.clear_]
   cases n with
   | zero=>omega
   | succ n=>simp [run_underlying ht,hz w,hst]
  refine ⟨.tuple #[],_,?_,G,C,h1,h2,.unk ..,?_⟩
  · simp [execOp,resolve,invoke,builtin,hr]
  · refine ⟨by simp,fun j hj _ hιj=>⟨hιj,rfl,?_⟩⟩
    have hne:id≠j:=fun e'=>by subst e'; rw [hι] at hιj; simp at hιj
    exact List.getElem?_set_ne hne
theorem a1T {P:Program} {G:Nat->Prop} {w:World} {C:Cx} {t t' ty e:TypeId} {i:TypeInfo} {z:Value} {kk kx:IntKind} (ht:P.underlying t=some (.slice e)) (ht':P.underlying t'=some (.int kk)) (hi:P.info? e=some i) (hz:i.zero=some z)
 (c:Nat) {ys:List (List AV)} {ov:List Value} (base:Option Addr) (sLen sCap:Nat) (ho:Src P G w C i.size (.slice base sLen sCap) ys ov) (hlen:ys.length=sLen)
 (hg:sCap < sLen+c) (hb:0 < i.bytes) (hs:0 < i.size) (hc:0 < c) (hby:(sLen+c) * i.bytes<=140737488355328) :
 (Builtin.append_ #[t,t'] ty #[.slice base sLen sCap,.int kx (c:Int)]).run P w =
  .ok (.slice (some ⟨w.heap.size,0,none⟩) (sLen+c) (grownCap w (sLen+c) sCap e))
   (w.drew.alloc (.cells (ov.toArray++Builtin.zeroCells z.cells c++Builtin.zeroCells z.cells (grownCap w (sLen+c) sCap e - (sLen+c))) e)):=by
 subst hlen
 have hn:¬ (ys.length+c<=sCap):=by omega
 have hfit:=growslice_fits hg hby
 have h48':¬ (281474976710656 < Builtin.nextslicecap (ys.length+c) sCap * i.bytes):=by omega
 have hb0:¬ i.bytes=0:=by omega
 have hfo:=ho.cells w.drew rfl
 have hcb:c * 1<=c * i.bytes:=Nat.mul_le_mul_left _ hb
 have hcm:c * i.bytes<=(ys.length+c) * i.bytes:=Nat.mul_le_mul_right _ ya_
 have hcs:c<=140737488355328:=by omega
 have hw:IntKind.i64.wrap (c:Int)=(c:Int):=yC ya_ ya_
 have hcs0:¬ (c * i.size=0):=by
  have:=Nat.mul_pos hc hs; omega
 have h0:¬ ((c:Int) < 0):=by omega
 have h48:¬ ((281474976710656:Int) < (c:Int) * (i.bytes:Int)):=by
  have:((c * i.bytes:Nat):Int)<=140737488355328:=by omega
  rw [Int.natCast_mul] at this; omega
 have hmx:¬ ((9223372036854775807:Int) < (ys.length:Int)+(c:Int)):=by
  have:(ys.length+c) * 1<=(ys.length+c) * i.bytes:=Nat.mul_le_mul_left _ hb
  omega
 simp [Builtin.append_,run_underlying ht,run_underlying ht',Go.sizeOf,typeInfo,zeroValue,hi,hz,asInt,asIntOf,hw,h0,h48,hn,hb0,h48',hmx,hcs0,Question.forced,hfo,newRow,grownCap]
theorem c1b {z:Value} {k c:Nat} (hzs:z.cells.size=k) (hk0:0 < k) (hz1:∀ v∈z.cells.toList,v.oneCell'=true):(Builtin.zeroCells z.cells c).size=c * k/\∀ v∈(Builtin.zeroCells z.cells c).toList,v.oneCell'=true:=by
 refine ⟨by simp [Builtin.zeroCells,hzs],fun v hv=>?_⟩
 simp only [Builtin.zeroCells,Array.toList_map,List.mem_map] at hv
 obtain ⟨i,hi,rfl⟩:=hv
 refine hz1 _ ?_
 have hlt:i % z.cells.size < z.cells.size:=Nat.mod_lt _ ya_
 rw [getElem!_pos z.cells _ hlt]
 simp
theorem b9C {P:Program} {G:Nat->Prop} {w:World} {C:Cx} {H:Heap} (hH:HR G w C H) {t t' ty e:TypeId} {i:TypeInfo} {z:Value} {kk kx:IntKind} (ht:P.underlying t=some (.slice e)) (ht':P.underlying t'=some (.int kk)) (hi:P.info? e=some i) (hz:i.zero=some z)
 (hzs:z.cells.size=i.size) (hz1:∀ v∈z.cells.toList,v.oneCell'=true) (c:Nat) {ys:List (List AV)} {ov:List Value} (base:Option Addr) (sLen sCap:Nat) (ho:Src P G w C i.size (.slice base sLen sCap) ys ov) (hlen:ys.length=sLen)
 (hg:sCap < sLen+c) (hb:0 < i.bytes) (hs:0 < i.size) (hc:0 < c) (hby:(sLen+c) * i.bytes<=140737488355328) :
 ∃ v w',(Builtin.append_ #[t,t'] ty #[.slice base sLen sCap,.int kx (c:Int)]).run P w=.ok v w'/\After G w C H (.osl H.length 0 i.size 0 (sLen+c),H++[⟨0,i.size,ys++List.replicate c (List.replicate i.size .unk),none⟩]) v w':=by
 have hr:=a1T (ty:=ty) (kx:=kx) ht ht' hi hz c base sLen sCap ho hlen hg hb hs hc hby
 subst hlen
 have hge:=grownCap_ge w (ys.length+c) sCap e
 generalize grownCap w (ys.length+c) sCap e=cap at hr hge
 obtain ⟨z1,z2⟩:=c1b (c:=c) hzs hs hz1
 have hl2:(List.replicate c (List.replicate i.size AV.unk)).length=c:=by simp
 have hnone:=hH.out H.length (Nat.le_refl _)
 have hcells:∀ q,(ov.toArray++Builtin.zeroCells z.cells c++Builtin.zeroCells z.cells (cap - (ys.length+c))).getD q undef=(ov++(Builtin.zeroCells z.cells c).toList++(Builtin.zeroCells z.cells (cap - (ys.length+c))).toList).getD q undef:=fun q=>by
  rw [List.getD_eq_getElem?_getD,Array.getD_eq_getD_getElem?]
  congr 1
  rw [<- Array.getElem?_toList]
  simp
 have hrow2:∀ q,q < c->((List.replicate c (List.replicate i.size AV.unk)).getD q [])=List.replicate i.size AV.unk:=fun q hq=>by simp [List.getD_eq_getElem?_getD,List.getElem?_replicate,hq]
 have hm:=hH.made (w':=w.drew.alloc (.cells (ov.toArray++Builtin.zeroCells z.cells c++Builtin.zeroCells z.cells (cap - (ys.length+c))) e)) (H':=H++[⟨0,i.size,ys++List.replicate c (List.replicate i.size .unk),none⟩]) H.length i.size (ys++List.replicate c (List.replicate i.size .unk))
  (ov.toArray++Builtin.zeroCells z.cells c++Builtin.zeroCells z.cells (cap - (ys.length+c))) e rfl rfl rfl rfl cap 0 (by simpa using hge) ?_ (fun q hq=>?_) ya_ (fun _=>hnone.2) (fun j hj=>by
   rcases Nat.lt_or_ge j H.length with h' | h'
   · rw [List.getElem?_append_left h']
   · rw [List.getElem?_eq_none yh_,List.getElem?_eq_none ya_]) yf_ yf_ (Nat.le_refl _) fun q j hq hj=>?_
 · refine ⟨_,_,hr,G,_,hm.1,hm.2,.osl _ _ _ _ _ _ _ _ hge yj_ fun _=>⟨_,_,Cx.P5 ..,rfl,rfl,by simpa using hge,by simp,fun _=>by simp⟩,by simp,fun id hl _ hιd=>?_⟩
   have hne:id≠H.length:=by omega
   exact ⟨by rw [(Cx.J7 _ _ _ _ hne).1]; exact hιd,(Cx.J7 _ _ _ _ hne).2,by rw [List.getElem?_append_left hl]⟩
 · simp only [Array.size_append,List.size_toArray,size_zeroCells,hzs,ho.length,<- Nat.add_mul]
   refine Nat.mul_le_mul_right _ ?_
   omega
 · simp only [List.length_append,hl2] at hq
   rw [uM]
   split
   · rename_i h; exact ho.row _ h
   · rw [hrow2 _ ya_]; simp
 · simp only [List.length_append,hl2] at hq
   rw [hcells,b1E (xs:=List.replicate c (List.replicate i.size AV.unk)) ho.length (by rw [hl2]; simpa using z1) (by rw [hl2]; exact hq) hj,uM]
   split
   · rename_i h; exact ho.rel _ _ h hj
   · rename_i h
     rw [hrow2 _ ya_]
     have hlt:=iU (show q - ys.length < c by omega) hj
     refine ⟨?_,?_⟩
     · rw [List.getD_eq_getElem?_getD,List.getElem?_eq_getElem (show _ < (Builtin.zeroCells z.cells c).size by rw [z1]; exact hlt)]
       exact z2 _ (List.getElem_mem _)
     · simp only [List.getD_eq_getElem?_getD,List.getElem?_replicate,hj,if_true,Option.getD_some]
       exact .unk ..
theorem b7B {P:Program} {F:Fr} {H:Heap} {dst:Option Tmp} {x y:Operand} {t t' e0:TypeId} {type:TypeId} {pos:String} {after:Array Edge} {guard:Option (Nat × Bool)} {id g e n r c:Nat} {els ys:List (List AV)} {i:TypeInfo} {z:Value} {kk kx:IntKind}
 (ht:P.underlying t=some (.slice e0)) (ht':P.underlying t'=some (.int kk)) (hi:P.info? e0=some i) (hz:i.zero=some z) (hzs:z.cells.size=i.size) (hz1:∀ v∈z.cells.toList,v.oneCell'=true)
 (hx:opv F x=some (.osl id g i.size e n)) (ho:H[id]?=some ⟨g,i.size,els,some r⟩) (hrows:F4 H i.size (.osl id g i.size e n)=some ys) (hlen:ys.length=n) (hy:opv F y=some (.int kx (c:Int)))
 (hg:r - e < n+c) (hb:0 < i.bytes) (hs:0 < i.size) (hc:0 < c) (hby:(n+c) * i.bytes<=140737488355328) :
 kI P F H ⟨dst,.call { callee:=.builtin .append,args:=#[x,y],argTypes:=#[t,t'] },type,pos,after,guard⟩ (.osl H.length 0 i.size 0 (n+c),H++[⟨0,i.size,ys++List.replicate c (List.replicate i.size .unk),none⟩]):=by
 intro G w C f hf hH
 have hv:=hf x yq_ _ hx
 have hvy:=hf y yq_ _ hy
 have hgen:g=C.γ id:=hH.gen id _ ho
 obtain ⟨ov,hsrc⟩:=iD (P:=P) hH hv hrows
 generalize huy:f y=uy at hvy
 cases hvy
 have fin:∀ base sCap,f x=.slice base n sCap->sCap < n+c->∃ v w',(execOp f (⟨dst,.call { callee:=.builtin .append,args:=#[x,y],argTypes:=#[t,t'] },type,pos,after,guard⟩:Oper)).run P w=.ok (.value v) w'/\After G w C H (.osl H.length 0 i.size 0 (n+c),H++[⟨0,i.size,ys++List.replicate c (List.replicate i.size .unk),none⟩]) v w':=by
  intro base sCap hfx hcap
  rw [hfx] at hsrc
  obtain ⟨v,w',h1,h2⟩:=b9C (ty:=type) (kx:=kx) hH ht ht' hi hz hzs hz1 c base n sCap hsrc hlen hcap hb hs hc hby
  refine ⟨v,w',?_,h2⟩
  simp [execOp,resolve,invoke,builtin,hfx,huy,h1]
 generalize hu:f x=u at hv
 cases hv with
 | osl _ _ _ _ _ _ ad cap hnc hle h =>
  obtain ⟨l,bb,hι,hlb,hlk,hen,hcap,_⟩:=h hgen
  have:=(hH.ob id _ l ho hι).rm r rfl
  exact fin _ _ hu ya_
 | osl0 _ _ _ _ _ base hle h=>exact fin _ _ hu ya_
theorem a9v {P:Program} {F:Fr} {H:Heap} {dst:Option Tmp} {x y m:Operand} {lo:Option Operand} {t e0:TypeId} {type:TypeId} {pos:String} {after:Array Edge} {guard:Option (Nat × Bool)} {id g k e n l h c:Nat}
 (ht:P.underlying t=some (.slice e0)) (hk:∀ w:World,(Go.sizeOf e0).run P w=.ok k w) (hx:opv F x=some (.osl id g k e n))
 (hlo:J3 F lo 0=some (l:Int)) (hhi:J3 F (some y) 0=some (h:Int)) (hmx:J3 F (some m) 0=some (c:Int)) (h1:l<=h) (h2:h<=c) (h3:c<=n) :
 kI P F H ⟨dst,.slice t x lo (some y) (some m),type,pos,after,guard⟩ (.unk,H):=by
 intro G w C f hf hH
 have hv:=hf x yp_ _ hx
 have hl:=jF (G:=G) (w:=w) (C:=C) (f:=f) hlo fun z hz a ha=>hf z (by simp [Op.operands,hz]) a ha
 have hh:=jF (G:=G) (w:=w) (C:=C) (f:=f) hhi fun z hz a ha=>hf z yu_ a ha
 have hm:=jF (G:=G) (w:=w) (C:=C) (f:=f) hmx fun z hz a ha=>hf z yu_ a ha
 have hb:∀ len cap:Nat,c<=cap->(Instr.sliceBounds true len cap (lo.map f) (some (f y)) (some (f m))).run P w=.ok (l,h,c) w:=by
  intro len cap hc
  rcases hm with ⟨hm,_⟩ | ⟨z,kz,hz,hfm⟩
  · simp at hm
  · simp only [Option.some.injEq] at hz
    subst hz
    rcases hh with ⟨hh,_⟩ | ⟨z,kz,hz,hfz⟩
    · simp at hh
    · simp only [Option.some.injEq] at hz
      subst hz
      rcases hl with ⟨rfl,h0⟩ | ⟨z,kz',rfl,hz⟩
      · have:l=0:=by omega
        subst this
        simp [Instr.sliceBounds,hfz,hfm,run_sliceBound,hc,h2]
      · simp [Instr.sliceBounds,hz,hfz,hfm,run_sliceBound,hc,h1,h2]
 have fin:∀ base cap,f x=.slice base n cap->n<=cap->∃ v,(Instr.sliceAt t (f x) (lo.map f) (some (f y)) (some (f m))).run P w=.ok v w:=by
  intro base cap hu hcap
  rw [hu]
  simp only [Instr.sliceAt,Instr.slice,Sem.run_bind,run_underlying ht,Result.andThen_ok]
  rw [hb n cap ya_]
  simp only [Result.andThen_ok,hk w,Sem.run_pure,Sem.run_bind]
  exact ⟨_,rfl⟩
 have done:(∃ v,(Instr.sliceAt t (f x) (lo.map f) (some (f y)) (some (f m))).run P w=.ok v w)->∃ v w',(execOp f (⟨dst,.slice t x lo (some y) (some m),type,pos,after,guard⟩:Oper)).run P w=.ok (.value v) w'/\After G w C H (.unk,H) v w':=by
  intro ⟨v,hr⟩
  refine ⟨v,w,?_,G,C,Ev.refl ..,hH,.unk ..,Pd.refl⟩
  simp only [execOp,Option.map_some,Option.map_none,Sem.run_bind,hr,Result.andThen_ok,Sem.run_pure]
 generalize hu:f x=u at hv
 cases hv with
 | osl _ _ _ _ _ _ ad cap hnc hle h=>exact done (fin _ _ hu hnc)
 | osl0 _ _ _ _ _ base hle h=>exact done (fin _ _ hu (Nat.le_refl _))
theorem l6.ghost {P:Program} {f:FuncId} {args:List AV} {H H1 H2:Heap} {a a' x:AV} {i id g:Nat} {o o1:Ob} (h:l6 P f args H (a,H1)) (hi:args[i]?=some x) (hx:(∃ e c,x=.obj id g e c)\/∃ k e n,x=.osl id g k e n)
 (ho:H[id]?=some o) (hg:o.gen=g) (ho1:H1[id]?=some o1) (hg1:o1.gen=g)
 (k:∀ (G:Nat->Prop) (w:World) (C:Cx) (v:Value),HR G w C H1->VR G w C a v->(∃ l,C.ι id=some l)->∃ G' C',Ev G w C G' w C'/\HR G' w C' H2/\VR G' w C' a' v/\Pd Q7 C H1 C' H2):l6 P f args H (a',H2):=by
 intro G w C vs hsz hargs hH
 have hlt:i < args.length:=by
  rcases Nat.lt_or_ge i args.length with h' | h'
  · exact h'
  · rw [List.getElem?_eq_none h'] at hi; simp at hi
 have hv:=hargs i hlt
 rw [List.getD_eq_getElem?_getD,hi] at hv
 have hγ:=hH.gen id o ho
 obtain ⟨l,hl⟩:=VR.shows hv hx ya_
 refine (h G w C vs hsz hargs hH).mono fun v w' ⟨G',C',he,hh,hv,hp⟩=>?_
 have hγ1:=hh.gen id o1 ho1
 have hl':C'.ι id=some l:=(he.cx id).2 ya_ l hl
 obtain ⟨G2,C2,h1,h2,h3,h4⟩:=k G' w' C' v hh hv ⟨l,hl'⟩
 exact ⟨G2,C2,he.trans h1,h2,h3,hp.trans h4⟩
theorem l6.a7A {P:Program} {f:FuncId} {args:List AV} {H H1 H2:Heap} {a a':AV} (h:l6 P f args H (a,H1))
 (k:∀ (G:Nat->Prop) (w:World) (C:Cx) (v:Value),HR G w C H1->VR G w C a v->∃ G' C',Ev G w C G' w C'/\HR G' w C' H2/\VR G' w C' a' v/\Pd Q7 C H1 C' H2):l6 P f args H (a',H2):=by
 intro G w C vs hsz hargs hH
 refine (h G w C vs hsz hargs hH).mono fun v w' ⟨G',C',he,hh,hv,hp⟩=>?_
 obtain ⟨G2,C2,h1,h2,h3,h4⟩:=k G' w' C' v hh hv
 exact ⟨G2,C2,he.trans h1,h2,h3,hp.trans h4⟩
section
variable {P:Program} {G:Nat->Prop} {w:World} {C:Cx} {H:Heap}
theorem a0p (hH:HR G w C H) {id j g gj k n:Nat} {o oj:Ob} {v:Value} (hne:id≠j) (ho:H[id]?=some o) (hoj:H[j]?=some oj) (hgo:o.gen=g) (hgj:oj.gen=gj) (hv:VR G w C (.osl j gj k 0 n) v) (hl:∃ l,C.ι id=some l) :
 ∃ G' C',Ev G w C G' w C'/\HR G' w C' ((H.set id { oj with gen:=g+1 }).set j ⟨gj+1,k,[],none⟩)/\VR G' w C' (.osl id (g+1) k 0 n) v/\Pd Q7 C H C' ((H.set id { oj with gen:=g+1 }).set j ⟨gj+1,k,[],none⟩):=by
 obtain ⟨l,hl⟩:=hl
 have hγ:=hH.gen id o ho
 have hγj:=hH.gen j oj hoj
 have hlt:=pJ ho
 have hltj:=pJ hoj
 obtain ⟨lj,hlj,hlk⟩:=rA hv ya_
 have hC1:((C.lay id (C.ι j) (g+1)).lay j none (gj+1)).ι j=none:=Cx.P5 ..
 have hC2:((C.lay id (C.ι j) (g+1)).lay j none (gj+1)).γ j=gj+1:=Cx.Z7 ..
 have hC3:((C.lay id (C.ι j) (g+1)).lay j none (gj+1)).ι id=some lj:=by rw [(Cx.J7 _ _ _ _ hne).1,Cx.P5,hlj]
 have hC4:((C.lay id (C.ι j) (g+1)).lay j none (gj+1)).γ id=g+1:=by rw [(Cx.J7 _ _ _ _ hne).2,Cx.Z7]
 have hC5:∀ i,i≠id->i≠j->((C.lay id (C.ι j) (g+1)).lay j none (gj+1)).ι i=C.ι i/\((C.lay id (C.ι j) (g+1)).lay j none (gj+1)).γ i=C.γ i:=fun i h1 h2=>by
  rw [(Cx.J7 _ _ _ _ h2).1,(Cx.J7 _ _ _ _ h2).2,(Cx.J7 _ _ _ _ h1).1,(Cx.J7 _ _ _ _ h1).2]; exact ⟨rfl,rfl⟩
 generalize (C.lay id (C.ι j) (g+1)).lay j none (gj+1)=C' at hC1 hC2 hC3 hC4 hC5
 have hcx:U8 C C':=fun i=>by
  by_cases h1:i=id
  · subst h1; rw [hC4]; exact ⟨by omega,fun e=>by omega⟩
  · by_cases h2:i=j
    · subst h2; rw [hC2]; exact ⟨by omega,fun e=>by omega⟩
    · rw [(hC5 i h1 h2).1,(hC5 i h1 h2).2]; exact ⟨Nat.le_refl _,fun _ l hl=>hl⟩
 have hback:∀ i m,C'.ι i=some m->∃ i',C.ι i'=some m/\(i=id->i'=j)/\(i≠id->i'=i)/\i≠j:=fun i m hm=>by
  by_cases h2:i=j
  · subst h2; rw [hC1] at hm; simp at hm
  · by_cases h1:i=id
    · subst h1; rw [hC3] at hm; exact ⟨j,by rw [hlj]; exact hm,fun _=>rfl,fun h=>absurd rfl h,h2⟩
    · rw [(hC5 i h1 h2).1] at hm; exact ⟨i,hm,fun h=>absurd h h1,fun _=>rfl,h2⟩
 have hev:Ev G w C G w C':=⟨rfl,rfl,rfl,Nat.le_refl _,fun _ h=>h,fun _ _=>rfl,hcx,fun _ _ _=>rfl,fun _ h=>.inl h,fun i m b hm hb=>by
  obtain ⟨i',h1,_⟩:=hback i m hm
  exact .inl ⟨i',m,h1,hb⟩,fun _=>rfl⟩
 have hget1:((H.set id { oj with gen:=g+1 }).set j ⟨gj+1,k,[],none⟩)[j]?=some ⟨gj+1,k,[],none⟩:=List.getElem?_set_self (by simpa using hltj)
 have hget2:((H.set id { oj with gen:=g+1 }).set j ⟨gj+1,k,[],none⟩)[id]?=some { oj with gen:=g+1 }:=by rw [List.getElem?_set_ne (Ne.symm hne),List.getElem?_set_self hlt]
 have hget3:∀ i,i≠id->i≠j->((H.set id { oj with gen:=g+1 }).set j ⟨gj+1,k,[],none⟩)[i]?=H[i]?:=fun i h1 h2=>by rw [List.getElem?_set_ne (Ne.symm h2),List.getElem?_set_ne (Ne.symm h1)]
 refine ⟨G,C',hev,⟨fun i oi hi=>?_,fun i hi=>?_,fun i m b hm hb=>?_,fun i i2 m m2 b hi hi2 hb hb2=>?_,fun i oi m hi hm=>?_,hH.gsz⟩,?_,by simp,fun i hi hs hi0=>?_⟩
 · by_cases h2:i=j
   · subst h2; rw [hget1] at hi; simp at hi; subst hi; exact hC2.symm
   · by_cases h1:i=id
     · subst h1; rw [hget2] at hi; simp at hi; subst hi; exact hC4.symm
     · rw [hget3 i h1 h2] at hi; rw [(hC5 i h1 h2).2]; exact hH.gen i oi hi
 · simp only [List.length_set] at hi
   have h1:i≠id:=by omega
   have h2:i≠j:=by omega
   rw [(hC5 i h1 h2).1,(hC5 i h1 h2).2]; exact hH.out i hi
 · obtain ⟨i',h1,_⟩:=hback i m hm
   exact hH.own i' m b h1 hb
 · obtain ⟨i',p1,p2,p3,p4⟩:=hback i m hi
   obtain ⟨i2',q1,q2,q3,q4⟩:=hback i2 m2 hi2
   have:=hH.inj _ _ _ _ b p1 q1 hb hb2
   by_cases h1:i=id <;> by_cases h2:i2=id
   · omega
   · have:=p2 h1; have:=q3 h2; omega
   · have:=p3 h1; have:=q2 h2; omega
   · have:=p3 h1; have:=q3 h2; omega
 · obtain ⟨i',p1,p2,p3,p4⟩:=hback i m hm
   by_cases h1:i=id
   · have e:=p2 h1
     subst e h1
     rw [hget2] at hi
     simp only [Option.some.injEq] at hi
     subst hi
     have:=(hH.ob i' oj m hoj p1).ev hev (fun _ _=>rfl)
     exact ⟨this.k,this.rm,this.no,this.len,this.row,this.cells⟩
   · have e:=p3 h1
     subst e
     rw [hget3 i' h1 p4] at hi
     exact (hH.ob i' oi m hi p1).ev hev (fun _ _=>rfl)
 · cases hv with
   | osl _ _ _ _ _ _ ad cap hnc hle hl2 =>
    refine .osl _ _ _ _ _ _ _ _ hnc ya_ fun _=>?_
    obtain ⟨l2,b,q1,q2⟩:=hl2 ya_
    rw [hlj] at q1
    simp only [Option.some.injEq] at q1
    subst q1
    exact ⟨lj,b,hC3,q2⟩
   | osl0 _ _ _ _ _ base hle hl2 =>
    refine .osl0 _ _ _ _ _ _ ya_ fun _=>?_
    obtain ⟨l2,q1,q2⟩:=hl2 ya_
    rw [hlj] at q1
    simp only [Option.some.injEq] at q1
    subst q1
    exact ⟨lj,hC3,q2⟩
 · have h1:i≠id:=fun e=>by subst e; rw [hl] at hi0; simp at hi0
   have h2:i≠j:=fun e=>by subst e; rw [hlj] at hi0; simp at hi0
   exact ⟨by rw [(hC5 i h1 h2).1]; exact hi0,(hC5 i h1 h2).2,hget3 i h1 h2⟩
end
def gM (ids:List Nat) (n:Nat) (i:Nat):Nat:=if i < ids.length then ids.getD i 0 else n+(i - ids.length)
def gL (τ:Nat->Nat):Heap->Heap->Prop
 | [],[]=>True
 | o :: l,o' :: l'=>o.ren τ=o'/\gL τ l l'
 | _,_=>False
theorem gL.get {τ:Nat->Nat}:∀ {l l':Heap},gL τ l l'->l.length=l'.length/\∀ (i:Nat) (o:Ob),l[i]?=some o->l'[i]?=some (o.ren τ)
 | [],[],_=>⟨rfl,fun i o h=>by simp at h⟩
 | o :: l,o' :: l',h=>by
  obtain ⟨h1,h2⟩:=gL.get h.2
  refine ⟨by simp [h1],fun i oi hi=>?_⟩
  cases i with
  | zero=>simp at hi; subst hi; simp [h.1]
  | succ i=>simpa using h2 i oi yc_
def dH (H:Heap):List Nat->Heap->Heap
 | i :: ids,o :: os=>dH (H.set i o) ids os
 | _,_=>H
theorem iB:∀ (ids:List Nat) (os:Heap) (H:Heap),(dH H ids os).length=H.length
 | [],_,H=>by simp [dH]
 | _ :: _,[],H=>by simp [dH]
 | i :: ids,o :: os,H=>by rw [dH,iB ids os]; simp
theorem pU:∀ (ids:List Nat) (os:Heap) (H:Heap) (j:Nat),(∀ i∈ids,i≠j)->(dH H ids os)[j]?=H[j]?
 | [],_,H,j,_=>by simp [dH]
 | _ :: _,[],H,j,_=>by simp [dH]
 | i :: ids,o :: os,H,j,h=>by
  rw [dH,pU ids os _ j (fun i hi=>h i (by simp [hi])),List.getElem?_set_ne (h i yf_)]
def nodupB:List Nat->Bool
 | []=>true
 | i :: ids=>!ids.contains i&&nodupB ids
theorem a1H:∀ (ids:List Nat) (os:Heap) (H:Heap),nodupB ids=true->(∀ i∈ids,i < H.length)->ids.length=os.length->∀ (q:Nat) (o:Ob),os[q]?=some o->(dH H ids os)[ids.getD q 0]?=some o
 | [],[],H,_,_,_,q,o,hq=>by simp at hq
 | i :: ids,o :: os,H,hn,hlt,hlen,q,o',hq=>by
  simp only [nodupB,Bool.and_eq_true,Bool.not_eq_true',List.contains_eq_mem,decide_eq_false_iff_not] at hn
  simp only [dH]
  cases q with
  | zero =>
   simp at hq; subst hq
   simp only [List.getD_cons_zero]
   rw [pU ids os _ i (fun j hj e=>hn.1 (e ▸ hj)),List.getElem?_set_self (hlt i yf_)]
  | succ q =>
   simp only [List.getD_cons_succ]
   exact a1H ids os _ hn.2 (fun j hj=>by simpa using hlt j (by simp [hj])) (by simpa using hlen) q o' (by simpa using hq)
theorem a4r:∀ (ids:List Nat),nodupB ids=true->∀ i j,i < ids.length->j < ids.length->ids.getD i 0=ids.getD j 0->i=j
 | [],_,i,_,hi,_,_=>by simp at hi
 | a :: ids,hn,i,j,hi,hj,e=>by
  simp only [nodupB,Bool.and_eq_true,Bool.not_eq_true',List.contains_eq_mem,decide_eq_false_iff_not] at hn
  have hmem:∀ q,q < ids.length->ids.getD q 0∈ids:=fun q hq=>by
   rw [List.getD_eq_getElem?_getD,List.getElem?_eq_getElem hq]; exact List.getElem_mem _
  cases i with
  | zero =>
   cases j with
   | zero=>rfl
   | succ j=>simp only [List.getD_cons_zero,List.getD_cons_succ] at e; exact absurd (e ▸ hmem j ys_) hn.1
  | succ i =>
   cases j with
   | zero=>simp only [List.getD_cons_zero,List.getD_cons_succ] at e; exact absurd (e.symm ▸ hmem i yc_) hn.1
   | succ j=>simp only [List.getD_cons_succ] at e; rw [a4r ids hn.2 i j yc_ ys_ e]
theorem Ob.ren0 {τ:Nat->Nat} {o:Ob} (h:AV.D5 0 o.els=true):o.ren τ=o:=Ob.ren_fix (fun i hi=>absurd hi (Nat.not_lt_zero i)) o h
theorem l6.put {P:Program} {f:FuncId} {args args':List AV} {a a':AV} {Hs H1 N Hb Hg H1' N':Heap} (ids:List Nat) (h:l6 P f args Hs (a,H1++N)) (hids:(nodupB ids&&ids.all (fun i=>decide (i < Hb.length)))=true)
 (hlen:ids.length=Hs.length) (hn:H1.length=Hs.length) (hargs:AV.bdds Hs.length args=true) (hbs:bN Hs.length Hs=true) (hg:(ids.map fun i=>Hb.getD i default)=Hg) (hget:gL (gM ids Hb.length) Hs Hg)
 (h1:gL (gM ids Hb.length) H1 H1') (h2:gL (gM ids Hb.length) N N') (ha:AV.rens (gM ids Hb.length) args=args') (hr:a.ren (gM ids Hb.length)=a'):l6 P f args' Hb (a',dH Hb ids H1'++N'):=by
 simp only [Bool.and_eq_true,List.all_eq_true,decide_eq_true_eq] at hids
 obtain ⟨hnd,hlt⟩:=hids
 subst ha hr hg
 have hτ:∀ i,i < Hs.length->gM ids Hb.length i=ids.getD i 0:=fun i hi=>by simp [gM,hlen,hi]
 have hτ2:∀ i,Hs.length<=i->gM ids Hb.length i=Hb.length+(i - Hs.length):=fun i hi=>by
  have:¬ i < Hs.length:=by omega
  simp [gM,hlen,this]
 have hmem:∀ q,q < Hs.length->ids.getD q 0∈ids:=fun q hq=>by
  rw [List.getD_eq_getElem?_getD,List.getElem?_eq_getElem ya_]; exact List.getElem_mem _
 obtain ⟨g1,g2⟩:=hget.get
 obtain ⟨p1,p2⟩:=h1.get
 obtain ⟨n1,n2⟩:=h2.get
 refine h.frame (τ:=gM ids Hb.length) (Hb:=Hb) (Hb':=dH Hb ids H1'++N') ⟨fun i hi=>by rw [hτ i hi]; exact hlt _ (hmem i hi),hτ2,fun i j hi hj e=>by
  rw [hτ i hi,hτ j hj] at e; exact a4r ids hnd i j ya_ ya_ e,fun i o ho=>?_⟩ hargs (fun i o ho=>kW hbs ho) (by simp [iB,hn,n1]) (fun i o ho=>?_) fun j hj hj2=>?_
 · have hi:=pJ ho
   rw [hτ i hi]
   have:=g2 i o ho
   rw [List.getElem?_map] at this
   have hi':i < ids.length:=by omega
   rw [List.getElem?_eq_getElem hi'] at this
   simp only [Option.map_some,Option.some.injEq] at this
   have hlt':=hlt _ (List.getElem_mem hi')
   rw [List.getD_eq_getElem?_getD (l:=ids),List.getElem?_eq_getElem hi',Option.getD_some,<- this,List.getD_eq_getElem?_getD,List.getElem?_eq_getElem hlt',Option.getD_some]
 · rcases Nat.lt_or_ge i H1.length with hi | hi
   · rw [List.getElem?_append_left hi] at ho
     rw [hτ i ya_,List.getElem?_append_left (by rw [iB]; exact hlt _ (hmem i ya_))]
     exact a1H ids H1' Hb hnd hlt ya_ i _ (p2 i o ho)
   · rw [List.getElem?_append_right hi] at ho
     rw [hτ2 i ya_,List.getElem?_append_right (by rw [iB]; omega),iB]
     have:Hb.length+(i - Hs.length) - Hb.length=i - H1.length:=by omega
     rw [this]
     exact n2 _ o ho
 · rw [List.getElem?_append_left (by rw [iB]; exact hj)]
   refine pU ids H1' Hb j fun i hi e=>?_
   obtain ⟨q,hq,e2⟩:=List.getElem_of_mem hi
   refine hj2 q ya_ ?_
   rw [hτ q ya_,List.getD_eq_getElem?_getD,List.getElem?_eq_getElem hq,Option.getD_some,e2,e]
open Go.Proofs.YtfjedpipdnlkfaaGreat
theorem om {p:Prop} (h:p:=by first | omega | (simp; done) | (simp; omega)):p:=h
theorem oa {p:Prop} (h:p:=by first | omega | assumption | (simp; done) | (simp; omega) | (simp_all; done) | (simp_all; omega)):p:=h
theorem ow {p:Prop} (h:p:=by omega):p:=h
theorem kr {α:Sort _} {a b:α} (h:a=b:=by kernel_rfl):a=b:=h
theorem ob {p:Prop} (h:p:=by first | (simp [bN,AV.D5,AV.bdds,AV.bdd]; done) | simp [bN,AV.D5,AV.bdds,AV.bdd,-List.map_append,-List.map_set,-List.map_take,-List.map_drop,-List.map_cons,-List.map_map]):p:=h
theorem Has.o {P : Program} {f : FuncId} {fn : Func} (h1 : P.funcs[f]? = some fn) (h2 : fn.body.isNone = false := by kernel_rfl) (h3 : (fn.name == "runtime.NumGoroutine") = false := by kernel_rfl) (h4 : fn.body.all codeOk = true := by kernel_rfl) : Has P f fn := ⟨h1, h2, h3, h4⟩
class IsP (c:Bool) (p q:outParam Prop):Prop where
 t:c=true->p
 f:c=false->q
instance (priority:=10) isP0 (c:Bool):IsP c (c=true) (c=false):=⟨id,id⟩
instance isPd (p:Prop) [Decidable p]:IsP (decide p) p (¬ p):=⟨decide_eq_true_iff.1,decide_eq_false_iff_not.1⟩
instance isPe (x y:Int):IsP (x == y) (x=y) (¬ x=y):=⟨beq_iff_eq.1,beq_eq_false_iff_ne.1⟩
instance isPne (x y:Int):IsP (x != y) (¬ x=y) (x=y):=⟨bne_iff_ne.1,fun h=>by simpa using h⟩
instance isPn (c:Bool) (p q:Prop) [h:IsP c p q]:IsP (!c) q p:=⟨fun e=>h.f (by simpa using e),fun e=>h.t (by simpa using e)⟩
instance isPa (c d:Bool) (p q p' q':Prop) [h:IsP c p q] [k:IsP d p' q']:IsP (c&&d) (p/\p') (q\/q'):=⟨fun e=>by rw [Bool.and_eq_true] at e; exact ⟨h.t e.1,k.t e.2⟩,fun e=>by rw [Bool.and_eq_false_iff] at e; exact e.imp h.f k.f⟩
instance isPo (c d:Bool) (p q p' q':Prop) [h:IsP c p q] [k:IsP d p' q']:IsP (c || d) (p\/p') (q/\q'):=⟨fun e=>by rw [Bool.or_eq_true] at e; exact e.imp h.t k.t,fun e=>by rw [Bool.or_eq_false_iff] at e; exact ⟨h.f e.1,k.f e.2⟩⟩
structure OK (H:Heap) (r:AV × Heap) (t:Tr) (p:Prop):Prop where
 h:p
structure RK (H:Heap) (r:AV × Heap) (hs:Hs) (a b:List (Nat × List (List AV))) (t:Tr) (p:Prop):Prop where
 h:p
section
variable {H H' H0:Heap} {zr:AV × Heap} {tr tA tB:Tr} {p pA pB q:Prop} {hs hs':Hs} {ra rb ra' rb':List (Nat × List (List AV))}
theorem OK.l (h:p):OK H zr .nil p:=⟨h⟩
theorem OK.e (v:AV) (h:(v,H)=zr:=by rfl):OK H zr .nil ((v,H)=zr):=⟨h⟩
theorem OK.f (n:Nat) (v:AV) (k:OK H zr tr p) (h:AV.bdd n v=true/\bN n H=true:=by exact ob):OK H zr tr ((AV.bdd n v=true/\bN n H=true)/\p):=⟨⟨h,k.h⟩⟩
theorem OK.h' (H':Heap) (k:OK H' zr tr p):OK H zr tr p:=⟨k.h⟩
theorem OK.two (c:Bool) {u u':Prop} [i:IsP c u u'] (x:c=true->u->OK H zr tA pA) (y:c=false->u'->OK H zr tB pB):OK H zr (.two tA tB) (cond c pA pB):=by
 cases hc:c with
 | true=>exact ⟨(x hc (i.t hc)).h⟩
 | false=>exact ⟨(y hc (i.f hc)).h⟩
theorem OK.yes (k:OK H zr tr p):OK H zr (.two tr .nil) p:=⟨k.h⟩
theorem OK.no (k:OK H zr tr p):OK H zr (.two .nil tr) p:=⟨k.h⟩
theorem OK.roll (n:Nat) (k:OK H zr tr p):OK H zr (.roll n tr) p:=⟨k.h⟩
theorem OK.loop {Q:(Ex->Fr->Heap->Prop)->Fr->Heap->Prop} {l o:Option (List Nat)} {F F':Fr} {e:Ex} (F'':Fr) (h:j5 Q l o F H0 e F' H') (k:OK H' zr tr p):OK H zr (.loop e F'' H' tr) (j5 Q l o F H0 e F' H'/\p):=⟨⟨h,k.h⟩⟩
theorem OK.r (k:RK H zr hs ra rb tr p):OK H zr (.reg hs ra rb tr) p:=⟨k.h⟩
theorem RK.g (k:OK H zr tr p):RK H zr [] [] [] tr p:=⟨k.h⟩
theorem RK.h' (H':Heap) (k:RK H' zr hs ra rb tr p):RK H zr hs ra rb tr p:=⟨k.h⟩
theorem RK.o (h:q) (k:RK H zr hs ra rb tr p):RK H zr hs ra rb tr (q/\p):=⟨⟨h,k.h⟩⟩
theorem RK.t (i:Nat) (v:AV) (H':Heap) (h:q) (k:RK H zr hs ra rb tr p):RK H zr ((i,(v,H')) :: hs) ra rb tr (q/\p):=⟨⟨h,k.h⟩⟩
theorem RK.c (i:Nat) {P:Program} {f:FuncId} {args:List AV} {v:AV} (h:l6 P f args H0 (v,H')) (k:RK H zr hs ra rb tr p):RK H zr ((i,(v,H')) :: hs) ra rb tr (l6 P f args H0 (v,H')/\p):=⟨⟨h,k.h⟩⟩
theorem RK.ch (i:Nat) (H1:Heap) {P:Program} {f:FuncId} {args:List AV} {v:AV} (h:l6 P f args H0 (v,H')) (k:RK H1 zr hs ra rb tr p):RK H zr ((i,(v,H1)) :: hs) ra rb tr (l6 P f args H0 (v,H')/\p):=⟨⟨h,k.h⟩⟩
theorem RK.y (i:Nat) (v w:AV) (h:Yes v H w) (k:RK H zr hs ra rb tr p):RK H zr ((i,(w,H)) :: hs) ra rb tr (Yes v H w/\p):=⟨⟨h,k.h⟩⟩
theorem RK.rd (v:AV) (H':Heap) (k:RK H zr hs ra rb tr p):RK H zr hs ra rb tr ((some (v,H')=some (v,H'))/\p):=⟨⟨rfl,k.h⟩⟩
theorem RK.b (n:Nat) (k:RK H zr hs ra rb tr p) (h:bN n H=true:=by exact ob):RK H zr hs ra rb tr ((bN n H=true)/\p):=⟨⟨h,k.h⟩⟩
theorem RK.is (i k' k2:Nat) (rows:List (List AV)) (e:Int) (cs:List AV) (h:J6 k' k2 rows e H cs) (k:RK H zr hs ra rb tr p):RK H zr ((i,(.ref cs 0,H)) :: hs) ra rb tr (J6 k' k2 rows e H cs/\p):=⟨⟨h,k.h⟩⟩
theorem RK.io (i id g k' k2 e0 n:Nat) (e:Int) (j:Nat) (h:E8 id g k' k2 e0 n e H j) (k:RK H zr hs ra rb tr p):RK H zr ((i,(.obj id g j 0,H)) :: hs) ra rb tr (E8 id g k' k2 e0 n e H j/\p):=⟨⟨h,k.h⟩⟩
theorem RK.st (i id g j n c:Nat) (u:AV) (H':Heap) (h:a0f H id j n c (rowAt H id g j) (AV.fit u n)=some (AV.skip,H')) (k:RK H' zr hs ra rb tr p):RK H zr ((i,(AV.skip,H')) :: hs) ra rb tr (a0f H id j n c (rowAt H id g j) (AV.fit u n)=some (AV.skip,H')/\p):=⟨⟨h,k.h⟩⟩
theorem RK.ap (i:Nat) (T:TypeId) (u v w:AV) (H':Heap) (h:bO tt H T u v=some (w,H')) (k:RK H' zr hs ra rb tr p):RK H zr ((i,(w,H')) :: hs) ra rb tr (bO tt H T u v=some (w,H')/\p):=⟨⟨h,k.h⟩⟩
theorem RK.ao (i:Nat) (T:TypeId) (u v w:AV) (H':Heap) (h:dL tt H T u v=some (w,H')) (k:RK H' zr hs ra rb tr p):RK H zr ((i,(w,H')) :: hs) ra rb tr (dL tt H T u v=some (w,H')/\p):=⟨⟨h,k.h⟩⟩
theorem RK.so (i id g n e m:Nat) (lo hi:Int) (w:AV) (h:Option.map (fun a=>(a,H)) ((bounds lo hi m).map fun p=>AV.osl id g n (e+p.1) (p.2 - p.1))=some (w,H)) (k:RK H zr hs ra rb tr p):RK H zr ((i,(w,H)) :: hs) ra rb tr (Option.map (fun a=>(a,H)) ((bounds lo hi m).map fun p=>AV.osl id g n (e+p.1) (p.2 - p.1))=some (w,H)/\p):=⟨⟨h,k.h⟩⟩
theorem RK.two (c:Bool) {u u':Prop} [i:IsP c u u'] (x:c=true->u->RK H zr hs ra rb tA pA) (y:c=false->u'->RK H zr hs' ra' rb' tB pB):RK H zr (hs++hs') (ra++ra') (rb++rb') (.two tA tB) (cond c pA pB):=by
 cases hc:c with
 | true=>exact ⟨(x hc (i.t hc)).h⟩
 | false=>exact ⟨(y hc (i.f hc)).h⟩
theorem RK.yes (k:RK H zr hs ra rb tr p):RK H zr hs ra rb (.two tr .nil) p:=⟨k.h⟩
theorem RK.no (k:RK H zr hs ra rb tr p):RK H zr hs ra rb (.two .nil tr) p:=⟨k.h⟩
theorem RK.w (s:Nat) (xs:List (List AV)) (h:q) (k:RK H zr hs ra rb tr p):RK H zr hs ((s,xs) :: ra) rb tr (q/\p):=⟨⟨h,k.h⟩⟩
theorem RK.w' (s:Nat) (xs:List (List AV)) (h:q) (k:RK H zr hs ra rb tr p):RK H zr hs ra ((s,xs) :: rb) tr (q/\p):=⟨⟨h,k.h⟩⟩
end
theorem gL.split {τ:Nat->Nat}:∀ {l a b:Heap},gL τ l (a++b)->gL τ (l.take a.length) a/\gL τ (l.drop a.length) b
 | l,[],b,h=>by simpa [gL] using h
 | [],o :: a,b,h=>by simp [gL] at h
 | x :: l,o :: a,b,h=>by
  simp only [List.cons_append,gL] at h
  obtain ⟨h1,h2⟩:=gL.split h.2
  exact ⟨⟨h.1,h1⟩,h2⟩
theorem l6.put2 {P:Program} {f:FuncId} {args:List AV} {v:AV} {Hs HsR:Heap} (ids:List Nat) (Hb:Heap) (v':AV) (Hb':Heap) (h:l6 P f args Hs (v,HsR))
 (hget:gL (gM ids Hb.length) Hs (ids.map fun i=>Hb.getD i default)) (hnew:gL (gM ids Hb.length) HsR ((ids.map fun i=>Hb'.getD i default)++Hb'.drop Hb.length))
 (hids:(nodupB ids&&ids.all (fun i=>decide (i < Hb.length)))=true:=by kernel_rfl) (hlen:ids.length=Hs.length:=by kernel_rfl) (hargs:AV.bdds Hs.length args=true:=by kernel_rfl)
 (hbs:bN Hs.length Hs=true:=by exact ob) (hr:v.ren (gM ids Hb.length)=v':=by rfl) (hH:dH Hb ids (ids.map fun i=>Hb'.getD i default)++Hb'.drop Hb.length=Hb':=by kernel_rfl) :
 l6 P f (AV.rens (gM ids Hb.length) args) Hb (v',Hb'):=by
 obtain ⟨h1,h2⟩:=gL.split hnew
 have e:HsR.take (ids.map fun i=>Hb'.getD i default).length++HsR.drop (ids.map fun i=>Hb'.getD i default).length=HsR:=List.take_append_drop _ _
 rw [<- e] at h
 have hl:=h1.get.1
 rw [<- hH]
 exact l6.put ids h hids hlen (by rw [hl]; simpa using hlen) hargs hbs rfl hget h1 h2 rfl hr
attribute [local irreducible] l6 J2 E5 l8 j5
theorem o8 {f:FuncId} {fn:Func} {ann:Ann} {t:Tr} {args:List AV} {H:Heap} {r:AV × Heap} {p:Prop} (hf:Has Tryz.prog f fn) (k:OK H r t p) (e:p=J2 Tryz.prog (X ann) fn t args H r:=by kernel_rfl) (hb:H.length<=ann.base:=by exact Nat.le_of_ble_eq_true (by kernel_rfl)):l6 Tryz.prog f args H r :=
 spec hb hf (Eq.mp e k.h)
theorem F7 {P:Program} {X:Env} {c:Code} {live out:Option (List Nat)} {F F':Fr} {H H':Heap} {e:Ex} {t:Tr} {p:Prop} (k:OK H (.skip,[]) t p)
 (h:p=E5 P X c (fun _ e2 F2 H2=>match e2 with | .normal=>j5 (l8 P X c) live out (gW live F2) H2 e F' H' | e2=>(e2,gW out F2,H2)=(e,F',H')) t F H:=by kernel_rfl):j5 (l8 P X c) live out F H e F' H' :=
 j5.step t (Eq.mp h k.h)
set_option maxRecDepth 100000
structure Key where
 app:ByteArray
 id:ByteArray
 deriving Inhabited
def Key.row (x:Key):List AV:=[(AV.str x.app),(AV.str x.id)]
@[simp] theorem Key.V5 (n:Nat) (x:Key):AV.bdds n x.row=true:=by simp [Key.row,AV.bdds,AV.bdd]
@[simp] theorem Key.o9 (n:Nat) (l:List Key):AV.D5 n (l.map Key.row)=true:=by induction l with | nil=>rfl | cons x l ih=>simp [AV.D5,Key.V5,ih]
structure l7 where
 t:Int
 node:Int
 n:Int
 deriving Inhabited
def l7.row (x:l7):List AV:=[(AV.int .i64 x.t),(AV.int .i64 x.node),(AV.int .i64 x.n)]
@[simp] theorem l7.V5 (n:Nat) (x:l7):AV.bdds n x.row=true:=by simp [l7.row,AV.bdds,AV.bdd]
@[simp] theorem l7.o9 (n:Nat) (l:List l7):AV.D5 n (l.map l7.row)=true:=by induction l with | nil=>rfl | cons x l ih=>simp [AV.D5,l7.V5,ih]
structure Card where
 key:Key
 status:Int
 over:Int
 lease:Int
 stamp:l7
 gone:Bool
 deriving Inhabited
def Card.row (x:Card):List AV:=[(AV.str x.key.app),(AV.str x.key.id),(AV.int .i64 x.status),(AV.int .i64 x.over),(AV.int .i64 x.lease),(AV.int .i64 x.stamp.t),(AV.int .i64 x.stamp.node),(AV.int .i64 x.stamp.n),(AV.bool x.gone)]
@[simp] theorem Card.V5 (n:Nat) (x:Card):AV.bdds n x.row=true:=by simp [Card.row,AV.bdds,AV.bdd]
@[simp] theorem Card.o9 (n:Nat) (l:List Card):AV.D5 n (l.map Card.row)=true:=by induction l with | nil=>rfl | cons x l ih=>simp [AV.D5,Card.V5,ih]
structure Entry where
 card:Card
 seen:Int
 deriving Inhabited
def Entry.row (x:Entry):List AV:=[(AV.str x.card.key.app),(AV.str x.card.key.id),(AV.int .i64 x.card.status),(AV.int .i64 x.card.over),(AV.int .i64 x.card.lease),(AV.int .i64 x.card.stamp.t),(AV.int .i64 x.card.stamp.node),(AV.int .i64 x.card.stamp.n),(AV.bool x.card.gone),(AV.int .i64 x.seen)]
@[simp] theorem Entry.V5 (n:Nat) (x:Entry):AV.bdds n x.row=true:=by simp [Entry.row,AV.bdds,AV.bdd]
@[simp] theorem Entry.o9 (n:Nat) (l:List Entry):AV.D5 n (l.map Entry.row)=true:=by induction l with | nil=>rfl | cons x l ih=>simp [AV.D5,Entry.V5,ih]
def fI (n:Int):List AV:=[.int .i64 n]
def rU8 (n:Int):List AV:=[.int .u8 n]
def a0O (s:ByteArray):List AV:=[.str s]
def b3H (b:Bool):List AV:=[.bool b]
@[simp] theorem d2b (n:Nat) (l:List Int):AV.D5 n (l.map fI)=true:=by induction l with | nil=>rfl | cons x l ih=>simp [AV.D5,fI,AV.bdds,AV.bdd,ih]
@[simp] theorem iE (n:Nat) (l:List Int):AV.D5 n (l.map rU8)=true:=by induction l with | nil=>rfl | cons x l ih=>simp [AV.D5,rU8,AV.bdds,AV.bdd,ih]
@[simp] theorem d2a (n:Nat) (l:List ByteArray):AV.D5 n (l.map a0O)=true:=by induction l with | nil=>rfl | cons x l ih=>simp [AV.D5,a0O,AV.bdds,AV.bdd,ih]
@[simp] theorem d1Y (n:Nat) (l:List Bool):AV.D5 n (l.map b3H)=true:=by induction l with | nil=>rfl | cons x l ih=>simp [AV.D5,b3H,AV.bdds,AV.bdd,ih]
def Key.eqb (a b:Key):Bool:=(a.app.toList == b.app.toList)&&((a.id.toList == b.id.toList)&&true)
def eP (a b:ByteArray):Int:=if Op.bytesLess a.toList b.toList then -1 else if a.toList == b.toList then 0 else 1
def P7 (a b:Int):Int:=if a < b then -1 else if a > b then 1 else 0
def U6 (a b:Key):Int:=if eP a.app b.app=0 then eP a.id b.id else eP a.app b.app
def jZ (a b:Key):Bool:=decide (U6 a b < 0)
def b4s:Ann:={ fin:=some 0 }
theorem a0x (s : ByteArray)  : l6 Tryz.prog 226 [(AV.str s)] ([] : Heap) ((AV.bool false), ([] : Heap)) :=
  o8 (fn := Tryz.f226) (ann := b4s) (Has.o Tryz.func226) (.r (.g (.r (.g (.f 0 (AV.bool (!(s.toList == s.toList))) (.e (AV.bool (!(s.toList == s.toList))) (by
        simp)))))))
def a7V:Ann:={ fin:=some 0 }
theorem wZ (a b : ByteArray)  : l6 Tryz.prog 208 [(AV.str a), (AV.str b)] ([] : Heap) ((AV.int .i64 (eP a b)), ([] : Heap)) :=
  o8 (fn := Tryz.f208) (ann := a7V) (Has.o Tryz.func208) (.r (.g (.r (.c 1 ((a0x a).lift kr kr ([] : Heap)) (.g (.r (.c 1 ((a0x b).lift kr kr ([] : Heap)) (.g (.r (.g (.no (.r (.g (.no (.r (.g (.two (Op.bytesLess a.toList b.toList) (fun h1 h1' => (.r (.g (.f 0 (AV.int .i64 (-1)) (.e (AV.int .i64 (-1)) (by
        simp_all [eP])))))) (fun h1 h1' => (.r (.g (.two (!(Op.bytesLess a.toList b.toList || a.toList == b.toList)) (fun h2 h2' => (.r (.g (.f 0 (AV.int .i64 1) (.e (AV.int .i64 1) (by
        simp_all [eP])))))) (fun h2 h2' => (.r (.g (.f 0 (AV.int .i64 0) (.e (AV.int .i64 0) (by
        simp_all [eP])))))))))))))))))))))))))))
def b4u:Ann:={ fin:=some 0 }
theorem a0z (n : Int)  : l6 Tryz.prog 178 [(AV.int .i64 n)] ([] : Heap) ((AV.bool false), ([] : Heap)) :=
  o8 (fn := Tryz.f178) (ann := b4u) (Has.o Tryz.func178) (.r (.g (.r (.g (.f 0 (AV.bool (n != n)) (.e (AV.bool (n != n)) (by
        simp)))))))
def a7X:Ann:={ fin:=some 0 }
theorem yv_ {p : Prop} (h : p := by
        simp_all [P7] <;> omega) : p := h
theorem nQ (a b:Int) :l6 Tryz.prog 121 [(AV.int .i64 a),(AV.int .i64 b)] ([]:Heap) ((AV.int .i64 (P7 a b)),([]:Heap)) :=
 o8 (fn:=Tryz.f121) (ann:=a7X) (Has.o Tryz.func121) (.r (.g (.r (.c 1 ((a0z a).lift kr kr ([]:Heap)) (.g (.r (.c 1 ((a0z b).lift kr kr ([]:Heap)) (.g (.r (.g (.no (.r (.g (.no (.r (.g (.two (decide (a < b)) (fun h1 h1'=>(.r (.g (.f 0 (AV.int .i64 (-1)) (.e (AV.int .i64 (-1)) yv_))))) (fun h1 h1'=>(.r (.g (.two (decide (a > b)) (fun h2 h2'=>(.r (.g (.f 0 (AV.int .i64 1) (.e (AV.int .i64 1) yv_))))) (fun h2 h2'=>(.r (.g (.f 0 (AV.int .i64 0) (.e (AV.int .i64 0) yv_))))))))))))))))))))))))))
def c7W:Ann:={ fin:=some 0 }
theorem a6Z (x y : Int)  : l6 Tryz.prog 120 [(AV.sl .any 1 [[(AV.int .i64 x)], [(AV.int .i64 y)]])] ([] : Heap) ((AV.int .i64 (if x = 0 then y else x)), ([] : Heap)) :=
  o8 (fn := Tryz.f120) (ann := c7W) (Has.o Tryz.func120) (.r (.g (.r (.g (.r (.g (.roll 3 (.r (.g (.yes (.r (.g (.r (.g (.two (x != 0) (fun h1 h1' => (.r (.g (.f 0 (AV.int .i64 x) (.e (AV.int .i64 x) (by
        simp_all)))))) (fun h1 h1' => (.r (.g (.r (.g (.yes (.r (.g (.r (.g (.two (y != 0) (fun h2 h2' => (.r (.g (.f 0 (AV.int .i64 y) (.e (AV.int .i64 y) (by
        simp_all)))))) (fun h2 h2' => (.r (.g (.r (.g (.no (.r (.g (.f 0 (AV.int .i64 0) (.e (AV.int .i64 0) (by
        simp_all)))))))))))))))))))))))))))))))))))))
def b4j:Ann:={ refs:=[2,3],fin:=some 0 }
theorem a0w (a b : Key)  : l6 Tryz.prog 165 [(AV.agg (Key.row a)), (AV.agg (Key.row b))] ([] : Heap) ((AV.int .i64 (U6 a b)), ([] : Heap)) :=
  o8 (fn := Tryz.f165) (ann := b4j) (Has.o Tryz.func165) (.r (.g (.r (.c 4 ((wZ a.app b.app).lift kr kr ([] : Heap)) (.c 9 ((wZ a.id b.id).lift kr kr ([] : Heap)) (.c 11 (l6.pre (args := [(AV.sl .any 1 [[(AV.int .i64 (eP a.app b.app))], [(AV.int .i64 (eP a.id b.id))]])]) (args' := [(AV.sl .clip 1 [[(AV.int .i64 (eP a.app b.app))], [(AV.int .i64 (eP a.id b.id))]])]) ((a6Z (eP a.app b.app) (eP a.id b.id)).lift kr kr ([] : Heap)) ⟨⟨rfl, rfl, .inl rfl⟩, trivial⟩) (.g (.f 0 (AV.int .i64 (if (eP a.app b.app) = 0 then (eP a.id b.id) else (eP a.app b.app))) (.e (AV.int .i64 (if (eP a.app b.app) = 0 then (eP a.id b.id) else (eP a.app b.app))) (by
        simp [U6]))))))))))
def b0n:Ann:={ refs:=[2,3],fin:=some 0 }
theorem qC (a b:Key) :l6 Tryz.prog 95 [(AV.agg (Key.row a)),(AV.agg (Key.row b))] ([]:Heap) ((AV.bool (jZ a b)),([]:Heap)) :=
 o8 (fn:=Tryz.f95) (ann:=b0n) (Has.o Tryz.func95) (.r (.g (.r (.c 2 ((a0w a b).lift kr kr ([]:Heap)) (.g (.f 0 (AV.bool (decide ((U6 a b) < 0))) (.e (AV.bool (decide ((U6 a b) < 0))))))))))
theorem OK.q {H:Heap} {zr:AV × Heap} (n:Nat) (v:AV) (h:(v,H)=zr:=by rfl) (h2:AV.bdd n v=true/\bN n H=true:=by exact ob):OK H zr .nil ((AV.bdd n v=true/\bN n H=true)/\((v,H)=zr)):=⟨⟨h2,h⟩⟩
theorem RK.q {H:Heap} {zr:AV × Heap} (n:Nat) (v:AV) (h:(v,H)=zr:=by rfl) (h2:AV.bdd n v=true/\bN n H=true:=by exact ob):RK H zr [] [] [] .nil ((AV.bdd n v=true/\bN n H=true)/\((v,H)=zr)):=⟨⟨h2,h⟩⟩
theorem OK.qr {H:Heap} {zr:AV × Heap} (n:Nat) (v:AV) (h:(v,H)=zr:=by rfl) (h2:AV.bdd n v=true/\bN n H=true:=by exact ob):OK H zr (.reg [] [] [] .nil) ((AV.bdd n v=true/\bN n H=true)/\((v,H)=zr)):=⟨⟨h2,h⟩⟩
section
variable {H:Heap} {zr:AV × Heap} {tr:Tr} {p:Prop} {hs:Hs} {ra rb:List (Nat × List (List AV))}
theorem RK.s (k:RK H zr hs ra rb tr p):RK H zr [] [] [] (.reg hs ra rb tr) p:=⟨k.h⟩
theorem RK.n (k:RK H zr hs ra rb tr p):RK H zr hs ra rb (.two .nil tr) p:=⟨k.h⟩
theorem OK.n (k:OK H zr tr p):OK H zr (.two .nil tr) p:=⟨k.h⟩
theorem RK.n2 (k:RK H zr hs ra rb tr p):RK H zr hs ra rb (.two .nil (.two .nil tr)) p:=⟨k.h⟩
theorem OK.n2 (k:OK H zr tr p):OK H zr (.two .nil (.two .nil tr)) p:=⟨k.h⟩
theorem RK.n3 (k:RK H zr hs ra rb tr p):RK H zr hs ra rb (.two .nil (.two .nil (.two .nil tr))) p:=⟨k.h⟩
theorem OK.n3 (k:OK H zr tr p):OK H zr (.two .nil (.two .nil (.two .nil tr))) p:=⟨k.h⟩
theorem RK.n4 (k:RK H zr hs ra rb tr p):RK H zr hs ra rb (.two .nil (.two .nil (.two .nil (.two .nil tr)))) p:=⟨k.h⟩
theorem OK.n4 (k:OK H zr tr p):OK H zr (.two .nil (.two .nil (.two .nil (.two .nil tr)))) p:=⟨k.h⟩
theorem RK.n5 (k:RK H zr hs ra rb tr p):RK H zr hs ra rb (.two .nil (.two .nil (.two .nil (.two .nil (.two .nil tr))))) p:=⟨k.h⟩
theorem OK.n5 (k:OK H zr tr p):OK H zr (.two .nil (.two .nil (.two .nil (.two .nil (.two .nil tr))))) p:=⟨k.h⟩
theorem RK.n6 (k:RK H zr hs ra rb tr p):RK H zr hs ra rb (.two .nil (.two .nil (.two .nil (.two .nil (.two .nil (.two .nil tr)))))) p:=⟨k.h⟩
theorem OK.n6 (k:OK H zr tr p):OK H zr (.two .nil (.two .nil (.two .nil (.two .nil (.two .nil (.two .nil tr)))))) p:=⟨k.h⟩
theorem RK.u (k:RK H zr hs ra rb tr p):RK H zr hs ra rb (.two tr .nil) p:=⟨k.h⟩
theorem OK.u (k:OK H zr tr p):OK H zr (.two tr .nil) p:=⟨k.h⟩
theorem RK.u2 (k:RK H zr hs ra rb tr p):RK H zr hs ra rb (.two (.two tr .nil) .nil) p:=⟨k.h⟩
theorem OK.u2 (k:OK H zr tr p):OK H zr (.two (.two tr .nil) .nil) p:=⟨k.h⟩
theorem RK.u3 (k:RK H zr hs ra rb tr p):RK H zr hs ra rb (.two (.two (.two tr .nil) .nil) .nil) p:=⟨k.h⟩
theorem OK.u3 (k:OK H zr tr p):OK H zr (.two (.two (.two tr .nil) .nil) .nil) p:=⟨k.h⟩
theorem RK.u4 (k:RK H zr hs ra rb tr p):RK H zr hs ra rb (.two (.two (.two (.two tr .nil) .nil) .nil) .nil) p:=⟨k.h⟩
theorem OK.u4 (k:OK H zr tr p):OK H zr (.two (.two (.two (.two tr .nil) .nil) .nil) .nil) p:=⟨k.h⟩
theorem RK.u5 (k:RK H zr hs ra rb tr p):RK H zr hs ra rb (.two (.two (.two (.two (.two tr .nil) .nil) .nil) .nil) .nil) p:=⟨k.h⟩
theorem OK.u5 (k:OK H zr tr p):OK H zr (.two (.two (.two (.two (.two tr .nil) .nil) .nil) .nil) .nil) p:=⟨k.h⟩
theorem RK.u6 (k:RK H zr hs ra rb tr p):RK H zr hs ra rb (.two (.two (.two (.two (.two (.two tr .nil) .nil) .nil) .nil) .nil) .nil) p:=⟨k.h⟩
theorem OK.u6 (k:OK H zr tr p):OK H zr (.two (.two (.two (.two (.two (.two tr .nil) .nil) .nil) .nil) .nil) .nil) p:=⟨k.h⟩
theorem RK.rn (k:RK H zr hs ra rb tr p):RK H zr [] [] [] (.two .nil (.reg hs ra rb tr)) p:=⟨k.h⟩
theorem OK.rn (k:RK H zr hs ra rb tr p):OK H zr (.two .nil (.reg hs ra rb tr)) p:=⟨k.h⟩
theorem RK.rn2 (k:RK H zr hs ra rb tr p):RK H zr [] [] [] (.two .nil (.two .nil (.reg hs ra rb tr))) p:=⟨k.h⟩
theorem OK.rn2 (k:RK H zr hs ra rb tr p):OK H zr (.two .nil (.two .nil (.reg hs ra rb tr))) p:=⟨k.h⟩
theorem RK.ru (k:RK H zr hs ra rb tr p):RK H zr [] [] [] (.two (.reg hs ra rb tr) .nil) p:=⟨k.h⟩
theorem OK.ru (k:RK H zr hs ra rb tr p):OK H zr (.two (.reg hs ra rb tr) .nil) p:=⟨k.h⟩
theorem RK.ru2 (k:RK H zr hs ra rb tr p):RK H zr [] [] [] (.two (.two (.reg hs ra rb tr) .nil) .nil) p:=⟨k.h⟩
theorem OK.ru2 (k:RK H zr hs ra rb tr p):OK H zr (.two (.two (.reg hs ra rb tr) .nil) .nil) p:=⟨k.h⟩
end
abbrev AC:=l6 Tryz.prog
@[simp] abbrev e_:AV:=AV.str ⟨#[]⟩
@[simp] abbrev bF:AV:=AV.bool false
@[simp] abbrev bT:AV:=AV.bool true
@[simp] abbrev iW (n:Int):AV:=AV.int .i64 (IntKind.i64.wrap n)
@[simp] abbrev o_ (g k:Nat) (l:List (List AV)):Ob:=⟨g,k,l,none⟩
theorem Yes.o {m n:Int} {H:Heap} (h1:-9223372036854775808<=n:=by omega) (h2:n<=9223372036854775807:=by omega) (h:m=n:=by omega):Yes (.int .i64 (IntKind.i64.wrap m)) H (.int .i64 n):=Yes.add h1 h2 h
@[simp] abbrev z_:AV:=AV.int .i64 0
@[simp] abbrev iI (n:Int):AV:=AV.int .i64 n
@[simp] abbrev iN (n:Nat):AV:=AV.int .i64 (n:Int)
@[simp] abbrev bB (b:Bool):AV:=AV.bool b
@[simp] abbrev sA (k:Nat) (l:List (List AV)):AV:=AV.sl .any k l
@[simp] abbrev oO (i g e c:Nat):AV:=AV.obj i g e c
structure Tp where
 l:List Int
 pos:Nat
 deriving Inhabited
def Tp.row (x:Tp):List AV:=[(sA 1 (List.map fI x.l)),(iN x.pos)]
@[simp] theorem Tp.V5 (n:Nat) (x:Tp):AV.bdds n x.row=true:=by simp [Tp.row,AV.bdds,AV.bdd]
@[simp] theorem Tp.o9 (n:Nat) (l:List Tp):AV.D5 n (l.map Tp.row)=true:=by induction l with | nil=>rfl | cons x l ih=>simp [AV.D5,Tp.V5,ih]
def held (n:Int):Int:=max 0 (min n 4611686018427387904)
theorem gB (n:Int):0<=held n/\held n<=4611686018427387904:=by unfold held; omega
def y5 (e:Entry) (now:Int):Int:=if e.card.gone=true then 0 else max 0 (held now - held e.seen - held e.card.lease)
def a1o (e:Entry) (now:Int):Int:=held now - held e.seen
def L6 (a b:Key):Int:=if jZ a b=true then -1 else if jZ b a=true then 1 else 0
def wN (x:Int) (hi:Nat):Nat:=if 0<=x/\x<=hi then x.toNat else if Int.tmod x (((hi+1:Nat):Int)) < 0 then (Int.tmod x (((hi+1:Nat):Int))+hi+1).toNat else (Int.tmod x (((hi+1:Nat):Int))).toNat
theorem c7x (x:Int) (n:Nat) (h:0 < n):-(n:Int) < Int.tmod x n/\Int.tmod x n < n:=by
 have h1:=Int.tmod_lt_of_pos x (show (0:Int) < n by omega)
 have h2:=Int.tmod_lt_of_pos (-x) (show (0:Int) < n by omega)
 rw [Int.neg_tmod] at h2
 omega
def c3s:Ann:={ fin:=some 0 }
theorem yw_ {p:Prop} (h:p:=by split <;> omega):p:=h
theorem mO (n:Int) :AC 176 [(iI n)] [] ((iI (held n)),[]) :=
 o8 (fn:=Tryz.f176) (ann:=c3s) (Has.o Tryz.func176) (.r (.s (.y 1 (.int .i64 (if 4611686018427387904 < n then 4611686018427387904 else n)) (iI (min n 4611686018427387904)) (Yes.int yw_) (.y 2 (.int .i64 (if (min n 4611686018427387904) > 0 then (min n 4611686018427387904) else 0)) (iI (max 0 (min n 4611686018427387904))) (Yes.int yw_) (.q 0 (iI (max 0 (min n 4611686018427387904))) (by simp [held]))))))
def c3k:Ann:={ refs:=[2],fin:=some 0 }
@[simp] abbrev ca_ (a:Int) (b:Entry):=(iI (max 0 (((held a) - (held b.seen)) - (held b.card.lease))))
theorem rD (e:Entry) (now:Int) :AC 117 [(AV.agg (Entry.row e)),(iI now)] [] ((iI (y5 e now)),[]):=by
 have h1:=gB now
 have h2:=gB e.seen
 have h3:=gB e.card.lease
 exact o8 (fn:=Tryz.f117) (ann:=c3k) (Has.o Tryz.func117) (.r (.s (.g (.two e.card.gone (fun h1 h1'=>(.qr 0 z_ (by simp_all [y5]))) (fun h1 h1'=>(.r (.c 1 ((mO now).lift kr kr []) (.c 4 ((mO e.seen).lift kr kr []) (.y 5 (iW ((held now) - (held e.seen))) (iI ((held now) - (held e.seen))) Yes.o (.c 9 ((mO e.card.lease).lift kr kr []) (.y 10 (iW (((held now) - (held e.seen)) - (held e.card.lease))) (iI (((held now) - (held e.seen)) - (held e.card.lease))) Yes.o (.y 11 (.int .i64 (if (((held now) - (held e.seen)) - (held e.card.lease)) > 0 then (((held now) - (held e.seen)) - (held e.card.lease)) else 0)) (ca_ now e) (Yes.int yw_) (.q 0 (ca_ now e) (by simp_all [y5]))))))))))))))
def c8q:Ann:={ refs:=[2],fin:=some 0 }
theorem c4S (e:Entry) (now:Int) :AC 112 [(AV.agg (Entry.row e)),(iI now)] [] ((iI (a1o e now)),[]):=by
 have h1:=gB now
 have h2:=gB e.seen
 exact o8 (fn:=Tryz.f112) (ann:=c8q) (Has.o Tryz.func112) (.r (.s (.c 1 ((mO now).lift kr kr []) (.c 4 ((mO e.seen).lift kr kr []) (.y 5 (iW ((held now) - (held e.seen))) (iI ((held now) - (held e.seen))) Yes.o (.q 0 (iI ((held now) - (held e.seen))) (by simp_all [a1o])))))))
def b8Y:Ann:={ refs:=[2,3],fin:=some 0 }
theorem b3Q (a b:Key) :AC 122 [(AV.agg (Key.row a)),(AV.agg (Key.row b))] [] ((iI (L6 a b)),[]) :=
 o8 (fn:=Tryz.f122) (ann:=b8Y) (Has.o Tryz.func122) (.r (.s (.c 2 ((qC a b).lift kr kr []) (.g (.two (jZ a b) (fun h1 h1'=>(.qr 0 (iI (-1)) (by simp_all [L6]))) (fun h1 h1'=>(.r (.c 2 ((qC b a).lift kr kr []) (.g (.two (jZ b a) (fun h2 h2'=>(.qr 0 (iI 1) (by simp_all [L6]))) (fun h2 h2'=>(.qr 0 z_ (by simp_all [L6])))))))))))))
def b1X:Ann:={ fin:=some 0 }
theorem yx_ {p:Prop} (h:p:=by simp_all [wN]; all_goals first | done | omega | (split <;> omega) | (split <;> first | omega | (split <;> omega))):p:=h
@[simp] abbrev cb_ (a:Nat):=(IntKind.i64.wrap ((a:Int)+1))
@[simp] abbrev cc_ (a:Int) (b:Nat):=(iI (Int.tmod a ((b+1:Nat):Int)))
@[simp] abbrev cd_ (a:Int) (b:Nat):=(iI (0+((((Int.tmod a ((b+1:Nat):Int))+(b:Int)) - 0)+1)))
@[simp] abbrev ce_ (a:Int) (b:Nat):=(iI (0+(Int.tmod a ((b+1:Nat):Int))))
theorem a0o (x:Int) (hi:Nat) (hh:hi < 1099511627776):AC 30 [(iI x),z_,(iN hi)] [] ((iN (wN x hi)),[]):=by
 have hb:=c7x x (hi+1) ow
 exact o8 (fn:=Tryz.f30) (ann:=b1X) (Has.o Tryz.func30) (.r (.s (.two (decide (x >= 0)) (fun h1 h1'=>(.u2 (.g (.two (decide (x<=(hi:Int))) (fun h2 h2'=>(.qr 0 (iI x) yx_)) (fun h2 h2'=>(.r (.y 3 (iW ((hi:Int) - 0)) (iN hi) Yes.o (.y 4 (.int .i64 (cb_ hi)) (iN (hi+1)) Yes.o (.t 5 (cc_ x hi) [] (a0P ow rfl:Option.map (fun a=>(a,([]:Heap))) (if (((hi+1:Nat):Int):Int)=0 then none else some (cc_ x hi))=some ((cc_ x hi),([]:Heap))) (.s (.g (.two (decide ((Int.tmod x ((hi+1:Nat):Int)) < 0)) (fun h3 h3'=>(.r (.y 2 (iW ((Int.tmod x ((hi+1:Nat):Int))+(hi:Int))) (iI ((Int.tmod x ((hi+1:Nat):Int))+(hi:Int))) Yes.o (.y 4 (iW (((Int.tmod x ((hi+1:Nat):Int))+(hi:Int)) - 0)) (iI (((Int.tmod x ((hi+1:Nat):Int))+(hi:Int)) - 0)) Yes.o (.y 5 (iW ((((Int.tmod x ((hi+1:Nat):Int))+(hi:Int)) - 0)+1)) (iI ((((Int.tmod x ((hi+1:Nat):Int))+(hi:Int)) - 0)+1)) Yes.o (.s (.y 2 (iW (0+((((Int.tmod x ((hi+1:Nat):Int))+(hi:Int)) - 0)+1))) (cd_ x hi) Yes.o (.q 0 (cd_ x hi) yx_)))))))) (fun h3 h3'=>(.r (.y 2 (iW (0+(Int.tmod x ((hi+1:Nat):Int)))) (ce_ x hi) Yes.o (.q 0 (ce_ x hi) yx_)))))))))))))))) (fun h1 h1'=>(.n2 (.rn (.y 3 (iW ((hi:Int) - 0)) (iN hi) Yes.o (.y 4 (.int .i64 (cb_ hi)) (iN (hi+1)) Yes.o (.t 5 (cc_ x hi) [] (a0P ow rfl:Option.map (fun a=>(a,([]:Heap))) (if (((hi+1:Nat):Int):Int)=0 then none else some (cc_ x hi))=some ((cc_ x hi),([]:Heap))) (.s (.g (.two (decide ((Int.tmod x ((hi+1:Nat):Int)) < 0)) (fun h2 h2'=>(.r (.y 2 (iW ((Int.tmod x ((hi+1:Nat):Int))+(hi:Int))) (iI ((Int.tmod x ((hi+1:Nat):Int))+(hi:Int))) Yes.o (.y 4 (iW (((Int.tmod x ((hi+1:Nat):Int))+(hi:Int)) - 0)) (iI (((Int.tmod x ((hi+1:Nat):Int))+(hi:Int)) - 0)) Yes.o (.y 5 (iW ((((Int.tmod x ((hi+1:Nat):Int))+(hi:Int)) - 0)+1)) (iI ((((Int.tmod x ((hi+1:Nat):Int))+(hi:Int)) - 0)+1)) Yes.o (.s (.y 2 (iW (0+((((Int.tmod x ((hi+1:Nat):Int))+(hi:Int)) - 0)+1))) (cd_ x hi) Yes.o (.q 0 (cd_ x hi) yx_)))))))) (fun h2 h2'=>(.r (.y 2 (iW (0+(Int.tmod x ((hi+1:Nat):Int)))) (ce_ x hi) Yes.o (.q 0 (ce_ x hi) yx_))))))))))))))))
def Tp.next (t:Tp) (n:Nat):Nat:=if t.l.length<=t.pos\/n < 1 then 0 else wN (nth t.l t.pos) 1073741824 % n
def Tp.step (t:Tp) (n:Nat):Tp:=if t.l.length<=t.pos\/n < 1 then t else ⟨t.l,t.pos+1⟩
theorem Tp.next_lt (t:Tp) (n:Nat) (h:0 < n):t.next n < n:=by
 unfold Tp.next
 split
 · omega
 · exact Nat.mod_lt _ h
def c2M:Ann:={ base:=1,fin:=some 1 }
@[simp] abbrev a0g (a:Tp):Heap:=[(o_ 0 2 [[(sA 1 (List.map fI a.l)),(iN (a.pos+1))]])]
theorem yy_ {p:Prop} (h:p:=by (try delta a0g); (simp only [Tp.next,Tp.step]); (first | rw [if_pos ow,if_pos ow] | rw [if_neg ow,if_neg ow]); first | rfl | simp [Tp.row]):p:=h
theorem b8Z (t:Tp) (n:Nat) (hl:t.l.length < 9223372036854775808):AC 47 [(AV.obj 0 0 0 0),(AV.int .i64 (n:Int))] [(o_ 0 2 [(Tp.row t)])] ((AV.int .i64 (t.next n:Int)),[(o_ 0 2 [(Tp.row (t.step n))])]) :=
 o8 (fn:=Tryz.f47) (ann:=c2M) (Has.o Tryz.func47) (.r (.s (.y 8 (.int .i64 ((List.length (List.map fI t.l):Nat):Int)) (AV.int .i64 (t.l.length:Int)) (Yes.len _ _ _) (.two (decide ((t.pos:Int) >= (t.l.length:Int))) (fun h1 h1'=>(.u (.g (.u (.qr 1 (AV.int .i64 0) yy_))))) (fun h1 h1'=>(.n (.g (.two (decide ((n:Int) < 1)) (fun h2 h2'=>(.qr 1 (AV.int .i64 0) yy_)) (fun h2 h2'=>(.r (.y 4 (iW ((t.pos:Int)+1)) (AV.int .i64 ((t.pos+1:Nat):Int)) Yes.o (.s (.h' (a0g t) (.y 8 (iW (((t.pos+1:Nat):Int) - 1)) (AV.int .i64 ((t.pos+1 - 1:Nat):Int)) Yes.o (.is 9 1 1 (List.map fI t.l) ((t.pos+1 - 1:Nat):Int) (fI (nth t.l (t.pos+1 - 1))) (J6.mk _ ow ow) (.c 11 (l6.pre (args:=[(AV.int .i64 (nth t.l (t.pos+1 - 1))),(AV.int .i64 0),(AV.int .i64 ((1073741824:Nat):Int))]) (args':=[(AV.int .i64 (nth t.l (t.pos+1 - 1))),(AV.int .i64 0),(AV.int .i64 1073741824)]) ((a0o (nth t.l (t.pos+1 - 1)) 1073741824 oa).lift kr kr (a0g t)) ⟨AV.j3 _,AV.j3 _,AV.j3 _,trivial⟩) (.t 13 (AV.int .i64 (((wN (nth t.l (t.pos+1 - 1)) 1073741824) % n:Nat):Int)) (a0g t) (c7Q ow:Option.map (fun a=>(a,(a0g t))) (if ((n:Int):Int)=0 then none else some (AV.int .i64 (Int.tmod ((wN (nth t.l (t.pos+1 - 1)) 1073741824:Nat):Int) (n:Int))))=some ((AV.int .i64 (((wN (nth t.l (t.pos+1 - 1)) 1073741824) % n:Nat):Int)),(a0g t))) (.q 1 (AV.int .i64 (((wN (nth t.l (t.pos+1 - 1)) 1073741824) % n:Nat):Int)) yy_))))))))))))))))))
theorem V8 (t:Tp) (n:Nat) (hl:t.l.length < 9223372036854775808) (H:Heap):AC 47 [(oO 0 0 0 0),(iN n)] (([(o_ 0 2 [(Tp.row t)])]:Heap)++H) ((iN (t.next n)),([(o_ 0 2 [(Tp.row (t.step n))])]:Heap)++H):=(b8Z t n hl).ext kr kr ob ob kr H
theorem Tp.jQ (t:Tp) (n:Nat):(t.step n).l=t.l:=by unfold Tp.step; split <;> rfl
def a3H:List ByteArray:=[(ByteArray.mk #[97,112,112]),(ByteArray.mk #[98]),(ByteArray.mk #[97,112,112,49]),(ByteArray.mk #[122,57])]
def a3j:List ByteArray:=[(ByteArray.mk #[105,100]),(ByteArray.mk #[97]),(ByteArray.mk #[105,100,50]),(ByteArray.mk #[120,48]),(ByteArray.mk #[109])]
def Tp.key (t:Tp):Key:=⟨nth a3H (t.next 4),nth a3j ((t.step 4).next 5)⟩
def Tp.keyT (t:Tp):Tp:=(t.step 4).step 5
def Tp.stamp (t:Tp):l7:=⟨(t.next 40:Nat),((t.step 40).next 6:Nat),(((t.step 40).step 6).next 9:Nat)⟩
def Tp.iR (t:Tp):Tp:=((t.step 40).step 6).step 9
theorem Tp.yA (t:Tp):t.keyT.l=t.l:=by simp [Tp.keyT,Tp.jQ]
theorem Tp.a0E (t:Tp):t.iR.l=t.l:=by simp [Tp.iR,Tp.jQ]
def Tp.c1 (t:Tp):Tp:=t.keyT.step 2
def Tp.c2 (t:Tp):Tp:=t.c1.step 7
def Tp.c3 (t:Tp):Tp:=t.c2.step 60
def Tp.c4 (t:Tp):Tp:=t.c3.iR
def Tp.card (t:Tp):Card:=⟨t.key,(1+t.keyT.next 2:Nat),(t.c1.next 7 / 2:Nat),(1+t.c2.next 60:Nat),t.c3.stamp,((t.c4.next 4:Nat):Int) == 0⟩
def Tp.F9 (t:Tp):Tp:=t.c4.step 4
theorem Tp.zR (t:Tp):t.F9.l=t.l:=by simp [Tp.F9,Tp.c4,Tp.c3,Tp.c2,Tp.c1,Tp.yA,Tp.a0E,Tp.jQ]
def c8d:Ann:={ base:=1,fin:=some 1 }
@[simp] abbrev d1D :Heap:=[(o_ 0 2 [[e_,e_]])]
theorem yz_ {p:Prop} (h:p:=by first | omega | (simp [Tp.jQ,Tp.yA,Tp.a0E,Tp.zR]; omega)):p:=h
@[simp] abbrev cf_ (a:Tp):=(AV.agg [(AV.str (nth ([(ByteArray.mk #[97,112,112]),(ByteArray.mk #[98]),(ByteArray.mk #[97,112,112,49]),(ByteArray.mk #[122,57])]) (a.next 4))),(AV.str (nth ([(ByteArray.mk #[105,100]),(ByteArray.mk #[97]),(ByteArray.mk #[105,100,50]),(ByteArray.mk #[120,48]),(ByteArray.mk #[109])]) ((a.step 4).next 5)))])
theorem c3l (t:Tp) (hl:t.l.length < 9223372036854775808):AC 91 [(oO 0 0 0 0)] [(o_ 0 2 [(Tp.row t)])] ((AV.agg (Key.row t.key)),[(o_ 0 2 [(Tp.row t.keyT)])]):=by
 have h4:=t.next_lt 4 ow
 have h5:=(t.step 4).next_lt 5 ow
 exact o8 (fn:=Tryz.f91) (ann:=c8d) (Has.o Tryz.func91) (.r (.s (.ch 2 [(o_ 0 2 [(Tp.row (t.step 4))]),(o_ 0 2 [[e_,e_]])] (l6.pre (args:=[(oO 0 0 0 0),(iN 4)]) (args':=[(oO 0 0 0 0),(iI 4)]) (V8 t 4 yz_ d1D) ⟨AV.j3 _,AV.j3 _,trivial⟩) (.is 3 1 1 (List.map a0O ([(ByteArray.mk #[97,112,112]),(ByteArray.mk #[98]),(ByteArray.mk #[97,112,112,49]),(ByteArray.mk #[122,57])])) ((t.next 4:Nat):Int) (a0O (nth ([(ByteArray.mk #[97,112,112]),(ByteArray.mk #[98]),(ByteArray.mk #[97,112,112,49]),(ByteArray.mk #[122,57])]) (t.next 4))) (J6.mk _ ow yh_) (.ch 7 [(o_ 0 2 [(Tp.row ((t.step 4).step 5))]),(o_ 0 2 [[e_,e_]])] (l6.pre (args:=[(oO 0 0 0 0),(iN 5)]) (args':=[(oO 0 0 0 0),(iI 5)]) (V8 (t.step 4) 5 yz_ d1D) ⟨AV.j3 _,AV.j3 _,trivial⟩) (.is 8 1 1 (List.map a0O ([(ByteArray.mk #[105,100]),(ByteArray.mk #[97]),(ByteArray.mk #[105,100,50]),(ByteArray.mk #[120,48]),(ByteArray.mk #[109])])) (((t.step 4).next 5:Nat):Int) (a0O (nth ([(ByteArray.mk #[105,100]),(ByteArray.mk #[97]),(ByteArray.mk #[105,100,50]),(ByteArray.mk #[120,48]),(ByteArray.mk #[109])]) ((t.step 4).next 5))) (J6.mk _ ow yh_) (.g (.h' [(o_ 0 2 [(Tp.row ((t.step 4).step 5))])] (.q 1 (cf_ t))))))))))
theorem b9o (t:Tp) (hl:t.l.length < 9223372036854775808) (H:Heap):AC 91 [(oO 0 0 0 0)] (([(o_ 0 2 [(Tp.row t)])]:Heap)++H) ((AV.agg (Key.row t.key)),([(o_ 0 2 [(Tp.row t.keyT)])]:Heap)++H):=(c3l t hl).ext kr kr ob ob kr H
def b7A:Ann:={ base:=1,fin:=some 1 }
@[simp] abbrev qN :Heap:=[(o_ 0 3 [[z_,z_,z_]])]
@[simp] abbrev cg_ (a:Tp):=(AV.agg [(iN (a.next 40)),(iN ((a.step 40).next 6)),(iN (((a.step 40).step 6).next 9))])
theorem b2c (t:Tp) (hl:t.l.length < 9223372036854775808):AC 92 [(oO 0 0 0 0)] [(o_ 0 2 [(Tp.row t)])] ((AV.agg (l7.row t.stamp)),[(o_ 0 2 [(Tp.row t.iR)])]) :=
 o8 (fn:=Tryz.f92) (ann:=b7A) (Has.o Tryz.func92) (.r (.s (.ch 1 [(o_ 0 2 [(Tp.row (t.step 40))]),(o_ 0 3 [[z_,z_,z_]])] (l6.pre (args:=[(oO 0 0 0 0),(iN 40)]) (args':=[(oO 0 0 0 0),(iI 40)]) (V8 t 40 yz_ qN) ⟨AV.j3 _,AV.j3 _,trivial⟩) (.ch 3 [(o_ 0 2 [(Tp.row ((t.step 40).step 6))]),(o_ 0 3 [[z_,z_,z_]])] (l6.pre (args:=[(oO 0 0 0 0),(iN 6)]) (args':=[(oO 0 0 0 0),(iI 6)]) (V8 (t.step 40) 6 yz_ qN) ⟨AV.j3 _,AV.j3 _,trivial⟩) (.ch 5 [(o_ 0 2 [(Tp.row (((t.step 40).step 6).step 9))]),(o_ 0 3 [[z_,z_,z_]])] (l6.pre (args:=[(oO 0 0 0 0),(iN 9)]) (args':=[(oO 0 0 0 0),(iI 9)]) (V8 ((t.step 40).step 6) 9 yz_ qN) ⟨AV.j3 _,AV.j3 _,trivial⟩) (.g (.h' [(o_ 0 2 [(Tp.row (((t.step 40).step 6).step 9))])] (.q 1 (cg_ t)))))))))
theorem c1w (t:Tp) (hl:t.l.length < 9223372036854775808) (H:Heap):AC 92 [(oO 0 0 0 0)] (([(o_ 0 2 [(Tp.row t)])]:Heap)++H) ((AV.agg (l7.row t.stamp)),([(o_ 0 2 [(Tp.row t.iR)])]:Heap)++H):=(b2c t hl).ext kr kr ob ob kr H
def b7x:Ann:={ base:=1,fin:=some 1 }
@[simp] abbrev a3R :Heap:=[(o_ 0 9 [[e_,e_,z_,z_,z_,z_,z_,z_,bF]])]
theorem a2O {p:Prop} (h:p:=by first | omega | (simp [Tp.c4,Tp.c3,Tp.c2,Tp.c1,Tp.jQ,Tp.yA,Tp.a0E,Tp.zR]; omega)):p:=h
@[simp] abbrev ch_ (a:Tp):=(AV.agg [(AV.str a.key.app),(AV.str a.key.id),(iN (1+(a.keyT.next 2))),(iN (((a.keyT.step 2).next 7) / 2)),(iN (1+(((a.keyT.step 2).step 7).next 60))),(iI (((a.keyT.step 2).step 7).step 60).stamp.t),(iI (((a.keyT.step 2).step 7).step 60).stamp.node),(iI (((a.keyT.step 2).step 7).step 60).stamp.n),(bB ((((((a.keyT.step 2).step 7).step 60).iR.next 4:Nat):Int) == 0))])
theorem b2b (t:Tp) (hl:t.l.length < 9223372036854775808):AC 49 [(oO 0 0 0 0)] [(o_ 0 2 [(Tp.row t)])] ((AV.agg (Card.row t.card)),[(o_ 0 2 [(Tp.row t.F9)])]):=by
 have h2:=t.keyT.next_lt 2 ow
 have h7:=t.c1.next_lt 7 ow
 have h60:=t.c2.next_lt 60 ow
 unfold Tp.c2 Tp.c1 at *
 exact o8 (fn:=Tryz.f49) (ann:=b7x) (Has.o Tryz.func49) (.r (.s (.ch 1 [(o_ 0 2 [(Tp.row t.keyT)]),(o_ 0 9 [[e_,e_,z_,z_,z_,z_,z_,z_,bF]])] (b9o t a2O a3R) (.ch 3 [(o_ 0 2 [(Tp.row (t.keyT.step 2))]),(o_ 0 9 [[e_,e_,z_,z_,z_,z_,z_,z_,bF]])] (l6.pre (args:=[(oO 0 0 0 0),(iN 2)]) (args':=[(oO 0 0 0 0),(iI 2)]) (V8 t.keyT 2 a2O a3R) ⟨AV.j3 _,AV.j3 _,trivial⟩) (.y 4 (iW (1+((t.keyT.next 2:Nat):Int))) (iN (1+(t.keyT.next 2))) Yes.o (.ch 6 [(o_ 0 2 [(Tp.row ((t.keyT.step 2).step 7))]),(o_ 0 9 [[e_,e_,z_,z_,z_,z_,z_,z_,bF]])] (l6.pre (args:=[(oO 0 0 0 0),(iN 7)]) (args':=[(oO 0 0 0 0),(iI 7)]) (V8 (t.keyT.step 2) 7 a2O a3R) ⟨AV.j3 _,AV.j3 _,trivial⟩) (.y 7 (iW (Int.tdiv (((t.keyT.step 2).next 7:Nat):Int) 2)) (iN (((t.keyT.step 2).next 7) / 2)) (Yes.quo ow) (.ch 9 [(o_ 0 2 [(Tp.row (((t.keyT.step 2).step 7).step 60))]),(o_ 0 9 [[e_,e_,z_,z_,z_,z_,z_,z_,bF]])] (l6.pre (args:=[(oO 0 0 0 0),(iN 60)]) (args':=[(oO 0 0 0 0),(iI 60)]) (V8 ((t.keyT.step 2).step 7) 60 a2O a3R) ⟨AV.j3 _,AV.j3 _,trivial⟩) (.y 10 (iW (1+((((t.keyT.step 2).step 7).next 60:Nat):Int))) (iN (1+(((t.keyT.step 2).step 7).next 60))) Yes.o (.ch 12 [(o_ 0 2 [(Tp.row (((t.keyT.step 2).step 7).step 60).iR)]),(o_ 0 9 [[e_,e_,z_,z_,z_,z_,z_,z_,bF]])] (c1w (((t.keyT.step 2).step 7).step 60) a2O a3R) (.ch 14 [(o_ 0 2 [(Tp.row ((((t.keyT.step 2).step 7).step 60).iR.step 4))]),(o_ 0 9 [[e_,e_,z_,z_,z_,z_,z_,z_,bF]])] (l6.pre (args:=[(oO 0 0 0 0),(iN 4)]) (args':=[(oO 0 0 0 0),(iI 4)]) (V8 (((t.keyT.step 2).step 7).step 60).iR 4 a2O a3R) ⟨AV.j3 _,AV.j3 _,trivial⟩) (.g (.h' [(o_ 0 2 [(Tp.row ((((t.keyT.step 2).step 7).step 60).iR.step 4))])] (.q 1 (ch_ t)))))))))))))))
theorem c1q (t:Tp) (hl:t.l.length < 9223372036854775808) (H:Heap):AC 49 [(oO 0 0 0 0)] (([(o_ 0 2 [(Tp.row t)])]:Heap)++H) ((AV.agg (Card.row t.card)),([(o_ 0 2 [(Tp.row t.F9)])]:Heap)++H):=(b2b t hl).ext kr kr ob ob kr H
attribute [local irreducible] Tp.F9 Tp.card Tp.next Tp.step
attribute [local irreducible] Tp.key Tp.keyT
section
variable {α:Type} [Inhabited α]
def sink (cmp:α->α->Int) (a:Nat):Nat->List α->List α
 | 0,l=>l
 | j+1,l=>if decide (((j+1:Nat):Int) > (a:Int))=true then if decide (cmp (nth l (j+1)) (nth l j) < 0)=true then sink cmp a j ((l.set (j+1) (nth l j)).set j (nth l (j+1))) else l else l
def u7 (cmp:α->α->Int) (a:Nat):Nat->Nat->List α->List α
 | 0,_,l=>l
 | k+1,i,l=>u7 cmp a k (i+1) (sink cmp a i l)
theorem pR (cmp:α->α->Int) (a j:Nat):∀ (l:List α),(sink cmp a j l).length=l.length:=by
 induction j with
 | zero=>intro l; simp only [sink]
 | succ j ih =>
  intro l
  simp only [sink]
  split
  · split
    · rw [ih]; simp
    · rfl
  · rfl
theorem bJ (cmp:α->α->Int) (a k:Nat):∀ (i:Nat) (l:List α),(u7 cmp a k i l).length=l.length:=by
 induction k with
 | zero=>intro i l; simp only [u7]
 | succ k ih=>intro i l; simp only [u7]; rw [ih,pR]
end
def qD:Ann:={ base:=1,fin:=some 1,live:=[(1,[0,1,2,3,8]),(4,[0,1,2,3,8,9])],out:=[(1,[0,1,2,3,8]),(4,[0,1,2,3,8])] }
abbrev l9E:=List Entry
@[simp] abbrev mE (l:l9E):List (List AV):=List.map Entry.row l
@[simp] abbrev b7l (a:Nat) (b:l9E) (c:Nat):Heap:=[(o_ a 10 (mE ((b.set c (nth b (c - 1))).set (c - 1) (nth b c))))]
@[simp] abbrev a3Q (a:Nat) (b:Nat) (c:Nat) (d:Nat) (e:Nat) (f:List AV) (g:Nat):Fr:=(mkF 53 [(0,(AV.osl 0 a 10 0 b)),(1,(iN c)),(2,(iN d)),(3,(AV.func e f)),(8,(iN g))])
theorem rT {p:Prop} (h:p:=by simp [Entry.row]):p:=h
theorem rR {p:Prop} (h:p:=by simp [setAt,aT,List.map_set,Entry.row]):p:=h
@[simp] abbrev ci_ :=(l8 Tryz.prog (X qD) (p9 Tryz.f212 1))
@[simp] abbrev cj_ (a:l9E) (b:Nat):=(AV.agg (Entry.row (nth a b)))
@[simp] abbrev ck_ (a:Nat):=(IntKind.i64.wrap ((a:Int) - 1))
@[simp] abbrev cl_ (a:l9E) (b:Nat):=(AV.agg (Entry.row (nth a (b - 1))))
abbrev h9E (cmp:Entry->Entry->Int) (f:Nat) (xs:List AV):Prop:=∀ (x y:Entry) (H:Heap),AC f ([AV.agg (Entry.row x),AV.agg (Entry.row y)]++xs) H (AV.int .i64 (cmp x y),H)
theorem a4E (cmp:Entry->Entry->Int) (f:Nat) (xs:List AV) (hc:h9E cmp f xs) (a b i n g:Nat) (j:Nat) (l:l9E) (hn:n=l.length) (hb:n < 1099511627776) (hbn:b<=n) (hj:j < n) {eX:Ex} {FX:Fr} {HX:Heap} (k1:(decide ((j:Int) > (a:Int)))=true->(decide ((cmp (nth l j) (nth l (j - 1))) < 0))=true->j5 ci_ (some [0,1,2,3,8,9]) (some [0,1,2,3,8]) (mkF 53 [(0,(AV.osl 0 g 10 0 n)),(1,(iN a)),(2,(iN b)),(3,(AV.func f xs)),(8,(iN i)),(9,(iN (j - 1)))]) (b7l g l j) eX FX HX) (k2:(decide ((j:Int) > (a:Int)))=true->(decide ((cmp (nth l j) (nth l (j - 1))) < 0))=false->((.exit 2:Ex),(a3Q g n a b f xs i),[(o_ g 10 (mE l))])=(eX,FX,HX)) (k3:(decide ((j:Int) > (a:Int)))=false->((.exit 2:Ex),(a3Q g n a b f xs i),[(o_ g 10 (mE l))])=(eX,FX,HX)):j5 ci_ (some [0,1,2,3,8,9]) (some [0,1,2,3,8]) (mkF 53 [(0,(AV.osl 0 g 10 0 n)),(1,(iN a)),(2,(iN b)),(3,(AV.func f xs)),(8,(iN i)),(9,(iN j))]) [(o_ g 10 (mE l))] eX FX HX :=
 F7 (.r (.two (decide ((j:Int) > (a:Int))) (fun h1 h1'=>(.u3 (.io 7 0 g 10 10 0 n (j:Int) j (E8.mk _ ow ow) (.u (.t 8 (cj_ l j) [(o_ g 10 (mE l))] (G6 (A9 (row:=Entry.row) (l:=l) (k:=10) (room:=none) kr om) kr:J8 tt 45 0 [(o_ g 10 (mE l))] (rowAt [(o_ g 10 (mE l))] 0 g j)=some ((cj_ l j),([(o_ g 10 (mE l))]:Heap))) (.u3 (.y 11 (.int .i64 (ck_ j)) (iN (j - 1)) Yes.o (.u (.io 12 0 g 10 10 0 n ((j - 1:Nat):Int) (j - 1) (E8.mk _ ow ow) (.u (.t 13 (cl_ l j) [(o_ g 10 (mE l))] (G6 (A9 (row:=Entry.row) (l:=l) (k:=10) (room:=none) kr om) kr:J8 tt 45 0 [(o_ g 10 (mE l))] (rowAt [(o_ g 10 (mE l))] 0 g (j - 1))=some ((cl_ l j),([(o_ g 10 (mE l))]:Heap))) (.u (.c 14 (hc (nth l j) (nth l (j - 1)) [(o_ g 10 (mE l))]) (.u (.g (.two (decide ((cmp (nth l j) (nth l (j - 1))) < 0)) (fun h2 h2'=>(.r (.y 4 (.int .i64 (ck_ j)) (iN (j - 1)) Yes.o (.y 7 (.int .i64 (ck_ j)) (iN (j - 1)) Yes.o (.io 8 0 g 10 10 0 n ((j - 1:Nat):Int) (j - 1) (E8.mk _ ow ow) (.t 9 (cl_ l j) [(o_ g 10 (mE l))] (G6 (A9 (row:=Entry.row) (l:=l) (k:=10) (room:=none) kr om) kr:J8 tt 45 0 [(o_ g 10 (mE l))] (rowAt [(o_ g 10 (mE l))] 0 g (j - 1))=some ((cl_ l j),([(o_ g 10 (mE l))]:Heap))) (.io 12 0 g 10 10 0 n (j:Int) j (E8.mk _ ow ow) (.t 13 (cj_ l j) [(o_ g 10 (mE l))] (G6 (A9 (row:=Entry.row) (l:=l) (k:=10) (room:=none) kr om) kr:J8 tt 45 0 [(o_ g 10 (mE l))] (rowAt [(o_ g 10 (mE l))] 0 g j)=some ((cj_ l j),([(o_ g 10 (mE l))]:Heap))) (.io 14 0 g 10 10 0 n (j:Int) j (E8.mk _ ow ow) (.st 15 0 g j 10 0 (cl_ l j) [(o_ g 10 (mE (l.set j (nth l (j - 1)))))] (P8 (us:=(Entry.row (nth l (j - 1)))) (A9 (row:=Entry.row) (l:=l) (k:=10) (room:=none) kr om) kr rT rR) (.io 16 0 g 10 10 0 n ((j - 1:Nat):Int) (j - 1) (E8.mk _ ow ow) (.st 17 0 g (j - 1) 10 0 (cj_ l j) (b7l g l j) (P8 (us:=(Entry.row (nth l j))) (A9 (row:=Entry.row) (l:=l.set j (nth l (j - 1))) (k:=10) (room:=none) kr om) kr rT rR) (.s (.y 1 (.int .i64 (ck_ j)) (iN (j - 1)) Yes.o (.g (.l (k1 h1 h2))))))))))))))))) (fun h2 h2'=>(.l (k2 h1 h2))))))))))))))))))) (fun h1 h1'=>(.n6 (.n5 (.g (.n (.l (k3 h1)))))))))
theorem b4v (cmp:Entry->Entry->Int) (f:Nat) (xs:List AV) (hc:h9E cmp f xs) (a b i n g:Nat) (j:Nat):∀ (l lF:l9E),n=l.length->n < 1099511627776->b<=n->j < n->lF=sink cmp a j l ->
 j5 (l8 Tryz.prog (X qD) (p9 Tryz.f212 1)) (some [0,1,2,3,8,9]) (some [0,1,2,3,8]) (mkF 53 [(0,(AV.osl 0 g 10 0 n)),(1,(iN a)),(2,(iN b)),(3,(AV.func f xs)),(8,(iN i)),(9,(iN j))]) [(o_ g 10 (mE l))] (.exit 2) (mkF 53 [(0,(AV.osl 0 g 10 0 n)),(1,(iN a)),(2,(iN b)),(3,(AV.func f xs)),(8,(iN i))]) [(o_ g 10 (mE lF))]:=by
 induction j with
 | zero =>
  intro l lF hn hb hbn hj h
  refine a4E cmp f xs hc a b i n g 0 l hn hb hbn hj (fun h1=>?_) (fun h1=>?_) (fun h1=>?_)
  · simp at h1; omega
  · simp at h1; omega
  · rw [h]; rfl
 | succ j ih =>
  intro l lF hn hb hbn hj h
  refine a4E cmp f xs hc a b i n g (j+1) l hn hb hbn hj (fun h1 h2=>?_) (fun h1 h2=>?_) (fun h1=>?_)
  · simp only [Nat.add_sub_cancel] at h2
    exact ih ((l.set (j+1) (nth l j)).set j (nth l (j+1))) lF (by simp [hn]) hb hbn ow (by rw [h]; simp only [sink]; rw [if_pos h1,if_pos h2])
  · simp only [Nat.add_sub_cancel] at h2
    rw [h]; simp only [sink]; rw [if_pos h1,if_neg (by rw [h2]; simp)]
  · rw [h]; simp only [sink]; rw [if_neg (by rw [h1]; simp)]
@[simp] abbrev cm_ :=(l8 Tryz.prog (X qD) (p9 Tryz.f212 0))
theorem a4D (cmp:Entry->Entry->Int) (f:Nat) (xs:List AV) (hc:h9E cmp f xs) (a b i n g:Nat) (l:l9E) (hn:n=l.length) (hb:n < 1099511627776) (hbn:b<=n) {eX:Ex} {FX:Fr} {HX:Heap} (k1:(decide ((i:Int) < (b:Int)))=true->j5 cm_ (some [0,1,2,3,8]) (some [0,1,2,3,8]) (mkF 53 [(0,(AV.osl 0 g 10 0 n)),(1,(iN a)),(2,(iN b)),(3,(AV.func f xs)),(8,(iN (i+1)))]) [(o_ g 10 (mE (sink cmp a i l)))] eX FX HX) (k2:(decide ((i:Int) < (b:Int)))=false->((.exit 0:Ex),(a3Q g n a b f xs i),[(o_ g 10 (mE l))])=(eX,FX,HX)):j5 cm_ (some [0,1,2,3,8]) (some [0,1,2,3,8]) (a3Q g n a b f xs i) [(o_ g 10 (mE l))] eX FX HX :=
 F7 (.r (.g (.two (decide ((i:Int) < (b:Int))) (fun h1 h1'=>(.r (.g (.loop (a3Q g n a b f xs i) (show j5 ci_ (some [0,1,2,3,8,9]) (some [0,1,2,3,8]) (mkF 53 [(0,(AV.osl 0 g 10 0 n)),(1,(iN a)),(2,(iN b)),(3,(AV.func f xs)),(8,(iN i)),(9,(iN i))]) [(o_ g 10 (mE l))] (.exit 2) (a3Q g n a b f xs i) [(o_ g 10 (mE (sink cmp a i l)))] from (b4v cmp f xs hc a b i n g i l _ hn hb hbn ow rfl)) (.r (.y 1 (.int .i64 (cb_ i)) (iN (i+1)) Yes.o (.g (.l (k1 h1))))))))) (fun h1 h1'=>(.l (k2 h1))))))
theorem nK {p:Prop} (h:p:=by simp at h; omega):p:=h
theorem b9v (cmp:Entry->Entry->Int) (f:Nat) (xs:List AV) (hc:h9E cmp f xs) (a b n g:Nat) (k:Nat)
 : ∀ (i:Nat) (l lF:l9E) (iF:Nat),n=l.length->n < 1099511627776->b<=n->iF=i+k->b<=i+k->i+k<=max b i->lF=u7 cmp a k i l ->
 j5 (l8 Tryz.prog (X qD) (p9 Tryz.f212 0)) (some [0,1,2,3,8]) (some [0,1,2,3,8]) (mkF 53 [(0,(AV.osl 0 g 10 0 n)),(1,(iN a)),(2,(iN b)),(3,(AV.func f xs)),(8,(iN i))]) [(o_ g 10 (mE l))] (.exit 0) (mkF 53 [(0,(AV.osl 0 g 10 0 n)),(1,(iN a)),(2,(iN b)),(3,(AV.func f xs)),(8,(iN iF))]) [(o_ g 10 (mE lF))]:=by
 induction k with
 | zero =>
  intro i l lF iF hn hb hbn h1 h2 h2' h3
  refine a4D cmp f xs hc a b i n g l hn hb hbn (fun h=>?_) (fun h=>?_)
  · simp at h; omega
  · rw [h3,h1]; simp only [u7]; rfl
 | succ k ih =>
  intro i l lF iF hn hb hbn h1 h2 h2' h3
  refine a4D cmp f xs hc a b i n g l hn hb hbn (fun h=>?_) (fun h=>?_)
  · exact ih (i+1) (sink cmp a i l) lF iF (by rw [pR]; exact hn) hb hbn ow ow nK (by rw [h3]; simp only [u7])
  · simp at h; omega
@[simp] abbrev d1C (a:Nat) (b:Nat) (c:Nat) (d:Nat) (e:Nat) (f:List AV):Fr:=(mkF 53 [(0,(AV.osl 0 a 10 0 b)),(1,(iN c)),(2,(iN d)),(3,(AV.func e f)),(8,(iN (((c+1)+(d - (c+1))))))])
theorem b9u (cmp:Entry->Entry->Int) (f:Nat) (xs:List AV) (a b n g:Nat) (l:l9E) (hc:h9E cmp f xs) (hxs:AV.bdds 1 xs=true) (hn:n=l.length) (hb:n < 1099511627776) (hbn:b<=n) (hab:a < 1099511627776):AC 212 [(AV.osl 0 g 10 0 n),(iN a),(iN b),(AV.func f xs)] [(o_ g 10 (mE l))] ((AV.tup []),[(o_ g 10 (mE (u7 cmp a (b - (a+1)) (a+1) l)))]) :=
 o8 (fn:=Tryz.f212) (ann:=qD) (Has.o Tryz.func212) (.r (.y 1 (.int .i64 (cb_ a)) (iN (a+1)) Yes.o (.g (.loop (d1C g n a b f xs) (show j5 cm_ (some [0,1,2,3,8]) (some [0,1,2,3,8]) (mkF 53 [(0,(AV.osl 0 g 10 0 n)),(1,(iN a)),(2,(iN b)),(3,(AV.func f xs)),(8,(iN (a+1)))]) [(o_ g 10 (mE l))] (.exit 0) (d1C g n a b f xs) [(o_ g 10 (mE (u7 cmp a (b - (a+1)) (a+1) l)))] from (b9v cmp f xs hc a b n g (b - (a+1)) (a+1) l _ _ hn hb hbn rfl ow ow rfl)) (.q 1 (AV.tup []))))))
theorem nJ {p:Prop} (h:p:=by simp [AV.bdds,AV.bdd, *]):p:=h
theorem b1z (cmp:Entry->Entry->Int) (f:Nat) (xs:List AV) (a b n g:Nat) (l:l9E) (hc:h9E cmp f xs) (hxs:AV.bdds 1 xs=true) (hn:n=l.length) (hb:n < 1099511627776) (hbn:b<=n) (hab:a < 1099511627776) (H:Heap):AC 212 [(AV.osl 0 g 10 0 n),(iN a),(iN b),(AV.func f xs)] (([(o_ g 10 (mE l))]:Heap)++H) ((AV.tup []),([(o_ g 10 (mE (u7 cmp a (b - (a+1)) (a+1) l)))]:Heap)++H):=(b9u cmp f xs a b n g l hc hxs hn hb hbn hab).ext nJ kr ob ob kr H
def qE:Ann:={ base:=1,fin:=some 1,live:=[(1,[0,1,2,3,8]),(4,[0,1,2,3,8,9])],out:=[(1,[0,1,2,3,8]),(4,[0,1,2,3,8])] }
abbrev l9C:=List Card
@[simp] abbrev mC (l:l9C):List (List AV):=List.map Card.row l
@[simp] abbrev b7k (a:Nat) (b:l9C) (c:Nat):Heap:=[(o_ a 9 (mC ((b.set c (nth b (c - 1))).set (c - 1) (nth b c))))]
@[simp] abbrev a3P (a:Nat) (b:Nat) (c:Nat) (d:Nat) (e:Nat) (f:List AV) (g:Nat):Fr:=(mkF 53 [(0,(AV.osl 0 a 9 0 b)),(1,(iN c)),(2,(iN d)),(3,(AV.func e f)),(8,(iN g))])
theorem xE {p:Prop} (h:p:=by simp [Card.row]):p:=h
theorem xD {p:Prop} (h:p:=by simp [setAt,aT,List.map_set,Card.row]):p:=h
@[simp] abbrev cn_ :=(l8 Tryz.prog (X qE) (p9 Tryz.f240 1))
@[simp] abbrev co_ (a:l9C) (b:Nat):=(AV.agg (Card.row (nth a b)))
@[simp] abbrev cp_ (a:l9C) (b:Nat):=(AV.agg (Card.row (nth a (b - 1))))
abbrev h9C (cmp:Card->Card->Int) (f:Nat) (xs:List AV):Prop:=∀ (x y:Card) (H:Heap),AC f ([AV.agg (Card.row x),AV.agg (Card.row y)]++xs) H (AV.int .i64 (cmp x y),H)
theorem a4G (cmp:Card->Card->Int) (f:Nat) (xs:List AV) (hc:h9C cmp f xs) (a b i n g:Nat) (j:Nat) (l:l9C) (hn:n=l.length) (hb:n < 1099511627776) (hbn:b<=n) (hj:j < n) {eX:Ex} {FX:Fr} {HX:Heap} (k1:(decide ((j:Int) > (a:Int)))=true->(decide ((cmp (nth l j) (nth l (j - 1))) < 0))=true->j5 cn_ (some [0,1,2,3,8,9]) (some [0,1,2,3,8]) (mkF 53 [(0,(AV.osl 0 g 9 0 n)),(1,(iN a)),(2,(iN b)),(3,(AV.func f xs)),(8,(iN i)),(9,(iN (j - 1)))]) (b7k g l j) eX FX HX) (k2:(decide ((j:Int) > (a:Int)))=true->(decide ((cmp (nth l j) (nth l (j - 1))) < 0))=false->((.exit 2:Ex),(a3P g n a b f xs i),[(o_ g 9 (mC l))])=(eX,FX,HX)) (k3:(decide ((j:Int) > (a:Int)))=false->((.exit 2:Ex),(a3P g n a b f xs i),[(o_ g 9 (mC l))])=(eX,FX,HX)):j5 cn_ (some [0,1,2,3,8,9]) (some [0,1,2,3,8]) (mkF 53 [(0,(AV.osl 0 g 9 0 n)),(1,(iN a)),(2,(iN b)),(3,(AV.func f xs)),(8,(iN i)),(9,(iN j))]) [(o_ g 9 (mC l))] eX FX HX :=
 F7 (.r (.two (decide ((j:Int) > (a:Int))) (fun h1 h1'=>(.u3 (.io 7 0 g 9 9 0 n (j:Int) j (E8.mk _ ow ow) (.u (.t 8 (co_ l j) [(o_ g 9 (mC l))] (G6 (A9 (row:=Card.row) (l:=l) (k:=9) (room:=none) kr om) kr:J8 tt 39 0 [(o_ g 9 (mC l))] (rowAt [(o_ g 9 (mC l))] 0 g j)=some ((co_ l j),([(o_ g 9 (mC l))]:Heap))) (.u3 (.y 11 (.int .i64 (ck_ j)) (iN (j - 1)) Yes.o (.u (.io 12 0 g 9 9 0 n ((j - 1:Nat):Int) (j - 1) (E8.mk _ ow ow) (.u (.t 13 (cp_ l j) [(o_ g 9 (mC l))] (G6 (A9 (row:=Card.row) (l:=l) (k:=9) (room:=none) kr om) kr:J8 tt 39 0 [(o_ g 9 (mC l))] (rowAt [(o_ g 9 (mC l))] 0 g (j - 1))=some ((cp_ l j),([(o_ g 9 (mC l))]:Heap))) (.u (.c 14 (hc (nth l j) (nth l (j - 1)) [(o_ g 9 (mC l))]) (.u (.g (.two (decide ((cmp (nth l j) (nth l (j - 1))) < 0)) (fun h2 h2'=>(.r (.y 4 (.int .i64 (ck_ j)) (iN (j - 1)) Yes.o (.y 7 (.int .i64 (ck_ j)) (iN (j - 1)) Yes.o (.io 8 0 g 9 9 0 n ((j - 1:Nat):Int) (j - 1) (E8.mk _ ow ow) (.t 9 (cp_ l j) [(o_ g 9 (mC l))] (G6 (A9 (row:=Card.row) (l:=l) (k:=9) (room:=none) kr om) kr:J8 tt 39 0 [(o_ g 9 (mC l))] (rowAt [(o_ g 9 (mC l))] 0 g (j - 1))=some ((cp_ l j),([(o_ g 9 (mC l))]:Heap))) (.io 12 0 g 9 9 0 n (j:Int) j (E8.mk _ ow ow) (.t 13 (co_ l j) [(o_ g 9 (mC l))] (G6 (A9 (row:=Card.row) (l:=l) (k:=9) (room:=none) kr om) kr:J8 tt 39 0 [(o_ g 9 (mC l))] (rowAt [(o_ g 9 (mC l))] 0 g j)=some ((co_ l j),([(o_ g 9 (mC l))]:Heap))) (.io 14 0 g 9 9 0 n (j:Int) j (E8.mk _ ow ow) (.st 15 0 g j 9 0 (cp_ l j) [(o_ g 9 (mC (l.set j (nth l (j - 1)))))] (P8 (us:=(Card.row (nth l (j - 1)))) (A9 (row:=Card.row) (l:=l) (k:=9) (room:=none) kr om) kr xE xD) (.io 16 0 g 9 9 0 n ((j - 1:Nat):Int) (j - 1) (E8.mk _ ow ow) (.st 17 0 g (j - 1) 9 0 (co_ l j) (b7k g l j) (P8 (us:=(Card.row (nth l j))) (A9 (row:=Card.row) (l:=l.set j (nth l (j - 1))) (k:=9) (room:=none) kr om) kr xE xD) (.s (.y 1 (.int .i64 (ck_ j)) (iN (j - 1)) Yes.o (.g (.l (k1 h1 h2))))))))))))))))) (fun h2 h2'=>(.l (k2 h1 h2))))))))))))))))))) (fun h1 h1'=>(.n6 (.n5 (.g (.n (.l (k3 h1)))))))))
theorem b4w (cmp:Card->Card->Int) (f:Nat) (xs:List AV) (hc:h9C cmp f xs) (a b i n g:Nat) (j:Nat):∀ (l lF:l9C),n=l.length->n < 1099511627776->b<=n->j < n->lF=sink cmp a j l ->
 j5 (l8 Tryz.prog (X qE) (p9 Tryz.f240 1)) (some [0,1,2,3,8,9]) (some [0,1,2,3,8]) (mkF 53 [(0,(AV.osl 0 g 9 0 n)),(1,(iN a)),(2,(iN b)),(3,(AV.func f xs)),(8,(iN i)),(9,(iN j))]) [(o_ g 9 (mC l))] (.exit 2) (mkF 53 [(0,(AV.osl 0 g 9 0 n)),(1,(iN a)),(2,(iN b)),(3,(AV.func f xs)),(8,(iN i))]) [(o_ g 9 (mC lF))]:=by
 induction j with
 | zero =>
  intro l lF hn hb hbn hj h
  refine a4G cmp f xs hc a b i n g 0 l hn hb hbn hj (fun h1=>?_) (fun h1=>?_) (fun h1=>?_)
  · simp at h1; omega
  · simp at h1; omega
  · rw [h]; rfl
 | succ j ih =>
  intro l lF hn hb hbn hj h
  refine a4G cmp f xs hc a b i n g (j+1) l hn hb hbn hj (fun h1 h2=>?_) (fun h1 h2=>?_) (fun h1=>?_)
  · simp only [Nat.add_sub_cancel] at h2
    exact ih ((l.set (j+1) (nth l j)).set j (nth l (j+1))) lF (by simp [hn]) hb hbn ow (by rw [h]; simp only [sink]; rw [if_pos h1,if_pos h2])
  · simp only [Nat.add_sub_cancel] at h2
    rw [h]; simp only [sink]; rw [if_pos h1,if_neg (by rw [h2]; simp)]
  · rw [h]; simp only [sink]; rw [if_neg (by rw [h1]; simp)]
@[simp] abbrev cq_ :=(l8 Tryz.prog (X qE) (p9 Tryz.f240 0))
theorem a4F (cmp:Card->Card->Int) (f:Nat) (xs:List AV) (hc:h9C cmp f xs) (a b i n g:Nat) (l:l9C) (hn:n=l.length) (hb:n < 1099511627776) (hbn:b<=n) {eX:Ex} {FX:Fr} {HX:Heap} (k1:(decide ((i:Int) < (b:Int)))=true->j5 cq_ (some [0,1,2,3,8]) (some [0,1,2,3,8]) (mkF 53 [(0,(AV.osl 0 g 9 0 n)),(1,(iN a)),(2,(iN b)),(3,(AV.func f xs)),(8,(iN (i+1)))]) [(o_ g 9 (mC (sink cmp a i l)))] eX FX HX) (k2:(decide ((i:Int) < (b:Int)))=false->((.exit 0:Ex),(a3P g n a b f xs i),[(o_ g 9 (mC l))])=(eX,FX,HX)):j5 cq_ (some [0,1,2,3,8]) (some [0,1,2,3,8]) (a3P g n a b f xs i) [(o_ g 9 (mC l))] eX FX HX :=
 F7 (.r (.g (.two (decide ((i:Int) < (b:Int))) (fun h1 h1'=>(.r (.g (.loop (a3P g n a b f xs i) (show j5 cn_ (some [0,1,2,3,8,9]) (some [0,1,2,3,8]) (mkF 53 [(0,(AV.osl 0 g 9 0 n)),(1,(iN a)),(2,(iN b)),(3,(AV.func f xs)),(8,(iN i)),(9,(iN i))]) [(o_ g 9 (mC l))] (.exit 2) (a3P g n a b f xs i) [(o_ g 9 (mC (sink cmp a i l)))] from (b4w cmp f xs hc a b i n g i l _ hn hb hbn ow rfl)) (.r (.y 1 (.int .i64 (cb_ i)) (iN (i+1)) Yes.o (.g (.l (k1 h1))))))))) (fun h1 h1'=>(.l (k2 h1))))))
theorem b9y (cmp:Card->Card->Int) (f:Nat) (xs:List AV) (hc:h9C cmp f xs) (a b n g:Nat) (k:Nat)
 : ∀ (i:Nat) (l lF:l9C) (iF:Nat),n=l.length->n < 1099511627776->b<=n->iF=i+k->b<=i+k->i+k<=max b i->lF=u7 cmp a k i l ->
 j5 (l8 Tryz.prog (X qE) (p9 Tryz.f240 0)) (some [0,1,2,3,8]) (some [0,1,2,3,8]) (mkF 53 [(0,(AV.osl 0 g 9 0 n)),(1,(iN a)),(2,(iN b)),(3,(AV.func f xs)),(8,(iN i))]) [(o_ g 9 (mC l))] (.exit 0) (mkF 53 [(0,(AV.osl 0 g 9 0 n)),(1,(iN a)),(2,(iN b)),(3,(AV.func f xs)),(8,(iN iF))]) [(o_ g 9 (mC lF))]:=by
 induction k with
 | zero =>
  intro i l lF iF hn hb hbn h1 h2 h2' h3
  refine a4F cmp f xs hc a b i n g l hn hb hbn (fun h=>?_) (fun h=>?_)
  · simp at h; omega
  · rw [h3,h1]; simp only [u7]; rfl
 | succ k ih =>
  intro i l lF iF hn hb hbn h1 h2 h2' h3
  refine a4F cmp f xs hc a b i n g l hn hb hbn (fun h=>?_) (fun h=>?_)
  · exact ih (i+1) (sink cmp a i l) lF iF (by rw [pR]; exact hn) hb hbn ow ow nK (by rw [h3]; simp only [u7])
  · simp at h; omega
@[simp] abbrev d1B (a:Nat) (b:Nat) (c:Nat) (d:Nat) (e:Nat) (f:List AV):Fr:=(mkF 53 [(0,(AV.osl 0 a 9 0 b)),(1,(iN c)),(2,(iN d)),(3,(AV.func e f)),(8,(iN (((c+1)+(d - (c+1))))))])
theorem b9x (cmp:Card->Card->Int) (f:Nat) (xs:List AV) (a b n g:Nat) (l:l9C) (hc:h9C cmp f xs) (hxs:AV.bdds 1 xs=true) (hn:n=l.length) (hb:n < 1099511627776) (hbn:b<=n) (hab:a < 1099511627776):AC 240 [(AV.osl 0 g 9 0 n),(iN a),(iN b),(AV.func f xs)] [(o_ g 9 (mC l))] ((AV.tup []),[(o_ g 9 (mC (u7 cmp a (b - (a+1)) (a+1) l)))]) :=
 o8 (fn:=Tryz.f240) (ann:=qE) (Has.o Tryz.func240) (.r (.y 1 (.int .i64 (cb_ a)) (iN (a+1)) Yes.o (.g (.loop (d1B g n a b f xs) (show j5 cq_ (some [0,1,2,3,8]) (some [0,1,2,3,8]) (mkF 53 [(0,(AV.osl 0 g 9 0 n)),(1,(iN a)),(2,(iN b)),(3,(AV.func f xs)),(8,(iN (a+1)))]) [(o_ g 9 (mC l))] (.exit 0) (d1B g n a b f xs) [(o_ g 9 (mC (u7 cmp a (b - (a+1)) (a+1) l)))] from (b9y cmp f xs hc a b n g (b - (a+1)) (a+1) l _ _ hn hb hbn rfl ow ow rfl)) (.q 1 (AV.tup []))))))
theorem b1A (cmp:Card->Card->Int) (f:Nat) (xs:List AV) (a b n g:Nat) (l:l9C) (hc:h9C cmp f xs) (hxs:AV.bdds 1 xs=true) (hn:n=l.length) (hb:n < 1099511627776) (hbn:b<=n) (hab:a < 1099511627776) (H:Heap):AC 240 [(AV.osl 0 g 9 0 n),(iN a),(iN b),(AV.func f xs)] (([(o_ g 9 (mC l))]:Heap)++H) ((AV.tup []),([(o_ g 9 (mC (u7 cmp a (b - (a+1)) (a+1) l)))]:Heap)++H):=(b9x cmp f xs a b n g l hc hxs hn hb hbn hab).ext nJ kr ob ob kr H
attribute [local irreducible] sink u7
theorem Y4 {α:Type} [Inhabited α] {l:List α} {i:Nat} (h:i < l.length):l.drop i=nth l i :: l.drop (i+1):=by
 rw [List.drop_eq_getElem_cons h]
 congr 1
 simp [nth,List.getD_eq_getElem?_getD,List.getElem?_eq_getElem h]
def cmpL (now:Int) (a b:Entry):Int:=if P7 (y5 b now) (y5 a now)=0 then L6 a.card.key b.card.key else P7 (y5 b now) (y5 a now)
def b0f:Ann:={ refs:=[3,4],fin:=some 0 }
theorem a6W (now:Int) (a b:Entry) :AC 119 [(AV.agg (Entry.row a)),(AV.agg (Entry.row b)),(AV.ref [(iI now)] 0)] [] ((iI (cmpL now a b)),[]) :=
 o8 (fn:=Tryz.f119) (ann:=b0f) (Has.o Tryz.func119) (.r (.s (.c 2 ((rD b now).lift kr kr []) (.c 5 ((rD a now).lift kr kr []) (.c 6 ((nQ (y5 b now) (y5 a now)).lift kr kr []) (.c 13 ((b3Q a.card.key b.card.key).lift kr kr []) (.c 15 (l6.pre (args:=[(sA 1 [[(iI (P7 (y5 b now) (y5 a now)))],[(iI (L6 a.card.key b.card.key))]])]) (args':=[(AV.sl .clip 1 [[(iI (P7 (y5 b now) (y5 a now)))],[(iI (L6 a.card.key b.card.key))]])]) ((a6Z (P7 (y5 b now) (y5 a now)) (L6 a.card.key b.card.key)).lift kr kr []) ⟨⟨rfl,rfl,.inl rfl⟩,trivial⟩) (.q 0 (iI (if (P7 (y5 b now) (y5 a now))=0 then (L6 a.card.key b.card.key) else (P7 (y5 b now) (y5 a now))))))))))))
theorem b3N (now:Int) (a b:Entry)  (H:Heap):AC 119 [(AV.agg (Entry.row a)),(AV.agg (Entry.row b)),(AV.ref [(iI now)] 0)] H ((iI (cmpL now a b)),H):=(a6W now a b ).lift kr kr H
def I4 (n:Int):Nat:=(Int.tdiv (max 0 (min n 1048576) * 15+100 - 1) 100).toNat
theorem b1i (x:Int) (h:0<=x):0<=Int.tdiv x 100/\Int.tdiv x 100<=x:=by
 rw [Int.tdiv_eq_ediv_of_nonneg h]; omega
def c2T:Ann:={ fin:=some 0 }
@[simp] abbrev cr_ (a:Int):=(iI (Int.tdiv ((((max 0 (min a 1048576)) * 15)+100) - 1) 100))
theorem b9f (n:Int) :AC 123 [(iI n)] [] ((iN (I4 n)),[]):=by
 have hx:=b1i (max 0 (min n 1048576) * 15+100 - 1) ow
 exact o8 (fn:=Tryz.f123) (ann:=c2T) (Has.o Tryz.func123) (.r (.s (.y 1 (.int .i64 (if 1048576 < n then 1048576 else n)) (iI (min n 1048576)) (Yes.int yw_) (.y 2 (.int .i64 (if (min n 1048576) > 0 then (min n 1048576) else 0)) (iI (max 0 (min n 1048576))) (Yes.int yw_) (.y 3 (iW ((max 0 (min n 1048576)) * 15)) (iI ((max 0 (min n 1048576)) * 15)) Yes.o (.y 4 (iW (((max 0 (min n 1048576)) * 15)+100)) (iI (((max 0 (min n 1048576)) * 15)+100)) Yes.o (.y 5 (iW ((((max 0 (min n 1048576)) * 15)+100) - 1)) (iI ((((max 0 (min n 1048576)) * 15)+100) - 1)) Yes.o (.t 6 (cr_ n) [] (b8N ow ow ow:Option.map (fun a=>(a,([]:Heap))) (if (100:Int)=0 then none else some (iI (IntKind.i64.wrap (Int.tdiv ((((max 0 (min n 1048576)) * 15)+100) - 1) 100))))=some ((cr_ n),([]:Heap))) (.q 0 (cr_ n) (by simp [I4]; omega))))))))))
def c2J:Ann:={ fin:=some 0 }
theorem b8X (n:Int) :AC 183 [(AV.int .i64 n)] [] ((AV.int .i64 (I4 n:Int)),[]):=by
 have hx:=b1i (max (min n 1048576) 0 * 15+99) ow
 have hy:max 0 (min n 1048576) * 15+100 - 1=max (min n 1048576) 0 * 15+99:=by omega
 exact o8 (fn:=Tryz.f183) (ann:=c2J) (Has.o Tryz.func183) (.r (.s (.y 1 (.int .i64 (if 1048576 < n then 1048576 else n)) (AV.int .i64 (min n 1048576)) (Yes.int yw_) (.y 2 (.int .i64 (if 0 > (min n 1048576) then 0 else (min n 1048576))) (AV.int .i64 (max (min n 1048576) 0)) (Yes.int yw_) (.s (.y 1 (iW ((max (min n 1048576) 0) * 15)) (AV.int .i64 ((max (min n 1048576) 0) * 15)) Yes.o (.y 2 (iW (((max (min n 1048576) 0) * 15)+99)) (AV.int .i64 (((max (min n 1048576) 0) * 15)+99)) Yes.o (.t 3 (AV.int .i64 (Int.tdiv (((max (min n 1048576) 0) * 15)+99) 100)) [] (b8N ow ow ow:Option.map (fun a=>(a,([]:Heap))) (if (100:Int)=0 then none else some (iW (Int.tdiv (((max (min n 1048576) 0) * 15)+99) 100)))=some ((AV.int .i64 (Int.tdiv (((max (min n 1048576) 0) * 15)+99) 100)),([]:Heap))) (.q 0 (AV.int .i64 (Int.tdiv (((max (min n 1048576) 0) * 15)+99) 100)) (by simp only [I4,hy]; rw [Int.toNat_of_nonneg hx.1]))))))))))
def xZ:Ann:={ gha:=[(1,.vir 3 2),(6,.cut 1),(7,.frz 2)],fin:=some 0,live:=[(3,[3,6,7,8])],out:=[(3,[3,6,7,8])] }
abbrev l9K:=List Key
@[simp] abbrev mK (l:l9K):List (List AV):=List.map Key.row l
@[simp] abbrev a3O (a:Nat) (b:l9K) (c:l9E) (d:Nat):Heap:=[(o_ (a+1) 2 (mK (b++[(nth c d).card.key])))]
@[simp] abbrev d1A (a:Nat) (b:Nat) (c:l9E) (d:Nat):Fr:=(mkF 20 [(3,(AV.osl 0 a 2 0 b)),(6,(sA 10 (mE c))),(7,(iN c.length)),(8,(iN d))])
theorem z8 {p:Prop} (h:p:=by decide):p:=h
theorem aV {p:Prop} (h:p:=by first | assumption | omega | (simp; done) | (simp; omega)):p:=h
theorem a5U {p:Prop} (h:p:=by first | omega | (show _ * 32<=_; omega) | (simp; omega)):p:=h
@[simp] abbrev cs_ :=(l8 Tryz.prog (X xZ) (p9 Tryz.f113 0))
@[simp] abbrev ct_ (a b:Nat):=(AV.osl 0 (a+1) 2 0 (b+1))
@[reducible] def uX:TI:={ d:=.struct [(9,0),(9,1)],size:=2,bytes:=32,zero:=[.str ⟨#[]⟩,.str ⟨#[]⟩] }
theorem a2l (l:l9E) (i k g:Nat) (out:l9K) (hk:k=out.length) (hki:k<=l.length) (hl:l.length < 1099511627776) {eX:Ex} {FX:Fr} {HX:Heap} (k1:(decide ((i:Int) < (l.length:Int)))=true->j5 cs_ (some [3,6,7,8]) (some [3,6,7,8]) (mkF 20 [(3,(ct_ g k)),(6,(sA 10 (mE l))),(7,(iN l.length)),(8,(iN (i+1)))]) (a3O g out l i) eX FX HX) (k2:(decide ((i:Int) < (l.length:Int)))=false->((.exit 0:Ex),(d1A g k l i),[(o_ g 2 (mK out))])=(eX,FX,HX)):j5 cs_ (some [3,6,7,8]) (some [3,6,7,8]) (d1A g k l i) [(o_ g 2 (mK out))] eX FX HX :=
 F7 (.r (.g (.two (decide ((i:Int) < (l.length:Int))) (fun h1 h1'=>(.r (.h' [(o_ g 2 (mK out)),(o_ 0 10 [[e_,e_,z_,z_,z_,z_,z_,z_,bF,z_]])] (.is 0 10 10 (mE l) (i:Int) (Entry.row (nth l i)) (J6.mk _ ow ow) (.s (.h' [(o_ g 2 (mK out)),(o_ 0 10 [(Entry.row (nth l i))])] (.ap 5 33 (AV.osl 0 g 2 0 k) (AV.sl .clip 2 [(Key.row (nth l i).card.key)]) (ct_ g k) [(o_ (g+1) 2 (mK (out++[(nth l i).card.key]))),(o_ 0 10 [(Entry.row (nth l i))])] (G9 (row:=Key.row) (l:=out) (x:=(nth l i).card.key) (T:=tt) (e:=30) (te:=uX) (z:=1) (b:=24) (y:=[.sl .nil 0 []]) kr kr rfl z8 z8 kr aV rfl rfl a5U) (.s (.y 0 (.int .i64 (cb_ i)) (iN (i+1)) Yes.o (.h' (a3O g out l i) (.b 1 (.g (.l (k1 h1)))))))))))))) (fun h1 h1'=>(.l (k2 h1))))))
theorem uU {p:Prop} (h:p:=by simp [hk]):p:=h
theorem b4h (l:l9E) (r:Nat):∀ (i k g:Nat) (out:l9K) (kF gF:Nat) (outF:l9K),i+r=l.length->k=out.length->k=i->l.length < 1099511627776->kF=k+r->gF=g+r->outF=out++(l.drop i).map (·.card.key) ->
 j5 (l8 Tryz.prog (X xZ) (p9 Tryz.f113 0)) (some [3,6,7,8]) (some [3,6,7,8]) (mkF 20 [(3,(AV.osl 0 g 2 0 k)),(6,(sA 10 (mE l))),(7,(iN l.length)),(8,(iN i))]) [(o_ g 2 (mK out))] (.exit 0) (mkF 20 [(3,(AV.osl 0 gF 2 0 kF)),(6,(sA 10 (mE l))),(7,(iN l.length)),(8,(iN l.length))]) [(o_ gF 2 (mK outF))]:=by
 induction r with
 | zero =>
  intro i k g out kF gF outF hi hk hki hl h1 h2 h3
  refine a2l l i k g out hk ow hl (fun h=>by simp at h; omega) fun _=>?_
  have:l.drop i=[]:=List.drop_of_length_le ow
  have e1:kF=k:=by omega
  have e2:gF=g:=by omega
  have e3:i=l.length:=by omega
  have e4:outF=out:=by rw [h3,this]; simp
  rw [e1,e2,e3,e4]
 | succ r ih =>
  intro i k g out kF gF outF hi hk hki hl h1 h2 h3
  refine a2l l i k g out hk ow hl (fun _=>?_) fun h=>by simp at h; omega
  exact ih (i+1) (k+1) (g+1) (out++[(nth l i).card.key]) kF gF outF ow uU ow hl ow ow (by rw [h3,Y4 ow]; simp)
@[simp] abbrev d1z (a:l9E):Fr:=(mkF 20 [(3,(AV.osl 0 a.length 2 0 a.length)),(6,(sA 10 (mE a))),(7,(iN a.length)),(8,(iN a.length))])
@[simp] abbrev d1y (a:l9E):Heap:=[(o_ a.length 2 (mK (a.map (·.card.key))))]
theorem a2m (l:l9E) (hl:l.length < 1099511627776):AC 113 [(sA 10 (mE l))] [] ((sA 2 (mK (l.map (·.card.key)))),[]) :=
 o8 (fn:=Tryz.f113) (ann:=xZ) (Has.o Tryz.func113) (.r (.s (.s (.h' [(o_ 0 2 (mK []))] (.y 1 (.int .i64 ((List.length (mE l):Nat):Int)) (iN l.length) (Yes.len _ _ _) (.g (.loop (d1z l) (show j5 cs_ (some [3,6,7,8]) (some [3,6,7,8]) (mkF 20 [(3,(AV.osl 0 0 2 0 0)),(6,(sA 10 (mE l))),(7,(iN l.length)),(8,z_)]) [(o_ 0 2 (mK []))] (.exit 0) (d1z l) (d1y l) from (b4h l (List.length l) 0 0 0 [] _ _ _ ow rfl rfl hl ow ow yf_)) (.r (.w' 2 (mK (l.map (·.card.key))) (And.intro (H9 (room:=none) kr om) (Key.o9 _ _):F4 (d1y l) 2 (AV.osl 0 l.length 2 0 l.length)=some (mK (l.map (·.card.key)))/\AV.D5 0 (mK (l.map (·.card.key)))=true) (.g (.h' [] (.q 0 (sA 2 (mK (l.map (·.card.key))))))))))))))))
def vI:Ann:={ refs:=[4],gha:=[(3,.vir 8 10),(11,.cut 1),(12,.frz 8)],fin:=some 0,live:=[(5,[2,4,7,8,13,14,15])],out:=[(5,[2,4,7,8,13,14,15])] }
def X0 (now late:Int) (s:Nat × List Entry × Nat) (e:Entry):Nat × List Entry × Nat :=
 (if (!e.card.gone)=true then s.1+1 else s.1,if decide (y5 e now > late)=true then s.2.1++[e] else s.2.1,if decide (y5 e now > late)=true then s.2.2+1 else s.2.2)
@[simp] abbrev c7m (a:Nat) (b:l9E) (c:l9E) (d:Nat):Ob:=(o_ (a+1) 10 (mE (b++[(nth c d)])))
@[simp] abbrev b7j (a:Nat) (b:l9E) (c:l9E) (d:Nat):Heap:=[c7m a b c d]
@[simp] abbrev d1x (a:Int) (b:Int) (c:Nat) (d:Nat) (e:Nat) (f:l9E) (g:Nat):Fr:=(mkF 46 [(2,(iI a)),(4,(AV.ref [(iI b)] 0)),(7,(iN c)),(8,(AV.osl 0 d 10 0 e)),(13,(sA 10 (mE f))),(14,(iN f.length)),(15,(iN g))])
@[simp] abbrev wW (a:Nat) (b:l9E) (c:l9E) (d:Nat):Heap:=[(o_ a 10 (mE b)),(o_ 0 10 [(Entry.row (nth c d))])]
@[simp] abbrev d1w (a:Nat) (b:l9E) (c:l9E) (d:Nat):Heap:=[c7m a b c d,(o_ 0 10 [(Entry.row (nth c d))])]
theorem a2N {p:Prop} (h:p:=by first | omega | (show _ * 96<=_; omega) | (simp; omega)):p:=h
@[simp] abbrev cu_ :=(l8 Tryz.prog (X vI) (p9 Tryz.f63 0))
@[simp] abbrev cv_ (a b:Nat):=(AV.osl 0 (a+1) 10 0 (b+1))
@[reducible] def aX:TI:={ d:=.struct [(39,0),(2,9)],size:=10,bytes:=96,zero:=[.str ⟨#[]⟩,.str ⟨#[]⟩,.int .i64 0,.int .i64 0,.int .i64 0,.int .i64 0,.int .i64 0,.int .i64 0,.bool false,.int .i64 0] }
theorem a4p (l:l9E) (now late:Int) (i live k g:Nat) (few:l9E) (hk:k=few.length) (hki:k<=l.length) (hv:live<=l.length) (hl:l.length < 1099511627776) {eX:Ex} {FX:Fr} {HX:Heap} (k1:(decide ((i:Int) < (l.length:Int)))=true->(!(nth l i).card.gone)=true->(decide ((y5 (nth l i) now) > late))=true->j5 cu_ (some [2,4,7,8,13,14,15]) (some [2,4,7,8,13,14,15]) (mkF 46 [(2,(iI late)),(4,(AV.ref [(iI now)] 0)),(7,(iN (live+1))),(8,(cv_ g k)),(13,(sA 10 (mE l))),(14,(iN l.length)),(15,(iN (i+1)))]) (b7j g few l i) eX FX HX) (k2:(decide ((i:Int) < (l.length:Int)))=true->(!(nth l i).card.gone)=true->(decide ((y5 (nth l i) now) > late))=false->j5 cu_ (some [2,4,7,8,13,14,15]) (some [2,4,7,8,13,14,15]) (mkF 46 [(2,(iI late)),(4,(AV.ref [(iI now)] 0)),(7,(iN (live+1))),(8,(AV.osl 0 g 10 0 k)),(13,(sA 10 (mE l))),(14,(iN l.length)),(15,(iN (i+1)))]) [(o_ g 10 (mE few))] eX FX HX) (k3:(decide ((i:Int) < (l.length:Int)))=true->(!(nth l i).card.gone)=false->(decide ((y5 (nth l i) now) > late))=true->j5 cu_ (some [2,4,7,8,13,14,15]) (some [2,4,7,8,13,14,15]) (mkF 46 [(2,(iI late)),(4,(AV.ref [(iI now)] 0)),(7,(iN live)),(8,(cv_ g k)),(13,(sA 10 (mE l))),(14,(iN l.length)),(15,(iN (i+1)))]) (b7j g few l i) eX FX HX) (k4:(decide ((i:Int) < (l.length:Int)))=true->(!(nth l i).card.gone)=false->(decide ((y5 (nth l i) now) > late))=false->j5 cu_ (some [2,4,7,8,13,14,15]) (some [2,4,7,8,13,14,15]) (mkF 46 [(2,(iI late)),(4,(AV.ref [(iI now)] 0)),(7,(iN live)),(8,(AV.osl 0 g 10 0 k)),(13,(sA 10 (mE l))),(14,(iN l.length)),(15,(iN (i+1)))]) [(o_ g 10 (mE few))] eX FX HX) (k5:(decide ((i:Int) < (l.length:Int)))=false->((.exit 0:Ex),(d1x late now live g k l i),[(o_ g 10 (mE few))])=(eX,FX,HX)):j5 cu_ (some [2,4,7,8,13,14,15]) (some [2,4,7,8,13,14,15]) (d1x late now live g k l i) [(o_ g 10 (mE few))] eX FX HX :=
 F7 (.r (.g (.two (decide ((i:Int) < (l.length:Int))) (fun h1 h1'=>(.r (.h' [(o_ g 10 (mE few)),(o_ 0 10 [[e_,e_,z_,z_,z_,z_,z_,z_,bF,z_]])] (.is 0 10 10 (mE l) (i:Int) (Entry.row (nth l i)) (J6.mk _ ow ow) (.s (.g (.two (!(nth l i).card.gone) (fun h2 h2'=>(.r (.h' (wW g few l i) (.y 1 (.int .i64 (cb_ live)) (iN (live+1)) Yes.o (.s (.c 2 ((rD (nth l i) now).lift kr kr (wW g few l i)) (.g (.two (decide ((y5 (nth l i) now) > late)) (fun h3 h3'=>(.r (.ap 3 104 (AV.osl 0 g 10 0 k) (AV.sl .clip 10 [(Entry.row (nth l i))]) (cv_ g k) (d1w g few l i) (G9 (row:=Entry.row) (l:=few) (x:=(nth l i)) (T:=tt) (e:=45) (te:=aX) (z:=1) (b:=24) (y:=[.sl .nil 0 []]) kr kr rfl z8 z8 kr aV rfl rfl a2N) (.s (.y 0 (.int .i64 (cb_ i)) (iN (i+1)) Yes.o (.h' (b7j g few l i) (.b 1 (.g (.l (k1 h1 h2 h3)))))))))) (fun h3 h3'=>(.r (.y 0 (.int .i64 (cb_ i)) (iN (i+1)) Yes.o (.h' [(o_ g 10 (mE few))] (.b 1 (.g (.l (k2 h1 h2 h3)))))))))))))))) (fun h2 h2'=>(.r (.c 2 ((rD (nth l i) now).lift kr kr (wW g few l i)) (.g (.two (decide ((y5 (nth l i) now) > late)) (fun h3 h3'=>(.r (.h' (wW g few l i) (.ap 3 104 (AV.osl 0 g 10 0 k) (AV.sl .clip 10 [(Entry.row (nth l i))]) (cv_ g k) (d1w g few l i) (G9 (row:=Entry.row) (l:=few) (x:=(nth l i)) (T:=tt) (e:=45) (te:=aX) (z:=1) (b:=24) (y:=[.sl .nil 0 []]) kr kr rfl z8 z8 kr aV rfl rfl a2N) (.s (.y 0 (.int .i64 (cb_ i)) (iN (i+1)) Yes.o (.h' (b7j g few l i) (.b 1 (.g (.l (k3 h1 h2 h3))))))))))) (fun h3 h3'=>(.r (.h' (wW g few l i) (.y 0 (.int .i64 (cb_ i)) (iN (i+1)) Yes.o (.h' [(o_ g 10 (mE few))] (.b 1 (.g (.l (k4 h1 h2 h3))))))))))))))))))))) (fun h1 h1'=>(.l (k5 h1))))))
theorem b8U (l:l9E) (now late:Int) (r:Nat):∀ (i live k g:Nat) (few:l9E) (sF:Nat × l9E × Nat),i+r=l.length->k=few.length->k<=i->live<=i->l.length < 1099511627776->sF=(l.drop i).foldl (X0 now late) (live,few,g) ->
 j5 (l8 Tryz.prog (X vI) (p9 Tryz.f63 0)) (some [2,4,7,8,13,14,15]) (some [2,4,7,8,13,14,15]) (mkF 46 [(2,(iI late)),(4,(AV.ref [(iI now)] 0)),(7,(iN live)),(8,(AV.osl 0 g 10 0 k)),(13,(sA 10 (mE l))),(14,(iN l.length)),(15,(iN i))]) [(o_ g 10 (mE few))] (.exit 0) (mkF 46 [(2,(iI late)),(4,(AV.ref [(iI now)] 0)),(7,(iN sF.1)),(8,(AV.osl 0 sF.2.2 10 0 sF.2.1.length)),(13,(sA 10 (mE l))),(14,(iN l.length)),(15,(iN l.length))]) [(o_ sF.2.2 10 (mE sF.2.1))]:=by
 induction r with
 | zero =>
  intro i live k g few sF hi hk hki hv hl h1
  refine a4p l now late i live k g few hk ow ow hl (fun h=>by simp at h; omega) (fun h=>by simp at h; omega) (fun h=>by simp at h; omega) (fun h=>by simp at h; omega) fun _=>?_
  have:l.drop i=[]:=List.drop_of_length_le ow
  rw [this] at h1
  have e3:i=l.length:=by omega
  rw [h1,e3,hk]
  rfl
 | succ r ih =>
  intro i live k g few sF hi hk hki hv hl h1
  rw [Y4 ow,List.foldl_cons] at h1
  refine a4p l now late i live k g few hk ow ow hl (fun _ h2 h3=>?_) (fun _ h2 h3=>?_) (fun _ h2 h3=>?_) (fun _ h2 h3=>?_) fun h=>by simp at h; omega
  · exact ih (i+1) (live+1) (k+1) (g+1) (few++[nth l i]) sF ow uU ow ow hl (by rw [h1]; simp only [X0,h2,h3,if_true])
  · exact ih (i+1) (live+1) k g few sF ow hk ow ow hl (by rw [h1]; simp only [X0,h2,h3,if_true,Bool.false_eq_true,if_false])
  · exact ih (i+1) live (k+1) (g+1) (few++[nth l i]) sF ow uU ow ow hl (by rw [h1]; simp only [X0,h2,h3,if_true,Bool.false_eq_true,if_false])
  · exact ih (i+1) live k g few sF ow hk ow ow hl (by rw [h1]; simp only [X0,h2,h3,Bool.false_eq_true,if_false])
def y9 (l:List Entry) (now late:Int):Nat × List Entry × Nat:=l.foldl (X0 now late) (0,[],0)
theorem a6X (now late:Int) (l:l9E):∀ (s:Nat × l9E × Nat),(l.foldl (X0 now late) s).2.1.length<=s.2.1.length+l.length/\(l.foldl (X0 now late) s).1<=s.1+l.length:=by
 induction l with
 | nil=>intro s; simp
 | cons e l ih =>
  intro s
  have h:=ih (X0 now late s e)
  simp only [List.foldl_cons,List.length_cons]
  have h1:(X0 now late s e).2.1.length<=s.2.1.length+1/\(X0 now late s e).1<=s.1+1:=by
   simp only [X0]
   constructor
   · split <;> simp
   · split <;> omega
  omega
theorem b8W (l:l9E) (now late:Int):(y9 l now late).2.1.length<=l.length/\(y9 l now late).1<=l.length:=by
 have:=a6X now late l (0,[],0)
 simpa [y9] using this
def Q6 (l:List Entry) (now late:Int):List Entry:=u7 (cmpL now) 0 ((y9 l now (max 0 late)).2.1.length - 1) 1 (y9 l now (max 0 late)).2.1
def V6 (l:List Entry) (now late:Int):Nat:=min (Q6 l now late).length (I4 (y9 l now (max 0 late)).1)
def w9 (l:List Entry) (now late:Int):List Key:=((Q6 l now late).take (V6 l now late)).map (·.card.key)
attribute [local irreducible] I4 L6 Q6 V6 cmpL w9 y5 y9
def y8 (a b:Key):Bool:=if (!(a.app.toList == b.app.toList))=true then Op.bytesLess a.app.toList b.app.toList else Op.bytesLess a.id.toList b.id.toList
def b6d:Ann:={ refs:=[2,3],fin:=some 0 }
theorem sW (a b:Key) :AC 214 [(AV.agg (Key.row a)),(AV.agg (Key.row b))] [] ((bB (y8 a b)),[]) :=
 o8 (fn:=Tryz.f214) (ann:=b6d) (Has.o Tryz.func214) (.r (.s (.g (.two (!(a.app.toList == b.app.toList)) (fun h1 h1'=>(.qr 0 (bB (Op.bytesLess a.app.toList b.app.toList)) (by simp_all [y8]))) (fun h1 h1'=>(.qr 0 (bB (Op.bytesLess a.id.toList b.id.toList)) (by simp_all [y8])))))))
def I7 (c:Card) (out:List Card):Nat->Nat
 | 0=>0
 | k+1=>if y8 c.key (nth out k).key=true then I7 c out k else k+1
theorem b1o (c:Card) (out:l9C) (k:Nat):I7 c out k<=k:=by
 induction k with
 | zero=>simp only [I7]; omega
 | succ k ih=>simp only [I7]; split <;> omega
def Y3 (out:List Card) (c:Card):List Card:=(out.take (I7 c out out.length)++[c])++out.drop (I7 c out out.length)
theorem a7w (out:l9C) (c:Card):(Y3 out c).length=out.length+1:=by
 have:=b1o c out out.length
 simp [Y3]; omega
def G5 (l:List Card):List Card:=l.foldl Y3 []
theorem a3k (l:l9C):∀ (out:l9C),(l.foldl Y3 out).length=out.length+l.length:=by
 induction l with
 | nil=>intro out; simp
 | cons c l ih=>intro out; rw [List.foldl_cons,ih,a7w]; simp; omega
theorem b7D (l:l9C):(G5 l).length=l.length:=by rw [G5,a3k]; simp
def mI:Ann:={ own:=[34,41],gha:=[(1,.any 3 9),(8,.frz 3),(9,.cut 0)],fin:=some 0,live:=[(3,[3,7,8,9]),(6,[3,5,6,7,8,9])],out:=[(3,[3,7,8,9]),(6,[3,5,6,7,8,9])] }
@[simp] abbrev c5I (a:l9C) (b:Nat) (c:l9C) (d:Nat):Fr:=(mkF 44 [(3,(sA 9 (mC a))),(5,(oO 0 0 0 0)),(6,(iN b)),(7,(sA 9 (mC c))),(8,(iN c.length)),(9,(iN d))])
@[simp] abbrev cw_ :=(l8 Tryz.prog (X mI) (p9 Tryz.f203 1))
theorem a6J (l out:l9C) (i:Nat) (k:Nat) (c:Card) (hk:out.length<=1048576) (hi:i<=l.length) (hl:l.length < 1048576) (hk2:k<=out.length) {eX:Ex} {FX:Fr} {HX:Heap} (k1:(decide ((k:Int) > 0))=true->(y8 c.key (nth out (k - 1)).key)=true->j5 cw_ (some [3,5,6,7,8,9]) (some [3,5,6,7,8,9]) (mkF 44 [(3,(sA 9 (mC out))),(5,(oO 0 0 0 0)),(6,(iN (k - 1))),(7,(sA 9 (mC l))),(8,(iN l.length)),(9,(iN i))]) [(o_ 0 9 [(Card.row c)])] eX FX HX) (k2:(decide ((k:Int) > 0))=true->(y8 c.key (nth out (k - 1)).key)=false->((.exit 2:Ex),(c5I out k l i),[(o_ 0 9 [(Card.row c)])])=(eX,FX,HX)) (k3:(decide ((k:Int) > 0))=false->((.exit 2:Ex),(c5I out k l i),[(o_ 0 9 [(Card.row c)])])=(eX,FX,HX)):j5 cw_ (some [3,5,6,7,8,9]) (some [3,5,6,7,8,9]) (c5I out k l i) [(o_ 0 9 [(Card.row c)])] eX FX HX :=
 F7 (.r (.two (decide ((k:Int) > 0)) (fun h1 h1'=>(.u4 (.y 7 (.int .i64 (ck_ k)) (iN (k - 1)) Yes.o (.u (.is 8 9 9 (mC out) ((k - 1:Nat):Int) (Card.row (nth out (k - 1))) (J6.mk _ ow ow) (.u3 (.c 11 ((sW c.key (nth out (k - 1)).key).lift kr kr [(o_ 0 9 [(Card.row c)])]) (.g (.two (y8 c.key (nth out (k - 1)).key) (fun h2 h2'=>(.r (.y 1 (.int .i64 (ck_ k)) (iN (k - 1)) Yes.o (.g (.l (k1 h1 h2)))))) (fun h2 h2'=>(.l (k2 h1 h2)))))))))))) (fun h1 h1'=>(.n6 (.n2 (.g (.n (.l (k3 h1)))))))))
theorem b8m (l out:l9C) (i:Nat) (c:Card) (hk:out.length<=1048576) (hi:i<=l.length) (hl:l.length < 1048576) (k:Nat):∀ (kF:Nat),k<=out.length->kF=I7 c out k ->
 j5 (l8 Tryz.prog (X mI) (p9 Tryz.f203 1)) (some [3,5,6,7,8,9]) (some [3,5,6,7,8,9]) (mkF 44 [(3,(sA 9 (mC out))),(5,(oO 0 0 0 0)),(6,(iN k)),(7,(sA 9 (mC l))),(8,(iN l.length)),(9,(iN i))]) [(o_ 0 9 [(Card.row c)])] (.exit 2) (mkF 44 [(3,(sA 9 (mC out))),(5,(oO 0 0 0 0)),(6,(iN kF)),(7,(sA 9 (mC l))),(8,(iN l.length)),(9,(iN i))]) [(o_ 0 9 [(Card.row c)])]:=by
 induction k with
 | zero =>
  intro kF hk2 h
  refine a6J l out i 0 c hk hi hl hk2 (fun h1=>by simp at h1) (fun h1=>by simp at h1) fun _=>?_
  rw [h]; rfl
 | succ k ih =>
  intro kF hk2 h
  refine a6J l out i (k+1) c hk hi hl hk2 (fun _ h2=>?_) (fun _ h2=>?_) fun h1=>by simp at h1 <;> omega
  · simp only [Nat.add_sub_cancel] at h2
    exact ih kF ow (by rw [h]; simp only [I7,h2,if_true])
  · simp only [Nat.add_sub_cancel] at h2
    rw [h]; simp only [I7,h2,Bool.false_eq_true,if_false]
@[simp] abbrev d1v (a:l9C) (b:l9C) (c:Nat):Fr:=(mkF 44 [(3,(sA 9 (mC a))),(7,(sA 9 (mC b))),(8,(iN b.length)),(9,(iN c))])
@[simp] abbrev d1t (a:l9C) (b:l9C) (c:Nat):Fr:=(mkF 44 [(3,(sA 9 (mC a))),(5,(oO 0 0 0 0)),(6,(iN ((I7 (nth b c) a a.length)))),(7,(sA 9 (mC b))),(8,(iN b.length)),(9,(iN c))])
@[simp] abbrev b7i (a:l9C) (b:Nat) (c:l9C):Heap:=[(o_ 0 9 [(Card.row (nth a b))]),(o_ 1 9 (mC ((c.take (I7 (nth a b) c c.length))++[(nth a b)])))]
@[simp] abbrev d1s (a:l9C) (b:Nat) (c:l9C):Heap:=[(o_ 0 9 [(Card.row (nth a b))]),(o_ 2 9 (mC (((c.take (I7 (nth a b) c c.length))++[(nth a b)])++(c.drop (I7 (nth a b) c c.length)))))]
theorem pQ {p:Prop} (h:p:=by simp [List.map_take,List.map_drop,List.take_of_length_le]):p:=h
theorem U5 {p:Prop} (h:p:=by first | (simp [F4,List.map_take,List.map_drop,List.take_of_length_le]; done) | simp [F4,rU8,fI,a0O,b3H]):p:=h
theorem pO {p:Prop} (h:p:=by first | omega | (show _ * 88<=_; omega) | (simp; omega)):p:=h
@[simp] abbrev cx_ :=(l8 Tryz.prog (X mI) (p9 Tryz.f203 0))
@[reducible] def jP:TI:={ d:=.struct [(30,0),(3,2),(3,3),(2,4),(37,5),(4,8)],size:=9,bytes:=88,zero:=[.str ⟨#[]⟩,.str ⟨#[]⟩,.int .i64 0,.int .i64 0,.int .i64 0,.int .i64 0,.int .i64 0,.int .i64 0,.bool false] }
theorem a1U (l out:l9C) (i:Nat) (hk:out.length<=1048576) (hi:i<=l.length) (hl:l.length < 1048576) {eX:Ex} {FX:Fr} {HX:Heap} (k1:(decide ((i:Int) < (l.length:Int)))=true->j5 cx_ (some [3,7,8,9]) (some [3,7,8,9]) (mkF 44 [(3,(sA 9 (mC (((out.take (I7 (nth l i) out out.length))++[(nth l i)])++(out.drop (I7 (nth l i) out out.length)))))),(7,(sA 9 (mC l))),(8,(iN l.length)),(9,(iN (i+1)))]) [] eX FX HX) (k2:(decide ((i:Int) < (l.length:Int)))=false->((.exit 0:Ex),(d1v out l i),[])=(eX,FX,HX)):j5 cx_ (some [3,7,8,9]) (some [3,7,8,9]) (d1v out l i) [] eX FX HX:=by
 have hp:=b1o (nth l i) out out.length
 exact F7 (.r (.g (.two (decide ((i:Int) < (l.length:Int))) (fun h1 h1'=>(.r (.h' [(o_ 0 9 [[e_,e_,z_,z_,z_,z_,z_,z_,bF]])] (.is 0 9 9 (mC l) (i:Int) (Card.row (nth l i)) (J6.mk _ ow ow) (.s (.h' [(o_ 0 9 [(Card.row (nth l i))])] (.y 1 (.int .i64 ((List.length (mC out):Nat):Int)) (iN out.length) (Yes.len _ _ _) (.g (.loop (d1t out l i) (show j5 cw_ (some [3,5,6,7,8,9]) (some [3,5,6,7,8,9]) (mkF 44 [(3,(sA 9 (mC out))),(5,(oO 0 0 0 0)),(6,(iN out.length)),(7,(sA 9 (mC l))),(8,(iN l.length)),(9,(iN i))]) [(o_ 0 9 [(Card.row (nth l i))])] (.exit 2) (d1t out l i) [(o_ 0 9 [(Card.row (nth l i))])] from (b8m l out i (nth l i) hk hi hl (List.length out) _ ow rfl)) (.r (.t 3 (sA 9 (mC (out.take (I7 (nth l i) out out.length)))) [(o_ 0 9 [(Card.row (nth l i))])] (dR (l:=0) (h:=(I7 (nth l i) out out.length)) om om om om pQ:Option.map (fun a=>(a,([(o_ 0 9 [(Card.row (nth l i))])]:Heap))) (if 9=9\/((mC out)).isEmpty=true then (bounds 0 (((I7 (nth l i) out out.length):Nat):Int) (List.length (mC out))).map fun p=>sA 9 ((List.take p.2 (mC out)).drop p.1) else none)=some ((sA 9 (mC (out.take (I7 (nth l i) out out.length)))),([(o_ 0 9 [(Card.row (nth l i))])]:Heap))) (.ao 4 32 (AV.sl .clip 9 []) (sA 9 (mC (out.take (I7 (nth l i) out out.length)))) (AV.osl 1 0 9 0 (out.take (I7 (nth l i) out out.length)).length) [(o_ 0 9 [(Card.row (nth l i))]),(o_ 0 9 (mC (out.take (I7 (nth l i) out out.length))))] (N8 (T:=tt) (e:=39) (te:=jP) (z:=1) (b:=24) (y:=[.sl .nil 0 []]) (row:=Card.row) kr kr rfl z8 z8 yf_ U5 rfl rfl rfl om) (.ap 7 32 (AV.osl 1 0 9 0 (out.take (I7 (nth l i) out out.length)).length) (AV.sl .clip 9 [(Card.row (nth l i))]) (AV.osl 1 1 9 0 ((out.take (I7 (nth l i) out out.length)).length+1)) (b7i l i out) (G9 (row:=Card.row) (l:=out.take (I7 (nth l i) out out.length)) (x:=(nth l i)) (T:=tt) (e:=39) (te:=jP) (z:=1) (b:=24) (y:=[.sl .nil 0 []]) kr kr rfl z8 z8 kr aV rfl rfl pO) (.t 10 (sA 9 (mC (out.drop (I7 (nth l i) out out.length)))) (b7i l i out) (dR (l:=(I7 (nth l i) out out.length)) (h:=(List.length out)) om om om om pQ:Option.map (fun a=>(a,(b7i l i out))) (if 9=9\/((mC out)).isEmpty=true then (bounds (((I7 (nth l i) out out.length):Nat):Int) ((List.length (mC out):Nat):Int) (List.length (mC out))).map fun p=>sA 9 ((List.take p.2 (mC out)).drop p.1) else none)=some ((sA 9 (mC (out.drop (I7 (nth l i) out out.length)))),(b7i l i out))) (.ao 11 32 (AV.osl 1 1 9 0 ((out.take (I7 (nth l i) out out.length)).length+1)) (sA 9 (mC (out.drop (I7 (nth l i) out out.length)))) (AV.osl 1 2 9 0 (((out.take (I7 (nth l i) out out.length)).length+1)+(out.drop (I7 (nth l i) out out.length)).length)) (d1s l i out) (F3 (T:=tt) (e:=39) (te:=jP) (z:=1) (b:=24) (y:=[.sl .nil 0 []]) (row:=Card.row) (l:=(out.take (I7 (nth l i) out out.length))++[(nth l i)]) kr kr rfl z8 z8 kr U5 om rfl rfl (by first | omega | (show _ * 88<=_; omega) | (simp; done) | (simp; omega))) (.rd (co_ l i) [(o_ 0 9 [(Card.row (nth l i))])] (.w' 3 (mC (((out.take (I7 (nth l i) out out.length))++[(nth l i)])++(out.drop (I7 (nth l i) out out.length)))) (And.intro (H9 (room:=none) kr om) (Card.o9 _ _):F4 (d1s l i out) 9 (AV.osl 1 2 9 0 (((out.take (I7 (nth l i) out out.length)).length+1)+(out.drop (I7 (nth l i) out out.length)).length))=some (mC (((out.take (I7 (nth l i) out out.length))++[(nth l i)])++(out.drop (I7 (nth l i) out out.length))))/\AV.D5 0 (mC (((out.take (I7 (nth l i) out out.length))++[(nth l i)])++(out.drop (I7 (nth l i) out out.length))))=true) (.s (.h' [(o_ 0 9 [(Card.row (nth l i))]),(o_ 3 9 [])] (.y 0 (.int .i64 (cb_ i)) (iN (i+1)) Yes.o (.h' [] (.b 0 (.g (.l (k1 h1))))))))))))))))))))))))) (fun h1 h1'=>(.l (k2 h1))))))
theorem b2U (l:l9C) (r:Nat):∀ (i:Nat) (out outF:l9C),i+r=l.length->out.length=i->l.length < 1048576->outF=(l.drop i).foldl Y3 out ->
 j5 (l8 Tryz.prog (X mI) (p9 Tryz.f203 0)) (some [3,7,8,9]) (some [3,7,8,9]) (mkF 44 [(3,(sA 9 (mC out))),(7,(sA 9 (mC l))),(8,(iN l.length)),(9,(iN i))]) [] (.exit 0) (mkF 44 [(3,(sA 9 (mC outF))),(7,(sA 9 (mC l))),(8,(iN l.length)),(9,(iN l.length))]) []:=by
 induction r with
 | zero =>
  intro i out outF hi hk hl h
  refine a1U l out i ow ow hl (fun h=>by simp at h; omega) fun _=>?_
  have:l.drop i=[]:=List.drop_of_length_le ow
  rw [this] at h
  have e3:i=l.length:=by omega
  rw [h,e3]
  rfl
 | succ r ih =>
  intro i out outF hi hk hl h
  rw [Y4 ow,List.foldl_cons] at h
  refine a1U l out i ow ow hl (fun _=>?_) fun h=>by simp at h; omega
  exact ih (i+1) (Y3 out (nth l i)) outF ow (by rw [a7w]; omega) hl h
@[simp] abbrev d1r (a:l9C):Fr:=(mkF 44 [(3,(sA 9 (mC (G5 a)))),(7,(sA 9 (mC a))),(8,(iN a.length)),(9,(iN a.length))])
theorem b2T (l:l9C) (hl:l.length < 1048576):AC 203 [(sA 9 (mC l))] [] ((sA 9 (mC (G5 l))),[]) :=
 o8 (fn:=Tryz.f203) (ann:=mI) (Has.o Tryz.func203) (.r (.s (.s (.y 1 (.int .i64 ((List.length (mC l):Nat):Int)) (iN l.length) (Yes.len _ _ _) (.g (.loop (d1r l) (show j5 cx_ (some [3,7,8,9]) (some [3,7,8,9]) (mkF 44 [(3,(sA 9 [])),(7,(sA 9 (mC l))),(8,(iN l.length)),(9,z_)]) [] (.exit 0) (d1r l) [] from (b2U l (List.length l) 0 [] _ ow rfl hl rfl)) (.qr 0 (sA 9 (mC (G5 l))))))))))
attribute [local irreducible] G5 I7 Y3 y8
def b1b:Ann:={ gha:=[(2,.vir 2 9)],fin:=some 1 }
theorem a8e  :AC 201 [(AV.sl .nil 0 [])] [] ((AV.osl 0 0 9 0 0),[(o_ 0 9 (mC []))]) :=
 o8 (fn:=Tryz.f201) (ann:=b1b) (Has.o Tryz.func201) (.r (.s (.ru (.g (.h' [(o_ 0 9 (mC []))] (.q 1 (AV.osl 0 0 9 0 0)))))))
def b1a:Ann:={ own:=[7],fin:=some 1 }
theorem a8d (l:l9C) (hl:l.length < 1099511627776):AC 201 [(AV.sl .op 9 (mC l))] [] ((AV.osl 0 0 9 0 l.length),[(o_ 0 9 (mC l))]) :=
 o8 (fn:=Tryz.f201) (ann:=b1a) (Has.o Tryz.func201) (.r (.s (.rn (.ao 2 32 (AV.sl .clip 9 []) (AV.sl .op 9 (mC l)) (AV.osl 0 0 9 0 l.length) [(o_ 0 9 (mC l))] (N8 (T:=tt) (e:=39) (te:=jP) (z:=1) (b:=24) (y:=[.sl .nil 0 []]) (row:=Card.row) kr kr rfl z8 z8 yf_ U5 rfl rfl rfl om) (.q 1 (AV.osl 0 0 9 0 l.length))))))
theorem b0Z (l:l9C) (hl:l.length < 1099511627776):AC 201 [(sA 9 (mC l))] [] ((AV.osl 0 0 9 0 l.length),[(o_ 0 9 (mC l))]):=l6.a5v (fun h=>by
 have h2:l=[]:=by simpa using h
 subst h2; exact a8e) (a8d l hl)
theorem c0w (l:l9C) (hl:l.length < 1099511627776) (H:Heap):AC 201 [(sA 9 (mC l))] H (.osl H.length 0 9 0 l.length,H++([(o_ 0 9 (mC l))]:Heap)):=(b0Z l hl).vT kr (by simp [AV.D5,Card.o9]) H
def a9x:Ann:={ refs:=[2,3],fin:=some 0 }
theorem a6n (a b:Card) :AC 221 [(AV.agg (Card.row a)),(AV.agg (Card.row b))] [] ((iI (U6 a.key b.key)),[]) :=
 o8 (fn:=Tryz.f221) (ann:=a9x) (Has.o Tryz.func221) (.r (.s (.c 4 ((a0w a.key b.key).lift kr kr []) (.q 0 (iI (U6 a.key b.key))))))
theorem b2h (a b:Card)  (H:Heap):AC 221 [(AV.agg (Card.row a)),(AV.agg (Card.row b))] H ((iI (U6 a.key b.key)),H):=(a6n a b ).lift kr kr H
def c0x:Ann:={ fin:=some 0 }
theorem b5p (l:l9C) (hl:l.length < 1099511627776):AC 222 [(sA 9 (mC l))] [] ((AV.sl .cn 9 (mC l)),[]) :=
 o8 (fn:=Tryz.f222) (ann:=c0x) (Has.o Tryz.func222) (.r (.s (.y 2 (.int .i64 ((List.length (mC l):Nat):Int)) (iN l.length) (Yes.len _ _ _) (.y 4 (.int .i64 ((List.length (mC l):Nat):Int)) (iN l.length) (Yes.len _ _ _) (.t 5 (AV.sl .cn 9 (mC l)) [] (a4b (l:=0) (h:=l.length) om om om om pQ (by first | rfl | omega | (simp; done) | (simp; omega)):Option.map (fun a=>(a,([]:Heap))) (if 9=9\/((mC l)).isEmpty=true then (if ((l.length:Int):Int)=(l.length:Int) then (bounds 0 (l.length:Int) (List.length (mC l))).map fun p=>AV.sl .cn 9 ((List.take p.2 (mC l)).drop p.1) else none) else none)=some ((AV.sl .cn 9 (mC l)),([]:Heap))) (.q 0 (AV.sl .cn 9 (mC l))))))))
def R7 (l:List Card):List Card:=u7 (fun a b=>U6 a.key b.key) 0 (l.length - 1) 1 l
theorem a3X (l:l9C):(R7 l).length=l.length:=by unfold R7; rw [bJ]
def a5c:Ann:={ gha:=[(2,.frz 3)],fin:=some 0 }
def l7.eqb (a b:l7):Bool:=(a.t == b.t)&&((a.node == b.node)&&((a.n == b.n)&&true))
def Card.eqb (a b:Card):Bool:=(Key.eqb a.key b.key)&&((a.status == b.status)&&((a.over == b.over)&&((a.lease == b.lease)&&((l7.eqb a.stamp b.stamp)&&((a.gone == b.gone)&&true)))))
theorem Key.dZ (a:Key):Key.eqb a a=true:=by simp [Key.eqb]
theorem Card.dZ (a:Card):Card.eqb a a=true:=by simp [Card.eqb,l7.eqb,Key.eqb]
def qR:Ann:={ fin:=some 0,live:=[(4,[0,1,12,13])],out:=[(4,[0,1,12,13])] }
@[simp] abbrev b7h (a:l9C) (b:l9C) (c:Nat):Fr:=(mkF 26 [(0,(sA 9 (mC a))),(1,(sA 9 (mC b))),(12,(iN a.length)),(13,(iN c))])
theorem a1M (a:l9C) (b:l9C)  (i:Nat) (hl:a.length < 1099511627776) (hb:a.length=b.length) (hle_:i<=a.length) {eX:Ex} {FX:Fr} {HX:Heap} (k1:(decide ((i:Int) < (a.length:Int)))=true->(!(Card.eqb (nth a i) (nth b i)))=true->((.ret:Ex),(b7h a b i),[])=(eX,FX,HX)) (k2:(decide ((i:Int) < (a.length:Int)))=true->(!(Card.eqb (nth a i) (nth b i)))=false->j5 (l8 Tryz.prog (X qR) (p9 Tryz.f68 0)) (some [0,1,12,13]) (some [0,1,12,13]) (mkF 26 [(0,(sA 9 (mC a))),(1,(sA 9 (mC b))),(12,(iN a.length)),(13,(iN (i+1)))]) [] eX FX HX) (k3:(decide ((i:Int) < (a.length:Int)))=false->((.exit 0:Ex),(b7h a b i),[])=(eX,FX,HX)):j5 (l8 Tryz.prog (X qR) (p9 Tryz.f68 0)) (some [0,1,12,13]) (some [0,1,12,13]) (b7h a b i) [] eX FX HX :=
 F7 (.r (.g (.two (decide ((i:Int) < (a.length:Int))) (fun h1 h1'=>(.r (.s (.is 2 9 9 (mC a) (i:Int) (Card.row (nth a i)) (J6.mk _ ow ow) (.is 6 9 9 (mC b) (i:Int) (Card.row (nth b i)) (J6.mk _ ow ow) (.g (.two (!(Card.eqb (nth a i) (nth b i))) (fun h2 h2'=>(.r (.g (.l (k1 h1 h2))))) (fun h2 h2'=>(.r (.y 0 (.int .i64 (cb_ i)) (iN (i+1)) Yes.o (.g (.l (k2 h1 h2))))))))))))) (fun h1 h1'=>(.l (k3 h1))))))
def zJ (a:List Card) (b:List Card) (i:Nat) (s:Unit):Unit:=()
def a4i (a:List Card) (b:List Card)  (i:Nat):Prop:=(((decide ((i:Int) < (a.length:Int)))=true)/\((!(Card.eqb (nth a i) (nth b i)))=true))
@[simp] abbrev c7l (a:l9C) (b:l9C):Fr:=(mkF 26 [(0,(sA 9 (mC a))),(1,(sA 9 (mC b))),(12,(iN a.length)),(13,(iN a.length))])
theorem b1W {p:Prop} (h:p:=by have hb_:=hbad i ow; (try rw [<- hs_] at hb_); exact hb_ (⟨h1,h2⟩)):p:=h
theorem b2A (a:l9C) (b:l9C) (hl:a.length < 1099511627776) (hb:a.length=b.length)  (hbad:∀ (i:Nat),i < a.length->¬ a4i a b  i) (r_:Nat):∀  (i:Nat) (sF:Unit),i+r_=a.length->()=(iter (zJ a b) i 0 ())->sF=iter (zJ a b) r_ i () ->
 j5 (l8 Tryz.prog (X qR) (p9 Tryz.f68 0)) (some [0,1,12,13]) (some [0,1,12,13]) (b7h a b i) [] (.exit 0) (c7l a b) []:=by
 induction r_ with
 | zero =>
  intro  i sF hi_  hs_ hF
  obtain rfl:a.length=i:=by omega
  have e_:sF=():=hF
  refine a1M a b  a.length hl hb (Nat.le_refl _) (fun h _=>by simp at h <;> omega) (fun h _=>by simp at h <;> omega) (fun _=>?_)
  first | done | rfl | (rw [e_]; done) | (rw [e_]; rfl)
 | succ r_ ih =>
  intro  i sF hi_  hs_ hF
  refine a1M a b  i hl hb ow (fun h1 h2=>?_) (fun h1 h2=>?_) (fun h=>by simp at h <;> omega)
  · exact False.elim b1W
  · exact ih  (i+1) sF ow  (by rw [mM,<- hs_] <;> simp only [zJ,h2,if_true,Bool.false_eq_true,if_false]) (by rw [hF] <;> simp only [iter,zJ,h2,if_true,Bool.false_eq_true,if_false])
theorem vB (a b:l9C) (hl:a.length < 1099511627776) (h:a=b):AC 68 [(sA 9 (mC a)),(sA 9 (mC b))] [] (bT,[]):=by
 have hb:a.length=b.length:=by rw [h]
 exact o8 (fn:=Tryz.f68) (ann:=qR) (Has.o Tryz.func68) (.r (.s (.y 1 (.int .i64 ((List.length (mC a):Nat):Int)) (iN a.length) (Yes.len _ _ _) (.y 3 (.int .i64 ((List.length (mC b):Nat):Int)) (iN b.length) (Yes.len _ _ _) (.y 4 (bB ((a.length:Int) != (b.length:Int))) bF (Yes.b (by rw [hb]; simp)) (.rn (.y 1 (.int .i64 ((List.length (mC a):Nat):Int)) (iN a.length) (Yes.len _ _ _) (.g (.loop (c7l a b) (b2A a b hl hb (fun i hi=>by subst h; simp [a4i,Card.dZ]) (List.length a) 0 () ow rfl rfl) (.qr 0 bT))))))))))
def qQ:Ann:={ fin:=some 0,live:=[(4,[0,1,12,13])],out:=[(4,[0,1,12,13])] }
@[simp] abbrev a5P (a:l9K) (b:l9K) (c:Nat):Fr:=(mkF 26 [(0,(sA 2 (mK a))),(1,(sA 2 (mK b))),(12,(iN a.length)),(13,(iN c))])
theorem a1L (a:l9K) (b:l9K)  (i:Nat) (hl:a.length < 1099511627776) (hb:a.length=b.length) (hle_:i<=a.length) {eX:Ex} {FX:Fr} {HX:Heap} (k1:(decide ((i:Int) < (a.length:Int)))=true->(!(Key.eqb (nth a i) (nth b i)))=true->((.ret:Ex),(a5P a b i),[])=(eX,FX,HX)) (k2:(decide ((i:Int) < (a.length:Int)))=true->(!(Key.eqb (nth a i) (nth b i)))=false->j5 (l8 Tryz.prog (X qQ) (p9 Tryz.f140 0)) (some [0,1,12,13]) (some [0,1,12,13]) (mkF 26 [(0,(sA 2 (mK a))),(1,(sA 2 (mK b))),(12,(iN a.length)),(13,(iN (i+1)))]) [] eX FX HX) (k3:(decide ((i:Int) < (a.length:Int)))=false->((.exit 0:Ex),(a5P a b i),[])=(eX,FX,HX)):j5 (l8 Tryz.prog (X qQ) (p9 Tryz.f140 0)) (some [0,1,12,13]) (some [0,1,12,13]) (a5P a b i) [] eX FX HX :=
 F7 (.r (.g (.two (decide ((i:Int) < (a.length:Int))) (fun h1 h1'=>(.r (.s (.is 2 2 2 (mK a) (i:Int) (Key.row (nth a i)) (J6.mk _ ow ow) (.is 6 2 2 (mK b) (i:Int) (Key.row (nth b i)) (J6.mk _ ow ow) (.g (.two (!(Key.eqb (nth a i) (nth b i))) (fun h2 h2'=>(.r (.g (.l (k1 h1 h2))))) (fun h2 h2'=>(.r (.y 0 (.int .i64 (cb_ i)) (iN (i+1)) Yes.o (.g (.l (k2 h1 h2))))))))))))) (fun h1 h1'=>(.l (k3 h1))))))
def zH (a:List Key) (b:List Key) (i:Nat) (s:Unit):Unit:=()
def a4h (a:List Key) (b:List Key)  (i:Nat):Prop:=(((decide ((i:Int) < (a.length:Int)))=true)/\((!(Key.eqb (nth a i) (nth b i)))=true))
@[simp] abbrev c7k (a:l9K) (b:l9K):Fr:=(mkF 26 [(0,(sA 2 (mK a))),(1,(sA 2 (mK b))),(12,(iN a.length)),(13,(iN a.length))])
theorem b2z (a:l9K) (b:l9K) (hl:a.length < 1099511627776) (hb:a.length=b.length)  (hbad:∀ (i:Nat),i < a.length->¬ a4h a b  i) (r_:Nat):∀  (i:Nat) (sF:Unit),i+r_=a.length->()=(iter (zH a b) i 0 ())->sF=iter (zH a b) r_ i () ->
 j5 (l8 Tryz.prog (X qQ) (p9 Tryz.f140 0)) (some [0,1,12,13]) (some [0,1,12,13]) (a5P a b i) [] (.exit 0) (c7k a b) []:=by
 induction r_ with
 | zero =>
  intro  i sF hi_  hs_ hF
  obtain rfl:a.length=i:=by omega
  have e_:sF=():=hF
  refine a1L a b  a.length hl hb (Nat.le_refl _) (fun h _=>by simp at h <;> omega) (fun h _=>by simp at h <;> omega) (fun _=>?_)
  first | done | rfl | (rw [e_]; done) | (rw [e_]; rfl)
 | succ r_ ih =>
  intro  i sF hi_  hs_ hF
  refine a1L a b  i hl hb ow (fun h1 h2=>?_) (fun h1 h2=>?_) (fun h=>by simp at h <;> omega)
  · exact False.elim b1W
  · exact ih  (i+1) sF ow  (by rw [mM,<- hs_] <;> simp only [zH,h2,if_true,Bool.false_eq_true,if_false]) (by rw [hF] <;> simp only [iter,zH,h2,if_true,Bool.false_eq_true,if_false])
theorem b2y (a b:l9K) (hl:a.length < 1099511627776) (h:a=b):AC 140 [(sA 2 (mK a)),(sA 2 (mK b))] [] (bT,[]):=by
 have hb:a.length=b.length:=by rw [h]
 exact o8 (fn:=Tryz.f140) (ann:=qQ) (Has.o Tryz.func140) (.r (.s (.y 1 (.int .i64 ((List.length (mK a):Nat):Int)) (iN a.length) (Yes.len _ _ _) (.y 3 (.int .i64 ((List.length (mK b):Nat):Int)) (iN b.length) (Yes.len _ _ _) (.y 4 (bB ((a.length:Int) != (b.length:Int))) bF (Yes.b (by rw [hb]; simp)) (.rn (.y 1 (.int .i64 ((List.length (mK a):Nat):Int)) (iN a.length) (Yes.len _ _ _) (.g (.loop (c7k a b) (b2z a b hl hb (fun i hi=>by subst h; simp [a4h,Key.dZ]) (List.length a) 0 () ow rfl rfl) (.qr 0 bT))))))))))
theorem vY {α β:Type} (p:α->Bool) (f:α->β) (l:List α):∀ (out:List β) (k g:Nat),
 l.foldl (fun (s:List β × Nat × Nat) c=>if p c=true then (s.1++[f c],s.2.1+1,s.2.2+1) else s) (out,k,g)=(out++(l.filter p).map f,k+((l.filter p).map f).length,g+((l.filter p).map f).length):=by
 induction l with
 | nil=>intro out k g; simp
 | cons c l ih =>
  intro out k g
  rw [List.foldl_cons]
  by_cases h:p c=true
  · rw [if_pos h,ih]; simp [List.filter_cons,h]; omega
  · rw [if_neg h,ih]; simp [List.filter_cons,h]
def D8 (s:ByteArray):List Int:=s.data.toList.map fun b=>(b.toNat:Int)
theorem fE (s:ByteArray):(D8 s).length=s.size:=by unfold D8; rw [List.length_map]; rfl
theorem a0M (H:Heap) (s:ByteArray):F4 H 1 (.str s)=some ((D8 s).map rU8):=by
 simp [F4,D8,rU8,Function.comp_def]
theorem a4a {H:Heap} {s:ByteArray} {lo hi:Int} {l h:Nat} (hlo:lo=(l:Int)) (hhi:hi=(h:Int)) (h1:l<=h) (h2:h<=s.size) :
 Option.map (fun a=>(a,H)) ((bounds lo hi s.size).map fun p=>AV.str (s.extract p.1 p.2))=some (.str (s.extract l h),H):=by
 subst hlo hhi
 unfold bounds
 rw [if_pos ⟨by omega,by omega,by omega⟩]
 simp
attribute [local irreducible] R7 U6
def b1e:Ann:={ gha:=[(2,.vir 2 1)],fin:=some 1 }
theorem a8g  :AC 242 [(AV.sl .nil 0 [])] [] ((AV.osl 0 0 1 0 0),[(o_ 0 1 (List.map rU8 []))]) :=
 o8 (fn:=Tryz.f242) (ann:=b1e) (Has.o Tryz.func242) (.r (.s (.ru (.g (.h' [(o_ 0 1 (List.map rU8 []))] (.q 1 (AV.osl 0 0 1 0 0)))))))
def b1d:Ann:={ own:=[7],fin:=some 1 }
@[simp] abbrev cy_ (a:List Int):=(AV.osl 0 0 1 0 a.length)
@[reducible] def aW:TI:={ d:=.int .u8,size:=1,bytes:=1,zero:=[.int .u8 0] }
theorem a8f (l:List Int) (hl:l.length < 1099511627776):AC 242 [(AV.sl .op 1 (List.map rU8 l))] [] ((cy_ l),[(o_ 0 1 (List.map rU8 l))]) :=
 o8 (fn:=Tryz.f242) (ann:=b1d) (Has.o Tryz.func242) (.r (.s (.rn (.ao 2 249 (AV.sl .clip 1 []) (AV.sl .op 1 (List.map rU8 l)) (cy_ l) [(o_ 0 1 (List.map rU8 l))] (N8 (T:=tt) (e:=5) (te:=aW) (z:=1) (b:=24) (y:=[.sl .nil 0 []]) (row:=rU8) kr kr rfl z8 z8 yf_ U5 rfl rfl rfl om) (.q 1 (cy_ l))))))
theorem b1c (l:List Int) (hl:l.length < 1099511627776):AC 242 [(sA 1 (List.map rU8 l))] [] ((AV.osl 0 0 1 0 l.length),[(o_ 0 1 (List.map rU8 l))]):=l6.a5v (fun h=>by
 have h2:l=[]:=by simpa using h
 subst h2; exact a8g) (a8f l hl)
theorem a4S (l:List Int) (hl:l.length < 1099511627776) (H:Heap):AC 242 [(sA 1 (List.map rU8 l))] H (.osl H.length 0 1 0 l.length,H++([(o_ 0 1 (List.map rU8 l))]:Heap)):=(b1c l hl).vT kr (by simp [AV.D5,iE]) H
def J5 (b:List Int) (n:Int):List Int:=b++[IntKind.u8.wrap n]
theorem bK (b:List Int) (n:Int):(J5 b n).length=b.length+1:=by simp [J5]
def c0A:Ann:={ own:=[10],fin:=some 1 }
theorem dP {p:Prop} (h:p:=by first | omega | (show _ * 1<=_; omega) | (simp; done) | (simp; omega)):p:=h
@[simp] abbrev cz_ (a:List Int):=(AV.osl 0 1 1 0 (a.length+1))
theorem a2x (b:List Int) (n:Int) (hb:b.length < 1048576):AC 235 [(sA 1 (List.map rU8 b)),(iI n)] [] ((AV.osl 0 1 1 0 (J5 b n).length),[(o_ 1 1 (List.map rU8 (J5 b n)))]):=by
 have hB:=bK b n
 exact o8 (fn:=Tryz.f235) (ann:=c0A) (Has.o Tryz.func235) (.r (.s (.ch 1 [(o_ 0 1 (List.map rU8 b))] (a4S b oa []) (.ao 5 249 (cy_ b) (AV.sl .clip 1 [[(AV.int .u8 (IntKind.u8.wrap n))]]) (cz_ b) [(o_ 1 1 (List.map rU8 (b++[(IntKind.u8.wrap n)])))] (F3 (T:=tt) (e:=5) (te:=aW) (z:=1) (b:=24) (y:=[.sl .nil 0 []]) (row:=rU8) (l:=b) kr kr rfl z8 z8 kr U5 om rfl rfl dP) (.q 1 (cz_ b) (by simp [J5]))))))
theorem c4N (b:List Int) (n:Int) (hb:b.length < 1048576) (H:Heap):AC 235 [(sA 1 (List.map rU8 b)),(iI n)] H (.osl H.length 1 1 0 (J5 b n).length,H++([(o_ 1 1 (List.map rU8 (J5 b n)))]:Heap)):=(a2x b n hb).vT kr (by simp [AV.D5,iE]) H
theorem b1V {p:Prop} (h:p:=by first | omega | simp):p:=h
theorem b6b (b:List Int) (n:Int) (hb:b.length < 1048576):AC 235 [(sA 1 (List.map rU8 b)),(iI n)] [] ((sA 1 (List.map rU8 (J5 b n))),[]):=by
 have h1:=(a2x b n hb).zN (xs:=(J5 b n).map rU8) (H9 (room:=none) kr b1V) (iE _ _)
 exact l6.forget (H2:=[]) (X:=[(o_ 2 1 [])]) h1 rfl kr (fun id o ho=>by simp at ho)
def qG (s:ByteArray):ByteArray:=ByteArray.extract s 0 (min s.size 255)
theorem a4P (s:ByteArray):(qG s).size=min s.size 255:=by simp [qG]
def I8 (b:List Int) (s:ByteArray):List Int:=J5 b (qG s).size++D8 (qG s)
theorem fC (b:List Int) (s:ByteArray):(I8 b s).length<=b.length+256:=by
 have:=a4P s
 simp only [I8,List.length_append,bK,fE]; omega
def b7w:Ann:={ own:=[15],fin:=some 1 }
@[simp] abbrev c9N (a:List Int) (b:ByteArray):=(AV.osl 0 2 1 0 ((J5 a (((ByteArray.extract b 0 (min b.size 255)).size:Nat):Int)).length+(D8 (ByteArray.extract b 0 (min b.size 255))).length))
theorem b2a (b:List Int) (s:ByteArray) (hb:b.length < 1048576):AC 236 [(sA 1 (List.map rU8 b)),(AV.str s)] [] ((AV.osl 0 2 1 0 (I8 b s).length),[(o_ 2 1 (List.map rU8 (I8 b s)))]):=by
 have hT:=fC b s
 have h7:(ByteArray.extract s 0 (min s.size 255)).size=min s.size 255:=a4P s
 have h5:=bK b ((min s.size 255:Nat):Int)
 have h6:=fE (ByteArray.extract s 0 (min s.size 255))
 exact o8 (fn:=Tryz.f236) (ann:=b7w) (Has.o Tryz.func236) (.r (.s (.y 3 (.int .i64 (if 255 < (s.size:Int) then 255 else (s.size:Int))) (iN (min s.size 255)) (Yes.int yw_) (.t 4 (AV.str (ByteArray.extract s 0 (min s.size 255))) [] (a4a om om om om:Option.map (fun a=>(a,([]:Heap))) ((bounds 0 ((min s.size 255:Nat):Int) (ByteArray.size s)).map fun p=>AV.str (ByteArray.extract s p.1 p.2))=some ((AV.str (ByteArray.extract s 0 (min s.size 255))),([]:Heap))) (.s (.ch 3 [(o_ 1 1 (List.map rU8 (J5 b (((ByteArray.extract s 0 (min s.size 255)).size:Nat):Int))))] (c4N b (((ByteArray.extract s 0 (min s.size 255)).size:Nat):Int) oa []) (.ao 5 249 (AV.osl 0 1 1 0 (J5 b (((ByteArray.extract s 0 (min s.size 255)).size:Nat):Int)).length) (AV.str (ByteArray.extract s 0 (min s.size 255))) (c9N b s) [(o_ 2 1 (List.map rU8 ((J5 b (((ByteArray.extract s 0 (min s.size 255)).size:Nat):Int))++(D8 (ByteArray.extract s 0 (min s.size 255))))))] (F3 (T:=tt) (e:=5) (te:=aW) (z:=1) (b:=24) (y:=[.sl .nil 0 []]) (row:=rU8) (l:=(J5 b (((ByteArray.extract s 0 (min s.size 255)).size:Nat):Int))) kr kr rfl z8 z8 kr (a0M _ _) om rfl rfl dP) (.q 1 (c9N b s) (by simp [I8,qG,J5,fE] <;> omega)))))))))
theorem a1w (b:List Int) (s:ByteArray) (hb:b.length < 1048576):AC 236 [(sA 1 (List.map rU8 b)),(AV.str s)] [] ((sA 1 (List.map rU8 (I8 b s))),[]):=by
 have h1:=(b2a b s hb).zN (xs:=(I8 b s).map rU8) (H9 (room:=none) kr b1V) (iE _ _)
 exact l6.forget (H2:=[]) (X:=[(o_ 3 1 [])]) h1 rfl kr (fun id o ho=>by simp at ho)
def c0y:Ann:={ fin:=some 0 }
@[simp] abbrev b6a (a:List Int):=(AV.sl .cn 1 (List.map rU8 a))
theorem b5q (l:List Int) (hl:l.length < 1099511627776):AC 243 [(sA 1 (List.map rU8 l))] [] ((b6a l),[]) :=
 o8 (fn:=Tryz.f243) (ann:=c0y) (Has.o Tryz.func243) (.r (.s (.y 2 (.int .i64 ((List.length (List.map rU8 l):Nat):Int)) (iN l.length) (Yes.len _ _ _) (.y 4 (.int .i64 ((List.length (List.map rU8 l):Nat):Int)) (iN l.length) (Yes.len _ _ _) (.t 5 (b6a l) [] (a4b (l:=0) (h:=l.length) om om om om pQ (by first | rfl | omega | (simp; done) | (simp; omega)):Option.map (fun a=>(a,([]:Heap))) (if 1=1\/((List.map rU8 l)).isEmpty=true then (if ((l.length:Int):Int)=(l.length:Int) then (bounds 0 (l.length:Int) (List.length (List.map rU8 l))).map fun p=>AV.sl .cn 1 ((List.take p.2 (List.map rU8 l)).drop p.1) else none) else none)=some ((b6a l),([]:Heap))) (.q 0 (b6a l)))))))
def eU (n:Int) (k:Nat):Int:=IntKind.u8.wrap (Int.fdiv n (2 ^ (min (Int.toNat (8 * k:Nat)) 64)))
def gI (b:List Int) (n:Int):List Int:=b++[eU n 7,eU n 6,eU n 5,eU n 4,eU n 3,eU n 2,eU n 1,eU n 0]
theorem c3q (b:List Int) (n:Int):(gI b n).length=b.length+8:=by simp [gI]
def c3r:Ann:={ own:=[20],gh:=[(6,.frz 5)],fin:=some 0 }
@[simp] abbrev U7 (a:Int):=(IntKind.u8.wrap (Int.fdiv a (2 ^ (min (Int.toNat 56) 64))))
@[simp] abbrev X9 (a:Int):=(IntKind.u8.wrap (Int.fdiv a (2 ^ (min (Int.toNat 48) 64))))
@[simp] abbrev aD (a:Int):=(IntKind.u8.wrap (Int.fdiv a (2 ^ (min (Int.toNat 40) 64))))
@[simp] abbrev bA (a:Int):=(IntKind.u8.wrap (Int.fdiv a (2 ^ (min (Int.toNat 32) 64))))
@[simp] abbrev eT (a:Int):=(IntKind.u8.wrap (Int.fdiv a (2 ^ (min (Int.toNat 24) 64))))
@[simp] abbrev iP (a:Int):=(IntKind.u8.wrap (Int.fdiv a (2 ^ (min (Int.toNat 16) 64))))
@[simp] abbrev oC (a:Int):=(IntKind.u8.wrap (Int.fdiv a (2 ^ (min (Int.toNat 8) 64))))
@[simp] abbrev yU (a:Int):=(IntKind.u8.wrap (Int.fdiv a (2 ^ (min (Int.toNat 0) 64))))
@[simp] abbrev a3N (a:List Int) (b:Int):Heap:=[(o_ 8 1 (List.map rU8 ((((((((a++[(U7 b)])++[(X9 b)])++[(aD b)])++[(bA b)])++[(eT b)])++[(iP b)])++[(oC b)])++[(yU b)])))]
@[simp] abbrev c3V (a:Int):=(IntKind.u8.wrap (Int.fdiv a (2 ^ (min (Int.toNat 56) 64))))
@[simp] abbrev c9M (a:Int):=(AV.sl .clip 1 [[(AV.int .u8 (c3V a))]])
@[simp] abbrev c3U (a:Int):=(IntKind.u8.wrap (Int.fdiv a (2 ^ (min (Int.toNat 48) 64))))
@[simp] abbrev c9L (a:Int):=(AV.sl .clip 1 [[(AV.int .u8 (c3U a))]])
@[simp] abbrev b5Z (a:List Int):=(AV.osl 0 2 1 0 ((a.length+1)+1))
@[simp] abbrev c3T (a:Int):=(IntKind.u8.wrap (Int.fdiv a (2 ^ (min (Int.toNat 40) 64))))
@[simp] abbrev c9K (a:Int):=(AV.sl .clip 1 [[(AV.int .u8 (c3T a))]])
@[simp] abbrev b5X (a:List Int):=(AV.osl 0 3 1 0 (((a.length+1)+1)+1))
@[simp] abbrev c3S (a:Int):=(IntKind.u8.wrap (Int.fdiv a (2 ^ (min (Int.toNat 32) 64))))
@[simp] abbrev cap_ (a:Int):=(AV.sl .clip 1 [[(AV.int .u8 (c3S a))]])
@[simp] abbrev b5W (a:List Int):=(AV.osl 0 4 1 0 ((((a.length+1)+1)+1)+1))
@[simp] abbrev c3R (a:Int):=(IntKind.u8.wrap (Int.fdiv a (2 ^ (min (Int.toNat 24) 64))))
@[simp] abbrev c9J (a:Int):=(AV.sl .clip 1 [[(AV.int .u8 (c3R a))]])
@[simp] abbrev b5U (a:List Int):=(AV.osl 0 5 1 0 (((((a.length+1)+1)+1)+1)+1))
@[simp] abbrev c3Q (a:Int):=(IntKind.u8.wrap (Int.fdiv a (2 ^ (min (Int.toNat 16) 64))))
@[simp] abbrev c9I (a:Int):=(AV.sl .clip 1 [[(AV.int .u8 (c3Q a))]])
@[simp] abbrev b5T (a:List Int):=(AV.osl 0 6 1 0 ((((((a.length+1)+1)+1)+1)+1)+1))
@[simp] abbrev c3P (a:Int):=(IntKind.u8.wrap (Int.fdiv a (2 ^ (min (Int.toNat 8) 64))))
@[simp] abbrev c9H (a:Int):=(AV.sl .clip 1 [[(AV.int .u8 (c3P a))]])
@[simp] abbrev b5S (a:List Int):=(AV.osl 0 7 1 0 (((((((a.length+1)+1)+1)+1)+1)+1)+1))
@[simp] abbrev c3O (a:Int):=(IntKind.u8.wrap (Int.fdiv a (2 ^ (min (Int.toNat 0) 64))))
@[simp] abbrev c9G (a:Int):=(AV.sl .clip 1 [[(AV.int .u8 (c3O a))]])
@[simp] abbrev b5R (a:List Int):=(AV.osl 0 8 1 0 ((((((((a.length+1)+1)+1)+1)+1)+1)+1)+1))
@[simp] abbrev d2A (a:List Int) (b:Int):=(AV.sl .cn 1 (List.map rU8 ((((((((a++[(c3V b)])++[(c3U b)])++[(c3T b)])++[(c3S b)])++[(c3R b)])++[(c3Q b)])++[(c3P b)])++[(c3O b)])))
theorem b9t (b:List Int) (n:Int) (hb:b.length < 1048576):AC 238 [(sA 1 (List.map rU8 b)),(iI n)] [] ((AV.sl .cn 1 (List.map rU8 (gI b n))),[]) :=
 o8 (fn:=Tryz.f238) (ann:=c3r) (Has.o Tryz.func238) (.r (.s (.ch 1 [(o_ 0 1 (List.map rU8 b))] (a4S b oa []) (.s (.g (.roll 9 (.r (.ru (.ao 7 249 (cy_ b) (c9M n) (cz_ b) [(o_ 1 1 (List.map rU8 (b++[(U7 n)])))] (F3 (T:=tt) (e:=5) (te:=aW) (z:=1) (b:=24) (y:=[.sl .nil 0 []]) (row:=rU8) (l:=b) kr kr rfl z8 z8 kr U5 om rfl rfl dP) (.s (.s (.ru (.ao 7 249 (cz_ b) (c9L n) (b5Z b) [(o_ 2 1 (List.map rU8 ((b++[(U7 n)])++[(X9 n)])))] (F3 (T:=tt) (e:=5) (te:=aW) (z:=1) (b:=24) (y:=[.sl .nil 0 []]) (row:=rU8) (l:=b++[(U7 n)]) kr kr rfl z8 z8 kr U5 om rfl rfl dP) (.s (.s (.ru (.ao 7 249 (b5Z b) (c9K n) (b5X b) [(o_ 3 1 (List.map rU8 (((b++[(U7 n)])++[(X9 n)])++[(aD n)])))] (F3 (T:=tt) (e:=5) (te:=aW) (z:=1) (b:=24) (y:=[.sl .nil 0 []]) (row:=rU8) (l:=(b++[(U7 n)])++[(X9 n)]) kr kr rfl z8 z8 kr U5 om rfl rfl dP) (.s (.s (.ru (.ao 7 249 (b5X b) (cap_ n) (b5W b) [(o_ 4 1 (List.map rU8 ((((b++[(U7 n)])++[(X9 n)])++[(aD n)])++[(bA n)])))] (F3 (T:=tt) (e:=5) (te:=aW) (z:=1) (b:=24) (y:=[.sl .nil 0 []]) (row:=rU8) (l:=((b++[(U7 n)])++[(X9 n)])++[(aD n)]) kr kr rfl z8 z8 kr U5 om rfl rfl dP) (.s (.s (.ru (.ao 7 249 (b5W b) (c9J n) (b5U b) [(o_ 5 1 (List.map rU8 (((((b++[(U7 n)])++[(X9 n)])++[(aD n)])++[(bA n)])++[(eT n)])))] (F3 (T:=tt) (e:=5) (te:=aW) (z:=1) (b:=24) (y:=[.sl .nil 0 []]) (row:=rU8) (l:=(((b++[(U7 n)])++[(X9 n)])++[(aD n)])++[(bA n)]) kr kr rfl z8 z8 kr U5 om rfl rfl dP) (.s (.s (.ru (.ao 7 249 (b5U b) (c9I n) (b5T b) [(o_ 6 1 (List.map rU8 ((((((b++[(U7 n)])++[(X9 n)])++[(aD n)])++[(bA n)])++[(eT n)])++[(iP n)])))] (F3 (T:=tt) (e:=5) (te:=aW) (z:=1) (b:=24) (y:=[.sl .nil 0 []]) (row:=rU8) (l:=((((b++[(U7 n)])++[(X9 n)])++[(aD n)])++[(bA n)])++[(eT n)]) kr kr rfl z8 z8 kr U5 om rfl rfl dP) (.s (.s (.ru (.ao 7 249 (b5T b) (c9H n) (b5S b) [(o_ 7 1 (List.map rU8 (((((((b++[(U7 n)])++[(X9 n)])++[(aD n)])++[(bA n)])++[(eT n)])++[(iP n)])++[(oC n)])))] (F3 (T:=tt) (e:=5) (te:=aW) (z:=1) (b:=24) (y:=[.sl .nil 0 []]) (row:=rU8) (l:=(((((b++[(U7 n)])++[(X9 n)])++[(aD n)])++[(bA n)])++[(eT n)])++[(iP n)]) kr kr rfl z8 z8 kr U5 om rfl rfl dP) (.s (.s (.ru (.ao 7 249 (b5S b) (c9G n) (b5R b) (a3N b n) (F3 (T:=tt) (e:=5) (te:=aW) (z:=1) (b:=24) (y:=[.sl .nil 0 []]) (row:=rU8) (l:=((((((b++[(U7 n)])++[(X9 n)])++[(aD n)])++[(bA n)])++[(eT n)])++[(iP n)])++[(oC n)]) kr kr rfl z8 z8 kr U5 om rfl rfl dP) (.s (.s (.rn (.w 5 (List.map rU8 ((((((((b++[(U7 n)])++[(X9 n)])++[(aD n)])++[(bA n)])++[(eT n)])++[(iP n)])++[(oC n)])++[(yU n)])) (And.intro (H9 (room:=none) kr om) (iE _ _):F4 (a3N b n) 1 (b5R b)=some (List.map rU8 ((((((((b++[(U7 n)])++[(X9 n)])++[(aD n)])++[(bA n)])++[(eT n)])++[(iP n)])++[(oC n)])++[(yU n)]))/\AV.D5 0 (List.map rU8 ((((((((b++[(U7 n)])++[(X9 n)])++[(aD n)])++[(bA n)])++[(eT n)])++[(iP n)])++[(oC n)])++[(yU n)]))=true) (.c 1 ((b5q ((((((((b++[(U7 n)])++[(X9 n)])++[(aD n)])++[(bA n)])++[(eT n)])++[(iP n)])++[(oC n)])++[(yU n)]) oa).lift kr kr [(o_ 9 1 [])]) (.g (.h' [] (.q 0 (d2A b n) (by (try delta a3N); simp [gI,eU]))))))))))))))))))))))))))))))))))))))))))))))
theorem b9s (b:List Int) (n:Int) (hb:b.length < 1048576):AC 238 [(sA 1 (List.map rU8 b)),(iI n)] [] ((sA 1 (List.map rU8 (gI b n))),[]):=(b9t b n hb).post ⟨rfl,rfl,.inl rfl⟩
def Y5 (c:Card):Int:=if c.gone=true then 0 else if (c.over != 0)=true then c.over else c.status
def b7K:Ann:={ refs:=[1],fin:=some 0 }
theorem a2M {p:Prop} (h:p:=by simp_all [Y5]):p:=h
theorem b2r (c:Card) :AC 237 [(AV.agg (Card.row c))] [] ((iI (Y5 c)),[]) :=
 o8 (fn:=Tryz.f237) (ann:=b7K) (Has.o Tryz.func237) (.r (.s (.g (.two c.gone (fun h1 h1'=>(.qr 0 z_ a2M)) (fun h1 h1'=>(.r (.g (.two (c.over != 0) (fun h2 h2'=>(.qr 0 (iI c.over) a2M)) (fun h2 h2'=>(.qr 0 (iI c.status) a2M))))))))))
def b2V:Ann:={ refs:=[1],fin:=some 0 }
theorem a9M (c:Card) :AC 233 [(AV.agg (Card.row c))] [] ((iI (Y5 c)),[]) :=
 o8 (fn:=Tryz.f233) (ann:=b2V) (Has.o Tryz.func233) (.r (.s (.g (.two c.gone (fun h1 h1'=>(.qr 0 z_ a2M)) (fun h1 h1'=>(.r (.g (.two (c.over != 0) (fun h2 h2'=>(.qr 0 (iI c.over) a2M)) (fun h2 h2'=>(.qr 0 (iI c.status) a2M))))))))))
def J4 (l:List Card):List Card:=l.filter fun c=>!c.gone
def J9 (l:List Card):List Card:=R7 (J4 l)
theorem yD (l:l9C):(J4 l).length<=l.length:=List.length_filter_le _ _
theorem mH (l:l9C):(J9 l).length<=l.length:=by unfold J9; rw [a3X]; exact yD l
def a0J:Ann:={ gh:=[(8,.frz 3)],gha:=[(1,.vir 3 9),(7,.cut 1)],fin:=some 0,live:=[(3,[3,6,7,8])],out:=[(3,[3,6,7,8])] }
@[simp] abbrev b7g (a:Nat) (b:l9C) (c:l9C) (d:Nat):Heap:=[(o_ (a+1) 9 (mC (b++[(nth c d)])))]
@[simp] abbrev c5H (a:Nat) (b:Nat) (c:l9C) (d:Nat):Fr:=(mkF 22 [(3,(AV.osl 0 a 9 0 b)),(6,(sA 9 (mC c))),(7,(iN c.length)),(8,(iN d))])
@[simp] abbrev b7f (a:Nat) (b:l9C) (c:l9C) (d:Nat):Heap:=[(o_ a 9 (mC b)),(o_ 0 9 [(Card.row (nth c d))])]
@[simp] abbrev b5Q :=(l8 Tryz.prog (X a0J) (p9 Tryz.f173 0))
theorem a4e (l:l9C) (out:l9C) (k:Nat) (g:Nat) (i:Nat) (hl:l.length < 1048576) (hk:k=out.length) (hki:k<=i) (hle_:i<=l.length) {eX:Ex} {FX:Fr} {HX:Heap} (k1:(decide ((i:Int) < (l.length:Int)))=true->(!(nth l i).gone)=true->j5 b5Q (some [3,6,7,8]) (some [3,6,7,8]) (mkF 22 [(3,(AV.osl 0 (g+1) 9 0 (k+1))),(6,(sA 9 (mC l))),(7,(iN l.length)),(8,(iN (i+1)))]) (b7g g out l i) eX FX HX) (k2:(decide ((i:Int) < (l.length:Int)))=true->(!(nth l i).gone)=false->j5 b5Q (some [3,6,7,8]) (some [3,6,7,8]) (mkF 22 [(3,(AV.osl 0 g 9 0 k)),(6,(sA 9 (mC l))),(7,(iN l.length)),(8,(iN (i+1)))]) [(o_ g 9 (mC out))] eX FX HX) (k3:(decide ((i:Int) < (l.length:Int)))=false->((.exit 0:Ex),(c5H g k l i),[(o_ g 9 (mC out))])=(eX,FX,HX)):j5 b5Q (some [3,6,7,8]) (some [3,6,7,8]) (c5H g k l i) [(o_ g 9 (mC out))] eX FX HX :=
 F7 (.r (.g (.two (decide ((i:Int) < (l.length:Int))) (fun h1 h1'=>(.r (.h' [(o_ g 9 (mC out)),(o_ 0 9 [[e_,e_,z_,z_,z_,z_,z_,z_,bF]])] (.is 0 9 9 (mC l) (i:Int) (Card.row (nth l i)) (J6.mk _ ow ow) (.s (.g (.two (!(nth l i).gone) (fun h2 h2'=>(.r (.h' (b7f g out l i) (.ap 3 32 (AV.osl 0 g 9 0 k) (AV.sl .clip 9 [(Card.row (nth l i))]) (AV.osl 0 (g+1) 9 0 (k+1)) [(o_ (g+1) 9 (mC (out++[(nth l i)]))),(o_ 0 9 [(Card.row (nth l i))])] (G9 (row:=Card.row) (l:=out) (x:=(nth l i)) (T:=tt) (e:=39) (te:=jP) (z:=1) (b:=24) (y:=[.sl .nil 0 []]) kr kr rfl z8 z8 kr aV rfl rfl pO) (.s (.y 0 (.int .i64 (cb_ i)) (iN (i+1)) Yes.o (.h' (b7g g out l i) (.b 1 (.g (.l (k1 h1 h2))))))))))) (fun h2 h2'=>(.r (.h' (b7f g out l i) (.y 0 (.int .i64 (cb_ i)) (iN (i+1)) Yes.o (.h' [(o_ g 9 (mC out))] (.b 1 (.g (.l (k2 h1 h2)))))))))))))))) (fun h1 h1'=>(.l (k3 h1))))))
def tL (l:List Card) (i:Nat) (s:(List Card) × Nat × Nat):(List Card) × Nat × Nat:=(if (!(nth l i).gone)=true then (s.1++[(nth l i)],(s.2.1+1),(s.2.2+1)) else (s.1,s.2.1,s.2.2))
theorem O7 {p:Prop} (h:p:=by first | omega | assumption | (simp; done) | (simp; omega) | (simp [*]; done) | (simp [*]; omega)):p:=h
theorem b7L (l:l9C) (hl:l.length < 1048576)  (r_:Nat):∀ (out:l9C) (k:Nat) (g:Nat) (i:Nat) (sF:(l9C) × Nat × Nat),i+r_=l.length->k=out.length->k<=i->sF=iter (tL l) r_ i (out,k,g) ->
 j5 (l8 Tryz.prog (X a0J) (p9 Tryz.f173 0)) (some [3,6,7,8]) (some [3,6,7,8]) (c5H g k l i) [(o_ g 9 (mC out))] (.exit 0) (mkF 22 [(3,(AV.osl 0 sF.2.2 9 0 sF.2.1)),(6,(sA 9 (mC l))),(7,(iN l.length)),(8,(iN l.length))]) [(o_ sF.2.2 9 (mC sF.1))]:=by
 induction r_ with
 | zero =>
  intro out k g i sF hi_ hk hki  hF
  obtain rfl:l.length=i:=by omega
  have e_:sF=(out,k,g):=hF
  refine a4e l out k g l.length hl hk hki (Nat.le_refl _) (fun h _=>by simp at h <;> omega) (fun h _=>by simp at h <;> omega) (fun _=>?_)
  first | done | rfl | (rw [e_]; done) | (rw [e_]; rfl)
 | succ r_ ih =>
  intro out k g i sF hi_ hk hki  hF
  refine a4e l out k g i hl hk hki ow (fun h1 h2=>?_) (fun h1 h2=>?_) (fun h=>by simp at h <;> omega)
  · exact ih (out++[(nth l i)]) (k+1) (g+1) (i+1) sF ow O7 O7  (by rw [hF] <;> simp only [iter,tL,h2,if_true,Bool.false_eq_true,if_false])
  · exact ih out k g (i+1) sF ow O7 O7  (by rw [hF] <;> simp only [iter,tL,h2,if_true,Bool.false_eq_true,if_false])
theorem b7M (l:l9C):(J4 l,(J4 l).length,(J4 l).length)=iter (tL l) l.length 0 ([],0,0):=by
 rw [V3 (tL l) (fun s c=>if (fun c:Card=>!c.gone) c=true then (s.1++[c],s.2.1+1,s.2.2+1) else s) l (fun i s hi=>by simp [tL])]
 rw [vY (fun c:Card=>!c.gone) (fun c=>c) l]; simp [J4]
def dN (b:List Int) (c:Card):List Int:=gI (J5 (I8 (I8 b c.key.app) c.key.id) (Y5 c)) c.lease
theorem yT (b:List Int) (c:Card):(dN b c).length<=b.length+521:=by
 have h1:=fC b c.key.app
 have h2:=fC (I8 b c.key.app) c.key.id
 unfold dN; rw [c3q,bK]; omega
def bV (l:List Card):List Int:=(J9 l).foldl dN []
theorem b5V (l:l9C):∀ (b:List Int),(l.foldl dN b).length<=b.length+l.length * 521:=by
 induction l with
 | nil=>intro b; simp
 | cons c l ih=>intro b; have h1:=ih (dN b c); have h2:=yT b c; simp only [List.foldl_cons,List.length_cons]; omega
theorem a4f (l:l9C):(bV l).length<=l.length * 521:=by
 have h1:=b5V (J9 l) []
 have h2:=mH l
 unfold bV; simp only [List.length_nil] at h1; omega
def xJ:Ann:={ gha:=[(1,.any 3 1),(7,.cut 0)],fin:=some 0,live:=[(3,[3,7,8,9])],out:=[(3,[3,7,8,9])] }
@[simp] abbrev a3M (a:List Int) (b:l9C) (c:Nat):Fr:=(mkF 31 [(3,(sA 1 (List.map rU8 a))),(7,(sA 9 (mC b))),(8,(iN b.length)),(9,(iN c))])
@[simp] abbrev c4M :=(l8 Tryz.prog (X xJ) (p9 Tryz.f228 0))
@[simp] abbrev c9F (a:List Int) (b:l9C) (c:Nat):=(mkF 31 [(3,(sA 1 (List.map rU8 (gI (J5 (I8 (I8 a (nth b c).key.app) (nth b c).key.id) (Y5 (nth b c))) (nth b c).lease)))),(7,(sA 9 (mC b))),(8,(iN b.length)),(9,(iN (c+1)))])
theorem a1J (l:l9C) (b:List Int) (i:Nat) (hl:l.length < 1000) (hb:b.length<=i * 521) (hle_:i<=l.length) {eX:Ex} {FX:Fr} {HX:Heap} (k1:(decide ((i:Int) < (l.length:Int)))=true->j5 c4M (some [3,7,8,9]) (some [3,7,8,9]) (c9F b l i) [] eX FX HX) (k2:(decide ((i:Int) < (l.length:Int)))=false->((.exit 0:Ex),(a3M b l i),[])=(eX,FX,HX)):j5 c4M (some [3,7,8,9]) (some [3,7,8,9]) (a3M b l i) [] eX FX HX:=by
 have h1:=fC b (nth l i).key.app
 have h2:=fC (I8 b (nth l i).key.app) (nth l i).key.id
 have h3:=bK (I8 (I8 b (nth l i).key.app) (nth l i).key.id) (Y5 (nth l i))
 exact F7 (.r (.g (.two (decide ((i:Int) < (l.length:Int))) (fun h1 h1'=>(.r (.h' [(o_ 0 9 [[e_,e_,z_,z_,z_,z_,z_,z_,bF]])] (.is 0 9 9 (mC l) (i:Int) (Card.row (nth l i)) (J6.mk _ ow ow) (.s (.c 4 ((a1w b (nth l i).key.app oa).lift kr kr [(o_ 0 9 [(Card.row (nth l i))])]) (.c 8 ((a1w (I8 b (nth l i).key.app) (nth l i).key.id oa).lift kr kr [(o_ 0 9 [(Card.row (nth l i))])]) (.c 10 ((b2r (nth l i)).lift kr kr [(o_ 0 9 [(Card.row (nth l i))])]) (.c 11 ((b6b (I8 (I8 b (nth l i).key.app) (nth l i).key.id) (Y5 (nth l i)) oa).lift kr kr [(o_ 0 9 [(Card.row (nth l i))])]) (.rd (co_ l i) [(o_ 0 9 [(Card.row (nth l i))])] (.rd (co_ l i) [(o_ 0 9 [(Card.row (nth l i))])] (.rd (AV.str (nth l i).key.id) [(o_ 0 9 [(Card.row (nth l i))])] (.s (.c 3 ((b9s (J5 (I8 (I8 b (nth l i).key.app) (nth l i).key.id) (Y5 (nth l i))) (nth l i).lease oa).lift kr kr [(o_ 0 9 [(Card.row (nth l i))])]) (.s (.h' [(o_ 0 9 [(Card.row (nth l i))])] (.y 0 (.int .i64 (cb_ i)) (iN (i+1)) Yes.o (.h' [] (.b 0 (.g (.l (k1 h1)))))))))))))))))))))) (fun h1 h1'=>(.l (k2 h1))))))
def zG (l:List Card) (i:Nat) (s:(List Int)):(List Int):=(gI (J5 (I8 (I8 s (nth l i).key.app) (nth l i).key.id) (Y5 (nth l i))) (nth l i).lease)
theorem b2s (l:l9C) (hl:l.length < 1000)  (r_:Nat):∀ (b:List Int) (i:Nat) (sF:(List Int)),i+r_=l.length->b.length<=i * 521->sF=iter (zG l) r_ i (b) ->
 j5 (l8 Tryz.prog (X xJ) (p9 Tryz.f228 0)) (some [3,7,8,9]) (some [3,7,8,9]) (a3M b l i) [] (.exit 0) (mkF 31 [(3,(sA 1 (List.map rU8 sF))),(7,(sA 9 (mC l))),(8,(iN l.length)),(9,(iN l.length))]) []:=by
 induction r_ with
 | zero =>
  intro b i sF hi_ hb  hF
  obtain rfl:l.length=i:=by omega
  have e_:sF=(b):=hF
  refine a1J l b l.length hl hb (Nat.le_refl _) (fun h=>by simp at h <;> omega) (fun _=>?_)
  first | done | rfl | (rw [e_]; done) | (rw [e_]; rfl)
 | succ r_ ih =>
  intro b i sF hi_ hb  hF
  refine a1J l b i hl hb ow (fun h1=>?_) (fun h=>by simp at h <;> omega)
  · exact ih (gI (J5 (I8 (I8 b (nth l i).key.app) (nth l i).key.id) (Y5 (nth l i))) (nth l i).lease) (i+1) sF ow (by have h9:(gI (J5 (I8 (I8 b (nth l i).key.app) (nth l i).key.id) (Y5 (nth l i))) (nth l i).lease).length<=b.length+521:=yT b (nth l i); first | omega | assumption | (simp; done) | (simp; omega) | (simp [*]; done) | (simp [*]; omega))  (by rw [hF] <;> simp only [iter,zG,if_true,Bool.false_eq_true,if_false])
theorem b2t (l:l9C):l.foldl dN []=iter (zG l) l.length 0 []:=(V3 (zG l) dN l (fun i s hi=>rfl) []).symm
def kP (h x:Int):Int:=IntKind.u32.wrap (IntKind.u32.wrap (IntKind.u32.wrap (h * 31)+IntKind.u32.wrap x)+7)
def gH (l:List Int):Int:=l.foldl kP 17
def a2R:Ann:={ fin:=some 0,live:=[(3,[3,6,7,8])],out:=[(3,[3,6,7,8])] }
@[simp] abbrev c5G (a:Int) (b:List Int) (c:Nat):Fr:=(mkF 20 [(3,(AV.int .u32 a)),(6,(sA 1 (List.map rU8 b))),(7,(iN b.length)),(8,(iN c))])
@[simp] abbrev c4L :=(l8 Tryz.prog (X a2R) (p9 Tryz.f227 0))
theorem a6k (l:List Int) (h:Int) (i:Nat) (hl:l.length < 1048576) (hle_:i<=l.length) {eX:Ex} {FX:Fr} {HX:Heap} (k1:(decide ((i:Int) < (l.length:Int)))=true->j5 c4L (some [3,6,7,8]) (some [3,6,7,8]) (mkF 20 [(3,(AV.int .u32 (IntKind.u32.wrap ((IntKind.u32.wrap ((IntKind.u32.wrap (h * 31))+(IntKind.u32.wrap (nth l i))))+7)))),(6,(sA 1 (List.map rU8 l))),(7,(iN l.length)),(8,(iN (i+1)))]) [] eX FX HX) (k2:(decide ((i:Int) < (l.length:Int)))=false->((.exit 0:Ex),(c5G h l i),[])=(eX,FX,HX)):j5 c4L (some [3,6,7,8]) (some [3,6,7,8]) (c5G h l i) [] eX FX HX :=
 F7 (.r (.g (.two (decide ((i:Int) < (l.length:Int))) (fun h1 h1'=>(.r (.is 0 1 1 (List.map rU8 l) (i:Int) (rU8 (nth l i)) (J6.mk _ ow ow) (.s (.s (.y 0 (.int .i64 (cb_ i)) (iN (i+1)) Yes.o (.g (.l (k1 h1))))))))) (fun h1 h1'=>(.l (k2 h1))))))
def a5t (l:List Int) (i:Nat) (s:Int):Int:=((IntKind.u32.wrap ((IntKind.u32.wrap ((IntKind.u32.wrap (s * 31))+(IntKind.u32.wrap (nth l i))))+7)))
theorem c1u (l:List Int) (hl:l.length < 1048576)  (r_:Nat):∀ (h:Int) (i:Nat) (sF:Int),i+r_=l.length->sF=iter (a5t l) r_ i (h) ->
 j5 (l8 Tryz.prog (X a2R) (p9 Tryz.f227 0)) (some [3,6,7,8]) (some [3,6,7,8]) (c5G h l i) [] (.exit 0) (mkF 20 [(3,(AV.int .u32 sF)),(6,(sA 1 (List.map rU8 l))),(7,(iN l.length)),(8,(iN l.length))]) []:=by
 induction r_ with
 | zero =>
  intro h i sF hi_   hF
  obtain rfl:l.length=i:=by omega
  have e_:sF=(h):=hF
  refine a6k l h l.length hl (Nat.le_refl _) (fun h=>by simp at h <;> omega) (fun _=>?_)
  first | done | rfl | (rw [e_]; done) | (rw [e_]; rfl)
 | succ r_ ih =>
  intro h i sF hi_   hF
  refine a6k l h i hl ow (fun h1=>?_) (fun h=>by simp at h <;> omega)
  · exact ih (IntKind.u32.wrap ((IntKind.u32.wrap ((IntKind.u32.wrap (h * 31))+(IntKind.u32.wrap (nth l i))))+7)) (i+1) sF ow   (by rw [hF] <;> simp only [iter,a5t,if_true,Bool.false_eq_true,if_false])
theorem c1v (l:List Int):gH l=iter (a5t l) l.length 0 17:=(V3 (a5t l) kP l (fun i s hi=>rfl) 17).symm
@[simp] abbrev d1l (a:List Int):Fr:=(mkF 20 [(3,(AV.int .u32 (gH a))),(6,(sA 1 (List.map rU8 a))),(7,(iN a.length)),(8,(iN a.length))])
theorem c1t (l:List Int) (hl:l.length < 1048576):AC 227 [(sA 1 (List.map rU8 l))] [] ((AV.int .u32 (gH l)),[]) :=
 o8 (fn:=Tryz.f227) (ann:=a2R) (Has.o Tryz.func227) (.r (.s (.s (.y 1 (.int .i64 ((List.length (List.map rU8 l):Nat):Int)) (iN l.length) (Yes.len _ _ _) (.g (.loop (d1l l) (show j5 c4L (some [3,6,7,8]) (some [3,6,7,8]) (mkF 20 [(3,(AV.int .u32 17)),(6,(sA 1 (List.map rU8 l))),(7,(iN l.length)),(8,z_)]) [] (.exit 0) (d1l l) [] from (c1u l hl (List.length l) 17 0 (gH l) ow (c1v _))) (.qr 0 (AV.int .u32 (gH l)))))))))
def ofB (l:List Card):Int:=gH (bV l)
end Go.Proofs.YtfjedpipdnlkfaaGreat.AM
namespace Go.Proofs.YtfjedpipdnlkfaaGreat.AM
open Go
attribute [local irreducible] Tp.F9 Tp.card Tp.key Tp.keyT Tp.next Tp.step
theorem mP:∀ (x:List UInt8),Op.bytesLess x x=false
 | []=>rfl
 | a :: x=>by
  have:=mP x
  simp [Op.bytesLess,this]
theorem wH:∀ (x y:List UInt8),Op.bytesLess x y=true->Op.bytesLess y x=false
 | [],[],h=>by simp [Op.bytesLess] at h
 | [],b :: y,h=>rfl
 | a :: x,[],h=>by simp [Op.bytesLess] at h
 | a :: x,b :: y,h=>by
  simp only [Op.bytesLess,Bool.or_eq_true,Bool.and_eq_true,decide_eq_true_eq,beq_iff_eq] at h
  rcases h with h | ⟨rfl,h⟩
  · have h1:¬ b < a:=fun h'=>by exact absurd (UInt8.lt_trans h h') (UInt8.lt_irrefl _)
    have h2:¬ b=a:=fun e=>by subst e; exact UInt8.lt_irrefl _ h
    simp [Op.bytesLess,h1,h2]
  · have:=wH x y h
    simp [Op.bytesLess,this]
theorem a1m:∀ (x y z:List UInt8),Op.bytesLess x y=true->Op.bytesLess y z=true->Op.bytesLess x z=true
 | [],[],z,h,_=>by simp [Op.bytesLess] at h
 | [],b :: y,[],_,h=>by simp [Op.bytesLess] at h
 | [],b :: y,c :: z,_,_=>rfl
 | a :: x,[],z,h,_=>by simp [Op.bytesLess] at h
 | a :: x,b :: y,[],_,h=>by simp [Op.bytesLess] at h
 | a :: x,b :: y,c :: z,h,k=>by
  simp only [Op.bytesLess,Bool.or_eq_true,Bool.and_eq_true,decide_eq_true_eq,beq_iff_eq] at h k ⊢
  rcases h with h | ⟨rfl,h⟩
  · rcases k with k | ⟨rfl,k⟩
    · exact .inl (UInt8.lt_trans h k)
    · exact .inl h
  · rcases k with k | ⟨rfl,k⟩
    · exact .inl k
    · exact .inr ⟨rfl,a1m x y z h k⟩
theorem a8y:∀ (x y:List UInt8),Op.bytesLess x y=false->Op.bytesLess y x=false->x=y
 | [],[],_,_=>rfl
 | [],b :: y,h,_=>by simp [Op.bytesLess] at h
 | a :: x,[],_,h=>by simp [Op.bytesLess] at h
 | a :: x,b :: y,h,k=>by
  simp only [Op.bytesLess,Bool.or_eq_false_iff,decide_eq_false_iff_not] at h k
  have e:a=b:=by
   rcases UInt8.lt_or_lt_of_ne (a:=a) (b:=b) |> fun f=>Classical.em (a=b) with e | e
   · exact e
   · rcases UInt8.lt_or_lt_of_ne e with h1 | h1
     · exact absurd h1 h.1
     · exact absurd h1 k.1
  subst e
  simp only [beq_self_eq_true,Bool.true_and] at h k
  rw [a8y x y h.2 k.2]
theorem ba_eq {a b:ByteArray} (h:a.toList=b.toList):a=b:=by
 rw [ByteArray.toList_eq,ByteArray.toList_eq] at h
 obtain ⟨⟨a⟩⟩:=a
 obtain ⟨⟨b⟩⟩:=b
 simp at h
 rw [h]
theorem Key.a3n (a b:Key):Key.eqb a b=true↔a=b:=by
 unfold Key.eqb
 constructor
 · intro h
   simp only [Bool.and_true,Bool.and_eq_true,beq_iff_eq] at h
   cases a; cases b
   exact congr (congrArg Key.mk (ba_eq h.1)) (ba_eq h.2)
 · intro h; subst h; simp
theorem Key.b9S {a b:Key}:Key.eqb a b=false↔a≠b:=by
 rw [Ne,<- Key.a3n]; simp
theorem a4U (a:Key):y8 a a=false:=by simp [y8,mP]
theorem a8A {a b:Key} (h:y8 a b=true):y8 b a=false:=by
 unfold y8 at *
 by_cases e:a.app.toList=b.app.toList
 · have e':b.app.toList=a.app.toList:=e.symm
   simp [e] at h
   simp [e']
   exact wH _ _ h
 · have e':¬ b.app.toList=a.app.toList:=fun x=>e x.symm
   simp [e] at h
   simp [e']
   exact wH _ _ h
theorem a8z {a b c:Key} (h:y8 a b=true) (k:y8 b c=true):y8 a c=true:=by
 unfold y8 at *
 by_cases e:a.app.toList=b.app.toList
 · by_cases f:b.app.toList=c.app.toList
   · simp [e] at h; simp [f] at k; simp [e,f]
     exact a1m _ _ _ h k
   · simp [f] at k
     have:¬ a.app.toList=c.app.toList:=by rw [e]; exact f
     simp [this]; rw [e]; exact k
 · simp [e] at h
   by_cases f:b.app.toList=c.app.toList
   · have:¬ a.app.toList=c.app.toList:=by rw [<- f]; exact e
     simp [this]; rw [<- f]; exact h
   · simp [f] at k
     have h1:=a1m _ _ _ h k
     have:¬ a.app.toList=c.app.toList:=fun x=>by rw [x] at h; have:=wH _ _ h; rw [k] at this; simp at this
     simp [this]; exact h1
theorem c0B {a b:Key} (h:y8 a b=false) (k:y8 b a=false):a=b:=by
 unfold y8 at *
 by_cases e:a.app.toList=b.app.toList
 · have e':b.app.toList=a.app.toList:=e.symm
   simp [e] at h; simp [e'] at k
   have h2:=a8y _ _ h k
   cases a; cases b
   exact congr (congrArg Key.mk (ba_eq e)) (ba_eq h2)
 · have e':¬ b.app.toList=a.app.toList:=fun x=>e x.symm
   simp [e] at h; simp [e'] at k
   exact absurd (a8y _ _ h k) e
theorem d1K {a b:Key} (h:y8 a b=true):a≠b:=fun e=>by subst e; rw [a4U] at h; simp at h
theorem c4O {a b c:Key} (h:y8 a b=true) (k:y8 c b=false):y8 a c=true:=by
 cases e:y8 b c with
 | true=>exact a8z h e
 | false=>rw [<- c0B e k]; exact h
theorem a0B {a b c:Key} (h:y8 b a=false) (k:y8 c b=false):y8 c a=false:=by
 cases e:y8 c a with
 | false=>rfl
 | true=>have:=c4O e h; rw [this] at k; simp at k
theorem fZ (a b:Key):jZ a b=y8 a b:=by
 unfold jZ U6 eP y8
 by_cases h1:Op.bytesLess a.app.toList b.app.toList=true
 · have:¬ a.app.toList=b.app.toList:=fun e=>by rw [e,mP] at h1; simp at h1
   simp [h1,this]
 · by_cases h2:a.app.toList=b.app.toList
   · simp [h2,mP]
     by_cases h3:Op.bytesLess a.id.toList b.id.toList=true
     · simp [h3]
     · by_cases h4:a.id.toList=b.id.toList
       · simp [h4,mP]
       · simp [h3,h4]
   · simp [h1,h2]
theorem kX {α:Type} [Inhabited α] {l:List α} {i:Nat} (h:i < l.length):nth l i∈l:=List.mem_of_getElem? (kY h)
theorem V4 {α:Type} [Inhabited α] {l:List α} {i:Nat} (h:i < l.length):nth l i=l[i]:=by
 simp [nth,List.getD_eq_getElem?_getD,List.getElem?_eq_getElem h]
theorem xU {α:Type} [Inhabited α] {R:α->α->Prop} {l:List α}:List.Pairwise R l↔∀ i j,i < j->j < l.length->R (nth l i) (nth l j):=by
 rw [List.pairwise_iff_getElem]
 constructor
 · intro h i j hij hj
   rw [V4 (show i < l.length by omega),V4 hj]
   exact h i j _ _ hij
 · intro h i j hi hj hij
   have:=h i j hij hj
   rwa [V4 hi,V4 hj] at this
theorem aM {α:Type} [Inhabited α] {l:List α} {x:α} (h:x∈l):∃ i,i < l.length/\nth l i=x:=by
 obtain ⟨i,hi,rfl⟩:=List.getElem_of_mem h
 exact ⟨i,hi,V4 hi⟩
theorem dU {α:Type} [Inhabited α] {l:List α} {i k:Nat} (h:i < k):nth (l.take k) i=nth l i:=by
 simp [nth,List.getD_eq_getElem?_getD,List.getElem?_take,h]
theorem jG {α:Type} [Inhabited α] {l:List α} {i k:Nat}:nth (l.drop k) i=nth l (k+i):=by
 simp [nth,List.getD_eq_getElem?_getD,List.getElem?_drop]
theorem swap_perm {α:Type} [Inhabited α] {l:List α} {i j:Nat} (hi:i < l.length) (hj:j < l.length):List.Perm ((l.set i (nth l j)).set j (nth l i)) l:=by
 rw [V4 hi,V4 hj]
 exact List.set_set_perm hi hj
theorem b7J {α:Type} [Inhabited α] (cmp:α->α->Int) (a j:Nat):∀ (l:List α),j < l.length->List.Perm (sink cmp a j l) l:=by
 induction j with
 | zero=>intro l _; simp only [sink]; exact List.Perm.refl _
 | succ j ih =>
  intro l h
  simp only [sink]
  split
  · split
    · exact (ih _ yh_).trans (swap_perm h ya_)
    · exact List.Perm.refl _
  · exact List.Perm.refl _
theorem a7u {α:Type} [Inhabited α] (cmp:α->α->Int) (a k:Nat):∀ (i:Nat) (l:List α),i+k<=l.length->List.Perm (u7 cmp a k i l) l:=by
 induction k with
 | zero=>intro i l _; simp only [u7]; exact List.Perm.refl _
 | succ k ih =>
  intro i l h
  simp only [u7]
  exact (ih (i+1) _ (by rw [pR]; omega)).trans (b7J cmp a i l ya_)
theorem a5o {α:Type} [Inhabited α] (cmp:α->α->Int) (l:List α):List.Perm (u7 cmp 0 (l.length - 1) 1 l) l:=by
 rcases Nat.eq_zero_or_pos l.length with h | h
 · have:l=[]:=List.eq_nil_of_length_eq_zero h
   subst this; simp [u7]
 · exact a7u cmp 0 _ 1 l ya_
set_option linter.unusedSectionVars false
section
variable {α:Type} [Inhabited α]
def R4 (lt:α->α->Bool) (x:α) (out:List α):Nat->Nat
 | 0=>0
 | k+1=>if lt x (nth out k)=true then R4 lt x out k else k+1
def T9 (lt:α->α->Bool) (out:List α) (x:α):List α:=(out.take (R4 lt x out out.length)++[x])++out.drop (R4 lt x out out.length)
theorem tT (lt:α->α->Bool) (x:α) (out:List α) (k:Nat):R4 lt x out k<=k:=by
 induction k with
 | zero=>simp only [R4]; omega
 | succ k ih=>simp only [R4]; split <;> omega
theorem b3K (lt:α->α->Bool) (x:α) {out out':List α} (k:Nat) (h:∀ i,i < k->nth out i=nth out' i):R4 lt x out k=R4 lt x out' k:=by
 induction k with
 | zero=>rfl
 | succ k ih=>simp only [R4]; rw [h k ya_,ih fun i hi=>h i ya_]
theorem qZ (lt:α->α->Bool) (x:α) (out:List α) (k:Nat):(∀ i,R4 lt x out k<=i->i < k->lt x (nth out i)=true)/\(0 < R4 lt x out k->lt x (nth out (R4 lt x out k - 1))=false):=by
 induction k with
 | zero=>simp only [R4]; exact ⟨fun i h1 h2=>by omega,fun h=>by omega⟩
 | succ k ih =>
  simp only [R4]
  split
  · rename_i h
    refine ⟨fun i h1 h2=>?_,ih.2⟩
    rcases Nat.lt_or_ge i k with h3 | h3
    · exact ih.1 i h1 h3
    · rw [show i=k by omega]; exact h
  · rename_i h
    exact ⟨fun i h1 h2=>by omega,fun _=>by simpa using h⟩
theorem a4C (lt:α->α->Bool) (out:List α) (x:α):List.Perm (T9 lt out x) (x :: out):=by
 unfold T9
 rw [List.append_assoc,List.singleton_append]
 refine List.perm_middle.trans ?_
 rw [List.take_append_drop]
theorem a7x (lt:α->α->Bool) (out:List α) (x:α):(T9 lt out x).length=out.length+1:=by
 rw [(a4C lt out x).length_eq]; rfl
structure O5 (lt:α->α->Bool):Prop where
 asymm:∀ a b,lt a b=true->lt b a=false
 trans:∀ a b c,lt b a=false->lt c b=false->lt c a=false
abbrev Srt (lt:α->α->Bool) (l:List α):Prop:=List.Pairwise (fun a b=>lt b a=false) l
theorem sI {lt:α->α->Bool} (W:O5 lt) {out:List α} (h:Srt lt out) (x:α):Srt lt (T9 lt out x):=by
 obtain ⟨h1,h2⟩:=qZ lt x out out.length
 have hp:=tT lt x out out.length
 generalize hpe:R4 lt x out out.length=p at *
 have hs:=xU.1 h
 unfold T9
 rw [hpe,List.append_assoc,List.singleton_append]
 refine List.pairwise_append.2 ⟨h.sublist (List.take_sublist _ _),List.pairwise_cons.2 ⟨fun y hy=>?_,h.sublist (List.drop_sublist _ _)⟩,fun a ha y hy=>?_⟩
 · obtain ⟨i,hi,rfl⟩:=aM hy
   simp only [List.length_drop] at hi
   rw [jG]
   exact W.asymm _ _ (h1 (p+i) ya_ ya_)
 · have hxp:lt x a=false:=by
    obtain ⟨i,hi,rfl⟩:=aM ha
    simp only [List.length_take] at hi
    rw [dU ya_]
    have h3:=h2 ya_
    rcases Nat.lt_or_ge i (p - 1) with h4 | h4
    · exact W.trans _ _ _ (hs i (p - 1) h4 ya_) h3
    · rw [show i=p - 1 by omega]; exact h3
   rcases List.mem_cons.1 hy with rfl | hy
   · exact hxp
   · obtain ⟨i,hi,rfl⟩:=aM ha
     obtain ⟨j,hj,rfl⟩:=aM hy
     simp only [List.length_take] at hi
     simp only [List.length_drop] at hj
     rw [dU ya_,jG]
     exact hs i (p+j) ya_ ya_
def K7 (lt:α->α->Bool) (l:List α):List α:=l.foldl (T9 lt) []
theorem d1I (lt:α->α->Bool) (l:List α):∀ (out:List α),List.Perm (l.foldl (T9 lt) out) (out++l):=by
 induction l with
 | nil=>intro out; simp
 | cons x l ih =>
  intro out
  exact (ih (T9 lt out x)).trans (((a4C lt out x).append_right l).trans (by simpa using List.perm_middle.symm))
theorem a7C {lt:α->α->Bool} (W:O5 lt) (l:List α):∀ (out:List α),Srt lt out->Srt lt (l.foldl (T9 lt) out):=by
 induction l with
 | nil=>intro out h; exact h
 | cons x l ih=>intro out h; exact ih _ (sI W h x)
theorem b2i (lt:α->α->Bool) (l:List α):List.Perm (K7 lt l) l:=d1I lt l []
theorem gP {lt:α->α->Bool} (W:O5 lt) (l:List α):Srt lt (K7 lt l):=a7C W l [] List.Pairwise.nil
theorem a6o (cmp:α->α->Int) (j:Nat):∀ (l:List α),j < l.length->sink cmp 0 j l=T9 (fun a b=>decide (cmp a b < 0)) (l.take j) (nth l j)++l.drop (j+1):=by
 induction j with
 | zero =>
  intro l h
  simp only [sink]
  have hd:l=nth l 0 :: l.drop 1:=by
   have:=Y4 (l:=l) (i:=0) h
   simpa using this
  conv=>lhs; rw [hd]
  simp [T9,R4]
 | succ j ih =>
  intro l h
  simp only [sink]
  have h0:decide (((j+1:Nat):Int) > ((0:Nat):Int))=true:=decide_eq_true ya_
  rw [if_pos h0]
  have htk:l.take (j+1)=l.take j++[nth l j]:=by
   rw [List.take_add_one]
   congr 1
   rw [kY ya_]
   rfl
  have hdj:l.drop (j+1)=nth l (j+1) :: l.drop (j+2):=Y4 h
  have hlen:(l.take j).length=j:=by simp; omega
  by_cases hc:decide (cmp (nth l (j+1)) (nth l j) < 0)=true
  · rw [if_pos hc]
    rw [ih _ yh_]
    have e1:((l.set (j+1) (nth l j)).set j (nth l (j+1))).take j=l.take j:=by
     rw [List.take_set_of_le ya_,List.take_set_of_le ya_]
    have e2:nth ((l.set (j+1) (nth l j)).set j (nth l (j+1))) j=nth l (j+1):=by
     unfold nth
     rw [List.getD_eq_getElem?_getD,List.getElem?_set_self yh_]; rfl
    have e3:((l.set (j+1) (nth l j)).set j (nth l (j+1))).drop (j+1)=nth l j :: l.drop (j+2):=by
     rw [List.drop_set_of_lt ya_,Y4 yh_]
     congr 1
     · unfold nth
       rw [List.getD_eq_getElem?_getD,List.getElem?_set_self ya_]; rfl
     · rw [List.drop_set_of_lt ya_]
    rw [e1,e2,e3]
    have hpos:R4 (fun a b=>decide (cmp a b < 0)) (nth l (j+1)) (l.take (j+1)) (l.take (j+1)).length=R4 (fun a b=>decide (cmp a b < 0)) (nth l (j+1)) (l.take j) j:=by
     rw [show (l.take (j+1)).length=j+1 by rw [List.length_take]; omega]
     simp only [R4]
     rw [dU ya_,if_pos hc]
     exact b3K _ _ _ fun i hi=>by rw [dU ya_,dU hi]
    have hle:=tT (fun a b=>decide (cmp a b < 0)) (nth l (j+1)) (l.take j) j
    unfold T9
    rw [hpos,hlen]
    generalize R4 (fun a b=>decide (cmp a b < 0)) (nth l (j+1)) (l.take j) j=p at *
    rw [htk,List.take_append_of_le_length ya_,List.drop_append_of_le_length ya_]
    simp
  · rw [if_neg hc]
    have hpos:R4 (fun a b=>decide (cmp a b < 0)) (nth l (j+1)) (l.take (j+1)) (l.take (j+1)).length=j+1:=by
     rw [show (l.take (j+1)).length=j+1 by rw [List.length_take]; omega]
     simp only [R4]
     rw [dU ya_,if_neg hc]
    unfold T9
    rw [hpos]
    rw [List.take_of_length_le (l:=l.take (j+1)) yh_,List.drop_of_length_le (l:=l.take (j+1)) yh_,List.append_nil,List.append_assoc,List.singleton_append,<- hdj,List.take_append_drop]
theorem a7v (cmp:α->α->Int) (rest:List α):∀ (S:List α),u7 cmp 0 rest.length S.length (S++rest)=rest.foldl (T9 fun a b=>decide (cmp a b < 0)) S:=by
 induction rest with
 | nil=>intro S; simp [u7]
 | cons x rest ih =>
  intro S
  simp only [List.length_cons,u7,List.foldl_cons]
  rw [a6o cmp S.length _ yf_]
  have e1:(S++x :: rest).take S.length=S:=by simp
  have e3:(S++x :: rest).drop (S.length+1)=rest:=by
   rw [List.drop_append]
   simp
  rw [e1,a3b,e3]
  have:=ih (T9 (fun a b=>decide (cmp a b < 0)) S x)
  rwa [a7x] at this
theorem jB (cmp:α->α->Int) (l:List α):u7 cmp 0 (l.length - 1) 1 l=K7 (fun a b=>decide (cmp a b < 0)) l:=by
 cases l with
 | nil=>rfl
 | cons x l =>
  have:=a7v cmp l [x]
  simpa [K7,T9,R4] using this
end
section
variable {α:Type} [Inhabited α]
theorem oM {lt:α->α->Bool} (W:O5 lt) {out:List α} (h:Srt lt out) (x:α):T9 lt out x=out.filter (fun y=>!lt x y)++x :: out.filter (fun y=>lt x y):=by
 obtain ⟨h1,h2⟩:=qZ lt x out out.length
 have hp:=tT lt x out out.length
 generalize hpe:R4 lt x out out.length=p at *
 have hs:=xU.1 h
 have hA:∀ y∈out.take p,lt x y=false:=by
  intro y hy
  obtain ⟨i,hi,rfl⟩:=aM hy
  simp only [List.length_take] at hi
  have hi':i < p:=by omega
  rw [dU hi']
  have h3:=h2 ya_
  rcases Nat.lt_or_ge i (p - 1) with h4 | h4
  · exact W.trans _ _ _ (hs i (p - 1) h4 ya_) (by simpa using h3)
  · rw [show i=p - 1 by omega]; simpa using h3
 have hB:∀ y∈out.drop p,lt x y=true:=by
  intro y hy
  obtain ⟨i,hi,rfl⟩:=aM hy
  simp only [List.length_drop] at hi
  rw [jG]
  exact h1 (p+i) ya_ ya_
 have e1:out.filter (fun y=>!lt x y)=out.take p:=by
  conv=>lhs; rw [<- List.take_append_drop p out]
  rw [List.filter_append,List.filter_eq_self.2 (fun y hy=>by simp [hA y hy]),List.filter_eq_nil_iff.2 (fun y hy=>by simp [hB y hy]),List.append_nil]
 have e2:out.filter (fun y=>lt x y)=out.drop p:=by
  conv=>lhs; rw [<- List.take_append_drop p out]
  rw [List.filter_append,List.filter_eq_nil_iff.2 (fun y hy=>by simp [hA y hy]),List.filter_eq_self.2 (fun y hy=>by simp [hB y hy]),List.nil_append]
 unfold T9
 rw [hpe,e1,e2]; simp
theorem b0y {lt:α->α->Bool} (W:O5 lt) (p:α->Bool) {out:List α} (h:Srt lt out) (x:α):(T9 lt out x).filter p=if p x=true then T9 lt (out.filter p) x else out.filter p:=by
 have hf:Srt lt (out.filter p):=h.sublist List.filter_sublist
 rw [oM W h x,List.filter_append,List.filter_cons]
 have comm:∀ q:α->Bool,(out.filter q).filter p=(out.filter p).filter q:=fun q=>by rw [List.filter_filter,List.filter_filter]; congr 1; funext y; rw [Bool.and_comm]
 split
 · rw [oM W hf x,comm,comm]
 · rw [<- List.filter_append]
   have e:=oM W h x
   have hperm:List.filter (fun y=>!lt x y) out++List.filter (fun y=>lt x y) out=out:=by
    obtain ⟨h1,h2⟩:=qZ lt x out out.length
    have hi:=e
    unfold T9 at hi
    have hl:=congrArg (fun l=>l.filter p) hi
    clear hl
    have hp:=tT lt x out out.length
    have hlen:(out.take (R4 lt x out out.length)).length=(out.filter (fun y=>!lt x y)).length:=by
     have hs:=xU.1 h
     have e1:out.filter (fun y=>!lt x y)=out.take (R4 lt x out out.length):=by
      conv=>lhs; rw [<- List.take_append_drop (R4 lt x out out.length) out]
      rw [List.filter_append,List.filter_eq_self.2,List.filter_eq_nil_iff.2,List.append_nil]
      · intro y hy
        obtain ⟨i,hi,rfl⟩:=aM hy
        simp only [List.length_drop] at hi
        rw [jG]
        simp [h1 (R4 lt x out out.length+i) ya_ ya_]
      · intro y hy
        obtain ⟨i,hi,rfl⟩:=aM hy
        simp only [List.length_take] at hi
        rw [dU ya_]
        have h3:=h2 ya_
        rcases Nat.lt_or_ge i (R4 lt x out out.length - 1) with h4 | h4
        · have:=W.trans _ _ _ (hs i (R4 lt x out out.length - 1) h4 ya_) (by simpa using h3)
          simp [this]
        · rw [show i=R4 lt x out out.length - 1 by omega]; simpa using h3
     rw [e1]
    have h5:=List.append_inj (show out.take (R4 lt x out out.length)++(x :: out.drop (R4 lt x out out.length))=_ from by simpa using hi) hlen
    have h6:=(List.cons.inj h5.2).2
    rw [<- h5.1,<- h6,List.take_append_drop]
   rw [hperm]
theorem a7I {lt:α->α->Bool} (W:O5 lt) (p:α->Bool) (l:List α):∀ (out:List α),Srt lt out->(l.foldl (T9 lt) out).filter p=(l.filter p).foldl (T9 lt) (out.filter p):=by
 induction l with
 | nil=>intro out h; rfl
 | cons x l ih =>
  intro out h
  rw [List.foldl_cons,ih _ (sI W h x),b0y W p h x,List.filter_cons]
  split
  · rw [List.foldl_cons]
  · rfl
theorem a7H {lt:α->α->Bool} (W:O5 lt) (p:α->Bool) (l:List α):(K7 lt l).filter p=K7 lt (l.filter p):=a7I W p l [] List.Pairwise.nil
end
abbrev ltE (a b:Card):Bool:=decide (U6 a.key b.key < 0)
theorem vS:(fun a b:Card=>y8 a.key b.key)=ltE:=by funext a b; exact (fZ a.key b.key).symm
theorem c5J:O5 ltE:=⟨fun a b h=>by rw [<- vS] at h ⊢; exact a8A h,fun a b c h k=>by rw [<- vS] at h k ⊢; exact a0B h k⟩
theorem b8Q (c:Card) (out:l9C) (k:Nat):I7 c out k=R4 (fun a b:Card=>y8 a.key b.key) c out k:=by
 induction k with
 | zero=>rfl
 | succ k ih=>simp only [I7,R4,ih]
theorem rU (l:l9C):G5 l=K7 ltE l:=by
 rw [<- vS]
 have:Y3=T9 (fun a b:Card=>y8 a.key b.key):=by funext out c; unfold Y3 T9; rw [b8Q]
 unfold G5 K7; rw [this]
theorem a9y (l:l9C):R7 l=G5 l:=by rw [rU]; exact jB _ l
theorem b0r (l:l9C):J4 (G5 l)=J9 l:=by
 unfold J9
 rw [a9y,rU,rU]
 exact a7H c5J _ l
open Go.Proofs.YtfjedpipdnlkfaaGreat
attribute [local irreducible] D8 E5 G5 I4 I7 I8 J2 J4 J5 J9 L6 Q6 R7 U6 V6 Y3 Y5 bV cmpL dN eU gH gI j5 kP l6 l8 ofB qG sink u7 w9 y5 y8 y9
theorem a6e {s:ByteArray} (b:List Int) (h:255 < s.size):J5 b ((ByteArray.extract s 0 255).size:Nat)++D8 (ByteArray.extract s 0 255)=I8 b s:=by
 have:min s.size 255=255:=by omega
 unfold I8 qG; rw [this]
theorem a6d {s:ByteArray} (b:List Int) (h:s.size<=255):J5 b (s.size:Nat)++D8 s=I8 b s:=by
 have e:qG s=s:=by
  have:min s.size 255=s.size:=by omega
  unfold qG; rw [this]; exact ByteArray.extract_zero_size
 unfold I8; rw [e]
def b3G:Ann:={ own:=[7,11],fin:=some 1 }
theorem a0u (b:List Int) (n:Int) (hb:b.length < 1048576):AC 232 [(sA 1 (List.map rU8 b)),(iI n)] [] ((AV.osl 0 1 1 0 (J5 b n).length),[(o_ 1 1 (List.map rU8 (J5 b n)))]):=by
 have hB:=bK b n
 exact o8 (fn:=Tryz.f232) (ann:=b3G) (Has.o Tryz.func232) (.r (.s (.ao 2 249 (AV.sl .clip 1 []) (sA 1 (List.map rU8 b)) (cy_ b) [(o_ 0 1 (List.map rU8 b))] (N8 (T:=tt) (e:=5) (te:=aW) (z:=1) (b:=24) (y:=[.sl .nil 0 []]) (row:=rU8) kr kr rfl z8 z8 yf_ U5 rfl rfl rfl om) (.ao 6 249 (cy_ b) (AV.sl .clip 1 [[(AV.int .u8 (IntKind.u8.wrap n))]]) (cz_ b) [(o_ 1 1 (List.map rU8 (b++[(IntKind.u8.wrap n)])))] (F3 (T:=tt) (e:=5) (te:=aW) (z:=1) (b:=24) (y:=[.sl .nil 0 []]) (row:=rU8) (l:=b) kr kr rfl z8 z8 kr U5 om rfl rfl dP) (.q 1 (cz_ b) (by simp [J5]))))))
theorem a4m (b:List Int) (n:Int) (hb:b.length < 1048576) (H:Heap):AC 232 [(sA 1 (List.map rU8 b)),(iI n)] H (.osl H.length 1 1 0 (J5 b n).length,H++([(o_ 1 1 (List.map rU8 (J5 b n)))]:Heap)):=(a0u b n hb).vT kr (by simp [AV.D5,iE]) H
theorem b0c (b:List Int) (n:Int) (hb:b.length < 1048576):AC 232 [(sA 1 (List.map rU8 b)),(iI n)] [] ((sA 1 (List.map rU8 (J5 b n))),[]):=by
 have h1:=(a0u b n hb).zN (xs:=(J5 b n).map rU8) (H9 (room:=none) kr b1V) (iE _ _)
 exact l6.forget (H2:=[]) (X:=[(o_ 2 1 [])]) h1 rfl kr (fun id o ho=>by simp at ho)
def b2S:Ann:={ own:=[15],fin:=some 1 }
theorem a9K (b:List Int) (s:ByteArray) (hb:b.length < 1048576):AC 230 [(AV.sl .any 1 (List.map rU8 b)),(AV.str s)] [] ((AV.osl 0 2 1 0 (I8 b s).length),[(o_ 2 1 (List.map rU8 (I8 b s)))]):=by
 have hT:=fC b s
 have h7:(ByteArray.extract s 0 255).size=min s.size 255:=by simp; omega
 have h5:=bK b ((ByteArray.extract s 0 255).size:Nat)
 have h6:=fE (ByteArray.extract s 0 255)
 have h5b:=bK b ((min 255 s.size:Nat):Int)
 have h8:=bK b (s.size:Nat)
 have h9:=fE s
 exact o8 (fn:=Tryz.f230) (ann:=b2S) (Has.o Tryz.func230) (.r (.s (.g (.two (decide ((s.size:Int) > 255)) (fun h1 h1'=>(.r (.t 1 (AV.str (ByteArray.extract s 0 255)) [] (a4a om om om om:Option.map (fun a=>(a,([]:Heap))) ((bounds 0 255 (ByteArray.size s)).map fun p=>AV.str (ByteArray.extract s p.1 p.2))=some ((AV.str (ByteArray.extract s 0 255)),([]:Heap))) (.s (.ch 3 [(o_ 1 1 (List.map rU8 (J5 b (((ByteArray.extract s 0 255).size:Nat):Int))))] (a4m b (((ByteArray.extract s 0 255).size:Nat):Int) oa []) (.ao 5 249 (AV.osl 0 1 1 0 (J5 b (((ByteArray.extract s 0 255).size:Nat):Int)).length) (AV.str (ByteArray.extract s 0 255)) (AV.osl 0 2 1 0 ((J5 b (((ByteArray.extract s 0 255).size:Nat):Int)).length+(D8 (ByteArray.extract s 0 255)).length)) [(o_ 2 1 (List.map rU8 ((J5 b (((ByteArray.extract s 0 255).size:Nat):Int))++(D8 (ByteArray.extract s 0 255)))))] (F3 (T:=tt) (e:=5) (te:=aW) (z:=1) (b:=24) (y:=[.sl .nil 0 []]) (row:=rU8) (l:=(J5 b (((ByteArray.extract s 0 255).size:Nat):Int))) kr kr rfl z8 z8 kr (a0M _ _) om rfl rfl dP) (.q 1 (AV.osl 0 2 1 0 ((J5 b (((ByteArray.extract s 0 255).size:Nat):Int)).length+(D8 (ByteArray.extract s 0 255)).length)) (by first | (rw [<- a6e b ow]; simp; done) | (rw [<- a6d b ow]; simp; done))))))))) (fun h1 h1'=>(.r (.ch 3 [(o_ 1 1 (List.map rU8 (J5 b (s.size:Int))))] (a4m b (s.size:Int) oa []) (.ao 5 249 (AV.osl 0 1 1 0 (J5 b (s.size:Int)).length) (AV.str s) (AV.osl 0 2 1 0 ((J5 b (s.size:Int)).length+(D8 s).length)) [(o_ 2 1 (List.map rU8 ((J5 b (s.size:Int))++(D8 s))))] (F3 (T:=tt) (e:=5) (te:=aW) (z:=1) (b:=24) (y:=[.sl .nil 0 []]) (row:=rU8) (l:=(J5 b (s.size:Int))) kr kr rfl z8 z8 kr (a0M _ _) om rfl rfl dP) (.q 1 (AV.osl 0 2 1 0 ((J5 b (s.size:Int)).length+(D8 s).length)) (by first | (rw [<- a6e b ow]; simp; done) | (rw [<- a6d b ow]; simp; done)))))))))))
theorem a0r (b:List Int) (s:ByteArray) (hb:b.length < 1048576):AC 230 [(sA 1 (List.map rU8 b)),(AV.str s)] [] ((sA 1 (List.map rU8 (I8 b s))),[]):=by
 have h1:=(a9K b s hb).zN (xs:=(I8 b s).map rU8) (H9 (room:=none) kr b1V) (iE _ _)
 exact l6.forget (H2:=[]) (X:=[(o_ 3 1 [])]) h1 rfl kr (fun id o ho=>by simp at ho)
def c2u:Ann:={ own:=[9,21],gh:=[(6,.frz 5)],fin:=some 0 }
@[simp] abbrev d2z (a:List Int) (b:Int):=(sA 1 (List.map rU8 ((((((((a++[(c3V b)])++[(c3U b)])++[(c3T b)])++[(c3S b)])++[(c3R b)])++[(c3Q b)])++[(c3P b)])++[(c3O b)])))
theorem b8F (b:List Int) (n:Int) (hb:b.length < 1048576):AC 231 [(sA 1 (List.map rU8 b)),(iI n)] [] ((sA 1 (List.map rU8 (gI b n))),[]) :=
 o8 (fn:=Tryz.f231) (ann:=c2u) (Has.o Tryz.func231) (.r (.s (.ao 2 249 (AV.sl .clip 1 []) (sA 1 (List.map rU8 b)) (cy_ b) [(o_ 0 1 (List.map rU8 b))] (N8 (T:=tt) (e:=5) (te:=aW) (z:=1) (b:=24) (y:=[.sl .nil 0 []]) (row:=rU8) kr kr rfl z8 z8 yf_ U5 rfl rfl rfl om) (.s (.g (.roll 9 (.r (.ru (.ao 7 249 (cy_ b) (c9M n) (cz_ b) [(o_ 1 1 (List.map rU8 (b++[(U7 n)])))] (F3 (T:=tt) (e:=5) (te:=aW) (z:=1) (b:=24) (y:=[.sl .nil 0 []]) (row:=rU8) (l:=b) kr kr rfl z8 z8 kr U5 om rfl rfl dP) (.s (.s (.ru (.ao 7 249 (cz_ b) (c9L n) (b5Z b) [(o_ 2 1 (List.map rU8 ((b++[(U7 n)])++[(X9 n)])))] (F3 (T:=tt) (e:=5) (te:=aW) (z:=1) (b:=24) (y:=[.sl .nil 0 []]) (row:=rU8) (l:=b++[(U7 n)]) kr kr rfl z8 z8 kr U5 om rfl rfl dP) (.s (.s (.ru (.ao 7 249 (b5Z b) (c9K n) (b5X b) [(o_ 3 1 (List.map rU8 (((b++[(U7 n)])++[(X9 n)])++[(aD n)])))] (F3 (T:=tt) (e:=5) (te:=aW) (z:=1) (b:=24) (y:=[.sl .nil 0 []]) (row:=rU8) (l:=(b++[(U7 n)])++[(X9 n)]) kr kr rfl z8 z8 kr U5 om rfl rfl dP) (.s (.s (.ru (.ao 7 249 (b5X b) (cap_ n) (b5W b) [(o_ 4 1 (List.map rU8 ((((b++[(U7 n)])++[(X9 n)])++[(aD n)])++[(bA n)])))] (F3 (T:=tt) (e:=5) (te:=aW) (z:=1) (b:=24) (y:=[.sl .nil 0 []]) (row:=rU8) (l:=((b++[(U7 n)])++[(X9 n)])++[(aD n)]) kr kr rfl z8 z8 kr U5 om rfl rfl dP) (.s (.s (.ru (.ao 7 249 (b5W b) (c9J n) (b5U b) [(o_ 5 1 (List.map rU8 (((((b++[(U7 n)])++[(X9 n)])++[(aD n)])++[(bA n)])++[(eT n)])))] (F3 (T:=tt) (e:=5) (te:=aW) (z:=1) (b:=24) (y:=[.sl .nil 0 []]) (row:=rU8) (l:=(((b++[(U7 n)])++[(X9 n)])++[(aD n)])++[(bA n)]) kr kr rfl z8 z8 kr U5 om rfl rfl dP) (.s (.s (.ru (.ao 7 249 (b5U b) (c9I n) (b5T b) [(o_ 6 1 (List.map rU8 ((((((b++[(U7 n)])++[(X9 n)])++[(aD n)])++[(bA n)])++[(eT n)])++[(iP n)])))] (F3 (T:=tt) (e:=5) (te:=aW) (z:=1) (b:=24) (y:=[.sl .nil 0 []]) (row:=rU8) (l:=((((b++[(U7 n)])++[(X9 n)])++[(aD n)])++[(bA n)])++[(eT n)]) kr kr rfl z8 z8 kr U5 om rfl rfl dP) (.s (.s (.ru (.ao 7 249 (b5T b) (c9H n) (b5S b) [(o_ 7 1 (List.map rU8 (((((((b++[(U7 n)])++[(X9 n)])++[(aD n)])++[(bA n)])++[(eT n)])++[(iP n)])++[(oC n)])))] (F3 (T:=tt) (e:=5) (te:=aW) (z:=1) (b:=24) (y:=[.sl .nil 0 []]) (row:=rU8) (l:=(((((b++[(U7 n)])++[(X9 n)])++[(aD n)])++[(bA n)])++[(eT n)])++[(iP n)]) kr kr rfl z8 z8 kr U5 om rfl rfl dP) (.s (.s (.ru (.ao 7 249 (b5S b) (c9G n) (b5R b) (a3N b n) (F3 (T:=tt) (e:=5) (te:=aW) (z:=1) (b:=24) (y:=[.sl .nil 0 []]) (row:=rU8) (l:=((((((b++[(U7 n)])++[(X9 n)])++[(aD n)])++[(bA n)])++[(eT n)])++[(iP n)])++[(oC n)]) kr kr rfl z8 z8 kr U5 om rfl rfl dP) (.s (.s (.rn (.w 5 (List.map rU8 ((((((((b++[(U7 n)])++[(X9 n)])++[(aD n)])++[(bA n)])++[(eT n)])++[(iP n)])++[(oC n)])++[(yU n)])) (And.intro (H9 (room:=none) kr om) (iE _ _):F4 (a3N b n) 1 (b5R b)=some (List.map rU8 ((((((((b++[(U7 n)])++[(X9 n)])++[(aD n)])++[(bA n)])++[(eT n)])++[(iP n)])++[(oC n)])++[(yU n)]))/\AV.D5 0 (List.map rU8 ((((((((b++[(U7 n)])++[(X9 n)])++[(aD n)])++[(bA n)])++[(eT n)])++[(iP n)])++[(oC n)])++[(yU n)]))=true) (.g (.h' [] (.q 0 (d2z b n) (by (try delta a3N); simp [gI,eU])))))))))))))))))))))))))))))))))))))))))))))
def a0L:Ann:={ fin:=some 0,live:=[(3,[0,3,4])],out:=[(3,[3])] }
@[simp] abbrev d1j (a:List Int) (b:Int) (c:Nat):Fr:=(mkF 21 [(0,(sA 1 (List.map rU8 a))),(3,(AV.int .u32 b)),(4,(iN c))])
@[simp] abbrev c4K :=(l8 Tryz.prog (X a0L) (p9 Tryz.f217 0))
theorem a4j (l:List Int) (h:Int) (i:Nat) (hl:l.length < 1048576) (hle_:i<=l.length) {eX:Ex} {FX:Fr} {HX:Heap} (k1:(decide ((i:Int) < (l.length:Int)))=true->j5 c4K (some [0,3,4]) (some [3]) (mkF 21 [(0,(sA 1 (List.map rU8 l))),(3,(AV.int .u32 (IntKind.u32.wrap ((IntKind.u32.wrap ((IntKind.u32.wrap (h * 31))+(IntKind.u32.wrap (nth l i))))+7)))),(4,(iN (i+1)))]) [] eX FX HX) (k2:(decide ((i:Int) < (l.length:Int)))=false->((.exit 0:Ex),(mkF 21 [(3,(AV.int .u32 h))]),[])=(eX,FX,HX)):j5 c4K (some [0,3,4]) (some [3]) (d1j l h i) [] eX FX HX :=
 F7 (.r (.y 2 (.int .i64 ((List.length (List.map rU8 l):Nat):Int)) (iN l.length) (Yes.len _ _ _) (.g (.two (decide ((i:Int) < (l.length:Int))) (fun h1 h1'=>(.r (.is 4 1 1 (List.map rU8 l) (i:Int) (rU8 (nth l i)) (J6.mk _ ow ow) (.s (.y 1 (.int .i64 (cb_ i)) (iN (i+1)) Yes.o (.g (.l (k1 h1)))))))) (fun h1 h1'=>(.l (k2 h1)))))))
def xL (l:List Int) (i:Nat) (s:Int):Int:=((IntKind.u32.wrap ((IntKind.u32.wrap ((IntKind.u32.wrap (s * 31))+(IntKind.u32.wrap (nth l i))))+7)))
theorem b8k (l:List Int) (hl:l.length < 1048576)  (r_:Nat):∀ (h:Int) (i:Nat) (sF:Int),i+r_=l.length->sF=iter (xL l) r_ i (h) ->
 j5 (l8 Tryz.prog (X a0L) (p9 Tryz.f217 0)) (some [0,3,4]) (some [3]) (d1j l h i) [] (.exit 0) (mkF 21 [(3,(AV.int .u32 sF))]) []:=by
 induction r_ with
 | zero =>
  intro h i sF hi_   hF
  obtain rfl:l.length=i:=by omega
  have e_:sF=(h):=hF
  refine a4j l h l.length hl (Nat.le_refl _) (fun h=>by simp at h <;> omega) (fun _=>?_)
  first | done | rfl | (rw [e_]; done) | (rw [e_]; rfl)
 | succ r_ ih =>
  intro h i sF hi_   hF
  refine a4j l h i hl ow (fun h1=>?_) (fun h=>by simp at h <;> omega)
  · exact ih (IntKind.u32.wrap ((IntKind.u32.wrap ((IntKind.u32.wrap (h * 31))+(IntKind.u32.wrap (nth l i))))+7)) (i+1) sF ow   (by rw [hF] <;> simp only [iter,xL,if_true,Bool.false_eq_true,if_false])
theorem b8l (l:List Int):gH l=iter (xL l) l.length 0 17:=by unfold gH; exact (V3 (xL l) kP l (fun i s hi=>by unfold xL kP; rfl) 17).symm
theorem b8j (l:List Int) (hl:l.length < 1048576):AC 217 [(sA 1 (List.map rU8 l))] [] ((AV.int .u32 (gH l)),[]) :=
 o8 (fn:=Tryz.f217) (ann:=a0L) (Has.o Tryz.func217) (.r (.s (.s (.g (.loop (mkF 21 [(3,(AV.int .u32 (gH l)))]) (show j5 c4K (some [0,3,4]) (some [3]) (mkF 21 [(0,(sA 1 (List.map rU8 l))),(3,(AV.int .u32 17)),(4,z_)]) [] (.exit 0) (mkF 21 [(3,(AV.int .u32 (gH l)))]) [] from (b8k l hl (List.length l) 17 0 (gH l) ow (b8l _))) (.qr 0 (AV.int .u32 (gH l))))))))
def xM:Ann:={ gh:=[(8,.frz 3)],gha:=[(1,.vir 3 9),(7,.cut 1)],fin:=some 0,live:=[(3,[3,7,8,9])],out:=[(3,[3,7,8,9])] }
@[simp] abbrev c5F (a:Nat) (b:Nat) (c:l9C) (d:Nat):Fr:=(mkF 22 [(3,(AV.osl 0 a 9 0 b)),(7,(sA 9 (mC c))),(8,(iN c.length)),(9,(iN d))])
@[simp] abbrev b5P :=(l8 Tryz.prog (X xM) (p9 Tryz.f189 0))
theorem a1V (l:l9C) (out:l9C) (k:Nat) (g:Nat) (i:Nat) (hl:l.length < 1048576) (hk:k=out.length) (hki:k<=i) (hle_:i<=l.length) {eX:Ex} {FX:Fr} {HX:Heap} (k1:(decide ((i:Int) < (l.length:Int)))=true->(!(nth l i).gone)=true->j5 b5P (some [3,7,8,9]) (some [3,7,8,9]) (mkF 22 [(3,(AV.osl 0 (g+1) 9 0 (k+1))),(7,(sA 9 (mC l))),(8,(iN l.length)),(9,(iN (i+1)))]) (b7g g out l i) eX FX HX) (k2:(decide ((i:Int) < (l.length:Int)))=true->(!(nth l i).gone)=false->j5 b5P (some [3,7,8,9]) (some [3,7,8,9]) (mkF 22 [(3,(AV.osl 0 g 9 0 k)),(7,(sA 9 (mC l))),(8,(iN l.length)),(9,(iN (i+1)))]) [(o_ g 9 (mC out))] eX FX HX) (k3:(decide ((i:Int) < (l.length:Int)))=false->((.exit 0:Ex),(c5F g k l i),[(o_ g 9 (mC out))])=(eX,FX,HX)):j5 b5P (some [3,7,8,9]) (some [3,7,8,9]) (c5F g k l i) [(o_ g 9 (mC out))] eX FX HX :=
 F7 (.r (.g (.two (decide ((i:Int) < (l.length:Int))) (fun h1 h1'=>(.r (.h' [(o_ g 9 (mC out)),(o_ 0 9 [[e_,e_,z_,z_,z_,z_,z_,z_,bF]])] (.is 0 9 9 (mC l) (i:Int) (Card.row (nth l i)) (J6.mk _ ow ow) (.s (.g (.two (!(nth l i).gone) (fun h2 h2'=>(.r (.h' (b7f g out l i) (.ap 3 32 (AV.osl 0 g 9 0 k) (AV.sl .clip 9 [(Card.row (nth l i))]) (AV.osl 0 (g+1) 9 0 (k+1)) [(o_ (g+1) 9 (mC (out++[(nth l i)]))),(o_ 0 9 [(Card.row (nth l i))])] (G9 (row:=Card.row) (l:=out) (x:=(nth l i)) (T:=tt) (e:=39) (te:=jP) (z:=1) (b:=24) (y:=[.sl .nil 0 []]) kr kr rfl z8 z8 kr aV rfl rfl pO) (.s (.y 0 (.int .i64 (cb_ i)) (iN (i+1)) Yes.o (.h' (b7g g out l i) (.b 1 (.g (.l (k1 h1 h2))))))))))) (fun h2 h2'=>(.r (.h' (b7f g out l i) (.y 0 (.int .i64 (cb_ i)) (iN (i+1)) Yes.o (.h' [(o_ g 9 (mC out))] (.b 1 (.g (.l (k2 h1 h2)))))))))))))))) (fun h1 h1'=>(.l (k3 h1))))))
def pF (l:List Card) (i:Nat) (s:(List Card) × Nat × Nat):(List Card) × Nat × Nat:=(if (!(nth l i).gone)=true then (s.1++[(nth l i)],(s.2.1+1),(s.2.2+1)) else (s.1,s.2.1,s.2.2))
theorem b2Y (l:l9C) (hl:l.length < 1048576)  (r_:Nat):∀ (out:l9C) (k:Nat) (g:Nat) (i:Nat) (sF:(l9C) × Nat × Nat),i+r_=l.length->k=out.length->k<=i->sF=iter (pF l) r_ i (out,k,g) ->
 j5 (l8 Tryz.prog (X xM) (p9 Tryz.f189 0)) (some [3,7,8,9]) (some [3,7,8,9]) (c5F g k l i) [(o_ g 9 (mC out))] (.exit 0) (mkF 22 [(3,(AV.osl 0 sF.2.2 9 0 sF.2.1)),(7,(sA 9 (mC l))),(8,(iN l.length)),(9,(iN l.length))]) [(o_ sF.2.2 9 (mC sF.1))]:=by
 induction r_ with
 | zero =>
  intro out k g i sF hi_ hk hki  hF
  obtain rfl:l.length=i:=by omega
  have e_:sF=(out,k,g):=hF
  refine a1V l out k g l.length hl hk hki (Nat.le_refl _) (fun h _=>by simp at h <;> omega) (fun h _=>by simp at h <;> omega) (fun _=>?_)
  first | done | rfl | (rw [e_]; done) | (rw [e_]; rfl)
 | succ r_ ih =>
  intro out k g i sF hi_ hk hki  hF
  refine a1V l out k g i hl hk hki ow (fun h1 h2=>?_) (fun h1 h2=>?_) (fun h=>by simp at h <;> omega)
  · exact ih (out++[(nth l i)]) (k+1) (g+1) (i+1) sF ow O7 O7  (by rw [hF] <;> simp only [iter,pF,h2,if_true,Bool.false_eq_true,if_false])
  · exact ih out k g (i+1) sF ow O7 O7  (by rw [hF] <;> simp only [iter,pF,h2,if_true,Bool.false_eq_true,if_false])
theorem b2Z (l:l9C):(J4 l,(J4 l).length,(J4 l).length)=iter (pF l) l.length 0 ([],0,0):=by
 rw [V3 (pF l) (fun s c=>if (fun c:Card=>!c.gone) c=true then (s.1++[c],s.2.1+1,s.2.2+1) else s) l (fun i s hi=>by simp [pF])]
 rw [vY (fun c:Card=>!c.gone) (fun c=>c) l]; simp [J4]
@[simp] abbrev d1i (a:l9C):Fr:=(mkF 22 [(3,(AV.osl 0 (J4 (G5 a)).length 9 0 (J4 (G5 a)).length)),(7,(sA 9 (mC (G5 a)))),(8,(iN ((G5 a).length))),(9,(iN ((G5 a).length)))])
@[simp] abbrev d1h (a:l9C):Heap:=[(o_ ((J4 (G5 a)).length) 9 (mC (J4 (G5 a))))]
theorem a9N (l:l9C) (hl:l.length < 1048576):AC 189 [(sA 9 (mC l))] [] ((sA 9 (mC (J4 (G5 l)))),[]):=by
 have hk:=yD (G5 l)
 have hs:=b7D l
 exact o8 (fn:=Tryz.f189) (ann:=xM) (Has.o Tryz.func189) (.r (.s (.s (.c 1 ((b2T l oa).lift kr kr [(o_ 0 9 (mC []))]) (.h' [(o_ 0 9 (mC []))] (.y 2 (.int .i64 ((List.length (mC (G5 l)):Nat):Int)) (iN ((G5 l).length)) (Yes.len _ _ _) (.g (.loop (d1i l) (show j5 b5P (some [3,7,8,9]) (some [3,7,8,9]) (mkF 22 [(3,(AV.osl 0 0 9 0 0)),(7,(sA 9 (mC (G5 l)))),(8,(iN ((G5 l).length))),(9,z_)]) [(o_ 0 9 (mC []))] (.exit 0) (d1i l) (d1h l) from (b2Y (G5 l) ow (List.length (G5 l)) [] 0 0 0 (J4 (G5 l),(J4 (G5 l)).length,(J4 (G5 l)).length) ow rfl ow (b2Z _))) (.r (.w 3 (mC (J4 (G5 l))) (And.intro (H9 (room:=none) kr om) (Card.o9 _ _):F4 (d1h l) 9 (AV.osl 0 (J4 (G5 l)).length 9 0 (J4 (G5 l)).length)=some (mC (J4 (G5 l)))/\AV.D5 0 (mC (J4 (G5 l)))=true) (.g (.h' [] (.q 0 (sA 9 (mC (J4 (G5 l)))))))))))))))))
theorem a1W (l:l9C) (hl:l.length < 1048576):AC 189 [(sA 9 (mC l))] [] ((sA 9 (mC (J9 l))),[]):=by rw [<- b0r]; exact a9N l hl
def vC:Ann:={ gha:=[(1,.any 3 1),(7,.cut 0)],fin:=some 0,live:=[(3,[3,7,8,9])],out:=[(3,[3,7,8,9])] }
@[simp] abbrev c4J :=(l8 Tryz.prog (X vC) (p9 Tryz.f218 0))
theorem a0s (l:l9C) (b:List Int) (i:Nat) (hl:l.length < 1000) (hb:b.length<=i * 521) (hle_:i<=l.length) {eX:Ex} {FX:Fr} {HX:Heap} (k1:(decide ((i:Int) < (l.length:Int)))=true->j5 c4J (some [3,7,8,9]) (some [3,7,8,9]) (c9F b l i) [] eX FX HX) (k2:(decide ((i:Int) < (l.length:Int)))=false->((.exit 0:Ex),(a3M b l i),[])=(eX,FX,HX)):j5 c4J (some [3,7,8,9]) (some [3,7,8,9]) (a3M b l i) [] eX FX HX:=by
 have h1:=fC b (nth l i).key.app
 have h2:=fC (I8 b (nth l i).key.app) (nth l i).key.id
 have h3:=bK (I8 (I8 b (nth l i).key.app) (nth l i).key.id) (Y5 (nth l i))
 exact F7 (.r (.g (.two (decide ((i:Int) < (l.length:Int))) (fun h1 h1'=>(.r (.h' [(o_ 0 9 [[e_,e_,z_,z_,z_,z_,z_,z_,bF]])] (.is 0 9 9 (mC l) (i:Int) (Card.row (nth l i)) (J6.mk _ ow ow) (.s (.c 4 ((a0r b (nth l i).key.app oa).lift kr kr [(o_ 0 9 [(Card.row (nth l i))])]) (.c 8 ((a0r (I8 b (nth l i).key.app) (nth l i).key.id oa).lift kr kr [(o_ 0 9 [(Card.row (nth l i))])]) (.rd (AV.str (nth l i).key.id) [(o_ 0 9 [(Card.row (nth l i))])] (.s (.c 2 ((a9M (nth l i)).lift kr kr [(o_ 0 9 [(Card.row (nth l i))])]) (.c 3 ((b0c (I8 (I8 b (nth l i).key.app) (nth l i).key.id) (Y5 (nth l i)) oa).lift kr kr [(o_ 0 9 [(Card.row (nth l i))])]) (.c 6 ((b8F (J5 (I8 (I8 b (nth l i).key.app) (nth l i).key.id) (Y5 (nth l i))) (nth l i).lease oa).lift kr kr [(o_ 0 9 [(Card.row (nth l i))])]) (.rd (iI (nth l i).lease) [(o_ 0 9 [(Card.row (nth l i))])] (.rd (iI (nth l i).lease) [(o_ 0 9 [(Card.row (nth l i))])] (.s (.h' [(o_ 0 9 [(Card.row (nth l i))])] (.y 0 (.int .i64 (cb_ i)) (iN (i+1)) Yes.o (.h' [] (.b 0 (.g (.l (k1 h1)))))))))))))))))))))) (fun h1 h1'=>(.l (k2 h1))))))
def pV (l:List Card) (i:Nat) (s:(List Int)):(List Int):=(gI (J5 (I8 (I8 s (nth l i).key.app) (nth l i).key.id) (Y5 (nth l i))) (nth l i).lease)
theorem a9P (l:l9C) (hl:l.length < 1000)  (r_:Nat):∀ (b:List Int) (i:Nat) (sF:(List Int)),i+r_=l.length->b.length<=i * 521->sF=iter (pV l) r_ i (b) ->
 j5 (l8 Tryz.prog (X vC) (p9 Tryz.f218 0)) (some [3,7,8,9]) (some [3,7,8,9]) (a3M b l i) [] (.exit 0) (mkF 31 [(3,(sA 1 (List.map rU8 sF))),(7,(sA 9 (mC l))),(8,(iN l.length)),(9,(iN l.length))]) []:=by
 induction r_ with
 | zero =>
  intro b i sF hi_ hb  hF
  obtain rfl:l.length=i:=by omega
  have e_:sF=(b):=hF
  refine a0s l b l.length hl hb (Nat.le_refl _) (fun h=>by simp at h <;> omega) (fun _=>?_)
  first | done | rfl | (rw [e_]; done) | (rw [e_]; rfl)
 | succ r_ ih =>
  intro b i sF hi_ hb  hF
  refine a0s l b i hl hb ow (fun h1=>?_) (fun h=>by simp at h <;> omega)
  · exact ih (gI (J5 (I8 (I8 b (nth l i).key.app) (nth l i).key.id) (Y5 (nth l i))) (nth l i).lease) (i+1) sF ow (by have h9:(gI (J5 (I8 (I8 b (nth l i).key.app) (nth l i).key.id) (Y5 (nth l i))) (nth l i).lease).length<=b.length+521:=(by have h8:=yT b (nth l i); unfold dN at h8; exact h8); first | omega | assumption | (simp; done) | (simp; omega) | (simp [*]; done) | (simp [*]; omega))  (by rw [hF] <;> simp only [iter,pV,if_true,Bool.false_eq_true,if_false])
theorem a9Q (l:l9C):l.foldl dN []=iter (pV l) l.length 0 []:=(V3 (pV l) dN l (fun i s hi=>by unfold pV dN; rfl) []).symm
@[simp] abbrev c4I (a:l9C):=(sA 1 (List.map rU8 (List.foldl dN [] (J9 a))))
@[simp] abbrev b7e (a:l9C):Fr:=(mkF 31 [(3,(c4I a)),(7,(sA 9 (mC (J9 a)))),(8,(iN ((J9 a).length))),(9,(iN ((J9 a).length)))])
theorem a9O (l:l9C) (hl:l.length < 1000):AC 218 [(sA 9 (mC l))] [] ((sA 1 (List.map rU8 (bV l))),[]):=by
 have h1:=mH l
 exact o8 (fn:=Tryz.f218) (ann:=vC) (Has.o Tryz.func218) (.r (.s (.s (.c 1 ((a1W l oa).lift kr kr []) (.y 2 (.int .i64 ((List.length (mC (J9 l)):Nat):Int)) (iN ((J9 l).length)) (Yes.len _ _ _) (.g (.loop (b7e l) (show j5 c4J (some [3,7,8,9]) (some [3,7,8,9]) (mkF 31 [(3,(sA 1 [])),(7,(sA 9 (mC (J9 l)))),(8,(iN ((J9 l).length))),(9,z_)]) [] (.exit 0) (b7e l) [] from (a9P (J9 l) ow (List.length (J9 l)) [] 0 (List.foldl dN [] (J9 l)) ow yf_ (a9Q _))) (.qr 0 (c4I l) (by unfold bV; rfl)))))))))
def b8p:Ann:={ fin:=some 0 }
theorem b3a (l:l9C) (hl:l.length < 1000):AC 188 [(sA 9 (mC l))] [] ((AV.int .u32 (ofB l)),[]):=by
 have h1:=a4f l
 exact o8 (fn:=Tryz.f188) (ann:=b8p) (Has.o Tryz.func188) (.r (.s (.c 1 ((a9O l oa).lift kr kr []) (.c 2 ((b8j (bV l) oa).lift kr kr []) (.q 0 (AV.int .u32 (gH (bV l))) (by unfold ofB; rfl))))))
def b4t:Ann:={ fin:=some 0 }
theorem a0y (n:Int) :AC 219 [(iI n)] [] (bF,[]) :=
 o8 (fn:=Tryz.f219) (ann:=b4t) (Has.o Tryz.func219) (.r (.g (.qr 0 (bB (n != n)) yf_)))
def a7W:Ann:={ fin:=some 0 }
theorem c1f {p:Prop} (h:p:=by simp_all [P7] <;> omega):p:=h
theorem a5s (a b:Int) :AC 196 [(iI a),(iI b)] [] ((iI (P7 a b)),[]) :=
 o8 (fn:=Tryz.f196) (ann:=a7W) (Has.o Tryz.func196) (.r (.s (.c 1 ((a0y a).lift kr kr []) (.s (.c 1 ((a0y b).lift kr kr []) (.s (.rn (.rn (.g (.two (decide (a < b)) (fun h1 h1'=>(.qr 0 (iI (-1)) c1f)) (fun h1 h1'=>(.r (.g (.two (decide (a > b)) (fun h2 h2'=>(.qr 0 (iI 1) c1f)) (fun h2 h2'=>(.qr 0 z_ c1f))))))))))))))))
def c7V:Ann:={ fin:=some 0 }
theorem c2K (x y z:Int) :AC 120 [(sA 1 [[(iI x)],[(iI y)],[(iI z)]])] [] ((iI (if x=0 then if y=0 then z else y else x)),[]) :=
 o8 (fn:=Tryz.f120) (ann:=c7V) (Has.o Tryz.func120) (.r (.s (.s (.g (.roll 4 (.r (.ru (.s (.g (.two (x != 0) (fun h1 h1'=>(.qr 0 (iI x) (by simp_all))) (fun h1 h1'=>(.r (.s (.ru (.s (.g (.two (y != 0) (fun h2 h2'=>(.qr 0 (iI y) (by simp_all))) (fun h2 h2'=>(.r (.s (.ru (.s (.g (.two (z != 0) (fun h3 h3'=>(.qr 0 (iI z) (by simp_all))) (fun h3 h3'=>(.r (.s (.g (.n (.qr 0 z_ (by simp_all)))))))))))))))))))))))))))))))
def P6 (a b:l7):Int:=if P7 a.t b.t=0 then if P7 a.n b.n=0 then P7 a.node b.node else P7 a.n b.n else P7 a.t b.t
def b2d:Ann:={ refs:=[2,3],fin:=some 0 }
theorem a9t (a b:l7) :AC 147 [(AV.agg (l7.row a)),(AV.agg (l7.row b))] [] ((bB (decide (P6 a b < 0))),[]) :=
 o8 (fn:=Tryz.f147) (ann:=b2d) (Has.o Tryz.func147) (.r (.s (.c 4 ((nQ a.t b.t).lift kr kr []) (.c 9 ((nQ a.n b.n).lift kr kr []) (.c 14 ((a5s a.node b.node).lift kr kr []) (.c 16 (l6.pre (args:=[(sA 1 [[(iI (P7 a.t b.t))],[(iI (P7 a.n b.n))],[(iI (P7 a.node b.node))]])]) (args':=[(AV.sl .clip 1 [[(iI (P7 a.t b.t))],[(iI (P7 a.n b.n))],[(iI (P7 a.node b.node))]])]) ((c2K (P7 a.t b.t) (P7 a.n b.n) (P7 a.node b.node)).lift kr kr []) ⟨⟨rfl,rfl,.inl rfl⟩,trivial⟩) (.q 0 (bB (decide ((if (P7 a.t b.t)=0 then if (P7 a.n b.n)=0 then (P7 a.node b.node) else (P7 a.n b.n) else (P7 a.t b.t)) < 0))))))))))
end Go.Proofs.YtfjedpipdnlkfaaGreat.AM
namespace Go.Proofs.YtfjedpipdnlkfaaGreat.AM
open Go
theorem a9u {P:Program} {F:Fr} {H:Heap} {dst:Option Tmp} {x y:Operand} {lo:Option Operand} {t e0:TypeId} {type:TypeId} {pos:String} {after:Array Edge} {guard:Option (Nat × Bool)} {id g k e n l h:Nat} {els:List (List AV)} {room:Option Nat}
 (ht:P.underlying t=some (.slice e0)) (hk:∀ w:World,(Go.sizeOf e0).run P w=.ok k w) (hx:opv F x=some (.osl id g k e n)) (ho:H[id]?=some ⟨g,k,els,room⟩)
 (hlo:J3 F lo 0=some (l:Int)) (hhi:J3 F (some y) 0=some (h:Int)) (h1:l<=h) (h2:e+h<=els.length) :
 kI P F H ⟨dst,.slice t x lo (some y) none,type,pos,after,guard⟩ (.osl id g k (e+l) (h - l),H):=by
 intro G w C f hf hH
 have hv:=hf x yp_ _ hx
 have hgen:g=C.γ id:=hH.gen id _ ho
 have hl:=jF (G:=G) (w:=w) (C:=C) (f:=f) hlo fun z hz a ha=>hf z (by simp [Op.operands,hz]) a ha
 have hh:=jF (G:=G) (w:=w) (C:=C) (f:=f) hhi fun z hz a ha=>hf z yu_ a ha
 have hb:∀ len cap:Nat,h<=cap->(Instr.sliceBounds true len cap (lo.map f) (some (f y)) none).run P w=.ok (l,h,cap) w:=by
  intro len cap hc
  rcases hh with ⟨hh,_⟩ | ⟨z,kz,hz,hfz⟩
  · simp at hh
  · simp only [Option.some.injEq] at hz
    subst hz
    rcases hl with ⟨rfl,h0⟩ | ⟨z,kz',rfl,hz⟩
    · have:l=0:=by omega
      subst this
      simp [Instr.sliceBounds,hfz,run_sliceBound,hc]
    · simp [Instr.sliceBounds,hz,hfz,run_sliceBound,hc,h1]
 generalize hu:f x=u at hv
 cases hv with
 | osl _ _ _ _ _ _ ad cap hnc hle hl' =>
  obtain ⟨L,b,hι,hLb,hLk,hen,hcap,had⟩:=hl' hgen
  have hrm:=(hH.ob id _ L ho hι).len
  simp only at hrm
  have hr:(Instr.sliceAt t (f x) (lo.map f) (some (f y)) none).run P w=.ok (.slice (if cap=l then some ad else (some ad).map (·.add (l * k))) (h - l) (cap - l)) w:=by
   rw [hu]
   simp only [Instr.sliceAt,Instr.slice,Sem.run_bind,run_underlying ht,Result.andThen_ok]
   rw [hb n cap ya_]
   simp only [Result.andThen_ok,hk w,Sem.run_pure,Sem.run_bind]
  refine ⟨.slice (if cap=l then some ad else (some ad).map (·.add (l * k))) (h - l) (cap - l),w,?_,G,C,Ev.refl ..,hH,?_,Pd.refl⟩
  · simp only [execOp,Option.map_some,Option.map_none,Sem.run_bind,hr,Result.andThen_ok,Sem.run_pure]
  · have hif:(if cap=l then some ad else (some ad).map (·.add (l * k)))=some (if cap=l then ad else ad.add (l * k)):=by split <;> rfl
    rw [hif]
    refine .osl _ _ _ _ _ _ _ _ ya_ hle fun hg=>?_
    refine ⟨L,b,hι,hLb,hLk,by omega,by omega,fun hlt=>?_⟩
    rw [if_neg ya_,had ya_,U0,Nat.add_assoc,<- Nat.add_mul]
 | osl0 _ _ _ _ _ base hle hl' =>
  obtain ⟨L,hι,hLb,hLk⟩:=hl' hgen
  have hob:=hH.ob id _ L ho hι
  have h4:=hob.no hLb
  have h5:=hob.len
  simp only at h5
  have hl0:l=0:=by omega
  have hh0:h=0:=by omega
  have hr:(Instr.sliceAt t (f x) (lo.map f) (some (f y)) none).run P w=.ok (.slice base 0 0) w:=by
   rw [hu]
   simp only [Instr.sliceAt,Instr.slice,Sem.run_bind,run_underlying ht,Result.andThen_ok]
   rw [hb 0 0 ya_]
   simp [hk w,hl0,hh0]
  subst hl0; subst hh0
  refine ⟨.slice base 0 0,w,?_,G,C,Ev.refl ..,hH,.osl0 _ _ _ _ _ base hle hl',Pd.refl⟩
  simp only [execOp,Option.map_some,Option.map_none,Sem.run_bind,hr,Result.andThen_ok,Sem.run_pure]
theorem b2f {P:Program} {F:Fr} {H:Heap} {dst:Option Tmp} {x y:Operand} {t t' e0:TypeId} {type:TypeId} {pos:String} {after:Array Edge} {guard:Option (Nat × Bool)} {id g k e n id2 g2 e2 n2:Nat} {els els2:List (List AV)} {room room2:Option Nat}
 (ht:P.underlying t=some (.slice e0)) (hk:∀ w:World,(Go.sizeOf e0).run P w=.ok k w) (hx:opv F x=some (.osl id g k e n)) (ho:H[id]?=some ⟨g,k,els,room⟩) (hy:opv F y=some (.osl id2 g2 k e2 n2)) (ho2:H[id2]?=some ⟨g2,k,els2,room2⟩)
 (h0:0 < n) (hn:n<=n2) (he:e<=els.length) (he2:e2+n<=els2.length) :
 kI P F H ⟨dst,.call { callee:=.builtin .copy,args:=#[x,y],argTypes:=#[t,t'] },type,pos,after,guard⟩ (.int .i64 (n:Int),H.set id ⟨g,k,els.take e++(els2.drop e2).take n++els.drop (e+n),room⟩):=by
 intro G w C f hf hH
 have hv:=hf x yq_ _ hx
 have hvs:=hf y yq_ _ hy
 have hgen:g=C.γ id:=hH.gen id _ ho
 have hgen2:g2=C.γ id2:=hH.gen id2 _ ho2
 have hnl:((els2.drop e2).take n).length=n:=by simp; omega
 generalize hu2:f y=u2 at hvs
 cases hvs with
 | osl0=>omega
 | osl _ _ _ _ _ _ ad2 cap2 hnc2 hle2 hl2 =>
 have hvs':VR G w C (.osl id2 g2 k e2 n) (.slice (some ad2) n cap2):=.osl _ _ _ _ _ _ _ _ ya_ hle2 fun hg=>by
  obtain ⟨l,b,q1,q2,q3,q4,q5⟩:=hl2 hg
  exact ⟨l,b,q1,q2,q3,by omega,q5⟩
 obtain ⟨nv,hsrc⟩:=iD (P:=P) (k:=k) (xs:=(els2.drop e2).take n) hH hvs' (by simp [F4,ho2,he2])
 generalize hu:f x=u at hv
 cases hv with
 | osl0=>omega
 | osl _ _ _ _ _ _ ad cap hnc hle h =>
  obtain ⟨l,bb,hι,hlb,hlk,hen,hcap,had⟩:=h hgen
  have had':=had ya_
  subst had'
  have hob:=hH.ob id _ l ho hι
  obtain ⟨cur,et,hcur,hcsz,_⟩:=hob.cells bb hlb
  obtain ⟨h1,h2⟩:=sD hH ho hι hlb hlk hsrc.length hsrc.row hsrc.rel he ya_ hcur
  rw [hnl] at h2
  have hm:(e+n) * l.k<=l.room * l.k:=Nat.mul_le_mul_right _ ya_
  rw [Nat.add_mul] at hm
  have hnvl:nv.length=n * l.k:=by rw [hsrc.length,hlk,hnl]
  have hst:=run_storeCells_at P bb (l.sh+e * k) et nv 0 cur w hcur (by rw [<- hlk]; simp; omega) hsrc.oneCell
  simp only [Nat.add_zero] at hst
  have hmin:Nat.min n2 n=n:=Nat.min_eq_right hn
  have hfc:(Builtin.firstCells k n (.slice (some ad2) n2 cap2)).run P w=.ok nv.toArray w:=by
   have:=hsrc.cells w rfl
   rw [hnl] at this
   exact this
  have hr:(Builtin.copy_ #[t,t'] type #[f x,f y]).run P w=.ok (.int .i64 (n:Int)) (w.setRow bb (cur.toList.take (l.sh+e * l.k)++nv++cur.toList.drop (l.sh+e * l.k+nv.length)).toArray):=by
   rw [hu,hu2,hlk]
   simp [Builtin.copy_,run_underlying ht,Builtin.lenOf,hmin,hk w,hfc,hst,goInt]
  refine ⟨_,_,?_,G,C,h1,h2,.int ..,?_⟩
  · simp [execOp,resolve,invoke,builtin,hr]
  · refine ⟨by simp,fun j hj _ hιj=>⟨hιj,rfl,?_⟩⟩
    have hne:id≠j:=fun e'=>by subst e'; rw [hι] at hιj; simp at hιj
    exact List.getElem?_set_ne hne
theorem a2U {P:Program} (w:World) (tS tR e:TypeId) (ht:P.underlying tS=some (.slice e)) (size:Nat) (hz:∀ w,(Go.sizeOf e).run P w=.ok size w)
 (a b:Addr) (la ca lb cb:Nat) (hne:a.block≠b.block) (tA tB:TypeId) (kA kB:Nat)
 (hsa:w.shape? a.block=some (tA,kA)) (hsb:w.shape? b.block=some (tB,kB)) (hkB:kB≠0) (hkA:kA≠0)
 (hfb:w.frozen? b=false) (hfe:w.frozen? { block:=b.block,off:=kB }=false) :
 (Extern.SlicesOverlaps.overlaps #[tS,tS] #[tR] #[.slice (some a) la ca,.slice (some b) lb cb]).run P w=.ok (.bool false) w:=by
 have hnb:(a.block != b.block)=true:=by simpa using hne
 have hnb':(a.block == b.block)=false:=by simpa using hne
 change Sem.run P (α:=Value) (do
  let some t := (#[tS, tS] : Array TypeId)[0]? | stuck "slices.overlaps: no parameter types"
  let .slice elem ← underlying t | stuck "slices.overlaps: slice type expected"
  let size <- Go.sizeOf elem
  match (some a:Option Addr),(some b:Option Addr) with
  | some a,some b =>
   if la=0\/lb=0\/size=0 then pure (Value.bool false)
   else if a.block != b.block&&(<- frozen a)&&(<- frozen b) then unsupported .addressObserved
   else do
    if a.block != b.block then do
     noView a; noView b
     if ← mayBeOne a b then return Value.bool ((← choose (.extern "sameAddr.stringBytes" 2)) == 1)
    pure (Value.bool (a.block == b.block&&a.off < b.off+lb * size&&b.off < a.off+la * size))
  | _,_=>pure (Value.bool false)) w=_
 by_cases h0:la=0\/lb=0\/size=0
 · simp [run_underlying ht,hz,h0]
 · cases kB with
   | zero=>exact absurd rfl hkB
   | succ kB =>
    cases kA with
    | zero=>exact absurd rfl hkA
    | succ kA =>
    cases hfa:w.frozen? a <;> cases hfa2:w.frozen? { block:=a.block,off:=kA+1 } <;>
    simp [run_underlying ht,hz,h0,hnb,hnb',frozen,noView,viewAt,mayBeOne,stringish,shape,Sem.run,hsa,hsb,hfb,hfe,hfa,hfa2]
theorem a2z {P:Program} {f:FuncId} {tS tR e0:TypeId} {k:Nat} (hc:∀ vs w,(callFunc f vs).run P w=((Extern.SlicesOverlaps.overlaps #[tS,tS] #[tR] vs).run P w).andThen fun v w'=>.ok (.value v) w')
 (ht:P.underlying tS=some (.slice e0)) (hk:∀ w:World,(Go.sizeOf e0).run P w=.ok k w) (hk0:0 < k) {tg:Tg} {rows:List (List AV)} {id g e n:Nat} {H:Heap} {o:Ob} (ho:H[id]?=some o) (hg:o.gen=g) :
 l6 P f [.sl tg k rows,.osl id g k e n] H (.bool false,H):=by
 intro G w C vs hsz hargs hH
 have h0:=hargs 0 yf_
 have h1:=hargs 1 yf_
 have hvs:vs = #[vs.getD 0 undef,vs.getD 1 undef]:=by
  have hs2:vs.size=2:=by simpa using hsz
  apply Array.ext
  · simp [hs2]
  · intro i hi1 hi2
    rcases i with _ | _ | i
    · simp [Array.getD_eq_getD_getElem?,hs2]
    · simp [Array.getD_eq_getD_getElem?,hs2]
    · omega
 simp only [List.getD_cons_zero,List.getD_cons_succ] at h0 h1
 generalize vs.getD 0 undef=v0 at h0 hvs
 generalize vs.getD 1 undef=v1 at h1 hvs
 subst hvs
 have hdone:(Extern.SlicesOverlaps.overlaps #[tS,tS] #[tR] #[v0,v1]).run P w=.ok (.bool false) w->dO P f #[v0,v1] w (After G w C H (.bool false,H)):=fun hr=>by
  unfold dO
  have:=hc #[v0,v1] w
  rw [this]
  rw [hr,Result.andThen_ok]
  exact ⟨G,C,Ev.refl ..,hH,.bool ..,Pd.refl⟩
 apply hdone
 have hgen:g=C.γ id:=by rw [<- hg]; exact hH.gen id o ho
 have hsome:∀ (a:Option Addr) la ca (b:Option Addr) lb cb,(a=none\/b=none\/la=0\/lb=0)->(Extern.SlicesOverlaps.overlaps #[tS,tS] #[tR] #[.slice a la ca,.slice b lb cb]).run P w=.ok (.bool false) w:=by
  intro a la ca b lb cb h
  change Sem.run P (α:=Value) (do
   let some t := (#[tS, tS] : Array TypeId)[0]? | stuck "slices.overlaps: no parameter types"
   let .slice elem ← underlying t | stuck "slices.overlaps: slice type expected"
   let size <- Go.sizeOf elem
   match (a:Option Addr),(b:Option Addr) with
   | some a,some b =>
    if la=0\/lb=0\/size=0 then pure (Value.bool false)
    else if a.block != b.block&&(<- frozen a)&&(<- frozen b) then unsupported .addressObserved
    else do
     if a.block != b.block then do
      noView a; noView b
      if ← mayBeOne a b then return Value.bool ((← choose (.extern "sameAddr.stringBytes" 2)) == 1)
     pure (Value.bool (a.block == b.block&&a.off < b.off+lb * size&&b.off < a.off+la * size))
   | _,_=>pure (Value.bool false)) w=_
  cases a <;> cases b <;> simp [run_underlying ht,hk w]
  intro h1 h2 h3
  rcases h with h | h | h | h
  · simp at h
  · simp at h
  · exact absurd h h1
  · exact absurd h h2
 generalize hu0:v0=u0 at h0
 cases h0 with
 | nils=>
  cases h1 with
  | osl=>subst hu0; exact hsome _ _ _ _ _ _ (.inl rfl)
  | osl0=>subst hu0; exact hsome _ _ _ _ _ _ (.inl rfl)
 | sl _ _ _ _ ad cap htg hclip hle hs cv hkl hcl h1' hv =>
  subst hu0
  cases h1 with
  | osl0=>exact hsome _ _ _ _ _ _ (.inr (.inr (.inr rfl)))
  | osl _ _ _ _ _ _ ad2 cap2 hnc hle2 hl2 =>
   by_cases hr0:rows.length=0
   · exact hsome _ _ _ _ _ _ (.inr (.inr (.inl hr0)))
   by_cases hn0:n=0
   · exact hsome _ _ _ _ _ _ (.inr (.inr (.inr hn0)))
   obtain ⟨l,b,hι,hlb,hlk,hen,hcap,had⟩:=hl2 hgen
   have had':=had ya_
   have hne:rows≠[]:=fun e=>by simp [e] at hr0
   obtain ⟨hsp,hG⟩:=hs hne
   have hcell:=hcl 0 0 ya_ hk0
   obtain ⟨cs,et,hcs,hcsz,_⟩:=(hH.ob id o l ho hι).cells b hlb
   have hbG:=(hH.own id l b hι hlb).2
   have hm:(e+n) * l.k<=l.room * l.k:=Nat.mul_le_mul_right _ hen
   have hm2:1 * l.k<=(e+n) * l.k:=Nat.mul_le_mul_right _ ya_
   have hsa:∃ tA kA,w.shape? ad.block=some (tA,kA)/\kA≠0:=by
    unfold World.cell? at hcell
    unfold World.shape?
    split at hcell
    · rename_i c t fr hw
      refine ⟨t,c.size,by simp only at hw; rw [hw],fun e0=>?_⟩
      have:c = #[]:=Array.eq_empty_of_size_eq_zero e0
      simp [this] at hcell
    · simp at hcell
   obtain ⟨tA,kA,hsa,hkA⟩:=hsa
   have hb2:ad2.block=b:=by rw [had']
   refine a2U w tS tR e0 ht k hk ad ad2 _ _ _ _ (fun e'=>?_) tA et kA cs.size hsa (by rw [hb2]; simp [World.shape?,hcs]) ya_ hkA (by simp [World.frozen?,hb2,hcs]) (by simp [World.frozen?,hb2,hcs])
   rw [hb2] at e'
   exact hbG (e' ▸ hG)
end Go.Proofs.YtfjedpipdnlkfaaGreat.AM
