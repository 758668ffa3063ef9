/-
  Texts of this claim, part 3 of 6: an abstract machine over the model; what functions come to; plain laws.
-/
import Derived.Test.YtfjedpipdnlkfaaMDeskFetches2
import Derived.Test.YtfjedpipdnlkfaaChecked
import Derived.Laws.Externs
set_option linter.unusedVariables false
set_option linter.unusedSimpArgs false
namespace Go.Proofs.Ytfjedpipdnlkfaa.AM
open Go
section
variable {P:Program} {f:FuncId} {args args':List AV} {a a':AV} {H H':Heap}
theorem ACalls.pre (h:ACalls P f args H (a,H')) (hw:AV.wks args' args):ACalls P f args' H (a,H'):=by
 intro G w C vs hsz hargs hH
 obtain ⟨h1,h2⟩:=AV.wks_get hw
 exact h G w C vs (by omega) (fun i hi=>(hargs i (by omega)).wk (h2 i (by omega))) hH
theorem ACalls.post (h:ACalls P f args H (a,H')) (hw:AV.wk a a'):ACalls P f args H (a',H'):=by
 intro G w C vs hsz hargs hH
 exact (h G w C vs hsz hargs hH).mono fun v w' ⟨G',C',h1,h2,h3,h4⟩=>⟨G',C',h1,h2,h3.wk hw,h4⟩
end
def mkF (n:Nat) (l:List (Nat × AV)):Fr:=(List.range n).map fun i=>assoc i l
def loopsOf:Code→List Code
 | .seq a b=>loopsOf a++loopsOf b
 | .cond _ a b=>loopsOf a++loopsOf b
 | .block _ c=>loopsOf c
 | .loop c=>c :: loopsOf c
 | _=>[]
def loopOf (fn:Func) (i:Nat):Code:=((fn.body.map loopsOf).getD []).getD i .skip
abbrev Yes (a:AV) (H:Heap) (b:AV):Prop:=some (a,H)=some (b,H)
theorem i64_id {n:Int} (h1:-9223372036854775808≤n) (h2:n≤9223372036854775807):IntKind.i64.wrap n=n:=by
 simp only [IntKind.wrap,IntKind.bits,IntKind.signed]
 simp
 split <;> omega
theorem Yes.int {k:IntKind} {m n:Int} {H:Heap} (h:m=n):Yes (.int k m) H (.int k n):=by rw [h]
theorem Yes.add {m n:Int} {H:Heap} (h1:-9223372036854775808≤n) (h2:n≤9223372036854775807) (h:m=n):Yes (.int .i64 (IntKind.i64.wrap m)) H (.int .i64 n):=by rw [h,i64_id h1 h2]
theorem Yes.bool {b c:Bool} {H:Heap} (h:b=c):Yes (.bool b) H (.bool c):=by rw [h]
theorem Yes.len {α:Type} (l:List α) (row:α→List AV) (H:Heap):Yes (.int .i64 ((l.map row).length:Nat)) H (.int .i64 (l.length:Nat)):=by simp
def nth {α:Type} [Inhabited α] (l:List α) (i:Nat):α:=l.getD i default
theorem nth_eq {α:Type} [Inhabited α] {l:List α} {i:Nat} {x:α} (h:l[i]?=some x):nth l i=x:=by simp [nth,List.getD_eq_getElem?_getD,h]
theorem nth_get {α:Type} [Inhabited α] {l:List α} {i:Nat} (h:i < l.length):l[i]?=some (nth l i):=by simp [nth,List.getD_eq_getElem?_getD,List.getElem?_eq_getElem h]
abbrev IdxSl (k k':Nat) (rows:List (List AV)) (i:Int) (H:Heap) (cs:List AV):Prop:=Option.map (fun a=>(a,H)) (if 0≤i∧k=k' then (rows[i.toNat]?).map fun cs=>AV.ref cs 0 else none)=some (.ref cs 0,H)
theorem IdxSl.mk {α:Type} [Inhabited α] {l:List α} {row:α→List AV} {k:Nat} {i:Int} {j:Nat} (H:Heap) (hi:i=(j:Int)) (hj:j < l.length):IdxSl k k (l.map row) i H (row (nth l j)):=by
 subst hi
 simp [IdxSl,nth_get hj]
abbrev IdxOsl (id g k k' e0 n:Nat) (i:Int) (H:Heap) (j:Nat):Prop:=Option.map (fun a=>(a,H)) (if 0≤i∧i < (n:Int)∧k=k' then some (AV.obj id g (e0+i.toNat) 0) else none)=some (.obj id g j 0,H)
theorem IdxOsl.mk {id g k n:Nat} {i:Int} {j:Nat} (H:Heap) (hi:i=(j:Int)) (hj:j < n):IdxOsl id g k k 0 n i H j:=by
 subst hi
 have:(j:Int) < (n:Int):=by omega
 simp [IdxOsl,this]
theorem nth_append_len {α:Type} [Inhabited α] (l:List α) (x:α) (m:List α):nth (l++x :: m) l.length=x:=by simp [nth,List.getD_eq_getElem?_getD]
theorem evAppend_one {T:TT} {H H':Heap} {t e:TypeId} {te:TI} {α:Type} {row:α→List AV} {id g k n n':Nat} {l:List α} {x:α} {z:Nat} {b:Nat} {y:List AV}
 (ht:T t=some { d:=.slice e,size:=z,bytes:=b,zero:=y }) (hte:T e=some te) (hsz:te.size=k) (hk:0 < k) (hb:0 < te.bytes)
 (ho:H[id]?=some ⟨g,k,l.map row,none⟩) (hn:n=l.length) (hn':n'=n+1) (hH':H'=H.set id ⟨g+1,k,(l++[x]).map row,none⟩) (hlen:(n+1) * te.bytes≤140737488355328) :
 evAppend T H t (.osl id g k 0 n) (.sl .clip k [row x])=some (.osl id (g+1) k 0 n',H'):=by
 subst hn hn' hH' hsz
 simp only [evAppend,ht,hte,rowsIn,true_or,if_true]
 simp only [ho,hk,and_self,if_true,List.length_map,Nat.zero_add]
 simp [most,hlen,hb]
theorem evAppendO_fresh {T:TT} {H H':Heap} {t e:TypeId} {te:TI} {α:Type} {row:α→List AV} {g:Tg} {id k k0 n:Nat} {l:List α} {x:AV} {z:Nat} {b:Nat} {y:List AV}
 (ht:T t=some { d:=.slice e,size:=z,bytes:=b,zero:=y }) (hte:T e=some te) (hsz:te.size=k) (hk:0 < k) (hb:0 < te.bytes) (hg:g=.nil∨g=.clip∨g=.cn)
 (hx:rowsIn H k x=some (l.map row)) (hn:n=l.length) (hid:id=H.length) (hH':H'=H++[⟨0,k,l.map row,none⟩]) (hlen:l.length * te.bytes≤140737488355328) :
 evAppendO T H t (.sl g k0 []) x=some (.osl id 0 k 0 n,H'):=by
 subst hn hid hH' hsz
 simp only [evAppendO,ht,hte,hx]
 rcases hg with rfl | rfl | rfl <;> simp [most,hlen,hb,hk]
theorem evAppendO_end {T:TT} {H H':Heap} {t e:TypeId} {te:TI} {α:Type} {row:α→List AV} {id g k n n':Nat} {l m:List α} {x:AV} {z:Nat} {b:Nat} {y:List AV}
 (ht:T t=some { d:=.slice e,size:=z,bytes:=b,zero:=y }) (hte:T e=some te) (hsz:te.size=k) (hk:0 < k) (hb:0 < te.bytes)
 (ho:H[id]?=some ⟨g,k,l.map row,none⟩) (hx:rowsIn H k x=some (m.map row)) (hn:n=l.length) (hn':n'=n+m.length) (hH':H'=H.set id ⟨g+1,k,(l++m).map row,none⟩) (hlen:(n+m.length) * te.bytes≤140737488355328) :
 evAppendO T H t (.osl id g k 0 n) x=some (.osl id (g+1) k 0 n',H'):=by
 subst hn hn' hH' hsz
 simp only [evAppendO,ht,hte,hx,ho]
 simp [most,hlen,hb,hk]
theorem rowsIn_all {α:Type} {row:α→List AV} {H:Heap} {id g k n:Nat} {l:List α} {room:Option Nat} (ho:H[id]?=some ⟨g,k,l.map row,room⟩) (hn:n=l.length):rowsIn H k (.osl id g k 0 n)=some (l.map row):=by
 subst hn
 simp [rowsIn,ho,List.take_of_length_le]
def iter {σ:Type} (f:Nat→σ→σ):Nat→Nat→σ→σ
 | 0,_,s=>s
 | r+1,i,s=>iter f r (i+1) (f i s)
theorem iter_step {σ:Type} (f:Nat→σ→σ) (r:Nat):∀ (i:Nat) (s:σ),iter f (r+1) i s=f (i+r) (iter f r i s):=by
 induction r with
 | zero=>intro i s; rfl
 | succ r ih =>
  intro i s
  show iter f (r+1) (i+1) (f i s)=_
  rw [ih (i+1) (f i s),Nat.add_assoc,Nat.add_comm 1 r]
  rfl
theorem iter_succ {σ:Type} (f:Nat→σ→σ) (r:Nat) (s:σ):iter f (r+1) 0 s=f r (iter f r 0 s):=by
 rw [iter_step,Nat.zero_add]
theorem iter_foldl {α σ:Type} [Inhabited α] (f:Nat→σ→σ) (g:σ→α→σ) (l:List α) (h:∀ i s,i < l.length→f i s=g s (nth l i)) (r:Nat):∀ (i:Nat) (s:σ),i+r=l.length→iter f r i s=(l.drop i).foldl g s:=by
 induction r with
 | zero =>
  intro i s hi
  rw [List.drop_of_length_le (by omega)]
  rfl
 | succ r ih =>
  intro i s hi
  have hd:l.drop i=nth l i :: l.drop (i+1):=by
   rw [List.drop_eq_getElem_cons (by omega)]
   congr 1
   simp [nth,List.getD_eq_getElem?_getD,List.getElem?_eq_getElem (show i < l.length by omega)]
  rw [hd,List.foldl_cons,← h i s (by omega)]
  exact ih (i+1) (f i s) (by omega)
theorem iter_all {α σ:Type} [Inhabited α] (f:Nat→σ→σ) (g:σ→α→σ) (l:List α) (h:∀ i s,i < l.length→f i s=g s (nth l i)) (s:σ):iter f l.length 0 s=l.foldl g s:=by
 simpa using iter_foldl f g l h l.length 0 s (by omega)
mutual
theorem ren_fix {τ:Nat→Nat} {b:Nat} (hτ:∀ i,i < b→τ i=i):∀ (a:AV),AV.bdd b a=true→AV.ren τ a=a
 | .func _ xs,ha=>by simp only [AV.bdd] at ha; simp only [AV.ren]; rw [rens_fix hτ xs ha]
 | .iface _ v,ha=>by simp only [AV.bdd] at ha; simp only [AV.ren]; rw [ren_fix hτ v ha]
 | .agg cs,ha=>by simp only [AV.bdd] at ha; simp only [AV.ren]; rw [rens_fix hτ cs ha]
 | .tup vs,ha=>by simp only [AV.bdd] at ha; simp only [AV.ren]; rw [rens_fix hτ vs ha]
 | .obj id _ _ _,ha=>by simp only [AV.bdd,decide_eq_true_eq] at ha; simp only [AV.ren]; rw [hτ _ ha]
 | .osl id _ _ _ _,ha=>by simp only [AV.bdd,decide_eq_true_eq] at ha; simp only [AV.ren]; rw [hτ _ ha]
 | .skip,_=>rfl
 | .unk,_=>rfl
 | .bool _,_=>rfl
 | .int _ _,_=>rfl
 | .str _,_=>rfl
 | .nilp,_=>rfl
 | .nilf,_=>rfl
 | .nili,_=>rfl
 | .ref _ _,_=>rfl
 | .sl _ _ _,_=>rfl
theorem rens_fix {τ:Nat→Nat} {b:Nat} (hτ:∀ i,i < b→τ i=i):∀ (as_:List AV),AV.bdds b as_=true→AV.rens τ as_=as_
 | [],_=>rfl
 | a :: as_,ha=>by
  simp only [AV.bdds,Bool.and_eq_true] at ha
  simp only [AV.rens]
  rw [ren_fix hτ a ha.1,rens_fix hτ as_ ha.2]
end
theorem renss_fix {τ:Nat→Nat} {b:Nat} (hτ:∀ i,i < b→τ i=i):∀ (xs:List (List AV)),AV.bddss b xs=true→xs.map (AV.rens τ)=xs
 | [],_=>rfl
 | x :: xs,h=>by
  simp only [AV.bddss,Bool.and_eq_true] at h
  rw [List.map_cons,rens_fix hτ x h.1,renss_fix hτ xs h.2]
theorem Ob.ren_fix {τ:Nat→Nat} {b:Nat} (hτ:∀ i,i < b→τ i=i) (o:Ob) (h:AV.bddss b o.els=true):o.ren τ=o:=by
 obtain ⟨g,k,els,room⟩:=o
 simp only [Ob.ren]
 rw [renss_fix hτ els h]
theorem ACalls.ext {P : Program} {f : FuncId} {args : List AV} {a : AV} {Hs Hs' : Heap} (h : ACalls P f args Hs (a, Hs')) (hargs : AV.bdds Hs.length args = true) (ha : AV.bdd Hs.length a = true) (hbs : obsB Hs.length Hs = true) (hbs' : obsB Hs.length Hs' = true) (hlen : Hs'.length = Hs.length) (E : Heap) :
    ACalls P f args (Hs ++ E) (a, Hs' ++ E) := by
  have hτ : ∀ i, i < Hs.length → (fun i => if i < Hs.length then i else i + E.length) i = i := fun i hi => by simp [hi]
  have lt_of : ∀ {l : Heap} {i : Nat} {o : Ob}, l[i]? = some o → i < l.length := fun {l i o} ho => by
    rcases Nat.lt_or_ge i l.length with h' | h'
    · exact h'
    · rw [List.getElem?_eq_none h'] at ho; simp at ho
  have := h.frame (τ := fun i => if i < Hs.length then i else i + E.length) (Hb := Hs ++ E) (Hb' := Hs' ++ E)
    ⟨fun i hi => by simp [hi]; omega, fun i hi => by have : ¬ i < Hs.length := by omega
                                                     simp [this]; omega, fun i j hi hj e => by simpa [hi, hj] using e, fun i o ho => by
      have hi := lt_of ho
      simp only [hi, if_true]
      rw [List.getElem?_append_left hi, Ob.ren_fix hτ o (obsB_get hbs ho)]
      exact ho⟩ hargs (fun i o ho => obsB_get hbs ho) (by simp [hlen]) (fun i o ho => by
      have hi : i < Hs.length := by have := lt_of ho; omega
      simp only [hi, if_true]
      rw [List.getElem?_append_left (by omega), Ob.ren_fix hτ o (obsB_get hbs' ho)]
      exact ho) fun j hj hn => by
      have hj' : Hs.length ≤ j := by
        rcases Nat.lt_or_ge j Hs.length with h' | h'
        · exact absurd (hτ j h') (hn j h')
        · exact h'
      rw [List.getElem?_append_right (by omega), List.getElem?_append_right (by omega), hlen]
  rwa [rens_fix hτ args hargs, ren_fix hτ a ha] at this
theorem nth_map {α β:Type} [Inhabited α] {l:List α} (f:α→β) {i:Nat} (h:i < l.length):(l.map f)[i]?=some (f (nth l i)):=by
 rw [List.getElem?_map,nth_get h]; rfl
def LoadTo (T:TT) (t:TypeId) (c:Nat) (H:Heap) (r:Option (List AV)):Option (AV × Heap) :=
 match r with
 | some cs=>Option.map (fun a=>(a,H)) (AM.part T t cs c)
 | none=>none
def StoreTo (H:Heap) (id e k c:Nat) (r u:Option (List AV)):Option (AV × Heap) :=
 match r,u with
 | some cs,some us=>if c+k≤cs.length then some (AV.skip,setAt H id e (fillAt cs c us)) else none
 | _,_=>none
theorem load_row {H:Heap} {t:TypeId} {T:TT} {c:Nat} {cs:List AV} {a:AV} {r:Option (List AV)} (h:r=some cs) (hp:AM.part T t cs c=some a):LoadTo T t c H r=some (a,H):=by
 subst h
 simp [LoadTo,hp]
theorem store_row {H H':Heap} {id e k c:Nat} {cs us:List AV} {r u:Option (List AV)} (h:r=some cs) (hu:u=some us) (hc:c+k≤cs.length) (hH:H'=setAt H id e (fillAt cs c us)):StoreTo H id e k c r u=some (AV.skip,H'):=by
 subst h hu hH
 simp [StoreTo,hc]
theorem rowAt_map {α:Type} [Inhabited α] {row:α→List AV} {H:Heap} {id g k e:Nat} {l:List α} {room:Option Nat} (hid:H[id]?=some ⟨g,k,l.map row,room⟩) (h:e < l.length):rowAt H id g e=some (row (nth l e)):=by
 simp only [rowAt,hid,if_true]
 exact nth_map _ h
theorem rem_nat {k:IntKind} {x y:Nat} {H:Heap} (h:(y:Int)≠0):Option.map (fun a=>(a,H)) (if (y:Int)=0 then none else some (AV.int k (Int.tmod (x:Int) (y:Int))))=some (.int k ((x % y:Nat):Int),H):=by
 rw [if_neg h,Option.map_some,Int.ofNat_tmod]
theorem Yes.quo {x y:Nat} {H:Heap} (h:(x:Int)≤9223372036854775807):Yes (.int .i64 (IntKind.i64.wrap (Int.tdiv (x:Int) (y:Int)))) H (.int .i64 ((x / y:Nat):Int)):=by
 have h1:x / y≤x:=Nat.div_le_self ..
 rw [← Int.ofNat_tdiv]
 generalize x / y=q at *
 rw [i64_id (by omega) (by omega)]
theorem quo_some {k:IntKind} {y z r:Int} {H:Heap} (h:y≠0) (e:z=r):Option.map (fun a=>(a,H)) (if y=0 then none else some (AV.int k z))=some (.int k r,H):=by
 rw [if_neg h,e]; rfl
theorem slice_sl {H:Heap} {k:Nat} {rows xs:List (List AV)} {g:Tg} {lo hi:Int} {l h:Nat} (hlo:lo=(l:Int)) (hhi:hi=(h:Int)) (h1:l≤h) (h2:h≤rows.length) (hx:(rows.take h).drop l=xs) :
 Option.map (fun a=>(a,H)) (if k=k∨rows.isEmpty=true then (bounds lo hi rows.length).map fun p=>AV.sl g k ((List.take p.2 rows).drop p.1) else none)=some (.sl g k xs,H):=by
 subst hlo hhi hx
 rw [if_pos (.inl rfl)]
 unfold bounds
 rw [if_pos ⟨by omega,by omega,by omega⟩]
 simp
theorem slice_osl {H:Heap} {id g k e n e2 n2:Nat} {lo hi:Int} {l h:Nat} (hlo:lo=(l:Int)) (hhi:hi=(h:Int)) (h1:l≤h) (h2:h≤n) (he:e2=e+l) (hn:n2=h - l) :
 Option.map (fun a=>(a,H)) ((bounds lo hi n).map fun p=>AV.osl id g k (e+p.1) (p.2 - p.1))=some (.osl id g k e2 n2,H):=by
 subst hlo hhi he hn
 unfold bounds
 rw [if_pos ⟨by omega,by omega,by omega⟩]
 simp
end Go.Proofs.Ytfjedpipdnlkfaa.AM

namespace Go.Proofs.Ytfjedpipdnlkfaa.AM
open Go Go.Proofs.Ytfjedpipdnlkfaa
theorem ttOk:TOk Try.prog tt:=TOk.of (l:=ttl) (by kernel_rfl)
theorem mo:Try.prog.follows .mixedOrders=true:=by kernel_rfl
def noM:TypeId→String→Option FuncId:=fun _ _=>none
theorem noMok:Mok Try.prog noM:=fun t m f h=>by simp [noM] at h
def X (ann:Ann):Env:={ T:=tt,M:=noM,ann:=ann }
theorem spec {f:FuncId} {fn:Func} {ann:Ann} {t:Tr} {args:List AV} {H:Heap} {r:AV × Heap} (hb:H.length≤ann.base) (hf:Has Try.prog f fn) (h:funT Try.prog (X ann) fn t args H r):ACalls Try.prog f args H r :=
 @funT_sound Try.prog (X ann) f fn ttOk noMok mo hf t args H r hb h
end Go.Proofs.Ytfjedpipdnlkfaa.AM

set_option linter.unusedVariables false
set_option linter.unusedSimpArgs false
namespace Go.Proofs.Ytfjedpipdnlkfaa.AM
open Go
theorem ACalls.orNil {P:Program} {f:FuncId} {k:Nat} {xs:List (List AV)} {as_:List AV} {H:Heap} {r:AV × Heap} (h1:xs=[]→ACalls P f (.sl .nil 0 [] :: as_) H r) (h2:ACalls P f (.sl .op k xs :: as_) H r) :
 ACalls P f (.sl .any k xs :: as_) H r:=by
 intro G w C vs hsz hargs hH
 have h0:=hargs 0 (by simp)
 have hr:∀ i,0 < i→i < as_.length+1→∀ v:AV,(v :: as_).getD i .skip=(AV.sl .any k xs :: as_).getD i .skip:=by
  intro i hi _ v
  cases i with
  | zero=>omega
  | succ i=>rfl
 have key:∀ v:AV,VR G w C v (vs.getD 0 undef)→∀ i,i < (v :: as_).length→VR G w C ((v :: as_).getD i .skip) (vs.getD i undef):=by
  intro v hv i hi
  cases i with
  | zero=>exact hv
  | succ i =>
   have:=hargs (i+1) (by simpa using hi)
   rw [hr (i+1) (by omega) (by simpa using hi) v]
   exact this
 simp only [List.getD_cons_zero] at h0
 generalize hv0:vs.getD 0 undef=v0 at h0
 cases h0 with
 | nils _ _ _ hg=>exact h1 rfl G w C vs (by simpa using hsz) (key _ (by rw [hv0]; exact .nils _ _ _ (.inl rfl))) hH
 | sl _ _ _ _ ad cap hg hclip hle hs cv hk hc h1' h=>exact h2 G w C vs (by simpa using hsz) (key _ (by rw [hv0]; exact .sl _ _ _ _ ad cap (by simp) (by simp) hle hs cv hk hc h1' h)) hH
theorem slice_max {H:Heap} {k:Nat} {rows xs:List (List AV)} {g:Tg} {lo hi mx:Int} {l h:Nat} (hlo:lo=(l:Int)) (hhi:hi=(h:Int)) (h1:l≤h) (h2:h≤rows.length) (hx:(rows.take h).drop l=xs) (hm:hi=mx) :
 Option.map (fun a=>(a,H)) (if k=k∨rows.isEmpty=true then (if hi=mx then (bounds lo hi rows.length).map fun p=>AV.sl g k ((List.take p.2 rows).drop p.1) else none) else none)=some (.sl g k xs,H):=by
 rw [if_pos hm]
 exact slice_sl hlo hhi h1 h2 hx
def AV.scal:AV→Bool
 | .bool _ | .int _ _ | .str _=>true
 | _=>false
theorem VR.scal {G G':Nat→Prop} {w w':World} {C C':Cx} {a:AV} {v:Value} (h:VR G w C a v) (ha:a.scal=true):VR G' w' C' a v:=by
 cases h <;> simp [AV.scal] at ha
 · exact .bool ..
 · exact .int ..
 · exact .str ..
def Br (H:Heap) (a' a:AV):Prop:=(a'=a∧AV.bdd 0 a=true)∨∃ id g k e n rows,a'=.osl id g k e n∧a=.sl .any k rows∧rowsIn H k (.osl id g k e n)=some rows∧AV.bddss 0 rows=true
theorem Br.same {H:Heap} {a:AV} (h:AV.bdd 0 a=true):Br H a a:=.inl ⟨rfl,h⟩
theorem Br.osl {H:Heap} {id g k e n:Nat} {rows:List (List AV)} (h:rowsIn H k (.osl id g k e n)=some rows) (hb:AV.bddss 0 rows=true):Br H (.osl id g k e n) (.sl .any k rows):=.inr ⟨id,g,k,e,n,rows,rfl,rfl,h,hb⟩
def Brs (H:Heap):List AV→List AV→Prop
 | [],[]=>True
 | a :: l,b :: m=>Br H a b∧Brs H l m
 | _,_=>False
theorem Brs.get {H:Heap}:∀ {l m:List AV},Brs H l m→l.length=m.length∧∀ i,i < m.length→Br H (l.getD i .skip) (m.getD i .skip)
 | [],[],_=>⟨rfl,fun i hi=>by simp at hi⟩
 | [],_ :: _,h=>h.elim
 | _ :: _,[],h=>h.elim
 | a :: l,b :: m,h=>by
  obtain ⟨h1,h2⟩:=Brs.get h.2
  refine ⟨by simp [h1],fun i hi=>?_⟩
  cases i with
  | zero=>simpa using h.1
  | succ i=>simpa using h2 i (by simpa using hi)
theorem ACalls.borrow {P:Program} {f:FuncId} {args args':List AV} {a:AV} (h:ACalls P f args [] (a,[])) (ha:a.scal=true) {H:Heap} (hb:Brs H args' args):ACalls P f args' H (a,H):=by
 intro G w C vs hsz hargs hH
 obtain ⟨hl,hbr⟩:=hb.get
 have key:∀ i,i < args.length→VR (fun b=>G b∨∃ id l,C.ι id=some l∧l.b=some b) w Cx.none (args.getD i .skip) (vs.getD i undef):=by
  intro i hi
  have hv:=hargs i (by omega)
  rcases hbr i hi with ⟨e,h0⟩ | ⟨id,g,k,e,n,rows,h1,h2,h3,h4⟩
  · rw [e] at hv
    have:=hv.cut 0 h0
    rw [cut_zero] at this
    exact this.mono (fun b hb=>.inl hb) (fun _ _=>rfl) (CxLe.refl _)
  · rw [h1] at hv
    rw [h2]
    obtain ⟨G',C',e1,e2,e3,_⟩:=freeze_sound hH hv h3 h4
    have:=e3.cut 0 rfl
    rw [cut_zero] at this
    refine this.mono (fun b hb=>?_) (fun _ _=>rfl) (CxLe.refl _)
    rcases e1.grow b hb with h5 | h5 | h5
    · exact .inl h5
    · exact .inr h5
    · have:=e2.gsz b hb; omega
 have hE:HR (fun b=>G b∨∃ id l,C.ι id=some l∧l.b=some b) w Cx.none [] :=
  ⟨fun id o ho=>by simp at ho,fun id _=>⟨rfl,rfl⟩,fun id l b hl=>by simp [Cx.none] at hl,fun i j l l' b hl=>by simp [Cx.none] at hl,fun id o l ho=>by simp at ho,
   fun b hb=>hb.elim (hH.gsz b) fun ⟨id,l,h1,h2⟩=>(hH.own id l b h1 h2).1⟩
 refine (h _ w Cx.none vs (by omega) key hE).mono fun v w' ⟨G',C',he,hh,hv,hp⟩=>?_
 have hall:∀ b,b < w.heap.size→w'.heap[b]?=w.heap[b]?:=fun b hb=>he.rest b hb fun id l hl=>by simp [Cx.none] at hl
 have hev:Ev G w C G w' C:=⟨he.os,he.tape,he.output,he.size,fun _ h=>h,fun b hb=>hall b (hH.gsz b hb),CxLe.refl _,fun b hb _=>hall b hb,fun _ h=>.inl h,fun id l b h1 h2=>.inl ⟨id,l,h1,h2⟩,he.frz⟩
 refine ⟨G,C,hev,⟨hH.gen,hH.out,fun id l b h1 h2=>⟨Nat.lt_of_lt_of_le (hH.own id l b h1 h2).1 he.size,(hH.own id l b h1 h2).2⟩,hH.inj,fun id o l ho hl'=>(hH.ob id o l ho hl').ev hev fun b hb=>hall b (hH.own id l b hl' hb).1,fun b hb=>Nat.lt_of_lt_of_le (hH.gsz b hb) he.size⟩,hv.scal ha,Pd.refl⟩
end Go.Proofs.Ytfjedpipdnlkfaa.AM

set_option linter.unusedVariables false
set_option linter.unusedSimpArgs false
namespace Go.Proofs.Ytfjedpipdnlkfaa.AM
open Go
theorem ACalls.room {P:Program} {f:FuncId} {args:List AV} {H:Heap} {r:AV × Heap} {id i g k e n:Nat} {els:List (List AV)} (ho:H[id]?=some ⟨g,k,els,none⟩) (hi:args[i]?=some (.osl id g k e n))
 (h:∀ rm,els.length≤rm→ACalls P f args (H.set id ⟨g,k,els,some rm⟩) r):ACalls P f args H r:=by
 intro G w C vs hsz hargs hH
 have hlt:i < args.length:=by
  rcases Nat.lt_or_ge i args.length with h' | h'
  · exact h'
  · rw [List.getElem?_eq_none h'] at hi; simp at hi
 have hv:=hargs i hlt
 rw [List.getD_eq_getElem?_getD,hi] at hv
 have hgen:=hH.gen id _ ho
 obtain ⟨l,hl,_⟩:=osl_alive hv hgen
 have hob:=hH.ob id _ l ho hl
 have hH2:HR G w C (H.set id ⟨g,k,els,some l.room⟩):=hH.set_ob ho rfl fun l' hl' hx=>by
  obtain rfl:l=l':=by rw [hl] at hl'; simpa using hl'
  exact ⟨hx.k,fun r hr=>by simpa using hr,hx.no,hx.len,hx.row,hx.cells⟩
 refine (h l.room hob.len G w C vs hsz hargs hH2).mono fun v w' ⟨G',C',he,hh,hv',hp⟩=>⟨G',C',he,hh,hv',by simpa using hp.1,fun j hj hs hι=>?_⟩
 obtain ⟨h1,h2,h3⟩:=hp.2 j (by simpa using hj) hs hι
 have hne:id≠j:=fun e=>by subst e; rw [hl] at hι; simp at hι
 rw [List.getElem?_set_ne hne] at h3
 exact ⟨h1,h2,h3⟩
theorem ACalls.shrink {P:Program} {f:FuncId} {args:List AV} {H H1:Heap} {id g k e n m:Nat} {els:List (List AV)} {room:Option Nat} (h:ACalls P f args H (.osl id g k e n,H1)) (ho:H1[id]?=some ⟨g,k,els,room⟩) :
 ACalls P f args H (.osl id g k e n,H1.set id ⟨g,k,els.take m,none⟩):=by
 intro G w C vs hsz hargs hH
 refine (h G w C vs hsz hargs hH).mono fun v w' ⟨G',C',he,hh,hv,hp⟩=>?_
 obtain ⟨l,hl,_⟩:=osl_alive hv (hh.gen id _ ho)
 have hget:∀ i,i < (els.take m).length→(els.take m).getD i []=els.getD i []:=fun i hi=>by
  simp only [List.length_take] at hi
  rw [List.getD_eq_getElem?_getD,List.getD_eq_getElem?_getD,List.getElem?_take_of_lt (by omega)]
 have hlen:(els.take m).length≤els.length:=by simp; omega
 refine ⟨G',C',he,hh.set_ob ho rfl fun l' hl' hx=>?_,hv,by simpa using hp.1,fun j hj hs hι=>?_⟩
 · refine ⟨hx.k,fun r hr=>by simp at hr,hx.no,Nat.le_trans hlen hx.len,fun i hi=>by rw [hget i hi]; exact hx.row i (by simp only at hi ⊢; omega),fun b hb=>?_⟩
   obtain ⟨cs,t,h1,h2,h3⟩:=hx.cells b hb
   exact ⟨cs,t,h1,h2,fun i j hi hj=>by rw [hget i hi]; exact h3 i j (by simp only at hi ⊢; omega) hj⟩
 · obtain ⟨h1,h2,h3⟩:=hp.2 j hj hs hι
   have hne:id≠j:=fun e=>by subst e; rw [hl] at h1; simp at h1
   exact ⟨h1,h2,by rw [List.getElem?_set_ne hne]; exact h3⟩
end Go.Proofs.Ytfjedpipdnlkfaa.AM

set_option linter.unusedVariables false
set_option linter.unusedSimpArgs false
namespace Go.Proofs.Ytfjedpipdnlkfaa.AM
open Go
theorem ssem_cap {P:Program} {F:Fr} {H:Heap} {dst:Option Tmp} {x:Operand} {t e0:TypeId} {type:TypeId} {pos:String} {after:Array Edge} {guard:Option (Nat × Bool)} {id g k e n r:Nat} {els:List (List AV)}
 (ht:P.underlying t=some (.slice e0)) (hx:opv F x=some (.osl id g k e n)) (ho:H[id]?=some ⟨g,k,els,some r⟩) :
 SSem P F H ⟨dst,.call { callee:=.builtin .cap,args:=#[x],argTypes:=#[t] },type,pos,after,guard⟩ (.int .i64 ((r - e:Nat):Int),H):=by
 intro G w C f hf hH
 have hv:=hf x (by simp [Op.operands,Call.operands]) _ hx
 have hgen:g=C.γ id:=hH.gen id _ ho
 have key:∀ c:Nat,c=r - e→∀ base m,f x=.slice base m c→∃ v w',(execOp f (⟨dst,.call { callee:=.builtin .cap,args:=#[x],argTypes:=#[t] },type,pos,after,guard⟩:Oper)).run P w=.ok (.value v) w'∧After G w C H (.int .i64 ((r - e:Nat):Int),H) v w':=by
  intro c hc base m hfx
  have hr:(Builtin.cap_ #[t] type #[f x]).run P w=.ok (.int .i64 ((r - e:Nat):Int)) w:=by
   rw [hfx,← hc]; simp [Builtin.cap_,run_underlying ht,goInt]
  refine ⟨_,w,?_,G,C,Ev.refl ..,hH,.int ..,Pd.refl⟩
  simp [execOp,resolve,invoke,builtin,hr]
 generalize hu:f x=u at hv
 cases hv with
 | osl _ _ _ _ _ _ ad cap hnc hle h =>
  obtain ⟨l,b,h1,h2,h3,h4,h5,_⟩:=h hgen
  have:=(hH.ob id _ l ho h1).rm r rfl
  exact key cap (by omega) _ _ hu
 | osl0 _ _ _ _ _ base hle h =>
  obtain ⟨l,h1,h2,h3⟩:=h hgen
  have hob:=hH.ob id _ l ho h1
  have h4:=hob.no h2
  have h5:=hob.rm r rfl
  exact key 0 (by omega) _ _ hu
theorem optInt_f {G:Nat→Prop} {w:World} {C:Cx} {F:Fr} {o:Option Operand} {d n:Int} {f:Operand→Value} (h:optInt F o d=some n) (hf:∀ x,o=some x→∀ a,opv F x=some a→VR G w C a (f x)):(o=none∧n=d)∨∃ x k,o=some x∧f x=.int k n:=by
 cases o with
 | none=>simp [optInt] at h; exact .inl ⟨rfl,h.symm⟩
 | some x =>
  simp only [optInt] at h
  split at h
  · rename_i k m hx
    have hv:=hf x rfl _ hx
    simp only [Option.some.injEq] at h
    subst h
    generalize hu:f x=u at hv
    cases hv
    exact .inr ⟨x,k,rfl,hu⟩
  · simp at h
theorem ssem_slice {P:Program} {F:Fr} {H:Heap} {dst:Option Tmp} {x y:Operand} {lo:Option Operand} {t e0:TypeId} {type:TypeId} {pos:String} {after:Array Edge} {guard:Option (Nat × Bool)} {id g k e n r l h:Nat} {els:List (List AV)}
 (ht:P.underlying t=some (.slice e0)) (hk:∀ w:World,(Go.sizeOf e0).run P w=.ok k w) (hx:opv F x=some (.osl id g k e n)) (ho:H[id]?=some ⟨g,k,els,some r⟩)
 (hlo:optInt F lo 0=some (l:Int)) (hhi:optInt F (some y) 0=some (h:Int)) (h1:l≤h) (h2:e+h≤r) :
 SSem P F H ⟨dst,.slice t x lo (some y) none,type,pos,after,guard⟩ (.osl id g k (e+l) (h - l),H):=by
 intro G w C f hf hH
 have hv:=hf x (by simp [Op.operands]) _ hx
 have hgen:g=C.γ id:=hH.gen id _ ho
 have hl:=optInt_f (G:=G) (w:=w) (C:=C) (f:=f) hlo fun z hz a ha=>hf z (by simp [Op.operands,hz]) a ha
 have hh:=optInt_f (G:=G) (w:=w) (C:=C) (f:=f) hhi fun z hz a ha=>hf z (by simp [Op.operands]; simp at hz; simp [hz]) a ha
 have hb:∀ len cap:Nat,h≤cap→(Instr.sliceBounds true len cap (lo.map f) (some (f y)) none).run P w=.ok (l,h,cap) w:=by
  intro len cap hc
  rcases hh with ⟨hh,_⟩ | ⟨z,kz,hz,hfz⟩
  · simp at hh
  · simp only [Option.some.injEq] at hz
    subst hz
    rcases hl with ⟨rfl,h0⟩ | ⟨z,kz',rfl,hz⟩
    · have:l=0:=by omega
      subst this
      simp [Instr.sliceBounds,hfz,run_sliceBound,hc]
    · simp [Instr.sliceBounds,hz,hfz,run_sliceBound,hc,h1]
 generalize hu:f x=u at hv
 cases hv with
 | osl _ _ _ _ _ _ ad cap hnc hle hl' =>
  obtain ⟨L,b,hι,hLb,hLk,hen,hcap,had⟩:=hl' hgen
  have hrm:=(hH.ob id _ L ho hι).rm r rfl
  have hr:(Instr.sliceAt t (f x) (lo.map f) (some (f y)) none).run P w=.ok (.slice (if cap=l then some ad else (some ad).map (·.add (l * k))) (h - l) (cap - l)) w:=by
   rw [hu]
   simp only [Instr.sliceAt,Instr.slice,Sem.run_bind,run_underlying ht,Result.andThen_ok]
   rw [hb n cap (by omega)]
   simp only [Result.andThen_ok,hk w,Sem.run_pure,Sem.run_bind]
  refine ⟨.slice (if cap=l then some ad else (some ad).map (·.add (l * k))) (h - l) (cap - l),w,?_,G,C,Ev.refl ..,hH,?_,Pd.refl⟩
  · simp only [execOp,Option.map_some,Option.map_none,Sem.run_bind,hr,Result.andThen_ok,Sem.run_pure]
  · have hif:(if cap=l then some ad else (some ad).map (·.add (l * k)))=some (if cap=l then ad else ad.add (l * k)):=by split <;> rfl
    rw [hif]
    refine .osl _ _ _ _ _ _ _ _ (by omega) hle fun hg=>?_
    refine ⟨L,b,hι,hLb,hLk,by omega,by omega,fun hlt=>?_⟩
    rw [if_neg (by omega),had (by omega),add_addr,Nat.add_assoc,← Nat.add_mul]
 | osl0 _ _ _ _ _ base hle hl' =>
  obtain ⟨L,hι,hLb,hLk⟩:=hl' hgen
  have hob:=hH.ob id _ L ho hι
  have h4:=hob.no hLb
  have h5:=hob.rm r rfl
  have hl0:l=0:=by omega
  have hh0:h=0:=by omega
  have hr:(Instr.sliceAt t (f x) (lo.map f) (some (f y)) none).run P w=.ok (.slice base 0 0) w:=by
   rw [hu]
   simp only [Instr.sliceAt,Instr.slice,Sem.run_bind,run_underlying ht,Result.andThen_ok]
   rw [hb 0 0 (by omega)]
   simp [hk w,hl0,hh0]
  subst hl0; subst hh0
  refine ⟨.slice base 0 0,w,?_,G,C,Ev.refl ..,hH,.osl0 _ _ _ _ _ base hle hl',Pd.refl⟩
  simp only [execOp,Option.map_some,Option.map_none,Sem.run_bind,hr,Result.andThen_ok,Sem.run_pure]
end Go.Proofs.Ytfjedpipdnlkfaa.AM

set_option linter.unusedVariables false
set_option linter.unusedSimpArgs false
namespace Go.Proofs.Ytfjedpipdnlkfaa.AM
open Go
theorem place_row {xs new:List (List AV)} {q:Nat} (hq:q≤xs.length) (r:Nat) (hr:r < (xs.take q++new++xs.drop (q+new.length)).length) :
 if q≤r∧r < q+new.length then (xs.take q++new++xs.drop (q+new.length)).getD r []=new.getD (r - q) [] else r < xs.length∧(xs.take q++new++xs.drop (q+new.length)).getD r []=xs.getD r []:=by
 have hl:(xs.take q).length=q:=by simp; omega
 simp only [List.getD_eq_getElem?_getD]
 split
 · rename_i h
   rw [List.append_assoc,List.getElem?_append_right (by omega),hl,List.getElem?_append_left (by omega)]
 · rename_i h
   simp only [List.length_append,hl,List.length_drop] at hr
   rcases Nat.lt_or_ge r q with h1 | h1
   · refine ⟨by omega,?_⟩
     rw [List.append_assoc,List.getElem?_append_left (by omega),List.getElem?_take_of_lt h1]
   · have h2:q+new.length≤r:=by omega
     refine ⟨by omega,?_⟩
     rw [List.getElem?_append_right (by simp [hl]; omega),List.getElem?_drop]
     congr 2
     simp [hl]; omega
theorem place_sound {G:Nat→Prop} {w:World} {C:Cx} {H:Heap} (hH:HR G w C H) {id:Nat} {o:Ob} {l:Loc} {bb k q:Nat} (ho:H[id]?=some o) (hι:C.ι id=some l) (hlb:l.b=some bb) (hlk:l.k=k)
 {new:List (List AV)} {nv:List Value} (hlen0:nv.length=new.length * k) (hrow0:∀ i,i < new.length→(new.getD i []).length=k) (hrel0:∀ i j,i < new.length→j < k→(nv.getD (i * k+j) undef).oneCell'=true∧VR G w C ((new.getD i []).getD j .skip) (nv.getD (i * k+j) undef)) (hq:q≤o.els.length) (hroom:q+new.length≤l.room) {cur:Array Value} {et:TypeId} (hcur:w.heap[bb]?=some (.cells cur et (0,0))) :
 Ev G w C G (w.setRow bb (cur.toList.take (l.sh+q * l.k)++nv++cur.toList.drop (l.sh+q * l.k+nv.length)).toArray) C ∧
 HR G (w.setRow bb (cur.toList.take (l.sh+q * l.k)++nv++cur.toList.drop (l.sh+q * l.k+nv.length)).toArray) C (H.set id { o with els:=o.els.take q++new++o.els.drop (q+new.length) }):=by
 have hob:=hH.ob id o l ho hι
 have hgγ:=hH.gen id o ho
 obtain ⟨hk1,hrm1,hno1,hlen1,hrow1,hcs1⟩:=hob
 obtain ⟨cur',et',hcur',hcsz,hcell⟩:=hcs1 bb hlb
 obtain ⟨rfl,rfl⟩:cur'=cur∧et'=et:=by rw [hcur] at hcur'; simp at hcur'; exact ⟨hcur'.1.symm,hcur'.2.symm⟩
 have hlt:id < H.length:=by
  rcases Nat.lt_or_ge id H.length with h' | h'
  · exact h'
  · rw [List.getElem?_eq_none h'] at ho; simp at ho
 have hm:(q+new.length) * l.k≤l.room * l.k:=Nat.mul_le_mul_right _ hroom
 rw [Nat.add_mul] at hm
 have hnvl:nv.length=new.length * l.k:=by rw [hlen0,hlk]
 have hev:Mv G w C G (w.setRow bb (cur'.toList.take (l.sh+q * l.k)++nv++cur'.toList.drop (l.sh+q * l.k+nv.length)).toArray) C :=
  ⟨fun _ h=>h,fun b' hb'=>setRow_other w _ _ _ fun e'=>(hH.own id l bb hι hlb).2 (e' ▸ hb'),CxLe.refl _⟩
 refine hH.upd (G':=G) (C':=C) id { o with els:=o.els.take q++new++o.els.drop (q+new.length) } rfl rfl rfl (fun j hj=>⟨rfl,rfl⟩) (Nat.le_refl _) (fun _ l2 hl2=>hl2)
  (fun j hj=>List.getElem?_set_ne (Ne.symm hj)) (List.getElem?_set_self hlt) (by simp) (by omega) hgγ (fun _ h=>h) (fun _ h=>.inl h)
  (fun b' _ hb'=>setRow_other w _ _ _ fun e'=>hb' l hι (by rw [hlb,e'])) (by simp) (fun b' hb'=>by simpa using hH.gsz b' hb') (fun l2 b2 hl2 hb2=>.inl ⟨l2,hl2,hb2⟩) (frozen_setRow w _ _ _ _ _ hcur) fun l2 hl2=>?_
 obtain rfl:l=l2:=by rw [hι] at hl2; simpa using hl2
 have hlsz:(cur'.toList.take (l.sh+q * l.k)++nv++cur'.toList.drop (l.sh+q * l.k+nv.length)).length=cur'.size:=by simp; omega
 have hlb':∀ b2,l.b=some b2→b2=bb:=fun b2 h2=>by rw [hlb] at h2; simpa using h2.symm
 refine ⟨fun b2 hb2=>?_,hk1,hrm1,hno1,by simp only [List.length_append,List.length_take,List.length_drop]; omega,fun r hr'=>?_,fun b2 hb2=>?_⟩
 · rw [hlb' b2 hb2]
   exact ⟨by simpa using (hH.own id l bb hι hlb).1,(hH.own id l bb hι hlb).2,fun j hj l2 hl2 e'=>hj (hH.inj _ _ _ _ bb hl2 hι e' hlb)⟩
 · have:=place_row hq r hr'
   split at this
   · rw [this,hlk]; exact hrow0 _ (by omega)
   · rw [this.2]; exact hrow1 _ this.1
 · rw [hlb' b2 hb2]
   refine ⟨_,et',setRow_heap w _ _ _ _ _ hcur,?_,fun r j hr' hj=>?_⟩
   · have h2:(cur'.toList.take (l.sh+q * l.k)++nv++cur'.toList.drop (l.sh+q * l.k+nv.length)).toArray.size=cur'.size:=by simpa using hlsz
     rw [h2]; exact hcsz
   · have hA2:((cur'.toList.take (l.sh+q * l.k)++nv++cur'.toList.drop (l.sh+q * l.k+nv.length)).toArray).getD (l.sh+r * l.k+j) undef=if q≤r∧r < q+new.length then nv.getD ((r - q) * l.k+j) undef else cur'.toList.getD (l.sh+r * l.k+j) undef:=by
      rw [← over_get (xs:=new) hnvl (by rw [hnvl]; simp; omega) hj]
      simp [Array.getD_eq_getD_getElem?,List.getD_eq_getElem?_getD]
     rw [hA2]
     have:=place_row hq r hr'
     split at this
     · rename_i hin
       rw [if_pos hin,this]
       obtain ⟨h3,h4⟩:=hrel0 (r - q) j (by omega) (by omega)
       rw [← hlk] at h3 h4
       exact ⟨h3,h4.mv hev⟩
     · rename_i hin
       rw [if_neg hin,this.2]
       have hcg:cur'.toList.getD (l.sh+r * l.k+j) undef=cur'.getD (l.sh+r * l.k+j) undef:=by simp [Array.getD_eq_getD_getElem?,List.getD_eq_getElem?_getD]
       rw [hcg]
       obtain ⟨h3,h4⟩:=hcell r j this.1 hj
       exact ⟨h3,h4.mv hev⟩
theorem ssem_copy {P:Program} {F:Fr} {H:Heap} {dst:Option Tmp} {x y:Operand} {t t' e0:TypeId} {type:TypeId} {pos:String} {after:Array Edge} {guard:Option (Nat × Bool)} {id g k e n:Nat} {els new:List (List AV)} {room:Option Nat} {s:AV}
 (ht:P.underlying t=some (.slice e0)) (hk:∀ w:World,(Go.sizeOf e0).run P w=.ok k w) (hx:opv F x=some (.osl id g k e n)) (ho:H[id]?=some ⟨g,k,els,room⟩) (hy:opv F y=some s) (hs:rowsIn H k s=some new)
 (h0:0 < new.length) (hn:new.length≤n) (he:e≤els.length) :
 SSem P F H ⟨dst,.call { callee:=.builtin .copy,args:=#[x,y],argTypes:=#[t,t'] },type,pos,after,guard⟩ (.int .i64 (new.length:Int),H.set id ⟨g,k,els.take e++new++els.drop (e+new.length),room⟩):=by
 intro G w C f hf hH
 have hv:=hf x (by simp [Op.operands,Call.operands]) _ hx
 have hvs:=hf y (by simp [Op.operands,Call.operands]) _ hy
 have hgen:g=C.γ id:=hH.gen id _ ho
 obtain ⟨nv,hsrc⟩:=rowsIn_src (P:=P) hH hvs hs
 generalize hu:f x=u at hv
 cases hv with
 | osl0=>omega
 | osl _ _ _ _ _ _ ad cap hnc hle h =>
  obtain ⟨l,bb,hι,hlb,hlk,hen,hcap,had⟩:=h hgen
  have had':=had (by omega)
  subst had'
  have hob:=hH.ob id _ l ho hι
  obtain ⟨cur,et,hcur,hcsz,_⟩:=hob.cells bb hlb
  obtain ⟨h1,h2⟩:=place_sound hH ho hι hlb hlk hsrc.length hsrc.row hsrc.rel he (by omega) hcur
  have hm:(e+new.length) * l.k≤l.room * l.k:=Nat.mul_le_mul_right _ (by omega)
  rw [Nat.add_mul] at hm
  have hnvl:nv.length=new.length * l.k:=by rw [hsrc.length,hlk]
  have hst:=run_storeCells_at P bb (l.sh+e * k) et nv 0 cur w hcur (by rw [← hlk]; simp; omega) hsrc.oneCell
  simp only [Nat.add_zero] at hst
  have hmin:Nat.min new.length n=new.length:=Nat.min_eq_left hn
  have hr:(Builtin.copy_ #[t,t'] type #[f x,f y]).run P w=.ok (.int .i64 (new.length:Int)) (w.setRow bb (cur.toList.take (l.sh+e * l.k)++nv++cur.toList.drop (l.sh+e * l.k+nv.length)).toArray):=by
   rw [hu,hlk]
   simp [Builtin.copy_,run_underlying ht,hsrc.len w,hmin,hk w,hsrc.cells w rfl,hst,goInt]
  refine ⟨_,_,?_,G,C,h1,h2,.int ..,?_⟩
  · simp [execOp,resolve,invoke,builtin,hr]
  · refine ⟨by simp,fun j hj _ hιj=>⟨hιj,rfl,?_⟩⟩
    have hne:id≠j:=fun e'=>by subst e'; rw [hι] at hιj; simp at hιj
    exact List.getElem?_set_ne hne
end Go.Proofs.Ytfjedpipdnlkfaa.AM

set_option linter.unusedVariables false
set_option linter.unusedSimpArgs false
namespace Go.Proofs.Ytfjedpipdnlkfaa.AM
open Go
theorem run_append_make {P:Program} {G:Nat→Prop} {w:World} {C:Cx} {t t' ty e:TypeId} {i:TypeInfo} {z:Value} {kk kx:IntKind} (ht:P.underlying t=some (.slice e)) (ht':P.underlying t'=some (.int kk)) (hi:P.info? e=some i) (hz:i.zero=some z)
 (c:Nat) {ys:List (List AV)} {ov:List Value} (base:Option Addr) (sLen sCap:Nat) (ho:Src P G w C i.size (.slice base sLen sCap) ys ov) (hlen:ys.length=sLen)
 (hg:sCap < sLen+c) (hb:0 < i.bytes) (hs:0 < i.size) (hc:0 < c) (hby:(sLen+c) * i.bytes≤140737488355328) :
 (Builtin.append_ #[t,t'] ty #[.slice base sLen sCap,.int kx (c:Int)]).run P w =
  .ok (.slice (some ⟨w.heap.size,0,none⟩) (sLen+c) (grownCap w (sLen+c) sCap e))
   (w.drew.alloc (.cells (ov.toArray++Builtin.zeroCells z.cells c++Builtin.zeroCells z.cells (grownCap w (sLen+c) sCap e - (sLen+c))) e)):=by
 subst hlen
 have hn:¬ (ys.length+c≤sCap):=by omega
 have hfit:=growslice_fits hg hby
 have h48':¬ (281474976710656 < Builtin.nextslicecap (ys.length+c) sCap * i.bytes):=by omega
 have hb0:¬ i.bytes=0:=by omega
 have hfo:=ho.cells w.drew rfl
 have hcb:c * 1≤c * i.bytes:=Nat.mul_le_mul_left _ hb
 have hcm:c * i.bytes≤(ys.length+c) * i.bytes:=Nat.mul_le_mul_right _ (by omega)
 have hcs:c≤140737488355328:=by omega
 have hw:IntKind.i64.wrap (c:Int)=(c:Int):=i64_id (by omega) (by omega)
 have hcs0:¬ (c * i.size=0):=by
  have:=Nat.mul_pos hc hs; omega
 have h0:¬ ((c:Int) < 0):=by omega
 have h48:¬ ((281474976710656:Int) < (c:Int) * (i.bytes:Int)):=by
  have:((c * i.bytes:Nat):Int)≤140737488355328:=by omega
  rw [Int.natCast_mul] at this; omega
 have hmx:¬ ((9223372036854775807:Int) < (ys.length:Int)+(c:Int)):=by
  have:(ys.length+c) * 1≤(ys.length+c) * i.bytes:=Nat.mul_le_mul_left _ hb
  omega
 simp [Builtin.append_,run_underlying ht,run_underlying ht',Go.sizeOf,typeInfo,zeroValue,hi,hz,asInt,asIntOf,hw,h0,h48,hn,hb0,h48',hmx,hcs0,Question.forced,hfo,newRow,grownCap]
theorem zero_get {z:Value} {k c:Nat} (hzs:z.cells.size=k) (hk0:0 < k) (hz1:∀ v∈z.cells.toList,v.oneCell'=true):(Builtin.zeroCells z.cells c).size=c * k∧∀ v∈(Builtin.zeroCells z.cells c).toList,v.oneCell'=true:=by
 refine ⟨by simp [Builtin.zeroCells,hzs],fun v hv=>?_⟩
 simp only [Builtin.zeroCells,Array.toList_map,List.mem_map] at hv
 obtain ⟨i,hi,rfl⟩:=hv
 refine hz1 _ ?_
 have hlt:i % z.cells.size < z.cells.size:=Nat.mod_lt _ (by omega)
 rw [getElem!_pos z.cells _ hlt]
 simp
theorem grow_make {P:Program} {G:Nat→Prop} {w:World} {C:Cx} {H:Heap} (hH:HR G w C H) {t t' ty e:TypeId} {i:TypeInfo} {z:Value} {kk kx:IntKind} (ht:P.underlying t=some (.slice e)) (ht':P.underlying t'=some (.int kk)) (hi:P.info? e=some i) (hz:i.zero=some z)
 (hzs:z.cells.size=i.size) (hz1:∀ v∈z.cells.toList,v.oneCell'=true) (c:Nat) {ys:List (List AV)} {ov:List Value} (base:Option Addr) (sLen sCap:Nat) (ho:Src P G w C i.size (.slice base sLen sCap) ys ov) (hlen:ys.length=sLen)
 (hg:sCap < sLen+c) (hb:0 < i.bytes) (hs:0 < i.size) (hc:0 < c) (hby:(sLen+c) * i.bytes≤140737488355328) :
 ∃ v w',(Builtin.append_ #[t,t'] ty #[.slice base sLen sCap,.int kx (c:Int)]).run P w=.ok v w'∧After G w C H (.osl H.length 0 i.size 0 (sLen+c),H++[⟨0,i.size,ys++List.replicate c (List.replicate i.size .unk),none⟩]) v w':=by
 have hr:=run_append_make (ty:=ty) (kx:=kx) ht ht' hi hz c base sLen sCap ho hlen hg hb hs hc hby
 subst hlen
 have hge:=grownCap_ge w (ys.length+c) sCap e
 generalize grownCap w (ys.length+c) sCap e=cap at hr hge
 obtain ⟨z1,z2⟩:=zero_get (c:=c) hzs hs hz1
 have hl2:(List.replicate c (List.replicate i.size AV.unk)).length=c:=by simp
 have hnone:=hH.out H.length (Nat.le_refl _)
 have hcells:∀ q,(ov.toArray++Builtin.zeroCells z.cells c++Builtin.zeroCells z.cells (cap - (ys.length+c))).getD q undef=(ov++(Builtin.zeroCells z.cells c).toList++(Builtin.zeroCells z.cells (cap - (ys.length+c))).toList).getD q undef:=fun q=>by
  rw [List.getD_eq_getElem?_getD,Array.getD_eq_getD_getElem?]
  congr 1
  rw [← Array.getElem?_toList]
  simp
 have hrow2:∀ q,q < c→((List.replicate c (List.replicate i.size AV.unk)).getD q [])=List.replicate i.size AV.unk:=fun q hq=>by simp [List.getD_eq_getElem?_getD,List.getElem?_replicate,hq]
 have hm:=hH.made (w':=w.drew.alloc (.cells (ov.toArray++Builtin.zeroCells z.cells c++Builtin.zeroCells z.cells (cap - (ys.length+c))) e)) (H':=H++[⟨0,i.size,ys++List.replicate c (List.replicate i.size .unk),none⟩]) H.length i.size (ys++List.replicate c (List.replicate i.size .unk))
  (ov.toArray++Builtin.zeroCells z.cells c++Builtin.zeroCells z.cells (cap - (ys.length+c))) e rfl rfl rfl rfl cap 0 (by simpa using hge) ?_ (fun q hq=>?_) (by omega) (fun _=>hnone.2) (fun j hj=>by
   rcases Nat.lt_or_ge j H.length with h' | h'
   · rw [List.getElem?_append_left h']
   · rw [List.getElem?_eq_none (by simp; omega),List.getElem?_eq_none (by omega)]) (by simp) (by simp) (Nat.le_refl _) fun q j hq hj=>?_
 · refine ⟨_,_,hr,G,_,hm.1,hm.2,.osl _ _ _ _ _ _ _ _ hge (by rw [Cx.lay_γ]; exact Nat.le_refl _) fun _=>⟨_,_,Cx.lay_ι ..,rfl,rfl,by simpa using hge,by simp,fun _=>by simp⟩,by simp,fun id hl _ hιd=>?_⟩
   have hne:id≠H.length:=by omega
   exact ⟨by rw [(Cx.lay_ne _ _ _ _ hne).1]; exact hιd,(Cx.lay_ne _ _ _ _ hne).2,by rw [List.getElem?_append_left hl]⟩
 · simp only [Array.size_append,List.size_toArray,size_zeroCells,hzs,ho.length,← Nat.add_mul]
   refine Nat.mul_le_mul_right _ ?_
   omega
 · simp only [List.length_append,hl2] at hq
   rw [cat_row]
   split
   · rename_i h; exact ho.row _ h
   · rw [hrow2 _ (by omega)]; simp
 · simp only [List.length_append,hl2] at hq
   rw [hcells,cat_get (xs:=List.replicate c (List.replicate i.size AV.unk)) ho.length (by rw [hl2]; simpa using z1) (by rw [hl2]; exact hq) hj,cat_row]
   split
   · rename_i h; exact ho.rel _ _ h hj
   · rename_i h
     rw [hrow2 _ (by omega)]
     have hlt:=row_lt (show q - ys.length < c by omega) hj
     refine ⟨?_,?_⟩
     · rw [List.getD_eq_getElem?_getD,List.getElem?_eq_getElem (show _ < (Builtin.zeroCells z.cells c).size by rw [z1]; exact hlt)]
       exact z2 _ (List.getElem_mem _)
     · simp only [List.getD_eq_getElem?_getD,List.getElem?_replicate,hj,if_true,Option.getD_some]
       exact .unk ..
theorem ssem_make {P:Program} {F:Fr} {H:Heap} {dst:Option Tmp} {x y:Operand} {t t' e0:TypeId} {type:TypeId} {pos:String} {after:Array Edge} {guard:Option (Nat × Bool)} {id g e n r c:Nat} {els ys:List (List AV)} {i:TypeInfo} {z:Value} {kk kx:IntKind}
 (ht:P.underlying t=some (.slice e0)) (ht':P.underlying t'=some (.int kk)) (hi:P.info? e0=some i) (hz:i.zero=some z) (hzs:z.cells.size=i.size) (hz1:∀ v∈z.cells.toList,v.oneCell'=true)
 (hx:opv F x=some (.osl id g i.size e n)) (ho:H[id]?=some ⟨g,i.size,els,some r⟩) (hrows:rowsIn H i.size (.osl id g i.size e n)=some ys) (hlen:ys.length=n) (hy:opv F y=some (.int kx (c:Int)))
 (hg:r - e < n+c) (hb:0 < i.bytes) (hs:0 < i.size) (hc:0 < c) (hby:(n+c) * i.bytes≤140737488355328) :
 SSem P F H ⟨dst,.call { callee:=.builtin .append,args:=#[x,y],argTypes:=#[t,t'] },type,pos,after,guard⟩ (.osl H.length 0 i.size 0 (n+c),H++[⟨0,i.size,ys++List.replicate c (List.replicate i.size .unk),none⟩]):=by
 intro G w C f hf hH
 have hv:=hf x (by simp [Op.operands,Call.operands]) _ hx
 have hvy:=hf y (by simp [Op.operands,Call.operands]) _ hy
 have hgen:g=C.γ id:=hH.gen id _ ho
 obtain ⟨ov,hsrc⟩:=rowsIn_src (P:=P) hH hv hrows
 generalize huy:f y=uy at hvy
 cases hvy
 have fin:∀ base sCap,f x=.slice base n sCap→sCap < n+c→∃ v w',(execOp f (⟨dst,.call { callee:=.builtin .append,args:=#[x,y],argTypes:=#[t,t'] },type,pos,after,guard⟩:Oper)).run P w=.ok (.value v) w'∧After G w C H (.osl H.length 0 i.size 0 (n+c),H++[⟨0,i.size,ys++List.replicate c (List.replicate i.size .unk),none⟩]) v w':=by
  intro base sCap hfx hcap
  rw [hfx] at hsrc
  obtain ⟨v,w',h1,h2⟩:=grow_make (ty:=type) (kx:=kx) hH ht ht' hi hz hzs hz1 c base n sCap hsrc hlen hcap hb hs hc hby
  refine ⟨v,w',?_,h2⟩
  simp [execOp,resolve,invoke,builtin,hfx,huy,h1]
 generalize hu:f x=u at hv
 cases hv with
 | osl _ _ _ _ _ _ ad cap hnc hle h =>
  obtain ⟨l,bb,hι,hlb,hlk,hen,hcap,_⟩:=h hgen
  have:=(hH.ob id _ l ho hι).rm r rfl
  exact fin _ _ hu (by omega)
 | osl0 _ _ _ _ _ base hle h=>exact fin _ _ hu (by omega)
end Go.Proofs.Ytfjedpipdnlkfaa.AM

set_option linter.unusedVariables false
set_option linter.unusedSimpArgs false
namespace Go.Proofs.Ytfjedpipdnlkfaa.AM
open Go
end Go.Proofs.Ytfjedpipdnlkfaa.AM

set_option linter.unusedVariables false
set_option linter.unusedSimpArgs false
namespace Go.Proofs.Ytfjedpipdnlkfaa.AM
open Go
theorem ACalls.ghost {P:Program} {f:FuncId} {args:List AV} {H H1 H2:Heap} {a a' x:AV} {i id g:Nat} {o o1:Ob} (h:ACalls P f args H (a,H1)) (hi:args[i]?=some x) (hx:(∃ e c,x=.obj id g e c)∨∃ k e n,x=.osl id g k e n)
 (ho:H[id]?=some o) (hg:o.gen=g) (ho1:H1[id]?=some o1) (hg1:o1.gen=g)
 (k:∀ (G:Nat→Prop) (w:World) (C:Cx) (v:Value),HR G w C H1→VR G w C a v→(∃ l,C.ι id=some l)→∃ G' C',Ev G w C G' w C'∧HR G' w C' H2∧VR G' w C' a' v∧Pd AnyId C H1 C' H2):ACalls P f args H (a',H2):=by
 intro G w C vs hsz hargs hH
 have hlt:i < args.length:=by
  rcases Nat.lt_or_ge i args.length with h' | h'
  · exact h'
  · rw [List.getElem?_eq_none h'] at hi; simp at hi
 have hv:=hargs i hlt
 rw [List.getD_eq_getElem?_getD,hi] at hv
 have hγ:=hH.gen id o ho
 obtain ⟨l,hl⟩:=VR.shows hv hx (by omega)
 refine (h G w C vs hsz hargs hH).mono fun v w' ⟨G',C',he,hh,hv,hp⟩=>?_
 have hγ1:=hh.gen id o1 ho1
 have hl':C'.ι id=some l:=(he.cx id).2 (by omega) l hl
 obtain ⟨G2,C2,h1,h2,h3,h4⟩:=k G' w' C' v hh hv ⟨l,hl'⟩
 exact ⟨G2,C2,he.trans h1,h2,h3,hp.trans h4⟩
theorem ACalls.ghost0 {P:Program} {f:FuncId} {args:List AV} {H H1 H2:Heap} {a a':AV} (h:ACalls P f args H (a,H1))
 (k:∀ (G:Nat→Prop) (w:World) (C:Cx) (v:Value),HR G w C H1→VR G w C a v→∃ G' C',Ev G w C G' w C'∧HR G' w C' H2∧VR G' w C' a' v∧Pd AnyId C H1 C' H2):ACalls P f args H (a',H2):=by
 intro G w C vs hsz hargs hH
 refine (h G w C vs hsz hargs hH).mono fun v w' ⟨G',C',he,hh,hv,hp⟩=>?_
 obtain ⟨G2,C2,h1,h2,h3,h4⟩:=k G' w' C' v hh hv
 exact ⟨G2,C2,he.trans h1,h2,h3,hp.trans h4⟩
section
variable {P:Program} {G:Nat→Prop} {w:World} {C:Cx} {H:Heap}
theorem steal_sound (hH:HR G w C H) {id j g gj k n:Nat} {o oj:Ob} {v:Value} (hne:id≠j) (ho:H[id]?=some o) (hoj:H[j]?=some oj) (hgo:o.gen=g) (hgj:oj.gen=gj) (hv:VR G w C (.osl j gj k 0 n) v) (hl:∃ l,C.ι id=some l) :
 ∃ G' C',Ev G w C G' w C'∧HR G' w C' ((H.set id { oj with gen:=g+1 }).set j ⟨gj+1,k,[],none⟩)∧VR G' w C' (.osl id (g+1) k 0 n) v∧Pd AnyId C H C' ((H.set id { oj with gen:=g+1 }).set j ⟨gj+1,k,[],none⟩):=by
 obtain ⟨l,hl⟩:=hl
 have hγ:=hH.gen id o ho
 have hγj:=hH.gen j oj hoj
 have hlt:=heap_lt ho
 have hltj:=heap_lt hoj
 obtain ⟨lj,hlj,hlk⟩:=osl_alive hv (by omega)
 have hC1:((C.lay id (C.ι j) (g+1)).lay j none (gj+1)).ι j=none:=Cx.lay_ι ..
 have hC2:((C.lay id (C.ι j) (g+1)).lay j none (gj+1)).γ j=gj+1:=Cx.lay_γ ..
 have hC3:((C.lay id (C.ι j) (g+1)).lay j none (gj+1)).ι id=some lj:=by rw [(Cx.lay_ne _ _ _ _ hne).1,Cx.lay_ι,hlj]
 have hC4:((C.lay id (C.ι j) (g+1)).lay j none (gj+1)).γ id=g+1:=by rw [(Cx.lay_ne _ _ _ _ hne).2,Cx.lay_γ]
 have hC5:∀ i,i≠id→i≠j→((C.lay id (C.ι j) (g+1)).lay j none (gj+1)).ι i=C.ι i∧((C.lay id (C.ι j) (g+1)).lay j none (gj+1)).γ i=C.γ i:=fun i h1 h2=>by
  rw [(Cx.lay_ne _ _ _ _ h2).1,(Cx.lay_ne _ _ _ _ h2).2,(Cx.lay_ne _ _ _ _ h1).1,(Cx.lay_ne _ _ _ _ h1).2]; exact ⟨rfl,rfl⟩
 generalize (C.lay id (C.ι j) (g+1)).lay j none (gj+1)=C' at hC1 hC2 hC3 hC4 hC5
 have hcx:CxLe C C':=fun i=>by
  by_cases h1:i=id
  · subst h1; rw [hC4]; exact ⟨by omega,fun e=>by omega⟩
  · by_cases h2:i=j
    · subst h2; rw [hC2]; exact ⟨by omega,fun e=>by omega⟩
    · rw [(hC5 i h1 h2).1,(hC5 i h1 h2).2]; exact ⟨Nat.le_refl _,fun _ l hl=>hl⟩
 have hback:∀ i m,C'.ι i=some m→∃ i',C.ι i'=some m∧(i=id→i'=j)∧(i≠id→i'=i)∧i≠j:=fun i m hm=>by
  by_cases h2:i=j
  · subst h2; rw [hC1] at hm; simp at hm
  · by_cases h1:i=id
    · subst h1; rw [hC3] at hm; exact ⟨j,by rw [hlj]; exact hm,fun _=>rfl,fun h=>absurd rfl h,h2⟩
    · rw [(hC5 i h1 h2).1] at hm; exact ⟨i,hm,fun h=>absurd h h1,fun _=>rfl,h2⟩
 have hev:Ev G w C G w C':=⟨rfl,rfl,rfl,Nat.le_refl _,fun _ h=>h,fun _ _=>rfl,hcx,fun _ _ _=>rfl,fun _ h=>.inl h,fun i m b hm hb=>by
  obtain ⟨i',h1,_⟩:=hback i m hm
  exact .inl ⟨i',m,h1,hb⟩,fun _=>rfl⟩
 have hget1:((H.set id { oj with gen:=g+1 }).set j ⟨gj+1,k,[],none⟩)[j]?=some ⟨gj+1,k,[],none⟩:=List.getElem?_set_self (by simpa using hltj)
 have hget2:((H.set id { oj with gen:=g+1 }).set j ⟨gj+1,k,[],none⟩)[id]?=some { oj with gen:=g+1 }:=by rw [List.getElem?_set_ne (Ne.symm hne),List.getElem?_set_self hlt]
 have hget3:∀ i,i≠id→i≠j→((H.set id { oj with gen:=g+1 }).set j ⟨gj+1,k,[],none⟩)[i]?=H[i]?:=fun i h1 h2=>by rw [List.getElem?_set_ne (Ne.symm h2),List.getElem?_set_ne (Ne.symm h1)]
 refine ⟨G,C',hev,⟨fun i oi hi=>?_,fun i hi=>?_,fun i m b hm hb=>?_,fun i i2 m m2 b hi hi2 hb hb2=>?_,fun i oi m hi hm=>?_,hH.gsz⟩,?_,by simp,fun i hi hs hi0=>?_⟩
 · by_cases h2:i=j
   · subst h2; rw [hget1] at hi; simp at hi; subst hi; exact hC2.symm
   · by_cases h1:i=id
     · subst h1; rw [hget2] at hi; simp at hi; subst hi; exact hC4.symm
     · rw [hget3 i h1 h2] at hi; rw [(hC5 i h1 h2).2]; exact hH.gen i oi hi
 · simp only [List.length_set] at hi
   have h1:i≠id:=by omega
   have h2:i≠j:=by omega
   rw [(hC5 i h1 h2).1,(hC5 i h1 h2).2]; exact hH.out i hi
 · obtain ⟨i',h1,_⟩:=hback i m hm
   exact hH.own i' m b h1 hb
 · obtain ⟨i',p1,p2,p3,p4⟩:=hback i m hi
   obtain ⟨i2',q1,q2,q3,q4⟩:=hback i2 m2 hi2
   have:=hH.inj _ _ _ _ b p1 q1 hb hb2
   by_cases h1:i=id <;> by_cases h2:i2=id
   · omega
   · have:=p2 h1; have:=q3 h2; omega
   · have:=p3 h1; have:=q2 h2; omega
   · have:=p3 h1; have:=q3 h2; omega
 · obtain ⟨i',p1,p2,p3,p4⟩:=hback i m hm
   by_cases h1:i=id
   · have e:=p2 h1
     subst e h1
     rw [hget2] at hi
     simp only [Option.some.injEq] at hi
     subst hi
     have:=(hH.ob i' oj m hoj p1).ev hev (fun _ _=>rfl)
     exact ⟨this.k,this.rm,this.no,this.len,this.row,this.cells⟩
   · have e:=p3 h1
     subst e
     rw [hget3 i' h1 p4] at hi
     exact (hH.ob i' oi m hi p1).ev hev (fun _ _=>rfl)
 · cases hv with
   | osl _ _ _ _ _ _ ad cap hnc hle hl2 =>
    refine .osl _ _ _ _ _ _ _ _ hnc (by omega) fun _=>?_
    obtain ⟨l2,b,q1,q2⟩:=hl2 (by omega)
    rw [hlj] at q1
    simp only [Option.some.injEq] at q1
    subst q1
    exact ⟨lj,b,hC3,q2⟩
   | osl0 _ _ _ _ _ base hle hl2 =>
    refine .osl0 _ _ _ _ _ _ (by omega) fun _=>?_
    obtain ⟨l2,q1,q2⟩:=hl2 (by omega)
    rw [hlj] at q1
    simp only [Option.some.injEq] at q1
    subst q1
    exact ⟨lj,hC3,q2⟩
 · have h1:i≠id:=fun e=>by subst e; rw [hl] at hi0; simp at hi0
   have h2:i≠j:=fun e=>by subst e; rw [hlj] at hi0; simp at hi0
   exact ⟨by rw [(hC5 i h1 h2).1]; exact hi0,(hC5 i h1 h2).2,hget3 i h1 h2⟩
end
def tauOf (ids:List Nat) (n:Nat) (i:Nat):Nat:=if i < ids.length then ids.getD i 0 else n+(i - ids.length)
def RenL (τ:Nat→Nat):Heap→Heap→Prop
 | [],[]=>True
 | o :: l,o' :: l'=>o.ren τ=o'∧RenL τ l l'
 | _,_=>False
theorem RenL.get {τ:Nat→Nat}:∀ {l l':Heap},RenL τ l l'→l.length=l'.length∧∀ (i:Nat) (o:Ob),l[i]?=some o→l'[i]?=some (o.ren τ)
 | [],[],_=>⟨rfl,fun i o h=>by simp at h⟩
 | o :: l,o' :: l',h=>by
  obtain ⟨h1,h2⟩:=RenL.get h.2
  refine ⟨by simp [h1],fun i oi hi=>?_⟩
  cases i with
  | zero=>simp at hi; subst hi; simp [h.1]
  | succ i=>simpa using h2 i oi (by simpa using hi)
def setAll (H:Heap):List Nat→Heap→Heap
 | i :: ids,o :: os=>setAll (H.set i o) ids os
 | _,_=>H
theorem setAll_len:∀ (ids:List Nat) (os:Heap) (H:Heap),(setAll H ids os).length=H.length
 | [],_,H=>by simp [setAll]
 | _ :: _,[],H=>by simp [setAll]
 | i :: ids,o :: os,H=>by rw [setAll,setAll_len ids os]; simp
theorem setAll_other:∀ (ids:List Nat) (os:Heap) (H:Heap) (j:Nat),(∀ i∈ids,i≠j)→(setAll H ids os)[j]?=H[j]?
 | [],_,H,j,_=>by simp [setAll]
 | _ :: _,[],H,j,_=>by simp [setAll]
 | i :: ids,o :: os,H,j,h=>by
  rw [setAll,setAll_other ids os _ j (fun i hi=>h i (by simp [hi])),List.getElem?_set_ne (h i (by simp))]
def nodupB:List Nat→Bool
 | []=>true
 | i :: ids=>!ids.contains i&&nodupB ids
theorem setAll_get:∀ (ids:List Nat) (os:Heap) (H:Heap),nodupB ids=true→(∀ i∈ids,i < H.length)→ids.length=os.length→∀ (q:Nat) (o:Ob),os[q]?=some o→(setAll H ids os)[ids.getD q 0]?=some o
 | [],[],H,_,_,_,q,o,hq=>by simp at hq
 | i :: ids,o :: os,H,hn,hlt,hlen,q,o',hq=>by
  simp only [nodupB,Bool.and_eq_true,Bool.not_eq_true',List.contains_eq_mem,decide_eq_false_iff_not] at hn
  simp only [setAll]
  cases q with
  | zero =>
   simp at hq; subst hq
   simp only [List.getD_cons_zero]
   rw [setAll_other ids os _ i (fun j hj e=>hn.1 (e ▸ hj)),List.getElem?_set_self (hlt i (by simp))]
  | succ q =>
   simp only [List.getD_cons_succ]
   exact setAll_get ids os _ hn.2 (fun j hj=>by simpa using hlt j (by simp [hj])) (by simpa using hlen) q o' (by simpa using hq)
theorem nodup_get:∀ (ids:List Nat),nodupB ids=true→∀ i j,i < ids.length→j < ids.length→ids.getD i 0=ids.getD j 0→i=j
 | [],_,i,_,hi,_,_=>by simp at hi
 | a :: ids,hn,i,j,hi,hj,e=>by
  simp only [nodupB,Bool.and_eq_true,Bool.not_eq_true',List.contains_eq_mem,decide_eq_false_iff_not] at hn
  have hmem:∀ q,q < ids.length→ids.getD q 0∈ids:=fun q hq=>by
   rw [List.getD_eq_getElem?_getD,List.getElem?_eq_getElem hq]; exact List.getElem_mem _
  cases i with
  | zero =>
   cases j with
   | zero=>rfl
   | succ j=>simp only [List.getD_cons_zero,List.getD_cons_succ] at e; exact absurd (e ▸ hmem j (by simpa using hj)) hn.1
  | succ i =>
   cases j with
   | zero=>simp only [List.getD_cons_zero,List.getD_cons_succ] at e; exact absurd (e.symm ▸ hmem i (by simpa using hi)) hn.1
   | succ j=>simp only [List.getD_cons_succ] at e; rw [nodup_get ids hn.2 i j (by simpa using hi) (by simpa using hj) e]
theorem Ob.ren0 {τ:Nat→Nat} {o:Ob} (h:AV.bddss 0 o.els=true):o.ren τ=o:=Ob.ren_fix (fun i hi=>absurd hi (Nat.not_lt_zero i)) o h
theorem ACalls.put {P:Program} {f:FuncId} {args args':List AV} {a a':AV} {Hs H1 N Hb Hg H1' N':Heap} (ids:List Nat) (h:ACalls P f args Hs (a,H1++N)) (hids:(nodupB ids&&ids.all (fun i=>decide (i < Hb.length)))=true)
 (hlen:ids.length=Hs.length) (hn:H1.length=Hs.length) (hargs:AV.bdds Hs.length args=true) (hbs:obsB Hs.length Hs=true) (hg:(ids.map fun i=>Hb.getD i default)=Hg) (hget:RenL (tauOf ids Hb.length) Hs Hg)
 (h1:RenL (tauOf ids Hb.length) H1 H1') (h2:RenL (tauOf ids Hb.length) N N') (ha:AV.rens (tauOf ids Hb.length) args=args') (hr:a.ren (tauOf ids Hb.length)=a'):ACalls P f args' Hb (a',setAll Hb ids H1'++N'):=by
 simp only [Bool.and_eq_true,List.all_eq_true,decide_eq_true_eq] at hids
 obtain ⟨hnd,hlt⟩:=hids
 subst ha hr hg
 have hτ:∀ i,i < Hs.length→tauOf ids Hb.length i=ids.getD i 0:=fun i hi=>by simp [tauOf,hlen,hi]
 have hτ2:∀ i,Hs.length≤i→tauOf ids Hb.length i=Hb.length+(i - Hs.length):=fun i hi=>by
  have:¬ i < Hs.length:=by omega
  simp [tauOf,hlen,this]
 have hmem:∀ q,q < Hs.length→ids.getD q 0∈ids:=fun q hq=>by
  rw [List.getD_eq_getElem?_getD,List.getElem?_eq_getElem (by omega)]; exact List.getElem_mem _
 obtain ⟨g1,g2⟩:=hget.get
 obtain ⟨p1,p2⟩:=h1.get
 obtain ⟨n1,n2⟩:=h2.get
 refine h.frame (τ:=tauOf ids Hb.length) (Hb:=Hb) (Hb':=setAll Hb ids H1'++N') ⟨fun i hi=>by rw [hτ i hi]; exact hlt _ (hmem i hi),hτ2,fun i j hi hj e=>by
  rw [hτ i hi,hτ j hj] at e; exact nodup_get ids hnd i j (by omega) (by omega) e,fun i o ho=>?_⟩ hargs (fun i o ho=>obsB_get hbs ho) (by simp [setAll_len,hn,n1]) (fun i o ho=>?_) fun j hj hj2=>?_
 · have hi:=heap_lt ho
   rw [hτ i hi]
   have:=g2 i o ho
   rw [List.getElem?_map] at this
   have hi':i < ids.length:=by omega
   rw [List.getElem?_eq_getElem hi'] at this
   simp only [Option.map_some,Option.some.injEq] at this
   have hlt':=hlt _ (List.getElem_mem hi')
   rw [List.getD_eq_getElem?_getD (l:=ids),List.getElem?_eq_getElem hi',Option.getD_some,← this,List.getD_eq_getElem?_getD,List.getElem?_eq_getElem hlt',Option.getD_some]
 · rcases Nat.lt_or_ge i H1.length with hi | hi
   · rw [List.getElem?_append_left hi] at ho
     rw [hτ i (by omega),List.getElem?_append_left (by rw [setAll_len]; exact hlt _ (hmem i (by omega)))]
     exact setAll_get ids H1' Hb hnd hlt (by omega) i _ (p2 i o ho)
   · rw [List.getElem?_append_right hi] at ho
     rw [hτ2 i (by omega),List.getElem?_append_right (by rw [setAll_len]; omega),setAll_len]
     have:Hb.length+(i - Hs.length) - Hb.length=i - H1.length:=by omega
     rw [this]
     exact n2 _ o ho
 · rw [List.getElem?_append_left (by rw [setAll_len]; exact hj)]
   refine setAll_other ids H1' Hb j fun i hi e=>?_
   obtain ⟨q,hq,e2⟩:=List.getElem_of_mem hi
   refine hj2 q (by omega) ?_
   rw [hτ q (by omega),List.getD_eq_getElem?_getD,List.getElem?_eq_getElem hq,Option.getD_some,e2,e]
end Go.Proofs.Ytfjedpipdnlkfaa.AM

set_option linter.unusedVariables false
set_option linter.unusedSimpArgs false
namespace Go.Proofs.Ytfjedpipdnlkfaa.AM
open Go Go.Proofs.Ytfjedpipdnlkfaa
theorem om {p:Prop} (h:p:=by first | omega | (simp; done) | (simp; omega)):p:=h
theorem oa {p:Prop} (h:p:=by first | omega | assumption | (simp; done) | (simp; omega) | (simp_all; done) | (simp_all; omega)):p:=h
theorem ow {p:Prop} (h:p:=by omega):p:=h
theorem kr {α:Sort _} {a b:α} (h:a=b:=by kernel_rfl):a=b:=h
theorem ob {p:Prop} (h:p:=by first | (simp [obsB,AV.bddss,AV.bdds,AV.bdd]; done) | simp [obsB,AV.bddss,AV.bdds,AV.bdd,-List.map_append,-List.map_set,-List.map_take,-List.map_drop,-List.map_cons,-List.map_map]):p:=h
theorem Has.o {P : Program} {f : FuncId} {fn : Func} (h1 : P.funcs[f]? = some fn) (h2 : fn.body.isNone = false := by kernel_rfl) (h3 : (fn.name == "runtime.NumGoroutine") = false := by kernel_rfl) (h4 : fn.body.all codeOk = true := by kernel_rfl) : Has P f fn := ⟨h1, h2, h3, h4⟩
class IsP (c:Bool) (p q:outParam Prop):Prop where
 t:c=true→p
 f:c=false→q
instance (priority:=10) isP0 (c:Bool):IsP c (c=true) (c=false):=⟨id,id⟩
instance isPd (p:Prop) [Decidable p]:IsP (decide p) p (¬ p):=⟨decide_eq_true_iff.1,decide_eq_false_iff_not.1⟩
instance isPe (x y:Int):IsP (x == y) (x=y) (¬ x=y):=⟨beq_iff_eq.1,beq_eq_false_iff_ne.1⟩
instance isPne (x y:Int):IsP (x != y) (¬ x=y) (x=y):=⟨bne_iff_ne.1,fun h=>by simpa using h⟩
instance isPn (c:Bool) (p q:Prop) [h:IsP c p q]:IsP (!c) q p:=⟨fun e=>h.f (by simpa using e),fun e=>h.t (by simpa using e)⟩
instance isPa (c d:Bool) (p q p' q':Prop) [h:IsP c p q] [k:IsP d p' q']:IsP (c&&d) (p∧p') (q∨q'):=⟨fun e=>by rw [Bool.and_eq_true] at e; exact ⟨h.t e.1,k.t e.2⟩,fun e=>by rw [Bool.and_eq_false_iff] at e; exact e.imp h.f k.f⟩
instance isPo (c d:Bool) (p q p' q':Prop) [h:IsP c p q] [k:IsP d p' q']:IsP (c || d) (p∨p') (q∧q'):=⟨fun e=>by rw [Bool.or_eq_true] at e; exact e.imp h.t k.t,fun e=>by rw [Bool.or_eq_false_iff] at e; exact ⟨h.f e.1,k.f e.2⟩⟩
structure OK (H:Heap) (r:AV × Heap) (t:Tr) (p:Prop):Prop where
 h:p
structure RK (H:Heap) (r:AV × Heap) (hs:Hs) (a b:List (Nat × List (List AV))) (t:Tr) (p:Prop):Prop where
 h:p
section
variable {H H' H0:Heap} {zr:AV × Heap} {tr tA tB:Tr} {p pA pB q:Prop} {hs hs':Hs} {ra rb ra' rb':List (Nat × List (List AV))}
theorem OK.l (h:p):OK H zr .nil p:=⟨h⟩
theorem OK.e (v:AV) (h:(v,H)=zr:=by rfl):OK H zr .nil ((v,H)=zr):=⟨h⟩
theorem OK.f (n:Nat) (v:AV) (k:OK H zr tr p) (h:AV.bdd n v=true∧obsB n H=true:=by exact ob):OK H zr tr ((AV.bdd n v=true∧obsB n H=true)∧p):=⟨⟨h,k.h⟩⟩
theorem OK.h' (H':Heap) (k:OK H' zr tr p):OK H zr tr p:=⟨k.h⟩
theorem OK.two (c:Bool) {u u':Prop} [i:IsP c u u'] (x:c=true→u→OK H zr tA pA) (y:c=false→u'→OK H zr tB pB):OK H zr (.two tA tB) (cond c pA pB):=by
 cases hc:c with
 | true=>exact ⟨(x hc (i.t hc)).h⟩
 | false=>exact ⟨(y hc (i.f hc)).h⟩
theorem OK.yes (k:OK H zr tr p):OK H zr (.two tr .nil) p:=⟨k.h⟩
theorem OK.no (k:OK H zr tr p):OK H zr (.two .nil tr) p:=⟨k.h⟩
theorem OK.roll (n:Nat) (k:OK H zr tr p):OK H zr (.roll n tr) p:=⟨k.h⟩
theorem OK.loop {Q:(Ex→Fr→Heap→Prop)→Fr→Heap→Prop} {l o:Option (List Nat)} {F F':Fr} {e:Ex} (F'':Fr) (h:LoopTo Q l o F H0 e F' H') (k:OK H' zr tr p):OK H zr (.loop e F'' H' tr) (LoopTo Q l o F H0 e F' H'∧p):=⟨⟨h,k.h⟩⟩
theorem OK.r (k:RK H zr hs ra rb tr p):OK H zr (.reg hs ra rb tr) p:=⟨k.h⟩
theorem RK.g (k:OK H zr tr p):RK H zr [] [] [] tr p:=⟨k.h⟩
theorem RK.h' (H':Heap) (k:RK H' zr hs ra rb tr p):RK H zr hs ra rb tr p:=⟨k.h⟩
theorem RK.o (h:q) (k:RK H zr hs ra rb tr p):RK H zr hs ra rb tr (q∧p):=⟨⟨h,k.h⟩⟩
theorem RK.t (i:Nat) (v:AV) (H':Heap) (h:q) (k:RK H zr hs ra rb tr p):RK H zr ((i,(v,H')) :: hs) ra rb tr (q∧p):=⟨⟨h,k.h⟩⟩
theorem RK.c (i:Nat) {P:Program} {f:FuncId} {args:List AV} {v:AV} (h:ACalls P f args H0 (v,H')) (k:RK H zr hs ra rb tr p):RK H zr ((i,(v,H')) :: hs) ra rb tr (ACalls P f args H0 (v,H')∧p):=⟨⟨h,k.h⟩⟩
theorem RK.ch (i:Nat) (H1:Heap) {P:Program} {f:FuncId} {args:List AV} {v:AV} (h:ACalls P f args H0 (v,H')) (k:RK H1 zr hs ra rb tr p):RK H zr ((i,(v,H1)) :: hs) ra rb tr (ACalls P f args H0 (v,H')∧p):=⟨⟨h,k.h⟩⟩
theorem RK.y (i:Nat) (v w:AV) (h:Yes v H w) (k:RK H zr hs ra rb tr p):RK H zr ((i,(w,H)) :: hs) ra rb tr (Yes v H w∧p):=⟨⟨h,k.h⟩⟩
theorem RK.rd (v:AV) (H':Heap) (k:RK H zr hs ra rb tr p):RK H zr hs ra rb tr ((some (v,H')=some (v,H'))∧p):=⟨⟨rfl,k.h⟩⟩
theorem RK.b (n:Nat) (k:RK H zr hs ra rb tr p) (h:obsB n H=true:=by exact ob):RK H zr hs ra rb tr ((obsB n H=true)∧p):=⟨⟨h,k.h⟩⟩
theorem RK.is (i k' k2:Nat) (rows:List (List AV)) (e:Int) (cs:List AV) (h:IdxSl k' k2 rows e H cs) (k:RK H zr hs ra rb tr p):RK H zr ((i,(.ref cs 0,H)) :: hs) ra rb tr (IdxSl k' k2 rows e H cs∧p):=⟨⟨h,k.h⟩⟩
theorem RK.io (i id g k' k2 e0 n:Nat) (e:Int) (j:Nat) (h:IdxOsl id g k' k2 e0 n e H j) (k:RK H zr hs ra rb tr p):RK H zr ((i,(.obj id g j 0,H)) :: hs) ra rb tr (IdxOsl id g k' k2 e0 n e H j∧p):=⟨⟨h,k.h⟩⟩
theorem RK.st (i id g j n c:Nat) (u:AV) (H':Heap) (h:StoreTo H id j n c (rowAt H id g j) (AV.fit u n)=some (AV.skip,H')) (k:RK H' zr hs ra rb tr p):RK H zr ((i,(AV.skip,H')) :: hs) ra rb tr (StoreTo H id j n c (rowAt H id g j) (AV.fit u n)=some (AV.skip,H')∧p):=⟨⟨h,k.h⟩⟩
theorem RK.ap (i:Nat) (T:TypeId) (u v w:AV) (H':Heap) (h:evAppend tt H T u v=some (w,H')) (k:RK H' zr hs ra rb tr p):RK H zr ((i,(w,H')) :: hs) ra rb tr (evAppend tt H T u v=some (w,H')∧p):=⟨⟨h,k.h⟩⟩
theorem RK.ao (i:Nat) (T:TypeId) (u v w:AV) (H':Heap) (h:evAppendO tt H T u v=some (w,H')) (k:RK H' zr hs ra rb tr p):RK H zr ((i,(w,H')) :: hs) ra rb tr (evAppendO tt H T u v=some (w,H')∧p):=⟨⟨h,k.h⟩⟩
theorem RK.so (i id g n e m:Nat) (lo hi:Int) (w:AV) (h:Option.map (fun a=>(a,H)) ((bounds lo hi m).map fun p=>AV.osl id g n (e+p.1) (p.2 - p.1))=some (w,H)) (k:RK H zr hs ra rb tr p):RK H zr ((i,(w,H)) :: hs) ra rb tr (Option.map (fun a=>(a,H)) ((bounds lo hi m).map fun p=>AV.osl id g n (e+p.1) (p.2 - p.1))=some (w,H)∧p):=⟨⟨h,k.h⟩⟩
theorem RK.two (c:Bool) {u u':Prop} [i:IsP c u u'] (x:c=true→u→RK H zr hs ra rb tA pA) (y:c=false→u'→RK H zr hs' ra' rb' tB pB):RK H zr (hs++hs') (ra++ra') (rb++rb') (.two tA tB) (cond c pA pB):=by
 cases hc:c with
 | true=>exact ⟨(x hc (i.t hc)).h⟩
 | false=>exact ⟨(y hc (i.f hc)).h⟩
theorem RK.yes (k:RK H zr hs ra rb tr p):RK H zr hs ra rb (.two tr .nil) p:=⟨k.h⟩
theorem RK.no (k:RK H zr hs ra rb tr p):RK H zr hs ra rb (.two .nil tr) p:=⟨k.h⟩
theorem RK.w (s:Nat) (xs:List (List AV)) (h:q) (k:RK H zr hs ra rb tr p):RK H zr hs ((s,xs) :: ra) rb tr (q∧p):=⟨⟨h,k.h⟩⟩
theorem RK.w' (s:Nat) (xs:List (List AV)) (h:q) (k:RK H zr hs ra rb tr p):RK H zr hs ra ((s,xs) :: rb) tr (q∧p):=⟨⟨h,k.h⟩⟩
end
theorem RenL.split {τ:Nat→Nat}:∀ {l a b:Heap},RenL τ l (a++b)→RenL τ (l.take a.length) a∧RenL τ (l.drop a.length) b
 | l,[],b,h=>by simpa [RenL] using h
 | [],o :: a,b,h=>by simp [RenL] at h
 | x :: l,o :: a,b,h=>by
  simp only [List.cons_append,RenL] at h
  obtain ⟨h1,h2⟩:=RenL.split h.2
  exact ⟨⟨h.1,h1⟩,h2⟩
theorem ACalls.put2 {P:Program} {f:FuncId} {args:List AV} {v:AV} {Hs HsR:Heap} (ids:List Nat) (Hb:Heap) (v':AV) (Hb':Heap) (h:ACalls P f args Hs (v,HsR))
 (hget:RenL (tauOf ids Hb.length) Hs (ids.map fun i=>Hb.getD i default)) (hnew:RenL (tauOf ids Hb.length) HsR ((ids.map fun i=>Hb'.getD i default)++Hb'.drop Hb.length))
 (hids:(nodupB ids&&ids.all (fun i=>decide (i < Hb.length)))=true:=by kernel_rfl) (hlen:ids.length=Hs.length:=by kernel_rfl) (hargs:AV.bdds Hs.length args=true:=by kernel_rfl)
 (hbs:obsB Hs.length Hs=true:=by exact ob) (hr:v.ren (tauOf ids Hb.length)=v':=by rfl) (hH:setAll Hb ids (ids.map fun i=>Hb'.getD i default)++Hb'.drop Hb.length=Hb':=by kernel_rfl) :
 ACalls P f (AV.rens (tauOf ids Hb.length) args) Hb (v',Hb'):=by
 obtain ⟨h1,h2⟩:=RenL.split hnew
 have e:HsR.take (ids.map fun i=>Hb'.getD i default).length++HsR.drop (ids.map fun i=>Hb'.getD i default).length=HsR:=List.take_append_drop _ _
 rw [← e] at h
 have hl:=h1.get.1
 rw [← hH]
 exact ACalls.put ids h hids hlen (by rw [hl]; simpa using hlen) hargs hbs rfl hget h1 h2 rfl hr
attribute [local irreducible] ACalls funT codeT codeQ LoopTo
theorem specO {f:FuncId} {fn:Func} {ann:Ann} {t:Tr} {args:List AV} {H:Heap} {r:AV × Heap} {p:Prop} (hf:Has Try.prog f fn) (k:OK H r t p) (e:p=funT Try.prog (X ann) fn t args H r:=by kernel_rfl) (hb:H.length≤ann.base:=by exact Nat.le_of_ble_eq_true (by kernel_rfl)):ACalls Try.prog f args H r :=
 spec hb hf (Eq.mp e k.h)
theorem stepO {P:Program} {X:Env} {c:Code} {live out:Option (List Nat)} {F F':Fr} {H H':Heap} {e:Ex} {t:Tr} {p:Prop} (k:OK H (.skip,[]) t p)
 (h:p=codeT P X c (fun _ e2 F2 H2=>match e2 with | .normal=>LoopTo (codeQ P X c) live out (cutF live F2) H2 e F' H' | e2=>(e2,cutF out F2,H2)=(e,F',H')) t F H:=by kernel_rfl):LoopTo (codeQ P X c) live out F H e F' H' :=
 LoopTo.step t (Eq.mp h k.h)
end Go.Proofs.Ytfjedpipdnlkfaa.AM

set_option maxRecDepth 100000
set_option linter.unusedVariables false
set_option linter.unusedSimpArgs false
namespace Go.Proofs.Ytfjedpipdnlkfaa.AM
open Go Go.Proofs.Ytfjedpipdnlkfaa
attribute [local irreducible] ACalls funT codeT codeQ LoopTo
structure Key where
 app:ByteArray
 id:ByteArray
 deriving Inhabited
def Key.row (x:Key):List AV:=[(AV.str x.app),(AV.str x.id)]
@[simp] theorem Key.row_bdd (n:Nat) (x:Key):AV.bdds n x.row=true:=by simp [Key.row,AV.bdds,AV.bdd]
@[simp] theorem Key.rows_bdd (n:Nat) (l:List Key):AV.bddss n (l.map Key.row)=true:=by induction l with | nil=>rfl | cons x l ih=>simp [AV.bddss,Key.row_bdd,ih]
structure Stamp where
 t:Int
 node:Int
 n:Int
 deriving Inhabited
def Stamp.row (x:Stamp):List AV:=[(AV.int .i64 x.t),(AV.int .i64 x.node),(AV.int .i64 x.n)]
@[simp] theorem Stamp.row_bdd (n:Nat) (x:Stamp):AV.bdds n x.row=true:=by simp [Stamp.row,AV.bdds,AV.bdd]
@[simp] theorem Stamp.rows_bdd (n:Nat) (l:List Stamp):AV.bddss n (l.map Stamp.row)=true:=by induction l with | nil=>rfl | cons x l ih=>simp [AV.bddss,Stamp.row_bdd,ih]
structure Card where
 key:Key
 status:Int
 over:Int
 lease:Int
 stamp:Stamp
 gone:Bool
 deriving Inhabited
def Card.row (x:Card):List AV:=[(AV.str x.key.app),(AV.str x.key.id),(AV.int .i64 x.status),(AV.int .i64 x.over),(AV.int .i64 x.lease),(AV.int .i64 x.stamp.t),(AV.int .i64 x.stamp.node),(AV.int .i64 x.stamp.n),(AV.bool x.gone)]
@[simp] theorem Card.row_bdd (n:Nat) (x:Card):AV.bdds n x.row=true:=by simp [Card.row,AV.bdds,AV.bdd]
@[simp] theorem Card.rows_bdd (n:Nat) (l:List Card):AV.bddss n (l.map Card.row)=true:=by induction l with | nil=>rfl | cons x l ih=>simp [AV.bddss,Card.row_bdd,ih]
structure Entry where
 card:Card
 seen:Int
 deriving Inhabited
def Entry.row (x:Entry):List AV:=[(AV.str x.card.key.app),(AV.str x.card.key.id),(AV.int .i64 x.card.status),(AV.int .i64 x.card.over),(AV.int .i64 x.card.lease),(AV.int .i64 x.card.stamp.t),(AV.int .i64 x.card.stamp.node),(AV.int .i64 x.card.stamp.n),(AV.bool x.card.gone),(AV.int .i64 x.seen)]
@[simp] theorem Entry.row_bdd (n:Nat) (x:Entry):AV.bdds n x.row=true:=by simp [Entry.row,AV.bdds,AV.bdd]
@[simp] theorem Entry.rows_bdd (n:Nat) (l:List Entry):AV.bddss n (l.map Entry.row)=true:=by induction l with | nil=>rfl | cons x l ih=>simp [AV.bddss,Entry.row_bdd,ih]
def rI64 (n:Int):List AV:=[.int .i64 n]
def rU8 (n:Int):List AV:=[.int .u8 n]
def rStr (s:ByteArray):List AV:=[.str s]
def rBool (b:Bool):List AV:=[.bool b]
@[simp] theorem rI64_bdd (n:Nat) (l:List Int):AV.bddss n (l.map rI64)=true:=by induction l with | nil=>rfl | cons x l ih=>simp [AV.bddss,rI64,AV.bdds,AV.bdd,ih]
@[simp] theorem rU8_bdd (n:Nat) (l:List Int):AV.bddss n (l.map rU8)=true:=by induction l with | nil=>rfl | cons x l ih=>simp [AV.bddss,rU8,AV.bdds,AV.bdd,ih]
@[simp] theorem rStr_bdd (n:Nat) (l:List ByteArray):AV.bddss n (l.map rStr)=true:=by induction l with | nil=>rfl | cons x l ih=>simp [AV.bddss,rStr,AV.bdds,AV.bdd,ih]
@[simp] theorem rBool_bdd (n:Nat) (l:List Bool):AV.bddss n (l.map rBool)=true:=by induction l with | nil=>rfl | cons x l ih=>simp [AV.bddss,rBool,AV.bdds,AV.bdd,ih]
def Key.eqb (a b:Key):Bool:=(a.app.toList == b.app.toList)&&((a.id.toList == b.id.toList)&&true)
def cmpS (a b:ByteArray):Int:=if Op.bytesLess a.toList b.toList then -1 else if a.toList == b.toList then 0 else 1
def cmpI (a b:Int):Int:=if a < b then -1 else if a > b then 1 else 0
def cmpK (a b:Key):Int:=if cmpS a.app b.app=0 then cmpS a.id b.id else cmpS a.app b.app
def lessK (a b:Key):Bool:=decide (cmpK a b < 0)
def isNaNs_ann:Ann:={ fin:=some 0 }
theorem isNaNs_spec (s : ByteArray)  : ACalls Try.prog 97 [(.str s)] ([] : Heap) ((AV.bool false), ([] : Heap)) :=
  specO (fn := Try.f97) (ann := isNaNs_ann) (Has.o Try.func97) (.r (.g (.r (.g (.f 0 (AV.bool (!(s.toList == s.toList))) (.e (AV.bool (!(s.toList == s.toList))) (by
        simp)))))))
theorem isNaNs_at (s:ByteArray)  (H:Heap):ACalls Try.prog 97 [(.str s)] H ((AV.bool false),H):=(isNaNs_spec s ).lift kr kr H
def compareS_ann:Ann:={ fin:=some 0 }
theorem compareS_spec (a b : ByteArray)  : ACalls Try.prog 89 [(.str a), (.str b)] ([] : Heap) ((AV.int .i64 (cmpS a b)), ([] : Heap)) :=
  specO (fn := Try.f89) (ann := compareS_ann) (Has.o Try.func89) (.r (.g (.r (.c 1 (isNaNs_at a  ([] : Heap)) (.g (.r (.c 1 (isNaNs_at b  ([] : Heap)) (.g (.r (.g (.no (.r (.g (.no (.r (.g (.two (Op.bytesLess a.toList b.toList) (fun h1 h1' => (.r (.g (.f 0 (AV.int .i64 (-1)) (.e (AV.int .i64 (-1)) (by
        simp_all [cmpS])))))) (fun h1 h1' => (.r (.g (.two (!(Op.bytesLess a.toList b.toList || a.toList == b.toList)) (fun h2 h2' => (.r (.g (.f 0 (AV.int .i64 1) (.e (AV.int .i64 1) (by
        simp_all [cmpS])))))) (fun h2 h2' => (.r (.g (.f 0 (AV.int .i64 0) (.e (AV.int .i64 0) (by
        simp_all [cmpS])))))))))))))))))))))))))))
theorem compareS_at (a b:ByteArray)  (H:Heap):ACalls Try.prog 89 [(.str a),(.str b)] H ((AV.int .i64 (cmpS a b)),H):=(compareS_spec a b ).lift kr kr H
def isNaNi_ann:Ann:={ fin:=some 0 }
theorem isNaNi_spec (n : Int)  : ACalls Try.prog 91 [(.int .i64 n)] ([] : Heap) ((AV.bool false), ([] : Heap)) :=
  specO (fn := Try.f91) (ann := isNaNi_ann) (Has.o Try.func91) (.r (.g (.r (.g (.f 0 (AV.bool (n != n)) (.e (AV.bool (n != n)) (by
        simp)))))))
theorem isNaNi_at (n:Int)  (H:Heap):ACalls Try.prog 91 [(.int .i64 n)] H ((AV.bool false),H):=(isNaNi_spec n ).lift kr kr H
def compareI_ann:Ann:={ fin:=some 0 }
theorem compareI_spec (a b : Int)  : ACalls Try.prog 81 [(.int .i64 a), (.int .i64 b)] ([] : Heap) ((AV.int .i64 (cmpI a b)), ([] : Heap)) :=
  specO (fn := Try.f81) (ann := compareI_ann) (Has.o Try.func81) (.r (.g (.r (.c 1 (isNaNi_at a  ([] : Heap)) (.g (.r (.c 1 (isNaNi_at b  ([] : Heap)) (.g (.r (.g (.no (.r (.g (.no (.r (.g (.two (decide (a < b)) (fun h1 h1' => (.r (.g (.f 0 (AV.int .i64 (-1)) (.e (AV.int .i64 (-1)) (by
        simp_all [cmpI] <;> omega)))))) (fun h1 h1' => (.r (.g (.two (decide (a > b)) (fun h2 h2' => (.r (.g (.f 0 (AV.int .i64 1) (.e (AV.int .i64 1) (by
        simp_all [cmpI] <;> omega)))))) (fun h2 h2' => (.r (.g (.f 0 (AV.int .i64 0) (.e (AV.int .i64 0) (by
        simp_all [cmpI] <;> omega)))))))))))))))))))))))))))
theorem compareI_at (a b:Int)  (H:Heap):ACalls Try.prog 81 [(.int .i64 a),(.int .i64 b)] H ((AV.int .i64 (cmpI a b)),H):=(compareI_spec a b ).lift kr kr H
def or2_ann:Ann:={ fin:=some 0 }
theorem or2_spec (x y : Int)  : ACalls Try.prog 80 [(.sl .any 1 [[(.int .i64 x)], [(.int .i64 y)]])] ([] : Heap) ((AV.int .i64 (if x = 0 then y else x)), ([] : Heap)) :=
  specO (fn := Try.f80) (ann := or2_ann) (Has.o Try.func80) (.r (.g (.r (.g (.r (.g (.roll 3 (.r (.g (.yes (.r (.g (.r (.g (.two (x != 0) (fun h1 h1' => (.r (.g (.f 0 (AV.int .i64 x) (.e (AV.int .i64 x) (by
        simp_all)))))) (fun h1 h1' => (.r (.g (.r (.g (.yes (.r (.g (.r (.g (.two (y != 0) (fun h2 h2' => (.r (.g (.f 0 (AV.int .i64 y) (.e (AV.int .i64 y) (by
        simp_all)))))) (fun h2 h2' => (.r (.g (.r (.g (.no (.r (.g (.f 0 (AV.int .i64 0) (.e (AV.int .i64 0) (by
        simp_all)))))))))))))))))))))))))))))))))))))
theorem or2_at (x y:Int)  (H:Heap):ACalls Try.prog 80 [(.sl .any 1 [[(.int .i64 x)],[(.int .i64 y)]])] H ((AV.int .i64 (if x=0 then y else x)),H):=(or2_spec x y ).lift kr kr H
def keyCmp_ann:Ann:={ refs:=[2,3],fin:=some 0 }
theorem keyCmp_spec (a b : Key)  : ACalls Try.prog 76 [(.agg (Key.row a)), (.agg (Key.row b))] ([] : Heap) ((AV.int .i64 (cmpK a b)), ([] : Heap)) :=
  specO (fn := Try.f76) (ann := keyCmp_ann) (Has.o Try.func76) (.r (.g (.r (.c 4 (compareS_at a.app b.app  ([] : Heap)) (.c 9 (compareS_at a.id b.id  ([] : Heap)) (.c 11 (ACalls.pre (args := [(AV.sl .any 1 [[(AV.int .i64 (cmpS a.app b.app))], [(AV.int .i64 (cmpS a.id b.id))]])]) (args' := [(AV.sl .clip 1 [[(AV.int .i64 (cmpS a.app b.app))], [(AV.int .i64 (cmpS a.id b.id))]])]) (or2_at (cmpS a.app b.app) (cmpS a.id b.id)  ([] : Heap)) ⟨⟨rfl, rfl, .inl rfl⟩, trivial⟩) (.g (.f 0 (AV.int .i64 (if (cmpS a.app b.app) = 0 then (cmpS a.id b.id) else (cmpS a.app b.app))) (.e (AV.int .i64 (if (cmpS a.app b.app) = 0 then (cmpS a.id b.id) else (cmpS a.app b.app))) (by
        simp [cmpK]))))))))))
theorem keyCmp_at (a b:Key)  (H:Heap):ACalls Try.prog 76 [(.agg (Key.row a)),(.agg (Key.row b))] H ((AV.int .i64 (cmpK a b)),H):=(keyCmp_spec a b ).lift kr kr H
def keyLess_ann:Ann:={ refs:=[2,3],fin:=some 0 }
theorem keyLess_spec (a b:Key) :ACalls Try.prog 66 [(.agg (Key.row a)),(.agg (Key.row b))] ([]:Heap) ((AV.bool (lessK a b)),([]:Heap)) :=
 specO (fn:=Try.f66) (ann:=keyLess_ann) (Has.o Try.func66) (.r (.g (.r (.c 2 (keyCmp_at a b  ([]:Heap)) (.g (.f 0 (AV.bool (decide ((cmpK a b) < 0))) (.e (AV.bool (decide ((cmpK a b) < 0))))))))))
theorem keyLess_at (a b:Key)  (H:Heap):ACalls Try.prog 66 [(.agg (Key.row a)),(.agg (Key.row b))] H ((AV.bool (lessK a b)),H):=(keyLess_spec a b ).lift kr kr H
end Go.Proofs.Ytfjedpipdnlkfaa.AM

set_option maxRecDepth 100000
set_option linter.unusedVariables false
set_option linter.unusedSimpArgs false
namespace Go.Proofs.Ytfjedpipdnlkfaa.AM
open Go Go.Proofs.Ytfjedpipdnlkfaa
attribute [local irreducible] ACalls funT codeT codeQ LoopTo
structure Tp where
 l:List Int
 pos:Nat
 deriving Inhabited
def Tp.row (x:Tp):List AV:=[(AV.sl .any 1 (List.map rI64 x.l)),(AV.int .i64 ((x.pos:Nat):Int))]
@[simp] theorem Tp.row_bdd (n:Nat) (x:Tp):AV.bdds n x.row=true:=by simp [Tp.row,AV.bdds,AV.bdd]
@[simp] theorem Tp.rows_bdd (n:Nat) (l:List Tp):AV.bddss n (l.map Tp.row)=true:=by induction l with | nil=>rfl | cons x l ih=>simp [AV.bddss,Tp.row_bdd,ih]
def held (n:Int):Int:=max 0 (min n 4611686018427387904)
def wN (x:Int) (hi:Nat):Nat:=if 0≤x∧x≤hi then x.toNat else if Int.tmod x (((hi+1:Nat):Int)) < 0 then (Int.tmod x (((hi+1:Nat):Int))+hi+1).toNat else (Int.tmod x (((hi+1:Nat):Int))).toNat
theorem tmod_bd (x:Int) (n:Nat) (h:0 < n):-(n:Int) < Int.tmod x n∧Int.tmod x n < n:=by
 have h1:=Int.tmod_lt_of_pos x (show (0:Int) < n by omega)
 have h2:=Int.tmod_lt_of_pos (-x) (show (0:Int) < n by omega)
 rw [Int.neg_tmod] at h2
 omega
def within_ann:Ann:={ fin:=some 0 }
theorem within_spec (x : Int) (hi : Nat) (hh : hi < 1099511627776) : ACalls Try.prog 21 [(.int .i64 x), (.int .i64 0), (.int .i64 ((hi : Nat) : Int))] ([] : Heap) ((AV.int .i64 ((wN x hi : Nat) : Int)), ([] : Heap)) := by
  have hb := tmod_bd x (hi + 1) ow
  exact specO (fn := Try.f21) (ann := within_ann) (Has.o Try.func21) (.r (.g (.r (.two (decide (x ≥ 0)) (fun h1 h1' => (.yes (.yes (.g (.two (decide (x ≤ ((hi : Nat) : Int))) (fun h2 h2' => (.r (.g (.f 0 (AV.int .i64 x) (.e (AV.int .i64 x) (by
        simp_all [wN]
        all_goals first | done | omega | (split <;> omega) | (split <;> first | omega | (split <;> omega)))))))) (fun h2 h2' => (.r (.y 3 (.int .i64 (IntKind.i64.wrap (((hi : Nat) : Int) - 0))) (AV.int .i64 ((hi : Nat) : Int)) (Yes.add ow ow ow) (.y 4 (.int .i64 (IntKind.i64.wrap (((hi : Nat) : Int) + 1))) (AV.int .i64 ((hi + 1 : Nat) : Int)) (Yes.add ow ow ow) (.t 5 (AV.int .i64 (Int.tmod x ((hi + 1 : Nat) : Int))) ([] : Heap) (quo_some ow rfl : Option.map (fun a => (a, ([] : Heap))) (if (((hi + 1 : Nat) : Int) : Int) = 0 then none else some (AV.int .i64 (Int.tmod x ((hi + 1 : Nat) : Int)))) = some ((AV.int .i64 (Int.tmod x ((hi + 1 : Nat) : Int))), ([] : Heap))) (.g (.r (.g (.two (decide ((Int.tmod x ((hi + 1 : Nat) : Int)) < 0)) (fun h3 h3' => (.r (.y 2 (.int .i64 (IntKind.i64.wrap ((Int.tmod x ((hi + 1 : Nat) : Int)) + ((hi : Nat) : Int)))) (AV.int .i64 ((Int.tmod x ((hi + 1 : Nat) : Int)) + ((hi : Nat) : Int))) (Yes.add ow ow rfl) (.y 4 (.int .i64 (IntKind.i64.wrap (((Int.tmod x ((hi + 1 : Nat) : Int)) + ((hi : Nat) : Int)) - 0))) (AV.int .i64 (((Int.tmod x ((hi + 1 : Nat) : Int)) + ((hi : Nat) : Int)) - 0)) (Yes.add ow ow rfl) (.y 5 (.int .i64 (IntKind.i64.wrap ((((Int.tmod x ((hi + 1 : Nat) : Int)) + ((hi : Nat) : Int)) - 0) + 1))) (AV.int .i64 ((((Int.tmod x ((hi + 1 : Nat) : Int)) + ((hi : Nat) : Int)) - 0) + 1)) (Yes.add ow ow rfl) (.g (.r (.y 2 (.int .i64 (IntKind.i64.wrap (0 + ((((Int.tmod x ((hi + 1 : Nat) : Int)) + ((hi : Nat) : Int)) - 0) + 1)))) (AV.int .i64 (0 + ((((Int.tmod x ((hi + 1 : Nat) : Int)) + ((hi : Nat) : Int)) - 0) + 1))) (Yes.add ow ow rfl) (.g (.f 0 (AV.int .i64 (0 + ((((Int.tmod x ((hi + 1 : Nat) : Int)) + ((hi : Nat) : Int)) - 0) + 1))) (.e (AV.int .i64 (0 + ((((Int.tmod x ((hi + 1 : Nat) : Int)) + ((hi : Nat) : Int)) - 0) + 1))) (by
        simp_all [wN]
        all_goals first | done | omega | (split <;> omega) | (split <;> first | omega | (split <;> omega)))))))))))))) (fun h3 h3' => (.r (.y 2 (.int .i64 (IntKind.i64.wrap (0 + (Int.tmod x ((hi + 1 : Nat) : Int))))) (AV.int .i64 (0 + (Int.tmod x ((hi + 1 : Nat) : Int)))) (Yes.add ow ow rfl) (.g (.f 0 (AV.int .i64 (0 + (Int.tmod x ((hi + 1 : Nat) : Int)))) (.e (AV.int .i64 (0 + (Int.tmod x ((hi + 1 : Nat) : Int)))) (by
        simp_all [wN]
        all_goals first | done | omega | (split <;> omega) | (split <;> first | omega | (split <;> omega))))))))))))))))))))))) (fun h1 h1' => (.no (.no (.g (.no (.r (.y 3 (.int .i64 (IntKind.i64.wrap (((hi : Nat) : Int) - 0))) (AV.int .i64 ((hi : Nat) : Int)) (Yes.add ow ow ow) (.y 4 (.int .i64 (IntKind.i64.wrap (((hi : Nat) : Int) + 1))) (AV.int .i64 ((hi + 1 : Nat) : Int)) (Yes.add ow ow ow) (.t 5 (AV.int .i64 (Int.tmod x ((hi + 1 : Nat) : Int))) ([] : Heap) (quo_some ow rfl : Option.map (fun a => (a, ([] : Heap))) (if (((hi + 1 : Nat) : Int) : Int) = 0 then none else some (AV.int .i64 (Int.tmod x ((hi + 1 : Nat) : Int)))) = some ((AV.int .i64 (Int.tmod x ((hi + 1 : Nat) : Int))), ([] : Heap))) (.g (.r (.g (.two (decide ((Int.tmod x ((hi + 1 : Nat) : Int)) < 0)) (fun h2 h2' => (.r (.y 2 (.int .i64 (IntKind.i64.wrap ((Int.tmod x ((hi + 1 : Nat) : Int)) + ((hi : Nat) : Int)))) (AV.int .i64 ((Int.tmod x ((hi + 1 : Nat) : Int)) + ((hi : Nat) : Int))) (Yes.add ow ow rfl) (.y 4 (.int .i64 (IntKind.i64.wrap (((Int.tmod x ((hi + 1 : Nat) : Int)) + ((hi : Nat) : Int)) - 0))) (AV.int .i64 (((Int.tmod x ((hi + 1 : Nat) : Int)) + ((hi : Nat) : Int)) - 0)) (Yes.add ow ow rfl) (.y 5 (.int .i64 (IntKind.i64.wrap ((((Int.tmod x ((hi + 1 : Nat) : Int)) + ((hi : Nat) : Int)) - 0) + 1))) (AV.int .i64 ((((Int.tmod x ((hi + 1 : Nat) : Int)) + ((hi : Nat) : Int)) - 0) + 1)) (Yes.add ow ow rfl) (.g (.r (.y 2 (.int .i64 (IntKind.i64.wrap (0 + ((((Int.tmod x ((hi + 1 : Nat) : Int)) + ((hi : Nat) : Int)) - 0) + 1)))) (AV.int .i64 (0 + ((((Int.tmod x ((hi + 1 : Nat) : Int)) + ((hi : Nat) : Int)) - 0) + 1))) (Yes.add ow ow rfl) (.g (.f 0 (AV.int .i64 (0 + ((((Int.tmod x ((hi + 1 : Nat) : Int)) + ((hi : Nat) : Int)) - 0) + 1))) (.e (AV.int .i64 (0 + ((((Int.tmod x ((hi + 1 : Nat) : Int)) + ((hi : Nat) : Int)) - 0) + 1))) (by
        simp_all [wN]
        all_goals first | done | omega | (split <;> omega) | (split <;> first | omega | (split <;> omega)))))))))))))) (fun h2 h2' => (.r (.y 2 (.int .i64 (IntKind.i64.wrap (0 + (Int.tmod x ((hi + 1 : Nat) : Int))))) (AV.int .i64 (0 + (Int.tmod x ((hi + 1 : Nat) : Int)))) (Yes.add ow ow rfl) (.g (.f 0 (AV.int .i64 (0 + (Int.tmod x ((hi + 1 : Nat) : Int)))) (.e (AV.int .i64 (0 + (Int.tmod x ((hi + 1 : Nat) : Int)))) (by
        simp_all [wN]
        all_goals first | done | omega | (split <;> omega) | (split <;> first | omega | (split <;> omega))))))))))))))))))))))))))
theorem within_at (x:Int) (hi:Nat) (hh:hi < 1099511627776) (H:Heap):ACalls Try.prog 21 [(.int .i64 x),(.int .i64 0),(.int .i64 ((hi:Nat):Int))] H ((AV.int .i64 ((wN x hi:Nat):Int)),H):=(within_spec x hi hh).lift kr kr H
def Tp.next (t:Tp) (n:Nat):Nat:=if t.l.length≤t.pos∨n < 1 then 0 else wN (nth t.l t.pos) 1073741824 % n
def Tp.step (t:Tp) (n:Nat):Tp:=if t.l.length≤t.pos∨n < 1 then t else ⟨t.l,t.pos+1⟩
theorem Tp.next_lt (t:Tp) (n:Nat) (h:0 < n):t.next n < n:=by
 unfold Tp.next
 split
 · omega
 · exact Nat.mod_lt _ h
def next_ann:Ann:={ base:=1,fin:=some 1 }
@[simp] abbrev Sb1_1 (v1_:Tp):Heap:=[⟨0,2,[[(AV.sl .any 1 (List.map rI64 v1_.l)),(AV.int .i64 ((v1_.pos+1:Nat):Int))]],none⟩]
theorem next_spec (t : Tp) (n : Nat) (hl : t.l.length < 9223372036854775808) : ACalls Try.prog 13 [(.obj 0 0 0 0), (.int .i64 ((n : Nat) : Int))] ([⟨0, 2, [(Tp.row t)], none⟩] : Heap) ((AV.int .i64 ((t.next n : Nat) : Int)), ([⟨0, 2, [(Tp.row (t.step n))], none⟩] : Heap)) :=
  specO (fn := Try.f13) (ann := next_ann) (Has.o Try.func13) (.r (.g (.r (.y 8 (.int .i64 ((List.length (List.map rI64 t.l) : Nat) : Int)) (AV.int .i64 ((t.l.length : Nat) : Int)) (Yes.len _ _ _) (.two (decide (((t.pos : Nat) : Int) ≥ ((t.l.length : Nat) : Int))) (fun h1 h1' => (.yes (.g (.yes (.r (.g (.f 1 (AV.int .i64 0) (.e (AV.int .i64 0) (by
        try delta Sb1_1
        simp only [Tp.next, Tp.step]
        first | rw [if_pos ow, if_pos ow] | rw [if_neg ow, if_neg ow]
        first | rfl | simp [Tp.row]))))))))) (fun h1 h1' => (.no (.g (.two (decide (((n : Nat) : Int) < 1)) (fun h2 h2' => (.r (.g (.f 1 (AV.int .i64 0) (.e (AV.int .i64 0) (by
        try delta Sb1_1
        simp only [Tp.next, Tp.step]
        first | rw [if_pos ow, if_pos ow] | rw [if_neg ow, if_neg ow]
        first | rfl | simp [Tp.row])))))) (fun h2 h2' => (.r (.y 4 (.int .i64 (IntKind.i64.wrap (((t.pos : Nat) : Int) + 1))) (AV.int .i64 ((t.pos + 1 : Nat) : Int)) (Yes.add ow ow ow) (.g (.r (.h' (Sb1_1 t) (.y 8 (.int .i64 (IntKind.i64.wrap (((t.pos + 1 : Nat) : Int) - 1))) (AV.int .i64 ((t.pos + 1 - 1 : Nat) : Int)) (Yes.add ow ow ow) (.is 9 1 1 (List.map rI64 t.l) ((t.pos + 1 - 1 : Nat) : Int) (rI64 (nth t.l (t.pos + 1 - 1))) (IdxSl.mk _ ow ow) (.c 11 (ACalls.pre (args := [(AV.int .i64 (nth t.l (t.pos + 1 - 1))), (AV.int .i64 0), (AV.int .i64 ((1073741824 : Nat) : Int))]) (args' := [(AV.int .i64 (nth t.l (t.pos + 1 - 1))), (AV.int .i64 0), (AV.int .i64 1073741824)]) (within_at (nth t.l (t.pos + 1 - 1)) 1073741824 oa (Sb1_1 t)) ⟨AV.wk_refl_any _, AV.wk_refl_any _, AV.wk_refl_any _, trivial⟩) (.t 13 (AV.int .i64 (((wN (nth t.l (t.pos + 1 - 1)) 1073741824) % n : Nat) : Int)) (Sb1_1 t) (rem_nat ow : Option.map (fun a => (a, (Sb1_1 t))) (if (((n : Nat) : Int) : Int) = 0 then none else some (AV.int .i64 (Int.tmod ((wN (nth t.l (t.pos + 1 - 1)) 1073741824 : Nat) : Int) ((n : Nat) : Int)))) = some ((AV.int .i64 (((wN (nth t.l (t.pos + 1 - 1)) 1073741824) % n : Nat) : Int)), (Sb1_1 t))) (.g (.f 1 (AV.int .i64 (((wN (nth t.l (t.pos + 1 - 1)) 1073741824) % n : Nat) : Int)) (.e (AV.int .i64 (((wN (nth t.l (t.pos + 1 - 1)) 1073741824) % n : Nat) : Int)) (by
        try delta Sb1_1
        simp only [Tp.next, Tp.step]
        first | rw [if_pos ow, if_pos ow] | rw [if_neg ow, if_neg ow]
        first | rfl | simp [Tp.row])))))))))))))))))))))))
theorem next_at (t:Tp) (n:Nat) (hl:t.l.length < 9223372036854775808) (H:Heap):ACalls Try.prog 13 [(.obj 0 0 0 0),(.int .i64 ((n:Nat):Int))] (([⟨0,2,[(Tp.row t)],none⟩]:Heap)++H) ((AV.int .i64 ((t.next n:Nat):Int)),([⟨0,2,[(Tp.row (t.step n))],none⟩]:Heap)++H):=(next_spec t n hl).ext kr kr ob ob kr H
end Go.Proofs.Ytfjedpipdnlkfaa.AM

set_option maxRecDepth 100000
set_option linter.unusedVariables false
set_option linter.unusedSimpArgs false
namespace Go.Proofs.Ytfjedpipdnlkfaa.AM
open Go Go.Proofs.Ytfjedpipdnlkfaa
attribute [local irreducible] ACalls funT codeT codeQ LoopTo
theorem Tp.step_l (t:Tp) (n:Nat):(t.step n).l=t.l:=by unfold Tp.step; split <;> rfl
def apps:List ByteArray:=[(ByteArray.mk #[97,112,112]),(ByteArray.mk #[98]),(ByteArray.mk #[97,112,112,49]),(ByteArray.mk #[122,57])]
def idsL:List ByteArray:=[(ByteArray.mk #[105,100]),(ByteArray.mk #[97]),(ByteArray.mk #[105,100,50]),(ByteArray.mk #[120,48]),(ByteArray.mk #[109])]
def Tp.key (t:Tp):Key:=⟨nth apps (t.next 4),nth idsL ((t.step 4).next 5)⟩
def Tp.keyT (t:Tp):Tp:=(t.step 4).step 5
def Tp.stamp (t:Tp):Stamp:=⟨(t.next 40:Nat),((t.step 40).next 6:Nat),(((t.step 40).step 6).next 9:Nat)⟩
def Tp.stampT (t:Tp):Tp:=((t.step 40).step 6).step 9
theorem Tp.keyT_l (t:Tp):t.keyT.l=t.l:=by simp [Tp.keyT,Tp.step_l]
theorem Tp.stampT_l (t:Tp):t.stampT.l=t.l:=by simp [Tp.stampT,Tp.step_l]
def Tp.c1 (t:Tp):Tp:=t.keyT.step 2
def Tp.c2 (t:Tp):Tp:=t.c1.step 7
def Tp.c3 (t:Tp):Tp:=t.c2.step 60
def Tp.c4 (t:Tp):Tp:=t.c3.stampT
def Tp.card (t:Tp):Card:=⟨t.key,(1+t.keyT.next 2:Nat),(t.c1.next 7 / 2:Nat),(1+t.c2.next 60:Nat),t.c3.stamp,((t.c4.next 4:Nat):Int) == 0⟩
def Tp.cardT (t:Tp):Tp:=t.c4.step 4
theorem Tp.cardT_l (t:Tp):t.cardT.l=t.l:=by simp [Tp.cardT,Tp.c4,Tp.c3,Tp.c2,Tp.c1,Tp.keyT_l,Tp.stampT_l,Tp.step_l]
def key_ann:Ann:={ base:=1,fin:=some 1 }
@[simp] abbrev Sc_1 :Heap:=[⟨0,2,[[(AV.str ⟨#[]⟩),(AV.str ⟨#[]⟩)]],none⟩]
theorem key_spec (t:Tp) (hl:t.l.length < 9223372036854775808):ACalls Try.prog 22 [(.obj 0 0 0 0)] ([⟨0,2,[(Tp.row t)],none⟩]:Heap) ((AV.agg (Key.row t.key)),([⟨0,2,[(Tp.row t.keyT)],none⟩]:Heap)):=by
 have h4:=t.next_lt 4 ow
 have h5:=(t.step 4).next_lt 5 ow
 exact specO (fn:=Try.f22) (ann:=key_ann) (Has.o Try.func22) (.r (.g (.r (.ch 2 ([⟨0,2,[(Tp.row (t.step 4))],none⟩,⟨0,2,[[(AV.str ⟨#[]⟩),(AV.str ⟨#[]⟩)]],none⟩]:Heap) (ACalls.pre (args:=[(AV.obj 0 0 0 0),(AV.int .i64 ((4:Nat):Int))]) (args':=[(AV.obj 0 0 0 0),(AV.int .i64 4)]) (next_at t 4 (by first | omega | (simp [Tp.step_l,Tp.keyT_l,Tp.stampT_l,Tp.cardT_l]; omega)) Sc_1) ⟨AV.wk_refl_any _,AV.wk_refl_any _,trivial⟩) (.is 3 1 1 (List.map rStr ([(ByteArray.mk #[97,112,112]),(ByteArray.mk #[98]),(ByteArray.mk #[97,112,112,49]),(ByteArray.mk #[122,57])])) ((t.next 4:Nat):Int) (rStr (nth ([(ByteArray.mk #[97,112,112]),(ByteArray.mk #[98]),(ByteArray.mk #[97,112,112,49]),(ByteArray.mk #[122,57])]) (t.next 4))) (IdxSl.mk _ ow (by simp; omega)) (.ch 7 ([⟨0,2,[(Tp.row ((t.step 4).step 5))],none⟩,⟨0,2,[[(AV.str ⟨#[]⟩),(AV.str ⟨#[]⟩)]],none⟩]:Heap) (ACalls.pre (args:=[(AV.obj 0 0 0 0),(AV.int .i64 ((5:Nat):Int))]) (args':=[(AV.obj 0 0 0 0),(AV.int .i64 5)]) (next_at (t.step 4) 5 (by first | omega | (simp [Tp.step_l,Tp.keyT_l,Tp.stampT_l,Tp.cardT_l]; omega)) Sc_1) ⟨AV.wk_refl_any _,AV.wk_refl_any _,trivial⟩) (.is 8 1 1 (List.map rStr ([(ByteArray.mk #[105,100]),(ByteArray.mk #[97]),(ByteArray.mk #[105,100,50]),(ByteArray.mk #[120,48]),(ByteArray.mk #[109])])) (((t.step 4).next 5:Nat):Int) (rStr (nth ([(ByteArray.mk #[105,100]),(ByteArray.mk #[97]),(ByteArray.mk #[105,100,50]),(ByteArray.mk #[120,48]),(ByteArray.mk #[109])]) ((t.step 4).next 5))) (IdxSl.mk _ ow (by simp; omega)) (.g (.h' ([⟨0,2,[(Tp.row ((t.step 4).step 5))],none⟩]:Heap) (.f 1 (AV.agg [(AV.str (nth ([(ByteArray.mk #[97,112,112]),(ByteArray.mk #[98]),(ByteArray.mk #[97,112,112,49]),(ByteArray.mk #[122,57])]) (t.next 4))),(AV.str (nth ([(ByteArray.mk #[105,100]),(ByteArray.mk #[97]),(ByteArray.mk #[105,100,50]),(ByteArray.mk #[120,48]),(ByteArray.mk #[109])]) ((t.step 4).next 5)))]) (.e (AV.agg [(AV.str (nth ([(ByteArray.mk #[97,112,112]),(ByteArray.mk #[98]),(ByteArray.mk #[97,112,112,49]),(ByteArray.mk #[122,57])]) (t.next 4))),(AV.str (nth ([(ByteArray.mk #[105,100]),(ByteArray.mk #[97]),(ByteArray.mk #[105,100,50]),(ByteArray.mk #[120,48]),(ByteArray.mk #[109])]) ((t.step 4).next 5)))]))))))))))))
theorem key_at (t:Tp) (hl:t.l.length < 9223372036854775808) (H:Heap):ACalls Try.prog 22 [(.obj 0 0 0 0)] (([⟨0,2,[(Tp.row t)],none⟩]:Heap)++H) ((AV.agg (Key.row t.key)),([⟨0,2,[(Tp.row t.keyT)],none⟩]:Heap)++H):=(key_spec t hl).ext kr kr ob ob kr H
def stamp_ann:Ann:={ base:=1,fin:=some 1 }
@[simp] abbrev Sc_2 :Heap:=[⟨0,3,[[(AV.int .i64 0),(AV.int .i64 0),(AV.int .i64 0)]],none⟩]
theorem stamp_spec (t:Tp) (hl:t.l.length < 9223372036854775808):ACalls Try.prog 23 [(.obj 0 0 0 0)] ([⟨0,2,[(Tp.row t)],none⟩]:Heap) ((AV.agg (Stamp.row t.stamp)),([⟨0,2,[(Tp.row t.stampT)],none⟩]:Heap)) :=
 specO (fn:=Try.f23) (ann:=stamp_ann) (Has.o Try.func23) (.r (.g (.r (.ch 1 ([⟨0,2,[(Tp.row (t.step 40))],none⟩,⟨0,3,[[(AV.int .i64 0),(AV.int .i64 0),(AV.int .i64 0)]],none⟩]:Heap) (ACalls.pre (args:=[(AV.obj 0 0 0 0),(AV.int .i64 ((40:Nat):Int))]) (args':=[(AV.obj 0 0 0 0),(AV.int .i64 40)]) (next_at t 40 (by first | omega | (simp [Tp.step_l,Tp.keyT_l,Tp.stampT_l,Tp.cardT_l]; omega)) Sc_2) ⟨AV.wk_refl_any _,AV.wk_refl_any _,trivial⟩) (.ch 3 ([⟨0,2,[(Tp.row ((t.step 40).step 6))],none⟩,⟨0,3,[[(AV.int .i64 0),(AV.int .i64 0),(AV.int .i64 0)]],none⟩]:Heap) (ACalls.pre (args:=[(AV.obj 0 0 0 0),(AV.int .i64 ((6:Nat):Int))]) (args':=[(AV.obj 0 0 0 0),(AV.int .i64 6)]) (next_at (t.step 40) 6 (by first | omega | (simp [Tp.step_l,Tp.keyT_l,Tp.stampT_l,Tp.cardT_l]; omega)) Sc_2) ⟨AV.wk_refl_any _,AV.wk_refl_any _,trivial⟩) (.ch 5 ([⟨0,2,[(Tp.row (((t.step 40).step 6).step 9))],none⟩,⟨0,3,[[(AV.int .i64 0),(AV.int .i64 0),(AV.int .i64 0)]],none⟩]:Heap) (ACalls.pre (args:=[(AV.obj 0 0 0 0),(AV.int .i64 ((9:Nat):Int))]) (args':=[(AV.obj 0 0 0 0),(AV.int .i64 9)]) (next_at ((t.step 40).step 6) 9 (by first | omega | (simp [Tp.step_l,Tp.keyT_l,Tp.stampT_l,Tp.cardT_l]; omega)) Sc_2) ⟨AV.wk_refl_any _,AV.wk_refl_any _,trivial⟩) (.g (.h' ([⟨0,2,[(Tp.row (((t.step 40).step 6).step 9))],none⟩]:Heap) (.f 1 (AV.agg [(AV.int .i64 ((t.next 40:Nat):Int)),(AV.int .i64 (((t.step 40).next 6:Nat):Int)),(AV.int .i64 ((((t.step 40).step 6).next 9:Nat):Int))]) (.e (AV.agg [(AV.int .i64 ((t.next 40:Nat):Int)),(AV.int .i64 (((t.step 40).next 6:Nat):Int)),(AV.int .i64 ((((t.step 40).step 6).next 9:Nat):Int))])))))))))))
theorem stamp_at (t:Tp) (hl:t.l.length < 9223372036854775808) (H:Heap):ACalls Try.prog 23 [(.obj 0 0 0 0)] (([⟨0,2,[(Tp.row t)],none⟩]:Heap)++H) ((AV.agg (Stamp.row t.stamp)),([⟨0,2,[(Tp.row t.stampT)],none⟩]:Heap)++H):=(stamp_spec t hl).ext kr kr ob ob kr H
def tcard_ann:Ann:={ base:=1,fin:=some 1 }
@[simp] abbrev Sc_3 :Heap:=[⟨0,9,[[(AV.str ⟨#[]⟩),(AV.str ⟨#[]⟩),(AV.int .i64 0),(AV.int .i64 0),(AV.int .i64 0),(AV.int .i64 0),(AV.int .i64 0),(AV.int .i64 0),(AV.bool false)]],none⟩]
theorem tcard_spec (t:Tp) (hl:t.l.length < 9223372036854775808):ACalls Try.prog 15 [(.obj 0 0 0 0)] ([⟨0,2,[(Tp.row t)],none⟩]:Heap) ((AV.agg (Card.row t.card)),([⟨0,2,[(Tp.row t.cardT)],none⟩]:Heap)):=by
 have h2:=t.keyT.next_lt 2 ow
 have h7:=t.c1.next_lt 7 ow
 have h60:=t.c2.next_lt 60 ow
 unfold Tp.c2 Tp.c1 at *
 exact specO (fn:=Try.f15) (ann:=tcard_ann) (Has.o Try.func15) (.r (.g (.r (.ch 1 ([⟨0,2,[(Tp.row t.keyT)],none⟩,⟨0,9,[[(AV.str ⟨#[]⟩),(AV.str ⟨#[]⟩),(AV.int .i64 0),(AV.int .i64 0),(AV.int .i64 0),(AV.int .i64 0),(AV.int .i64 0),(AV.int .i64 0),(AV.bool false)]],none⟩]:Heap) (key_at t (by first | omega | (simp [Tp.c4,Tp.c3,Tp.c2,Tp.c1,Tp.step_l,Tp.keyT_l,Tp.stampT_l,Tp.cardT_l]; omega)) Sc_3) (.ch 3 ([⟨0,2,[(Tp.row (t.keyT.step 2))],none⟩,⟨0,9,[[(AV.str ⟨#[]⟩),(AV.str ⟨#[]⟩),(AV.int .i64 0),(AV.int .i64 0),(AV.int .i64 0),(AV.int .i64 0),(AV.int .i64 0),(AV.int .i64 0),(AV.bool false)]],none⟩]:Heap) (ACalls.pre (args:=[(AV.obj 0 0 0 0),(AV.int .i64 ((2:Nat):Int))]) (args':=[(AV.obj 0 0 0 0),(AV.int .i64 2)]) (next_at t.keyT 2 (by first | omega | (simp [Tp.c4,Tp.c3,Tp.c2,Tp.c1,Tp.step_l,Tp.keyT_l,Tp.stampT_l,Tp.cardT_l]; omega)) Sc_3) ⟨AV.wk_refl_any _,AV.wk_refl_any _,trivial⟩) (.y 4 (.int .i64 (IntKind.i64.wrap (1+((t.keyT.next 2:Nat):Int)))) (AV.int .i64 ((1+(t.keyT.next 2):Nat):Int)) (Yes.add ow ow ow) (.ch 6 ([⟨0,2,[(Tp.row ((t.keyT.step 2).step 7))],none⟩,⟨0,9,[[(AV.str ⟨#[]⟩),(AV.str ⟨#[]⟩),(AV.int .i64 0),(AV.int .i64 0),(AV.int .i64 0),(AV.int .i64 0),(AV.int .i64 0),(AV.int .i64 0),(AV.bool false)]],none⟩]:Heap) (ACalls.pre (args:=[(AV.obj 0 0 0 0),(AV.int .i64 ((7:Nat):Int))]) (args':=[(AV.obj 0 0 0 0),(AV.int .i64 7)]) (next_at (t.keyT.step 2) 7 (by first | omega | (simp [Tp.c4,Tp.c3,Tp.c2,Tp.c1,Tp.step_l,Tp.keyT_l,Tp.stampT_l,Tp.cardT_l]; omega)) Sc_3) ⟨AV.wk_refl_any _,AV.wk_refl_any _,trivial⟩) (.y 7 (.int .i64 (IntKind.i64.wrap (Int.tdiv (((t.keyT.step 2).next 7:Nat):Int) 2))) (AV.int .i64 ((((t.keyT.step 2).next 7) / 2:Nat):Int)) (Yes.quo ow) (.ch 9 ([⟨0,2,[(Tp.row (((t.keyT.step 2).step 7).step 60))],none⟩,⟨0,9,[[(AV.str ⟨#[]⟩),(AV.str ⟨#[]⟩),(AV.int .i64 0),(AV.int .i64 0),(AV.int .i64 0),(AV.int .i64 0),(AV.int .i64 0),(AV.int .i64 0),(AV.bool false)]],none⟩]:Heap) (ACalls.pre (args:=[(AV.obj 0 0 0 0),(AV.int .i64 ((60:Nat):Int))]) (args':=[(AV.obj 0 0 0 0),(AV.int .i64 60)]) (next_at ((t.keyT.step 2).step 7) 60 (by first | omega | (simp [Tp.c4,Tp.c3,Tp.c2,Tp.c1,Tp.step_l,Tp.keyT_l,Tp.stampT_l,Tp.cardT_l]; omega)) Sc_3) ⟨AV.wk_refl_any _,AV.wk_refl_any _,trivial⟩) (.y 10 (.int .i64 (IntKind.i64.wrap (1+((((t.keyT.step 2).step 7).next 60:Nat):Int)))) (AV.int .i64 ((1+(((t.keyT.step 2).step 7).next 60):Nat):Int)) (Yes.add ow ow ow) (.ch 12 ([⟨0,2,[(Tp.row (((t.keyT.step 2).step 7).step 60).stampT)],none⟩,⟨0,9,[[(AV.str ⟨#[]⟩),(AV.str ⟨#[]⟩),(AV.int .i64 0),(AV.int .i64 0),(AV.int .i64 0),(AV.int .i64 0),(AV.int .i64 0),(AV.int .i64 0),(AV.bool false)]],none⟩]:Heap) (stamp_at (((t.keyT.step 2).step 7).step 60) (by first | omega | (simp [Tp.c4,Tp.c3,Tp.c2,Tp.c1,Tp.step_l,Tp.keyT_l,Tp.stampT_l,Tp.cardT_l]; omega)) Sc_3) (.ch 14 ([⟨0,2,[(Tp.row ((((t.keyT.step 2).step 7).step 60).stampT.step 4))],none⟩,⟨0,9,[[(AV.str ⟨#[]⟩),(AV.str ⟨#[]⟩),(AV.int .i64 0),(AV.int .i64 0),(AV.int .i64 0),(AV.int .i64 0),(AV.int .i64 0),(AV.int .i64 0),(AV.bool false)]],none⟩]:Heap) (ACalls.pre (args:=[(AV.obj 0 0 0 0),(AV.int .i64 ((4:Nat):Int))]) (args':=[(AV.obj 0 0 0 0),(AV.int .i64 4)]) (next_at (((t.keyT.step 2).step 7).step 60).stampT 4 (by first | omega | (simp [Tp.c4,Tp.c3,Tp.c2,Tp.c1,Tp.step_l,Tp.keyT_l,Tp.stampT_l,Tp.cardT_l]; omega)) Sc_3) ⟨AV.wk_refl_any _,AV.wk_refl_any _,trivial⟩) (.g (.h' ([⟨0,2,[(Tp.row ((((t.keyT.step 2).step 7).step 60).stampT.step 4))],none⟩]:Heap) (.f 1 (AV.agg [(AV.str t.key.app),(AV.str t.key.id),(AV.int .i64 ((1+(t.keyT.next 2):Nat):Int)),(AV.int .i64 ((((t.keyT.step 2).next 7) / 2:Nat):Int)),(AV.int .i64 ((1+(((t.keyT.step 2).step 7).next 60):Nat):Int)),(AV.int .i64 (((t.keyT.step 2).step 7).step 60).stamp.t),(AV.int .i64 (((t.keyT.step 2).step 7).step 60).stamp.node),(AV.int .i64 (((t.keyT.step 2).step 7).step 60).stamp.n),(AV.bool ((((((t.keyT.step 2).step 7).step 60).stampT.next 4:Nat):Int) == 0))]) (.e (AV.agg [(AV.str t.key.app),(AV.str t.key.id),(AV.int .i64 ((1+(t.keyT.next 2):Nat):Int)),(AV.int .i64 ((((t.keyT.step 2).next 7) / 2:Nat):Int)),(AV.int .i64 ((1+(((t.keyT.step 2).step 7).next 60):Nat):Int)),(AV.int .i64 (((t.keyT.step 2).step 7).step 60).stamp.t),(AV.int .i64 (((t.keyT.step 2).step 7).step 60).stamp.node),(AV.int .i64 (((t.keyT.step 2).step 7).step 60).stamp.n),(AV.bool ((((((t.keyT.step 2).step 7).step 60).stampT.next 4:Nat):Int) == 0))])))))))))))))))))
theorem tcard_at (t:Tp) (hl:t.l.length < 9223372036854775808) (H:Heap):ACalls Try.prog 15 [(.obj 0 0 0 0)] (([⟨0,2,[(Tp.row t)],none⟩]:Heap)++H) ((AV.agg (Card.row t.card)),([⟨0,2,[(Tp.row t.cardT)],none⟩]:Heap)++H):=(tcard_spec t hl).ext kr kr ob ob kr H
end Go.Proofs.Ytfjedpipdnlkfaa.AM

set_option maxRecDepth 100000
set_option linter.unusedVariables false
set_option linter.unusedSimpArgs false
namespace Go.Proofs.Ytfjedpipdnlkfaa.AM
open Go Go.Proofs.Ytfjedpipdnlkfaa
attribute [local irreducible] ACalls funT codeT codeQ LoopTo
attribute [local irreducible] Tp.card Tp.cardT Tp.next Tp.step
end Go.Proofs.Ytfjedpipdnlkfaa.AM

set_option maxRecDepth 100000
set_option linter.unusedVariables false
set_option linter.unusedSimpArgs false
namespace Go.Proofs.Ytfjedpipdnlkfaa.AM
open Go Go.Proofs.Ytfjedpipdnlkfaa
attribute [local irreducible] ACalls funT codeT codeQ LoopTo
attribute [local irreducible] Tp.card Tp.cardT Tp.next Tp.step Tp.key Tp.keyT
section
variable {α:Type} [Inhabited α]
def sink (cmp:α→α→Int) (a:Nat):Nat→List α→List α
 | 0,l=>l
 | j+1,l=>if decide (((j+1:Nat):Int) > (a:Int))=true then if decide (cmp (nth l (j+1)) (nth l j) < 0)=true then sink cmp a j ((l.set (j+1) (nth l j)).set j (nth l (j+1))) else l else l
def insSort (cmp:α→α→Int) (a:Nat):Nat→Nat→List α→List α
 | 0,_,l=>l
 | k+1,i,l=>insSort cmp a k (i+1) (sink cmp a i l)
theorem sink_len (cmp:α→α→Int) (a j:Nat):∀ (l:List α),(sink cmp a j l).length=l.length:=by
 induction j with
 | zero=>intro l; simp only [sink]
 | succ j ih =>
  intro l
  simp only [sink]
  split
  · split
    · rw [ih]; simp
    · rfl
  · rfl
theorem insSort_len (cmp:α→α→Int) (a k:Nat):∀ (i:Nat) (l:List α),(insSort cmp a k i l).length=l.length:=by
 induction k with
 | zero=>intro i l; simp only [insSort]
 | succ k ih=>intro i l; simp only [insSort]; rw [ih,sink_len]
end
def insC_ann:Ann:={ base:=1,fin:=some 1,live:=[(1,[0,1,2,3,8]),(4,[0,1,2,3,8,9])],out:=[(1,[0,1,2,3,8]),(4,[0,1,2,3,8])] }
@[simp] abbrev Se_1 (v1_:Nat) (v2_:List Card) (v3_:Nat):Heap:=[⟨v1_,9,(List.map Card.row ((v2_.set v3_ (nth v2_ (v3_ - 1))).set (v3_ - 1) (nth v2_ v3_))),none⟩]
@[simp] abbrev Se_2 (v1_:Nat) (v2_:Nat) (v3_:Nat) (v4_:Nat) (v5_:Nat) (v6_:List AV) (v7_:Nat):Fr:=(mkF 53 [(0,(AV.osl 0 v1_ 9 0 v2_)),(1,(AV.int .i64 ((v3_:Nat):Int))),(2,(AV.int .i64 ((v4_:Nat):Int))),(3,(AV.func v5_ v6_)),(8,(AV.int .i64 ((v7_:Nat):Int)))])
theorem insC_sink (cmp:Card→Card→Int) (f:Nat) (xs:List AV) (hc:∀ (x y:Card) (H:Heap),ACalls Try.prog f ([AV.agg (Card.row x),AV.agg (Card.row y)]++xs) H (AV.int .i64 (cmp x y),H)) (a b i n g:Nat) (j:Nat) (l:List Card) (hn:n=l.length) (hb:n < 1099511627776) (hbn:b≤n) (hj:j < n) {eX:Ex} {FX:Fr} {HX:Heap} (k1:(decide (((j:Nat):Int) > ((a:Nat):Int)))=true→(decide ((cmp (nth l j) (nth l (j - 1))) < 0))=true→LoopTo (codeQ Try.prog (X insC_ann) (loopOf Try.f95 1)) (some [0,1,2,3,8,9]) (some [0,1,2,3,8]) (mkF 53 [(0,(.osl 0 g 9 0 n)),(1,(.int .i64 ((a:Nat):Int))),(2,(.int .i64 ((b:Nat):Int))),(3,(.func f xs)),(8,(.int .i64 ((i:Nat):Int))),(9,(.int .i64 ((j - 1:Nat):Int)))]) (Se_1 g l j) eX FX HX) (k2:(decide (((j:Nat):Int) > ((a:Nat):Int)))=true→(decide ((cmp (nth l j) (nth l (j - 1))) < 0))=false→((.exit 2:Ex),(Se_2 g n a b f xs i),([⟨g,9,(List.map Card.row l),none⟩]:Heap))=(eX,FX,HX)) (k3:(decide (((j:Nat):Int) > ((a:Nat):Int)))=false→((.exit 2:Ex),(Se_2 g n a b f xs i),([⟨g,9,(List.map Card.row l),none⟩]:Heap))=(eX,FX,HX)):LoopTo (codeQ Try.prog (X insC_ann) (loopOf Try.f95 1)) (some [0,1,2,3,8,9]) (some [0,1,2,3,8]) (mkF 53 [(0,(.osl 0 g 9 0 n)),(1,(.int .i64 ((a:Nat):Int))),(2,(.int .i64 ((b:Nat):Int))),(3,(.func f xs)),(8,(.int .i64 ((i:Nat):Int))),(9,(.int .i64 ((j:Nat):Int)))]) ([⟨g,9,(List.map Card.row l),none⟩]:Heap) eX FX HX :=
 stepO (.r (.two (decide (((j:Nat):Int) > ((a:Nat):Int))) (fun h1 h1'=>(.yes (.yes (.yes (.io 7 0 g 9 9 0 n ((j:Nat):Int) j (IdxOsl.mk _ ow ow) (.yes (.t 8 (AV.agg (Card.row (nth l j))) ([⟨g,9,(List.map Card.row l),none⟩]:Heap) (load_row (rowAt_map (row:=Card.row) (l:=l) (k:=9) (room:=none) kr om) kr:LoadTo tt 39 0 ([⟨g,9,(List.map Card.row l),none⟩]:Heap) (rowAt ([⟨g,9,(List.map Card.row l),none⟩]:Heap) 0 g j)=some ((AV.agg (Card.row (nth l j))),([⟨g,9,(List.map Card.row l),none⟩]:Heap))) (.yes (.yes (.yes (.y 11 (.int .i64 (IntKind.i64.wrap (((j:Nat):Int) - 1))) (AV.int .i64 ((j - 1:Nat):Int)) (Yes.add ow ow ow) (.yes (.io 12 0 g 9 9 0 n ((j - 1:Nat):Int) (j - 1) (IdxOsl.mk _ ow ow) (.yes (.t 13 (AV.agg (Card.row (nth l (j - 1)))) ([⟨g,9,(List.map Card.row l),none⟩]:Heap) (load_row (rowAt_map (row:=Card.row) (l:=l) (k:=9) (room:=none) kr om) kr:LoadTo tt 39 0 ([⟨g,9,(List.map Card.row l),none⟩]:Heap) (rowAt ([⟨g,9,(List.map Card.row l),none⟩]:Heap) 0 g (j - 1))=some ((AV.agg (Card.row (nth l (j - 1)))),([⟨g,9,(List.map Card.row l),none⟩]:Heap))) (.yes (.c 14 (hc (nth l j) (nth l (j - 1)) ([⟨g,9,(List.map Card.row l),none⟩]:Heap)) (.yes (.g (.two (decide ((cmp (nth l j) (nth l (j - 1))) < 0)) (fun h2 h2'=>(.r (.y 4 (.int .i64 (IntKind.i64.wrap (((j:Nat):Int) - 1))) (AV.int .i64 ((j - 1:Nat):Int)) (Yes.add ow ow ow) (.y 7 (.int .i64 (IntKind.i64.wrap (((j:Nat):Int) - 1))) (AV.int .i64 ((j - 1:Nat):Int)) (Yes.add ow ow ow) (.io 8 0 g 9 9 0 n ((j - 1:Nat):Int) (j - 1) (IdxOsl.mk _ ow ow) (.t 9 (AV.agg (Card.row (nth l (j - 1)))) ([⟨g,9,(List.map Card.row l),none⟩]:Heap) (load_row (rowAt_map (row:=Card.row) (l:=l) (k:=9) (room:=none) kr om) kr:LoadTo tt 39 0 ([⟨g,9,(List.map Card.row l),none⟩]:Heap) (rowAt ([⟨g,9,(List.map Card.row l),none⟩]:Heap) 0 g (j - 1))=some ((AV.agg (Card.row (nth l (j - 1)))),([⟨g,9,(List.map Card.row l),none⟩]:Heap))) (.io 12 0 g 9 9 0 n ((j:Nat):Int) j (IdxOsl.mk _ ow ow) (.t 13 (AV.agg (Card.row (nth l j))) ([⟨g,9,(List.map Card.row l),none⟩]:Heap) (load_row (rowAt_map (row:=Card.row) (l:=l) (k:=9) (room:=none) kr om) kr:LoadTo tt 39 0 ([⟨g,9,(List.map Card.row l),none⟩]:Heap) (rowAt ([⟨g,9,(List.map Card.row l),none⟩]:Heap) 0 g j)=some ((AV.agg (Card.row (nth l j))),([⟨g,9,(List.map Card.row l),none⟩]:Heap))) (.io 14 0 g 9 9 0 n ((j:Nat):Int) j (IdxOsl.mk _ ow ow) (.st 15 0 g j 9 0 (AV.agg (Card.row (nth l (j - 1)))) ([⟨g,9,(List.map Card.row (l.set j (nth l (j - 1)))),none⟩]:Heap) (store_row (us:=(Card.row (nth l (j - 1)))) (rowAt_map (row:=Card.row) (l:=l) (k:=9) (room:=none) kr om) kr (by simp [Card.row]) (by simp [setAt,fillAt,List.map_set,Card.row])) (.io 16 0 g 9 9 0 n ((j - 1:Nat):Int) (j - 1) (IdxOsl.mk _ ow ow) (.st 17 0 g (j - 1) 9 0 (AV.agg (Card.row (nth l j))) (Se_1 g l j) (store_row (us:=(Card.row (nth l j))) (rowAt_map (row:=Card.row) (l:=l.set j (nth l (j - 1))) (k:=9) (room:=none) kr om) kr (by simp [Card.row]) (by simp [setAt,fillAt,List.map_set,Card.row])) (.g (.r (.y 1 (.int .i64 (IntKind.i64.wrap (((j:Nat):Int) - 1))) (AV.int .i64 ((j - 1:Nat):Int)) (Yes.add ow ow ow) (.g (.l (k1 h1 h2)))))))))))))))))) (fun h2 h2'=>(.l (k2 h1 h2))))))))))))))))))))))) (fun h1 h1'=>(.no (.no (.no (.no (.no (.no (.no (.no (.no (.no (.no (.g (.no (.l (k3 h1))))))))))))))))))
theorem insC_sinks (cmp:Card→Card→Int) (f:Nat) (xs:List AV) (hc:∀ (x y:Card) (H:Heap),ACalls Try.prog f ([AV.agg (Card.row x),AV.agg (Card.row y)]++xs) H (AV.int .i64 (cmp x y),H)) (a b i n g:Nat) (j:Nat):∀ (l lF:List Card),n=l.length→n < 1099511627776→b≤n→j < n→lF=sink cmp a j l →
 LoopTo (codeQ Try.prog (X insC_ann) (loopOf Try.f95 1)) (some [0,1,2,3,8,9]) (some [0,1,2,3,8]) (mkF 53 [(0,(.osl 0 g 9 0 n)),(1,(.int .i64 ((a:Nat):Int))),(2,(.int .i64 ((b:Nat):Int))),(3,(.func f xs)),(8,(.int .i64 ((i:Nat):Int))),(9,(.int .i64 ((j:Nat):Int)))]) ([⟨g,9,(List.map Card.row l),none⟩]:Heap) (.exit 2) (mkF 53 [(0,(.osl 0 g 9 0 n)),(1,(.int .i64 ((a:Nat):Int))),(2,(.int .i64 ((b:Nat):Int))),(3,(.func f xs)),(8,(.int .i64 ((i:Nat):Int)))]) ([⟨g,9,(List.map Card.row lF),none⟩]:Heap):=by
 induction j with
 | zero =>
  intro l lF hn hb hbn hj h
  refine insC_sink cmp f xs hc a b i n g 0 l hn hb hbn hj (fun h1=>?_) (fun h1=>?_) (fun h1=>?_)
  · simp at h1; omega
  · simp at h1; omega
  · rw [h]; rfl
 | succ j ih =>
  intro l lF hn hb hbn hj h
  refine insC_sink cmp f xs hc a b i n g (j+1) l hn hb hbn hj (fun h1 h2=>?_) (fun h1 h2=>?_) (fun h1=>?_)
  · simp only [Nat.add_sub_cancel] at h2
    exact ih ((l.set (j+1) (nth l j)).set j (nth l (j+1))) lF (by simp [hn]) hb hbn ow (by rw [h]; simp only [sink]; rw [if_pos h1,if_pos h2])
  · simp only [Nat.add_sub_cancel] at h2
    rw [h]; simp only [sink]; rw [if_pos h1,if_neg (by rw [h2]; simp)]
  · rw [h]; simp only [sink]; rw [if_neg (by rw [h1]; simp)]
theorem insC_step (cmp:Card→Card→Int) (f:Nat) (xs:List AV) (hc:∀ (x y:Card) (H:Heap),ACalls Try.prog f ([AV.agg (Card.row x),AV.agg (Card.row y)]++xs) H (AV.int .i64 (cmp x y),H)) (a b i n g:Nat) (l:List Card) (hn:n=l.length) (hb:n < 1099511627776) (hbn:b≤n) {eX:Ex} {FX:Fr} {HX:Heap} (k1:(decide (((i:Nat):Int) < ((b:Nat):Int)))=true→LoopTo (codeQ Try.prog (X insC_ann) (loopOf Try.f95 0)) (some [0,1,2,3,8]) (some [0,1,2,3,8]) (mkF 53 [(0,(.osl 0 g 9 0 n)),(1,(.int .i64 ((a:Nat):Int))),(2,(.int .i64 ((b:Nat):Int))),(3,(.func f xs)),(8,(.int .i64 ((i+1:Nat):Int)))]) ([⟨g,9,(List.map Card.row (sink cmp a i l)),none⟩]:Heap) eX FX HX) (k2:(decide (((i:Nat):Int) < ((b:Nat):Int)))=false→((.exit 0:Ex),(Se_2 g n a b f xs i),([⟨g,9,(List.map Card.row l),none⟩]:Heap))=(eX,FX,HX)):LoopTo (codeQ Try.prog (X insC_ann) (loopOf Try.f95 0)) (some [0,1,2,3,8]) (some [0,1,2,3,8]) (Se_2 g n a b f xs i) ([⟨g,9,(List.map Card.row l),none⟩]:Heap) eX FX HX :=
 stepO (.r (.g (.two (decide (((i:Nat):Int) < ((b:Nat):Int))) (fun h1 h1'=>(.r (.g (.loop (Se_2 g n a b f xs i) (show LoopTo (codeQ Try.prog (X insC_ann) (loopOf Try.f95 1)) (some [0,1,2,3,8,9]) (some [0,1,2,3,8]) (mkF 53 [(0,(.osl 0 g 9 0 n)),(1,(.int .i64 ((a:Nat):Int))),(2,(.int .i64 ((b:Nat):Int))),(3,(.func f xs)),(8,(.int .i64 ((i:Nat):Int))),(9,(.int .i64 ((i:Nat):Int)))]) ([⟨g,9,(List.map Card.row l),none⟩]:Heap) (.exit 2) (Se_2 g n a b f xs i) ([⟨g,9,(List.map Card.row (sink cmp a i l)),none⟩]:Heap) from (insC_sinks cmp f xs hc a b i n g i l _ hn hb hbn ow rfl)) (.r (.y 1 (.int .i64 (IntKind.i64.wrap (((i:Nat):Int)+1))) (AV.int .i64 ((i+1:Nat):Int)) (Yes.add ow ow ow) (.g (.l (k1 h1))))))))) (fun h1 h1'=>(.l (k2 h1))))))
theorem insC_loop (cmp:Card→Card→Int) (f:Nat) (xs:List AV) (hc:∀ (x y:Card) (H:Heap),ACalls Try.prog f ([AV.agg (Card.row x),AV.agg (Card.row y)]++xs) H (AV.int .i64 (cmp x y),H)) (a b n g:Nat) (k:Nat)
 : ∀ (i:Nat) (l lF:List Card) (iF:Nat),n=l.length→n < 1099511627776→b≤n→iF=i+k→b≤i+k→i+k≤max b i→lF=insSort cmp a k i l →
 LoopTo (codeQ Try.prog (X insC_ann) (loopOf Try.f95 0)) (some [0,1,2,3,8]) (some [0,1,2,3,8]) (mkF 53 [(0,(.osl 0 g 9 0 n)),(1,(.int .i64 ((a:Nat):Int))),(2,(.int .i64 ((b:Nat):Int))),(3,(.func f xs)),(8,(.int .i64 ((i:Nat):Int)))]) ([⟨g,9,(List.map Card.row l),none⟩]:Heap) (.exit 0) (mkF 53 [(0,(.osl 0 g 9 0 n)),(1,(.int .i64 ((a:Nat):Int))),(2,(.int .i64 ((b:Nat):Int))),(3,(.func f xs)),(8,(.int .i64 ((iF:Nat):Int)))]) ([⟨g,9,(List.map Card.row lF),none⟩]:Heap):=by
 induction k with
 | zero =>
  intro i l lF iF hn hb hbn h1 h2 h2' h3
  refine insC_step cmp f xs hc a b i n g l hn hb hbn (fun h=>?_) (fun h=>?_)
  · simp at h; omega
  · rw [h3,h1]; simp only [insSort]; rfl
 | succ k ih =>
  intro i l lF iF hn hb hbn h1 h2 h2' h3
  refine insC_step cmp f xs hc a b i n g l hn hb hbn (fun h=>?_) (fun h=>?_)
  · exact ih (i+1) (sink cmp a i l) lF iF (by rw [sink_len]; exact hn) hb hbn ow ow (by simp at h; omega) (by rw [h3]; simp only [insSort])
  · simp at h; omega
@[simp] abbrev Se_3 (v1_:Nat) (v2_:Nat) (v3_:Nat) (v4_:Nat) (v5_:Nat) (v6_:List AV):Fr:=(mkF 53 [(0,(AV.osl 0 v1_ 9 0 v2_)),(1,(AV.int .i64 ((v3_:Nat):Int))),(2,(AV.int .i64 ((v4_:Nat):Int))),(3,(AV.func v5_ v6_)),(8,(AV.int .i64 ((((v3_+1)+(v4_ - (v3_+1))):Nat):Int)))])
theorem insC_spec (cmp:Card→Card→Int) (f:Nat) (xs:List AV) (a b n g:Nat) (l:List Card) (hc:∀ (x y:Card) (H:Heap),ACalls Try.prog f ([AV.agg (Card.row x),AV.agg (Card.row y)]++xs) H (AV.int .i64 (cmp x y),H)) (hxs:AV.bdds 1 xs=true) (hn:n=l.length) (hb:n < 1099511627776) (hbn:b≤n) (hab:a < 1099511627776):ACalls Try.prog 95 [(.osl 0 g 9 0 n),(.int .i64 ((a:Nat):Int)),(.int .i64 ((b:Nat):Int)),(.func f xs)] ([⟨g,9,(List.map Card.row l),none⟩]:Heap) ((AV.tup []),([⟨g,9,(List.map Card.row (insSort cmp a (b - (a+1)) (a+1) l)),none⟩]:Heap)) :=
 specO (fn:=Try.f95) (ann:=insC_ann) (Has.o Try.func95) (.r (.y 1 (.int .i64 (IntKind.i64.wrap (((a:Nat):Int)+1))) (AV.int .i64 ((a+1:Nat):Int)) (Yes.add ow ow ow) (.g (.loop (Se_3 g n a b f xs) (show LoopTo (codeQ Try.prog (X insC_ann) (loopOf Try.f95 0)) (some [0,1,2,3,8]) (some [0,1,2,3,8]) (mkF 53 [(0,(.osl 0 g 9 0 n)),(1,(.int .i64 ((a:Nat):Int))),(2,(.int .i64 ((b:Nat):Int))),(3,(.func f xs)),(8,(.int .i64 ((a+1:Nat):Int)))]) ([⟨g,9,(List.map Card.row l),none⟩]:Heap) (.exit 0) (Se_3 g n a b f xs) ([⟨g,9,(List.map Card.row (insSort cmp a (b - (a+1)) (a+1) l)),none⟩]:Heap) from (insC_loop cmp f xs hc a b n g (b - (a+1)) (a+1) l _ _ hn hb hbn rfl ow ow rfl)) (.f 1 (AV.tup []) (.e (AV.tup [])))))))
theorem insC_at (cmp:Card→Card→Int) (f:Nat) (xs:List AV) (a b n g:Nat) (l:List Card) (hc:∀ (x y:Card) (H:Heap),ACalls Try.prog f ([AV.agg (Card.row x),AV.agg (Card.row y)]++xs) H (AV.int .i64 (cmp x y),H)) (hxs:AV.bdds 1 xs=true) (hn:n=l.length) (hb:n < 1099511627776) (hbn:b≤n) (hab:a < 1099511627776) (H:Heap):ACalls Try.prog 95 [(.osl 0 g 9 0 n),(.int .i64 ((a:Nat):Int)),(.int .i64 ((b:Nat):Int)),(.func f xs)] (([⟨g,9,(List.map Card.row l),none⟩]:Heap)++H) ((AV.tup []),([⟨g,9,(List.map Card.row (insSort cmp a (b - (a+1)) (a+1) l)),none⟩]:Heap)++H):=(insC_spec cmp f xs a b n g l hc hxs hn hb hbn hab).ext (by simp [AV.bdds,AV.bdd, *]) kr ob ob kr H
end Go.Proofs.Ytfjedpipdnlkfaa.AM

set_option maxRecDepth 100000
set_option linter.unusedVariables false
set_option linter.unusedSimpArgs false
namespace Go.Proofs.Ytfjedpipdnlkfaa.AM
open Go Go.Proofs.Ytfjedpipdnlkfaa
attribute [local irreducible] ACalls funT codeT codeQ LoopTo
attribute [local irreducible] Tp.card Tp.cardT Tp.next Tp.step Tp.key Tp.keyT sink insSort
end Go.Proofs.Ytfjedpipdnlkfaa.AM

set_option maxRecDepth 100000
set_option linter.unusedVariables false
set_option linter.unusedSimpArgs false
namespace Go.Proofs.Ytfjedpipdnlkfaa.AM
open Go Go.Proofs.Ytfjedpipdnlkfaa
attribute [local irreducible] ACalls funT codeT codeQ LoopTo
attribute [local irreducible] Tp.card Tp.cardT Tp.next Tp.step Tp.key Tp.keyT sink insSort
theorem drop_nth {α:Type} [Inhabited α] {l:List α} {i:Nat} (h:i < l.length):l.drop i=nth l i :: l.drop (i+1):=by
 rw [List.drop_eq_getElem_cons h]
 congr 1
 simp [nth,List.getD_eq_getElem?_getD,List.getElem?_eq_getElem h]
end Go.Proofs.Ytfjedpipdnlkfaa.AM

set_option maxRecDepth 100000
set_option linter.unusedVariables false
set_option linter.unusedSimpArgs false
namespace Go.Proofs.Ytfjedpipdnlkfaa.AM
open Go Go.Proofs.Ytfjedpipdnlkfaa
attribute [local irreducible] ACalls funT codeT codeQ LoopTo
attribute [local irreducible] Tp.card Tp.cardT Tp.next Tp.step Tp.key Tp.keyT sink insSort
def beforeK (a b:Key):Bool:=if (!(a.app.toList == b.app.toList))=true then Op.bytesLess a.app.toList b.app.toList else Op.bytesLess a.id.toList b.id.toList
end Go.Proofs.Ytfjedpipdnlkfaa.AM

set_option maxRecDepth 100000
set_option linter.unusedVariables false
set_option linter.unusedSimpArgs false
namespace Go.Proofs.Ytfjedpipdnlkfaa.AM
open Go Go.Proofs.Ytfjedpipdnlkfaa
attribute [local irreducible] ACalls funT codeT codeQ LoopTo
attribute [local irreducible] Tp.card Tp.cardT Tp.next Tp.step Tp.key Tp.keyT sink insSort beforeK
end Go.Proofs.Ytfjedpipdnlkfaa.AM

set_option maxRecDepth 100000
set_option linter.unusedVariables false
set_option linter.unusedSimpArgs false
namespace Go.Proofs.Ytfjedpipdnlkfaa.AM
open Go Go.Proofs.Ytfjedpipdnlkfaa
attribute [local irreducible] ACalls funT codeT codeQ LoopTo
attribute [local irreducible] Tp.card Tp.cardT Tp.next Tp.step Tp.key Tp.keyT sink insSort beforeK
def cloneCN_ann:Ann:={ gha:=[(2,.vir 2 9)],fin:=some 1 }
theorem cloneCN_spec  :ACalls Try.prog 73 [(.sl .nil 0 [])] ([]:Heap) ((AV.osl 0 0 9 0 0),([⟨0,9,(List.map Card.row []),none⟩]:Heap)) :=
 specO (fn:=Try.f73) (ann:=cloneCN_ann) (Has.o Try.func73) (.r (.g (.r (.g (.yes (.r (.g (.h' ([⟨0,9,(List.map Card.row []),none⟩]:Heap) (.f 1 (AV.osl 0 0 9 0 0) (.e (AV.osl 0 0 9 0 0)))))))))))
def cloneCO_ann:Ann:={ own:=[7],fin:=some 1 }
theorem cloneCO_spec (l:List Card) (hl:l.length < 1099511627776):ACalls Try.prog 73 [(.sl .op 9 (List.map Card.row l))] ([]:Heap) ((AV.osl 0 0 9 0 l.length),([⟨0,9,(List.map Card.row l),none⟩]:Heap)) :=
 specO (fn:=Try.f73) (ann:=cloneCO_ann) (Has.o Try.func73) (.r (.g (.r (.g (.no (.r (.ao 2 32 (AV.sl .clip 9 []) (AV.sl .op 9 (List.map Card.row l)) (AV.osl 0 0 9 0 l.length) ([⟨0,9,(List.map Card.row l),none⟩]:Heap) (evAppendO_fresh (T:=tt) (e:=39) (te:={ d:=.struct [(30,0),(3,2),(3,3),(2,4),(37,5),(4,8)],size:=9,bytes:=88,zero:=[.str ⟨#[]⟩,.str ⟨#[]⟩,.int .i64 0,.int .i64 0,.int .i64 0,.int .i64 0,.int .i64 0,.int .i64 0,.bool false] }) (z:=1) (b:=24) (y:=[.sl .nil 0 []]) (row:=Card.row) kr kr rfl (by decide) (by decide) (by simp) (by first | (simp [rowsIn,List.map_take,List.map_drop,List.take_of_length_le]; done) | simp [rowsIn,rU8,rI64,rStr,rBool]) rfl rfl rfl om) (.g (.f 1 (AV.osl 0 0 9 0 l.length) (.e (AV.osl 0 0 9 0 l.length)))))))))))
theorem cloneC_spec (l:List Card) (hl:l.length < 1099511627776):ACalls Try.prog 73 [(.sl .any 9 (List.map Card.row l))] ([]:Heap) ((AV.osl 0 0 9 0 l.length),([⟨0,9,(List.map Card.row l),none⟩]:Heap)):=ACalls.orNil (fun h=>by
 have h2:l=[]:=by simpa using h
 subst h2; exact cloneCN_spec) (cloneCO_spec l hl)
theorem cloneC_at (l:List Card) (hl:l.length < 1099511627776) (H:Heap):ACalls Try.prog 73 [(.sl .any 9 (List.map Card.row l))] H (.osl H.length 0 9 0 l.length,H++([⟨0,9,(List.map Card.row l),none⟩]:Heap)):=(cloneC_spec l hl).lift_osl kr (by simp [AV.bddss,Card.rows_bdd]) H
def sortcmp_ann:Ann:={ refs:=[2,3],fin:=some 0 }
theorem sortcmp_spec (a b:Card) :ACalls Try.prog 75 [(.agg (Card.row a)),(.agg (Card.row b))] ([]:Heap) ((AV.int .i64 (cmpK a.key b.key)),([]:Heap)) :=
 specO (fn:=Try.f75) (ann:=sortcmp_ann) (Has.o Try.func75) (.r (.g (.r (.c 4 (keyCmp_at a.key b.key  ([]:Heap)) (.g (.f 0 (AV.int .i64 (cmpK a.key b.key)) (.e (AV.int .i64 (cmpK a.key b.key)))))))))
theorem sortcmp_at (a b:Card)  (H:Heap):ACalls Try.prog 75 [(.agg (Card.row a)),(.agg (Card.row b))] H ((AV.int .i64 (cmpK a.key b.key)),H):=(sortcmp_spec a b ).lift kr kr H
def clipC_ann:Ann:={ fin:=some 0 }
theorem clipC_spec (l:List Card) (hl:l.length < 1099511627776):ACalls Try.prog 77 [(.sl .any 9 (List.map Card.row l))] ([]:Heap) ((AV.sl .cn 9 (List.map Card.row l)),([]:Heap)) :=
 specO (fn:=Try.f77) (ann:=clipC_ann) (Has.o Try.func77) (.r (.g (.r (.y 2 (.int .i64 ((List.length (List.map Card.row l):Nat):Int)) (AV.int .i64 ((l.length:Nat):Int)) (Yes.len _ _ _) (.y 4 (.int .i64 ((List.length (List.map Card.row l):Nat):Int)) (AV.int .i64 ((l.length:Nat):Int)) (Yes.len _ _ _) (.t 5 (AV.sl .cn 9 (List.map Card.row l)) ([]:Heap) (slice_max (l:=0) (h:=l.length) om om om om (by simp [List.map_take,List.map_drop,List.take_of_length_le]) (by first | rfl | omega | (simp; done) | (simp; omega)):Option.map (fun a=>(a,([]:Heap))) (if 9=9∨((List.map Card.row l)).isEmpty=true then (if (((l.length:Nat):Int):Int)=((l.length:Nat):Int) then (bounds 0 ((l.length:Nat):Int) (List.length (List.map Card.row l))).map fun p=>AV.sl .cn 9 ((List.take p.2 (List.map Card.row l)).drop p.1) else none) else none)=some ((AV.sl .cn 9 (List.map Card.row l)),([]:Heap))) (.g (.f 0 (AV.sl .cn 9 (List.map Card.row l)) (.e (AV.sl .cn 9 (List.map Card.row l)))))))))))
theorem clipC_at (l:List Card) (hl:l.length < 1099511627776) (H:Heap):ACalls Try.prog 77 [(.sl .any 9 (List.map Card.row l))] H ((AV.sl .cn 9 (List.map Card.row l)),H):=(clipC_spec l hl).lift kr kr H
def sortP (l:List Card):List Card:=insSort (fun a b=>cmpK a.key b.key) 0 (l.length - 1) 1 l
theorem sortP_len (l:List Card):(sortP l).length=l.length:=by unfold sortP; rw [insSort_len]
def sortCard0_ann:Ann:={ gha:=[(2,.frz 3)],fin:=some 0 }
def Stamp.eqb (a b:Stamp):Bool:=(a.t == b.t)&&((a.node == b.node)&&((a.n == b.n)&&true))
def Card.eqb (a b:Card):Bool:=(Key.eqb a.key b.key)&&((a.status == b.status)&&((a.over == b.over)&&((a.lease == b.lease)&&((Stamp.eqb a.stamp b.stamp)&&((a.gone == b.gone)&&true)))))
theorem Key.eqb_refl (a:Key):Key.eqb a a=true:=by simp [Key.eqb]
theorem Card.eqb_refl (a:Card):Card.eqb a a=true:=by simp [Card.eqb,Stamp.eqb,Key.eqb]
theorem fold_fmap' {α β:Type} (p:α→Bool) (f:α→β) (l:List α):∀ (out:List β) (k g:Nat),
 l.foldl (fun (s:List β × Nat × Nat) c=>if p c=true then (s.1++[f c],s.2.1+1,s.2.2+1) else s) (out,k,g)=(out++(l.filter p).map f,k+((l.filter p).map f).length,g+((l.filter p).map f).length):=by
 induction l with
 | nil=>intro out k g; simp
 | cons c l ih =>
  intro out k g
  rw [List.foldl_cons]
  by_cases h:p c=true
  · rw [if_pos h,ih]; simp [List.filter_cons,h]; omega
  · rw [if_neg h,ih]; simp [List.filter_cons,h]
end Go.Proofs.Ytfjedpipdnlkfaa.AM

set_option linter.unusedVariables false
set_option linter.unusedSimpArgs false
namespace Go.Proofs.Ytfjedpipdnlkfaa.AM
open Go
def strL (s:ByteArray):List Int:=s.data.toList.map fun b=>(b.toNat:Int)
theorem strL_len (s:ByteArray):(strL s).length=s.size:=by unfold strL; rw [List.length_map]; rfl
theorem rows_str (H:Heap) (s:ByteArray):rowsIn H 1 (.str s)=some ((strL s).map rU8):=by
 simp [rowsIn,strL,rU8,Function.comp_def]
theorem slice_str {H:Heap} {s:ByteArray} {lo hi:Int} {l h:Nat} (hlo:lo=(l:Int)) (hhi:hi=(h:Int)) (h1:l≤h) (h2:h≤s.size) :
 Option.map (fun a=>(a,H)) ((bounds lo hi s.size).map fun p=>AV.str (s.extract p.1 p.2))=some (.str (s.extract l h),H):=by
 subst hlo hhi
 unfold bounds
 rw [if_pos ⟨by omega,by omega,by omega⟩]
 simp
end Go.Proofs.Ytfjedpipdnlkfaa.AM

set_option maxRecDepth 100000
set_option linter.unusedVariables false
set_option linter.unusedSimpArgs false
namespace Go.Proofs.Ytfjedpipdnlkfaa.AM
open Go Go.Proofs.Ytfjedpipdnlkfaa
attribute [local irreducible] ACalls funT codeT codeQ LoopTo
attribute [local irreducible] Tp.card Tp.cardT Tp.next Tp.step Tp.key Tp.keyT sink insSort beforeK sortP cmpK
def cloneBN_ann:Ann:={ gha:=[(2,.vir 2 1)],fin:=some 1 }
theorem cloneBN_spec  :ACalls Try.prog 93 [(.sl .nil 0 [])] ([]:Heap) ((AV.osl 0 0 1 0 0),([⟨0,1,(List.map rU8 []),none⟩]:Heap)) :=
 specO (fn:=Try.f93) (ann:=cloneBN_ann) (Has.o Try.func93) (.r (.g (.r (.g (.yes (.r (.g (.h' ([⟨0,1,(List.map rU8 []),none⟩]:Heap) (.f 1 (AV.osl 0 0 1 0 0) (.e (AV.osl 0 0 1 0 0)))))))))))
def cloneBO_ann:Ann:={ own:=[7],fin:=some 1 }
theorem cloneBO_spec (l:List Int) (hl:l.length < 1099511627776):ACalls Try.prog 93 [(.sl .op 1 (List.map rU8 l))] ([]:Heap) ((AV.osl 0 0 1 0 l.length),([⟨0,1,(List.map rU8 l),none⟩]:Heap)) :=
 specO (fn:=Try.f93) (ann:=cloneBO_ann) (Has.o Try.func93) (.r (.g (.r (.g (.no (.r (.ao 2 127 (AV.sl .clip 1 []) (AV.sl .op 1 (List.map rU8 l)) (AV.osl 0 0 1 0 l.length) ([⟨0,1,(List.map rU8 l),none⟩]:Heap) (evAppendO_fresh (T:=tt) (e:=5) (te:={ d:=.int .u8,size:=1,bytes:=1,zero:=[.int .u8 0] }) (z:=1) (b:=24) (y:=[.sl .nil 0 []]) (row:=rU8) kr kr rfl (by decide) (by decide) (by simp) (by first | (simp [rowsIn,List.map_take,List.map_drop,List.take_of_length_le]; done) | simp [rowsIn,rU8,rI64,rStr,rBool]) rfl rfl rfl om) (.g (.f 1 (AV.osl 0 0 1 0 l.length) (.e (AV.osl 0 0 1 0 l.length)))))))))))
theorem cloneB_spec (l:List Int) (hl:l.length < 1099511627776):ACalls Try.prog 93 [(.sl .any 1 (List.map rU8 l))] ([]:Heap) ((AV.osl 0 0 1 0 l.length),([⟨0,1,(List.map rU8 l),none⟩]:Heap)):=ACalls.orNil (fun h=>by
 have h2:l=[]:=by simpa using h
 subst h2; exact cloneBN_spec) (cloneBO_spec l hl)
theorem cloneB_at (l:List Int) (hl:l.length < 1099511627776) (H:Heap):ACalls Try.prog 93 [(.sl .any 1 (List.map rU8 l))] H (.osl H.length 0 1 0 l.length,H++([⟨0,1,(List.map rU8 l),none⟩]:Heap)):=(cloneB_spec l hl).lift_osl kr (by simp [AV.bddss,rU8_bdd]) H
def byteB (b:List Int) (n:Int):List Int:=b++[IntKind.u8.wrap n]
theorem byteB_len (b:List Int) (n:Int):(byteB b n).length=b.length+1:=by simp [byteB]
def byteO_ann:Ann:={ own:=[10],fin:=some 1 }
theorem byteO_spec (b : List Int) (n : Int) (hb : b.length < 1048576) : ACalls Try.prog 84 [(.sl .any 1 (List.map rU8 b)), (.int .i64 n)] ([] : Heap) ((AV.osl 0 1 1 0 (byteB b n).length), ([⟨1, 1, (List.map rU8 (byteB b n)), none⟩] : Heap)) := by
  have hB := byteB_len b n
  exact specO (fn := Try.f84) (ann := byteO_ann) (Has.o Try.func84) (.r (.g (.r (.ch 1 ([⟨0, 1, (List.map rU8 b), none⟩] : Heap) (cloneB_at b oa ([] : Heap)) (.ao 5 127 (AV.osl 0 0 1 0 b.length) (AV.sl .clip 1 [[(AV.int .u8 (IntKind.u8.wrap n))]]) (AV.osl 0 1 1 0 (b.length + 1)) ([⟨1, 1, (List.map rU8 (b ++ [(IntKind.u8.wrap n)])), none⟩] : Heap) (evAppendO_end (T := tt) (e := 5) (te := { d := .int .u8, size := 1, bytes := 1, zero := [.int .u8 0] }) (z := 1) (b := 24) (y := [.sl .nil 0 []]) (row := rU8) (l := b) kr kr rfl (by decide) (by decide) kr (by first | (simp [rowsIn, List.map_take, List.map_drop, List.take_of_length_le]; done) | simp [rowsIn, rU8, rI64, rStr, rBool]) om rfl rfl (by first | omega | (show _ * 1 ≤ _; omega) | (simp; done) | (simp; omega))) (.g (.f 1 (AV.osl 0 1 1 0 (b.length + 1)) (.e (AV.osl 0 1 1 0 (b.length + 1)) (by
        simp [byteB])))))))))
theorem byteO_at (b:List Int) (n:Int) (hb:b.length < 1048576) (H:Heap):ACalls Try.prog 84 [(.sl .any 1 (List.map rU8 b)),(.int .i64 n)] H (.osl H.length 1 1 0 (byteB b n).length,H++([⟨1,1,(List.map rU8 (byteB b n)),none⟩]:Heap)):=(byteO_spec b n hb).lift_osl kr (by simp [AV.bddss,rU8_bdd]) H
theorem byteF_spec (b:List Int) (n:Int) (hb:b.length < 1048576):ACalls Try.prog 84 [(.sl .any 1 (List.map rU8 b)),(.int .i64 n)] ([]:Heap) ((AV.sl .any 1 (List.map rU8 (byteB b n))),([]:Heap)):=by
 have h1:=(byteO_spec b n hb).frz_osl (xs:=(byteB b n).map rU8) (rowsIn_all (room:=none) kr (by first | omega | simp)) (rU8_bdd _ _)
 exact ACalls.forget (H2:=[]) (X:=[⟨2,1,[],none⟩]) h1 rfl kr (fun id o ho=>by simp at ho)
theorem byteF_at (b:List Int) (n:Int) (hb:b.length < 1048576) (H:Heap):ACalls Try.prog 84 [(.sl .any 1 (List.map rU8 b)),(.int .i64 n)] H ((AV.sl .any 1 (List.map rU8 (byteB b n))),H):=(byteF_spec b n hb).lift kr kr H
def cutS (s:ByteArray):ByteArray:=ByteArray.extract s 0 (min s.size 255)
theorem cutS_size (s:ByteArray):(cutS s).size=min s.size 255:=by simp [cutS]
def textB (b:List Int) (s:ByteArray):List Int:=byteB b (cutS s).size++strL (cutS s)
theorem textB_len (b:List Int) (s:ByteArray):(textB b s).length≤b.length+256:=by
 have:=cutS_size s
 simp only [textB,List.length_append,byteB_len,strL_len]; omega
def textO_ann:Ann:={ own:=[15],fin:=some 1 }
theorem textO_spec (b : List Int) (s : ByteArray) (hb : b.length < 1048576) : ACalls Try.prog 85 [(.sl .any 1 (List.map rU8 b)), (.str s)] ([] : Heap) ((AV.osl 0 2 1 0 (textB b s).length), ([⟨2, 1, (List.map rU8 (textB b s)), none⟩] : Heap)) := by
  have hT := textB_len b s
  have h7 : (ByteArray.extract s 0 (min s.size 255)).size = min s.size 255 := cutS_size s
  have h5 := byteB_len b ((min s.size 255 : Nat) : Int)
  have h6 := strL_len (ByteArray.extract s 0 (min s.size 255))
  exact specO (fn := Try.f85) (ann := textO_ann) (Has.o Try.func85) (.r (.g (.r (.y 3 (.int .i64 (if 255 < ((s.size : Nat) : Int) then 255 else ((s.size : Nat) : Int))) (AV.int .i64 ((min s.size 255 : Nat) : Int)) (Yes.int (by split <;> omega)) (.t 4 (AV.str (ByteArray.extract s 0 (min s.size 255))) ([] : Heap) (slice_str om om om om : Option.map (fun a => (a, ([] : Heap))) ((bounds 0 ((min s.size 255 : Nat) : Int) (ByteArray.size s)).map fun p => AV.str (ByteArray.extract s p.1 p.2)) = some ((AV.str (ByteArray.extract s 0 (min s.size 255))), ([] : Heap))) (.g (.r (.ch 3 ([⟨1, 1, (List.map rU8 (byteB b (((ByteArray.extract s 0 (min s.size 255)).size : Nat) : Int))), none⟩] : Heap) (byteO_at b (((ByteArray.extract s 0 (min s.size 255)).size : Nat) : Int) oa ([] : Heap)) (.ao 5 127 (AV.osl 0 1 1 0 (byteB b (((ByteArray.extract s 0 (min s.size 255)).size : Nat) : Int)).length) (AV.str (ByteArray.extract s 0 (min s.size 255))) (AV.osl 0 2 1 0 ((byteB b (((ByteArray.extract s 0 (min s.size 255)).size : Nat) : Int)).length + (strL (ByteArray.extract s 0 (min s.size 255))).length)) ([⟨2, 1, (List.map rU8 ((byteB b (((ByteArray.extract s 0 (min s.size 255)).size : Nat) : Int)) ++ (strL (ByteArray.extract s 0 (min s.size 255))))), none⟩] : Heap) (evAppendO_end (T := tt) (e := 5) (te := { d := .int .u8, size := 1, bytes := 1, zero := [.int .u8 0] }) (z := 1) (b := 24) (y := [.sl .nil 0 []]) (row := rU8) (l := (byteB b (((ByteArray.extract s 0 (min s.size 255)).size : Nat) : Int))) kr kr rfl (by decide) (by decide) kr (rows_str _ _) om rfl rfl (by first | omega | (show _ * 1 ≤ _; omega) | (simp; done) | (simp; omega))) (.g (.f 1 (AV.osl 0 2 1 0 ((byteB b (((ByteArray.extract s 0 (min s.size 255)).size : Nat) : Int)).length + (strL (ByteArray.extract s 0 (min s.size 255))).length)) (.e (AV.osl 0 2 1 0 ((byteB b (((ByteArray.extract s 0 (min s.size 255)).size : Nat) : Int)).length + (strL (ByteArray.extract s 0 (min s.size 255))).length)) (by
        simp [textB, cutS, byteB, strL_len] <;> omega)))))))))))))
theorem textF_spec (b:List Int) (s:ByteArray) (hb:b.length < 1048576):ACalls Try.prog 85 [(.sl .any 1 (List.map rU8 b)),(.str s)] ([]:Heap) ((AV.sl .any 1 (List.map rU8 (textB b s))),([]:Heap)):=by
 have h1:=(textO_spec b s hb).frz_osl (xs:=(textB b s).map rU8) (rowsIn_all (room:=none) kr (by first | omega | simp)) (rU8_bdd _ _)
 exact ACalls.forget (H2:=[]) (X:=[⟨3,1,[],none⟩]) h1 rfl kr (fun id o ho=>by simp at ho)
theorem textF_at (b:List Int) (s:ByteArray) (hb:b.length < 1048576) (H:Heap):ACalls Try.prog 85 [(.sl .any 1 (List.map rU8 b)),(.str s)] H ((AV.sl .any 1 (List.map rU8 (textB b s))),H):=(textF_spec b s hb).lift kr kr H
def clipB_ann:Ann:={ fin:=some 0 }
theorem clipB_spec (l:List Int) (hl:l.length < 1099511627776):ACalls Try.prog 94 [(.sl .any 1 (List.map rU8 l))] ([]:Heap) ((AV.sl .cn 1 (List.map rU8 l)),([]:Heap)) :=
 specO (fn:=Try.f94) (ann:=clipB_ann) (Has.o Try.func94) (.r (.g (.r (.y 2 (.int .i64 ((List.length (List.map rU8 l):Nat):Int)) (AV.int .i64 ((l.length:Nat):Int)) (Yes.len _ _ _) (.y 4 (.int .i64 ((List.length (List.map rU8 l):Nat):Int)) (AV.int .i64 ((l.length:Nat):Int)) (Yes.len _ _ _) (.t 5 (AV.sl .cn 1 (List.map rU8 l)) ([]:Heap) (slice_max (l:=0) (h:=l.length) om om om om (by simp [List.map_take,List.map_drop,List.take_of_length_le]) (by first | rfl | omega | (simp; done) | (simp; omega)):Option.map (fun a=>(a,([]:Heap))) (if 1=1∨((List.map rU8 l)).isEmpty=true then (if (((l.length:Nat):Int):Int)=((l.length:Nat):Int) then (bounds 0 ((l.length:Nat):Int) (List.length (List.map rU8 l))).map fun p=>AV.sl .cn 1 ((List.take p.2 (List.map rU8 l)).drop p.1) else none) else none)=some ((AV.sl .cn 1 (List.map rU8 l)),([]:Heap))) (.g (.f 0 (AV.sl .cn 1 (List.map rU8 l)) (.e (AV.sl .cn 1 (List.map rU8 l)))))))))))
theorem clipB_at (l:List Int) (hl:l.length < 1099511627776) (H:Heap):ACalls Try.prog 94 [(.sl .any 1 (List.map rU8 l))] H ((AV.sl .cn 1 (List.map rU8 l)),H):=(clipB_spec l hl).lift kr kr H
def byteAt (n:Int) (k:Nat):Int:=IntKind.u8.wrap (Int.fdiv n (2 ^ (min (Int.toNat (8 * k:Nat)) 64)))
def intB (b:List Int) (n:Int):List Int:=b++[byteAt n 7,byteAt n 6,byteAt n 5,byteAt n 4,byteAt n 3,byteAt n 2,byteAt n 1,byteAt n 0]
theorem intB_len (b:List Int) (n:Int):(intB b n).length=b.length+8:=by simp [intB]
def int8_ann:Ann:={ own:=[20],gh:=[(6,.frz 5)],fin:=some 0 }
@[simp] abbrev Sr_1 (v1_:List Int) (v2_:Int):Heap:=[⟨8,1,(List.map rU8 ((((((((v1_++[(IntKind.u8.wrap (Int.fdiv v2_ (2 ^ (min (Int.toNat 56) 64))))])++[(IntKind.u8.wrap (Int.fdiv v2_ (2 ^ (min (Int.toNat 48) 64))))])++[(IntKind.u8.wrap (Int.fdiv v2_ (2 ^ (min (Int.toNat 40) 64))))])++[(IntKind.u8.wrap (Int.fdiv v2_ (2 ^ (min (Int.toNat 32) 64))))])++[(IntKind.u8.wrap (Int.fdiv v2_ (2 ^ (min (Int.toNat 24) 64))))])++[(IntKind.u8.wrap (Int.fdiv v2_ (2 ^ (min (Int.toNat 16) 64))))])++[(IntKind.u8.wrap (Int.fdiv v2_ (2 ^ (min (Int.toNat 8) 64))))])++[(IntKind.u8.wrap (Int.fdiv v2_ (2 ^ (min (Int.toNat 0) 64))))])),none⟩]
theorem int8_spec (b : List Int) (n : Int) (hb : b.length < 1048576) : ACalls Try.prog 87 [(.sl .any 1 (List.map rU8 b)), (.int .i64 n)] ([] : Heap) ((AV.sl .cn 1 (List.map rU8 (intB b n))), ([] : Heap)) :=
  specO (fn := Try.f87) (ann := int8_ann) (Has.o Try.func87) (.r (.g (.r (.ch 1 ([⟨0, 1, (List.map rU8 b), none⟩] : Heap) (cloneB_at b oa ([] : Heap)) (.g (.r (.g (.roll 9 (.r (.g (.yes (.r (.ao 7 127 (AV.osl 0 0 1 0 b.length) (AV.sl .clip 1 [[(AV.int .u8 (IntKind.u8.wrap (Int.fdiv n (2 ^ (min (Int.toNat 56) 64)))))]]) (AV.osl 0 1 1 0 (b.length + 1)) ([⟨1, 1, (List.map rU8 (b ++ [(IntKind.u8.wrap (Int.fdiv n (2 ^ (min (Int.toNat 56) 64))))])), none⟩] : Heap) (evAppendO_end (T := tt) (e := 5) (te := { d := .int .u8, size := 1, bytes := 1, zero := [.int .u8 0] }) (z := 1) (b := 24) (y := [.sl .nil 0 []]) (row := rU8) (l := b) kr kr rfl (by decide) (by decide) kr (by first | (simp [rowsIn, List.map_take, List.map_drop, List.take_of_length_le]; done) | simp [rowsIn, rU8, rI64, rStr, rBool]) om rfl rfl (by first | omega | (show _ * 1 ≤ _; omega) | (simp; done) | (simp; omega))) (.g (.r (.g (.r (.g (.yes (.r (.ao 7 127 (AV.osl 0 1 1 0 (b.length + 1)) (AV.sl .clip 1 [[(AV.int .u8 (IntKind.u8.wrap (Int.fdiv n (2 ^ (min (Int.toNat 48) 64)))))]]) (AV.osl 0 2 1 0 ((b.length + 1) + 1)) ([⟨2, 1, (List.map rU8 ((b ++ [(IntKind.u8.wrap (Int.fdiv n (2 ^ (min (Int.toNat 56) 64))))]) ++ [(IntKind.u8.wrap (Int.fdiv n (2 ^ (min (Int.toNat 48) 64))))])), none⟩] : Heap) (evAppendO_end (T := tt) (e := 5) (te := { d := .int .u8, size := 1, bytes := 1, zero := [.int .u8 0] }) (z := 1) (b := 24) (y := [.sl .nil 0 []]) (row := rU8) (l := b ++ [(IntKind.u8.wrap (Int.fdiv n (2 ^ (min (Int.toNat 56) 64))))]) kr kr rfl (by decide) (by decide) kr (by first | (simp [rowsIn, List.map_take, List.map_drop, List.take_of_length_le]; done) | simp [rowsIn, rU8, rI64, rStr, rBool]) om rfl rfl (by first | omega | (show _ * 1 ≤ _; omega) | (simp; done) | (simp; omega))) (.g (.r (.g (.r (.g (.yes (.r (.ao 7 127 (AV.osl 0 2 1 0 ((b.length + 1) + 1)) (AV.sl .clip 1 [[(AV.int .u8 (IntKind.u8.wrap (Int.fdiv n (2 ^ (min (Int.toNat 40) 64)))))]]) (AV.osl 0 3 1 0 (((b.length + 1) + 1) + 1)) ([⟨3, 1, (List.map rU8 (((b ++ [(IntKind.u8.wrap (Int.fdiv n (2 ^ (min (Int.toNat 56) 64))))]) ++ [(IntKind.u8.wrap (Int.fdiv n (2 ^ (min (Int.toNat 48) 64))))]) ++ [(IntKind.u8.wrap (Int.fdiv n (2 ^ (min (Int.toNat 40) 64))))])), none⟩] : Heap) (evAppendO_end (T := tt) (e := 5) (te := { d := .int .u8, size := 1, bytes := 1, zero := [.int .u8 0] }) (z := 1) (b := 24) (y := [.sl .nil 0 []]) (row := rU8) (l := (b ++ [(IntKind.u8.wrap (Int.fdiv n (2 ^ (min (Int.toNat 56) 64))))]) ++ [(IntKind.u8.wrap (Int.fdiv n (2 ^ (min (Int.toNat 48) 64))))]) kr kr rfl (by decide) (by decide) kr (by first | (simp [rowsIn, List.map_take, List.map_drop, List.take_of_length_le]; done) | simp [rowsIn, rU8, rI64, rStr, rBool]) om rfl rfl (by first | omega | (show _ * 1 ≤ _; omega) | (simp; done) | (simp; omega))) (.g (.r (.g (.r (.g (.yes (.r (.ao 7 127 (AV.osl 0 3 1 0 (((b.length + 1) + 1) + 1)) (AV.sl .clip 1 [[(AV.int .u8 (IntKind.u8.wrap (Int.fdiv n (2 ^ (min (Int.toNat 32) 64)))))]]) (AV.osl 0 4 1 0 ((((b.length + 1) + 1) + 1) + 1)) ([⟨4, 1, (List.map rU8 ((((b ++ [(IntKind.u8.wrap (Int.fdiv n (2 ^ (min (Int.toNat 56) 64))))]) ++ [(IntKind.u8.wrap (Int.fdiv n (2 ^ (min (Int.toNat 48) 64))))]) ++ [(IntKind.u8.wrap (Int.fdiv n (2 ^ (min (Int.toNat 40) 64))))]) ++ [(IntKind.u8.wrap (Int.fdiv n (2 ^ (min (Int.toNat 32) 64))))])), none⟩] : Heap) (evAppendO_end (T := tt) (e := 5) (te := { d := .int .u8, size := 1, bytes := 1, zero := [.int .u8 0] }) (z := 1) (b := 24) (y := [.sl .nil 0 []]) (row := rU8) (l := ((b ++ [(IntKind.u8.wrap (Int.fdiv n (2 ^ (min (Int.toNat 56) 64))))]) ++ [(IntKind.u8.wrap (Int.fdiv n (2 ^ (min (Int.toNat 48) 64))))]) ++ [(IntKind.u8.wrap (Int.fdiv n (2 ^ (min (Int.toNat 40) 64))))]) kr kr rfl (by decide) (by decide) kr (by first | (simp [rowsIn, List.map_take, List.map_drop, List.take_of_length_le]; done) | simp [rowsIn, rU8, rI64, rStr, rBool]) om rfl rfl (by first | omega | (show _ * 1 ≤ _; omega) | (simp; done) | (simp; omega))) (.g (.r (.g (.r (.g (.yes (.r (.ao 7 127 (AV.osl 0 4 1 0 ((((b.length + 1) + 1) + 1) + 1)) (AV.sl .clip 1 [[(AV.int .u8 (IntKind.u8.wrap (Int.fdiv n (2 ^ (min (Int.toNat 24) 64)))))]]) (AV.osl 0 5 1 0 (((((b.length + 1) + 1) + 1) + 1) + 1)) ([⟨5, 1, (List.map rU8 (((((b ++ [(IntKind.u8.wrap (Int.fdiv n (2 ^ (min (Int.toNat 56) 64))))]) ++ [(IntKind.u8.wrap (Int.fdiv n (2 ^ (min (Int.toNat 48) 64))))]) ++ [(IntKind.u8.wrap (Int.fdiv n (2 ^ (min (Int.toNat 40) 64))))]) ++ [(IntKind.u8.wrap (Int.fdiv n (2 ^ (min (Int.toNat 32) 64))))]) ++ [(IntKind.u8.wrap (Int.fdiv n (2 ^ (min (Int.toNat 24) 64))))])), none⟩] : Heap) (evAppendO_end (T := tt) (e := 5) (te := { d := .int .u8, size := 1, bytes := 1, zero := [.int .u8 0] }) (z := 1) (b := 24) (y := [.sl .nil 0 []]) (row := rU8) (l := (((b ++ [(IntKind.u8.wrap (Int.fdiv n (2 ^ (min (Int.toNat 56) 64))))]) ++ [(IntKind.u8.wrap (Int.fdiv n (2 ^ (min (Int.toNat 48) 64))))]) ++ [(IntKind.u8.wrap (Int.fdiv n (2 ^ (min (Int.toNat 40) 64))))]) ++ [(IntKind.u8.wrap (Int.fdiv n (2 ^ (min (Int.toNat 32) 64))))]) kr kr rfl (by decide) (by decide) kr (by first | (simp [rowsIn, List.map_take, List.map_drop, List.take_of_length_le]; done) | simp [rowsIn, rU8, rI64, rStr, rBool]) om rfl rfl (by first | omega | (show _ * 1 ≤ _; omega) | (simp; done) | (simp; omega))) (.g (.r (.g (.r (.g (.yes (.r (.ao 7 127 (AV.osl 0 5 1 0 (((((b.length + 1) + 1) + 1) + 1) + 1)) (AV.sl .clip 1 [[(AV.int .u8 (IntKind.u8.wrap (Int.fdiv n (2 ^ (min (Int.toNat 16) 64)))))]]) (AV.osl 0 6 1 0 ((((((b.length + 1) + 1) + 1) + 1) + 1) + 1)) ([⟨6, 1, (List.map rU8 ((((((b ++ [(IntKind.u8.wrap (Int.fdiv n (2 ^ (min (Int.toNat 56) 64))))]) ++ [(IntKind.u8.wrap (Int.fdiv n (2 ^ (min (Int.toNat 48) 64))))]) ++ [(IntKind.u8.wrap (Int.fdiv n (2 ^ (min (Int.toNat 40) 64))))]) ++ [(IntKind.u8.wrap (Int.fdiv n (2 ^ (min (Int.toNat 32) 64))))]) ++ [(IntKind.u8.wrap (Int.fdiv n (2 ^ (min (Int.toNat 24) 64))))]) ++ [(IntKind.u8.wrap (Int.fdiv n (2 ^ (min (Int.toNat 16) 64))))])), none⟩] : Heap) (evAppendO_end (T := tt) (e := 5) (te := { d := .int .u8, size := 1, bytes := 1, zero := [.int .u8 0] }) (z := 1) (b := 24) (y := [.sl .nil 0 []]) (row := rU8) (l := ((((b ++ [(IntKind.u8.wrap (Int.fdiv n (2 ^ (min (Int.toNat 56) 64))))]) ++ [(IntKind.u8.wrap (Int.fdiv n (2 ^ (min (Int.toNat 48) 64))))]) ++ [(IntKind.u8.wrap (Int.fdiv n (2 ^ (min (Int.toNat 40) 64))))]) ++ [(IntKind.u8.wrap (Int.fdiv n (2 ^ (min (Int.toNat 32) 64))))]) ++ [(IntKind.u8.wrap (Int.fdiv n (2 ^ (min (Int.toNat 24) 64))))]) kr kr rfl (by decide) (by decide) kr (by first | (simp [rowsIn, List.map_take, List.map_drop, List.take_of_length_le]; done) | simp [rowsIn, rU8, rI64, rStr, rBool]) om rfl rfl (by first | omega | (show _ * 1 ≤ _; omega) | (simp; done) | (simp; omega))) (.g (.r (.g (.r (.g (.yes (.r (.ao 7 127 (AV.osl 0 6 1 0 ((((((b.length + 1) + 1) + 1) + 1) + 1) + 1)) (AV.sl .clip 1 [[(AV.int .u8 (IntKind.u8.wrap (Int.fdiv n (2 ^ (min (Int.toNat 8) 64)))))]]) (AV.osl 0 7 1 0 (((((((b.length + 1) + 1) + 1) + 1) + 1) + 1) + 1)) ([⟨7, 1, (List.map rU8 (((((((b ++ [(IntKind.u8.wrap (Int.fdiv n (2 ^ (min (Int.toNat 56) 64))))]) ++ [(IntKind.u8.wrap (Int.fdiv n (2 ^ (min (Int.toNat 48) 64))))]) ++ [(IntKind.u8.wrap (Int.fdiv n (2 ^ (min (Int.toNat 40) 64))))]) ++ [(IntKind.u8.wrap (Int.fdiv n (2 ^ (min (Int.toNat 32) 64))))]) ++ [(IntKind.u8.wrap (Int.fdiv n (2 ^ (min (Int.toNat 24) 64))))]) ++ [(IntKind.u8.wrap (Int.fdiv n (2 ^ (min (Int.toNat 16) 64))))]) ++ [(IntKind.u8.wrap (Int.fdiv n (2 ^ (min (Int.toNat 8) 64))))])), none⟩] : Heap) (evAppendO_end (T := tt) (e := 5) (te := { d := .int .u8, size := 1, bytes := 1, zero := [.int .u8 0] }) (z := 1) (b := 24) (y := [.sl .nil 0 []]) (row := rU8) (l := (((((b ++ [(IntKind.u8.wrap (Int.fdiv n (2 ^ (min (Int.toNat 56) 64))))]) ++ [(IntKind.u8.wrap (Int.fdiv n (2 ^ (min (Int.toNat 48) 64))))]) ++ [(IntKind.u8.wrap (Int.fdiv n (2 ^ (min (Int.toNat 40) 64))))]) ++ [(IntKind.u8.wrap (Int.fdiv n (2 ^ (min (Int.toNat 32) 64))))]) ++ [(IntKind.u8.wrap (Int.fdiv n (2 ^ (min (Int.toNat 24) 64))))]) ++ [(IntKind.u8.wrap (Int.fdiv n (2 ^ (min (Int.toNat 16) 64))))]) kr kr rfl (by decide) (by decide) kr (by first | (simp [rowsIn, List.map_take, List.map_drop, List.take_of_length_le]; done) | simp [rowsIn, rU8, rI64, rStr, rBool]) om rfl rfl (by first | omega | (show _ * 1 ≤ _; omega) | (simp; done) | (simp; omega))) (.g (.r (.g (.r (.g (.yes (.r (.ao 7 127 (AV.osl 0 7 1 0 (((((((b.length + 1) + 1) + 1) + 1) + 1) + 1) + 1)) (AV.sl .clip 1 [[(AV.int .u8 (IntKind.u8.wrap (Int.fdiv n (2 ^ (min (Int.toNat 0) 64)))))]]) (AV.osl 0 8 1 0 ((((((((b.length + 1) + 1) + 1) + 1) + 1) + 1) + 1) + 1)) (Sr_1 b n) (evAppendO_end (T := tt) (e := 5) (te := { d := .int .u8, size := 1, bytes := 1, zero := [.int .u8 0] }) (z := 1) (b := 24) (y := [.sl .nil 0 []]) (row := rU8) (l := ((((((b ++ [(IntKind.u8.wrap (Int.fdiv n (2 ^ (min (Int.toNat 56) 64))))]) ++ [(IntKind.u8.wrap (Int.fdiv n (2 ^ (min (Int.toNat 48) 64))))]) ++ [(IntKind.u8.wrap (Int.fdiv n (2 ^ (min (Int.toNat 40) 64))))]) ++ [(IntKind.u8.wrap (Int.fdiv n (2 ^ (min (Int.toNat 32) 64))))]) ++ [(IntKind.u8.wrap (Int.fdiv n (2 ^ (min (Int.toNat 24) 64))))]) ++ [(IntKind.u8.wrap (Int.fdiv n (2 ^ (min (Int.toNat 16) 64))))]) ++ [(IntKind.u8.wrap (Int.fdiv n (2 ^ (min (Int.toNat 8) 64))))]) kr kr rfl (by decide) (by decide) kr (by first | (simp [rowsIn, List.map_take, List.map_drop, List.take_of_length_le]; done) | simp [rowsIn, rU8, rI64, rStr, rBool]) om rfl rfl (by first | omega | (show _ * 1 ≤ _; omega) | (simp; done) | (simp; omega))) (.g (.r (.g (.r (.g (.no (.r (.w 5 (List.map rU8 ((((((((b ++ [(IntKind.u8.wrap (Int.fdiv n (2 ^ (min (Int.toNat 56) 64))))]) ++ [(IntKind.u8.wrap (Int.fdiv n (2 ^ (min (Int.toNat 48) 64))))]) ++ [(IntKind.u8.wrap (Int.fdiv n (2 ^ (min (Int.toNat 40) 64))))]) ++ [(IntKind.u8.wrap (Int.fdiv n (2 ^ (min (Int.toNat 32) 64))))]) ++ [(IntKind.u8.wrap (Int.fdiv n (2 ^ (min (Int.toNat 24) 64))))]) ++ [(IntKind.u8.wrap (Int.fdiv n (2 ^ (min (Int.toNat 16) 64))))]) ++ [(IntKind.u8.wrap (Int.fdiv n (2 ^ (min (Int.toNat 8) 64))))]) ++ [(IntKind.u8.wrap (Int.fdiv n (2 ^ (min (Int.toNat 0) 64))))])) (And.intro (rowsIn_all (room := none) kr om) (rU8_bdd _ _) : rowsIn (Sr_1 b n) 1 (AV.osl 0 8 1 0 ((((((((b.length + 1) + 1) + 1) + 1) + 1) + 1) + 1) + 1)) = some (List.map rU8 ((((((((b ++ [(IntKind.u8.wrap (Int.fdiv n (2 ^ (min (Int.toNat 56) 64))))]) ++ [(IntKind.u8.wrap (Int.fdiv n (2 ^ (min (Int.toNat 48) 64))))]) ++ [(IntKind.u8.wrap (Int.fdiv n (2 ^ (min (Int.toNat 40) 64))))]) ++ [(IntKind.u8.wrap (Int.fdiv n (2 ^ (min (Int.toNat 32) 64))))]) ++ [(IntKind.u8.wrap (Int.fdiv n (2 ^ (min (Int.toNat 24) 64))))]) ++ [(IntKind.u8.wrap (Int.fdiv n (2 ^ (min (Int.toNat 16) 64))))]) ++ [(IntKind.u8.wrap (Int.fdiv n (2 ^ (min (Int.toNat 8) 64))))]) ++ [(IntKind.u8.wrap (Int.fdiv n (2 ^ (min (Int.toNat 0) 64))))])) ∧ AV.bddss 0 (List.map rU8 ((((((((b ++ [(IntKind.u8.wrap (Int.fdiv n (2 ^ (min (Int.toNat 56) 64))))]) ++ [(IntKind.u8.wrap (Int.fdiv n (2 ^ (min (Int.toNat 48) 64))))]) ++ [(IntKind.u8.wrap (Int.fdiv n (2 ^ (min (Int.toNat 40) 64))))]) ++ [(IntKind.u8.wrap (Int.fdiv n (2 ^ (min (Int.toNat 32) 64))))]) ++ [(IntKind.u8.wrap (Int.fdiv n (2 ^ (min (Int.toNat 24) 64))))]) ++ [(IntKind.u8.wrap (Int.fdiv n (2 ^ (min (Int.toNat 16) 64))))]) ++ [(IntKind.u8.wrap (Int.fdiv n (2 ^ (min (Int.toNat 8) 64))))]) ++ [(IntKind.u8.wrap (Int.fdiv n (2 ^ (min (Int.toNat 0) 64))))])) = true) (.c 1 (clipB_at ((((((((b ++ [(IntKind.u8.wrap (Int.fdiv n (2 ^ (min (Int.toNat 56) 64))))]) ++ [(IntKind.u8.wrap (Int.fdiv n (2 ^ (min (Int.toNat 48) 64))))]) ++ [(IntKind.u8.wrap (Int.fdiv n (2 ^ (min (Int.toNat 40) 64))))]) ++ [(IntKind.u8.wrap (Int.fdiv n (2 ^ (min (Int.toNat 32) 64))))]) ++ [(IntKind.u8.wrap (Int.fdiv n (2 ^ (min (Int.toNat 24) 64))))]) ++ [(IntKind.u8.wrap (Int.fdiv n (2 ^ (min (Int.toNat 16) 64))))]) ++ [(IntKind.u8.wrap (Int.fdiv n (2 ^ (min (Int.toNat 8) 64))))]) ++ [(IntKind.u8.wrap (Int.fdiv n (2 ^ (min (Int.toNat 0) 64))))]) oa ([⟨9, 1, [], none⟩] : Heap)) (.g (.h' ([] : Heap) (.f 0 (AV.sl .cn 1 (List.map rU8 ((((((((b ++ [(IntKind.u8.wrap (Int.fdiv n (2 ^ (min (Int.toNat 56) 64))))]) ++ [(IntKind.u8.wrap (Int.fdiv n (2 ^ (min (Int.toNat 48) 64))))]) ++ [(IntKind.u8.wrap (Int.fdiv n (2 ^ (min (Int.toNat 40) 64))))]) ++ [(IntKind.u8.wrap (Int.fdiv n (2 ^ (min (Int.toNat 32) 64))))]) ++ [(IntKind.u8.wrap (Int.fdiv n (2 ^ (min (Int.toNat 24) 64))))]) ++ [(IntKind.u8.wrap (Int.fdiv n (2 ^ (min (Int.toNat 16) 64))))]) ++ [(IntKind.u8.wrap (Int.fdiv n (2 ^ (min (Int.toNat 8) 64))))]) ++ [(IntKind.u8.wrap (Int.fdiv n (2 ^ (min (Int.toNat 0) 64))))]))) (.e (AV.sl .cn 1 (List.map rU8 ((((((((b ++ [(IntKind.u8.wrap (Int.fdiv n (2 ^ (min (Int.toNat 56) 64))))]) ++ [(IntKind.u8.wrap (Int.fdiv n (2 ^ (min (Int.toNat 48) 64))))]) ++ [(IntKind.u8.wrap (Int.fdiv n (2 ^ (min (Int.toNat 40) 64))))]) ++ [(IntKind.u8.wrap (Int.fdiv n (2 ^ (min (Int.toNat 32) 64))))]) ++ [(IntKind.u8.wrap (Int.fdiv n (2 ^ (min (Int.toNat 24) 64))))]) ++ [(IntKind.u8.wrap (Int.fdiv n (2 ^ (min (Int.toNat 16) 64))))]) ++ [(IntKind.u8.wrap (Int.fdiv n (2 ^ (min (Int.toNat 8) 64))))]) ++ [(IntKind.u8.wrap (Int.fdiv n (2 ^ (min (Int.toNat 0) 64))))]))) (by
        try delta Sr_1
        simp [intB, byteAt])))))))))))))))))))))))))))))))))))))))))))))))))))))))))))))))))))))))))))))))))))
theorem intF_spec (b:List Int) (n:Int) (hb:b.length < 1048576):ACalls Try.prog 87 [(.sl .any 1 (List.map rU8 b)),(.int .i64 n)] ([]:Heap) ((AV.sl .any 1 (List.map rU8 (intB b n))),([]:Heap)):=(int8_spec b n hb).post ⟨rfl,rfl,.inl rfl⟩
theorem intF_at (b:List Int) (n:Int) (hb:b.length < 1048576) (H:Heap):ACalls Try.prog 87 [(.sl .any 1 (List.map rU8 b)),(.int .i64 n)] H ((AV.sl .any 1 (List.map rU8 (intB b n))),H):=(intF_spec b n hb).lift kr kr H
def showsC (c:Card):Int:=if c.gone=true then 0 else if (c.over != 0)=true then c.over else c.status
def shows_ann:Ann:={ refs:=[1],fin:=some 0 }
theorem shows_spec (c : Card)  : ACalls Try.prog 86 [(.agg (Card.row c))] ([] : Heap) ((AV.int .i64 (showsC c)), ([] : Heap)) :=
  specO (fn := Try.f86) (ann := shows_ann) (Has.o Try.func86) (.r (.g (.r (.g (.two c.gone (fun h1 h1' => (.r (.g (.f 0 (AV.int .i64 0) (.e (AV.int .i64 0) (by
        simp_all [showsC])))))) (fun h1 h1' => (.r (.g (.two (c.over != 0) (fun h2 h2' => (.r (.g (.f 0 (AV.int .i64 c.over) (.e (AV.int .i64 c.over) (by
        simp_all [showsC])))))) (fun h2 h2' => (.r (.g (.f 0 (AV.int .i64 c.status) (.e (AV.int .i64 c.status) (by
        simp_all [showsC])))))))))))))))
theorem shows_at (c:Card)  (H:Heap):ACalls Try.prog 86 [(.agg (Card.row c))] H ((AV.int .i64 (showsC c)),H):=(shows_spec c ).lift kr kr H
def hereL (l:List Card):List Card:=l.filter fun c=>!c.gone
def seenK (l:List Card):List Card:=sortP (hereL l)
theorem hereL_len (l:List Card):(hereL l).length≤l.length:=List.length_filter_le _ _
theorem seenK_len (l:List Card):(seenK l).length≤l.length:=by unfold seenK; rw [sortP_len]; exact hereL_len l
def seen_ann:Ann:={ gh:=[(8,.frz 3)],gha:=[(1,.vir 3 9),(7,.cut 1)],fin:=some 0,live:=[(3,[3,6,7,8])],out:=[(3,[3,6,7,8])] }
@[simp] abbrev Sr_2 (v1_:Nat) (v2_:List Card) (v3_:List Card) (v4_:Nat):Heap:=[⟨(v1_+1),9,(List.map Card.row (v2_++[(nth v3_ v4_)])),none⟩]
@[simp] abbrev Sr_3 (v1_:Nat) (v2_:Nat) (v3_:List Card) (v4_:Nat):Fr:=(mkF 22 [(3,(AV.osl 0 v1_ 9 0 v2_)),(6,(AV.sl .any 9 (List.map Card.row v3_))),(7,(AV.int .i64 ((v3_.length:Nat):Int))),(8,(AV.int .i64 ((v4_:Nat):Int)))])
@[simp] abbrev Sr_4 (v1_:Nat) (v2_:List Card) (v3_:List Card) (v4_:Nat):Heap:=[⟨v1_,9,(List.map Card.row v2_),none⟩,⟨0,9,[(Card.row (nth v3_ v4_))],none⟩]
theorem seen_step (l:List Card) (out:List Card) (k:Nat) (g:Nat) (i:Nat) (hl:l.length < 1048576) (hk:k=out.length) (hki:k≤i) (hle_:i≤l.length) {eX:Ex} {FX:Fr} {HX:Heap} (k1:(decide (((i:Nat):Int) < ((l.length:Nat):Int)))=true→(!(nth l i).gone)=true→LoopTo (codeQ Try.prog (X seen_ann) (loopOf Try.f52 0)) (some [3,6,7,8]) (some [3,6,7,8]) (mkF 22 [(3,(.osl 0 (g+1) 9 0 (k+1))),(6,(.sl .any 9 (List.map Card.row l))),(7,(.int .i64 ((l.length:Nat):Int))),(8,(.int .i64 ((i+1:Nat):Int)))]) (Sr_2 g out l i) eX FX HX) (k2:(decide (((i:Nat):Int) < ((l.length:Nat):Int)))=true→(!(nth l i).gone)=false→LoopTo (codeQ Try.prog (X seen_ann) (loopOf Try.f52 0)) (some [3,6,7,8]) (some [3,6,7,8]) (mkF 22 [(3,(.osl 0 g 9 0 k)),(6,(.sl .any 9 (List.map Card.row l))),(7,(.int .i64 ((l.length:Nat):Int))),(8,(.int .i64 ((i+1:Nat):Int)))]) ([⟨g,9,(List.map Card.row out),none⟩]:Heap) eX FX HX) (k3:(decide (((i:Nat):Int) < ((l.length:Nat):Int)))=false→((.exit 0:Ex),(Sr_3 g k l i),([⟨g,9,(List.map Card.row out),none⟩]:Heap))=(eX,FX,HX)):LoopTo (codeQ Try.prog (X seen_ann) (loopOf Try.f52 0)) (some [3,6,7,8]) (some [3,6,7,8]) (Sr_3 g k l i) ([⟨g,9,(List.map Card.row out),none⟩]:Heap) eX FX HX :=
 stepO (.r (.g (.two (decide (((i:Nat):Int) < ((l.length:Nat):Int))) (fun h1 h1'=>(.r (.h' ([⟨g,9,(List.map Card.row out),none⟩,⟨0,9,[[(AV.str ⟨#[]⟩),(AV.str ⟨#[]⟩),(AV.int .i64 0),(AV.int .i64 0),(AV.int .i64 0),(AV.int .i64 0),(AV.int .i64 0),(AV.int .i64 0),(AV.bool false)]],none⟩]:Heap) (.is 0 9 9 (List.map Card.row l) ((i:Nat):Int) (Card.row (nth l i)) (IdxSl.mk _ ow ow) (.g (.r (.g (.two (!(nth l i).gone) (fun h2 h2'=>(.r (.h' (Sr_4 g out l i) (.ap 3 32 (AV.osl 0 g 9 0 k) (AV.sl .clip 9 [(Card.row (nth l i))]) (AV.osl 0 (g+1) 9 0 (k+1)) ([⟨(g+1),9,(List.map Card.row (out++[(nth l i)])),none⟩,⟨0,9,[(Card.row (nth l i))],none⟩]:Heap) (evAppend_one (row:=Card.row) (l:=out) (x:=(nth l i)) (T:=tt) (e:=39) (te:={ d:=.struct [(30,0),(3,2),(3,3),(2,4),(37,5),(4,8)],size:=9,bytes:=88,zero:=[.str ⟨#[]⟩,.str ⟨#[]⟩,.int .i64 0,.int .i64 0,.int .i64 0,.int .i64 0,.int .i64 0,.int .i64 0,.bool false] }) (z:=1) (b:=24) (y:=[.sl .nil 0 []]) kr kr rfl (by decide) (by decide) kr (by first | assumption | omega | (simp; done) | (simp; omega)) rfl rfl (by first | omega | (show _ * 88≤_; omega) | (simp; omega))) (.g (.r (.y 0 (.int .i64 (IntKind.i64.wrap (((i:Nat):Int)+1))) (AV.int .i64 ((i+1:Nat):Int)) (Yes.add ow ow ow) (.h' (Sr_2 g out l i) (.b 1 (.g (.l (k1 h1 h2)))))))))))) (fun h2 h2'=>(.r (.h' (Sr_4 g out l i) (.y 0 (.int .i64 (IntKind.i64.wrap (((i:Nat):Int)+1))) (AV.int .i64 ((i+1:Nat):Int)) (Yes.add ow ow ow) (.h' ([⟨g,9,(List.map Card.row out),none⟩]:Heap) (.b 1 (.g (.l (k2 h1 h2))))))))))))))))) (fun h1 h1'=>(.l (k3 h1))))))
def seen_f (l:List Card) (i:Nat) (s:(List Card) × Nat × Nat):(List Card) × Nat × Nat:=(if (!(nth l i).gone)=true then (s.1++[(nth l i)],(s.2.1+1),(s.2.2+1)) else (s.1,s.2.1,s.2.2))
theorem seen_loop (l:List Card) (hl:l.length < 1048576)  (r_:Nat):∀ (out:List Card) (k:Nat) (g:Nat) (i:Nat) (sF:(List Card) × Nat × Nat),i+r_=l.length→k=out.length→k≤i→sF=iter (seen_f l) r_ i (out,k,g) →
 LoopTo (codeQ Try.prog (X seen_ann) (loopOf Try.f52 0)) (some [3,6,7,8]) (some [3,6,7,8]) (Sr_3 g k l i) ([⟨g,9,(List.map Card.row out),none⟩]:Heap) (.exit 0) (mkF 22 [(3,(.osl 0 sF.2.2 9 0 sF.2.1)),(6,(.sl .any 9 (List.map Card.row l))),(7,(.int .i64 ((l.length:Nat):Int))),(8,(.int .i64 ((l.length:Nat):Int)))]) ([⟨sF.2.2,9,(List.map Card.row sF.1),none⟩]:Heap):=by
 induction r_ with
 | zero =>
  intro out k g i sF hi_ hk hki  hF
  obtain rfl:l.length=i:=by omega
  have e_:sF=(out,k,g):=hF
  refine seen_step l out k g l.length hl hk hki (Nat.le_refl _) (fun h _=>by simp at h <;> omega) (fun h _=>by simp at h <;> omega) (fun _=>?_)
  first | done | rfl | (rw [e_]; done) | (rw [e_]; rfl)
 | succ r_ ih =>
  intro out k g i sF hi_ hk hki  hF
  refine seen_step l out k g i hl hk hki ow (fun h1 h2=>?_) (fun h1 h2=>?_) (fun h=>by simp at h <;> omega)
  · exact ih (out++[(nth l i)]) (k+1) (g+1) (i+1) sF ow (by first | omega | assumption | (simp; done) | (simp; omega) | (simp [*]; done) | (simp [*]; omega)) (by first | omega | assumption | (simp; done) | (simp; omega) | (simp [*]; done) | (simp [*]; omega))  (by rw [hF] <;> simp only [iter,seen_f,h2,if_true,Bool.false_eq_true,if_false])
  · exact ih out k g (i+1) sF ow (by first | omega | assumption | (simp; done) | (simp; omega) | (simp [*]; done) | (simp [*]; omega)) (by first | omega | assumption | (simp; done) | (simp; omega) | (simp [*]; done) | (simp [*]; omega))  (by rw [hF] <;> simp only [iter,seen_f,h2,if_true,Bool.false_eq_true,if_false])
theorem seen_iter (l:List Card):(hereL l,(hereL l).length,(hereL l).length)=iter (seen_f l) l.length 0 ([],0,0):=by
 rw [iter_all (seen_f l) (fun s c=>if (fun c:Card=>!c.gone) c=true then (s.1++[c],s.2.1+1,s.2.2+1) else s) l (fun i s hi=>by simp [seen_f])]
 rw [fold_fmap' (fun c:Card=>!c.gone) (fun c=>c) l]; simp [hereL]
def cardB (b:List Int) (c:Card):List Int:=intB (byteB (textB (textB b c.key.app) c.key.id) (showsC c)) c.lease
theorem cardB_len (b:List Int) (c:Card):(cardB b c).length≤b.length+521:=by
 have h1:=textB_len b c.key.app
 have h2:=textB_len (textB b c.key.app) c.key.id
 unfold cardB; rw [intB_len,byteB_len]; omega
def sealB (l:List Card):List Int:=(seenK l).foldl cardB []
theorem cardsB_len (l:List Card):∀ (b:List Int),(l.foldl cardB b).length≤b.length+l.length * 521:=by
 induction l with
 | nil=>intro b; simp
 | cons c l ih=>intro b; have h1:=ih (cardB b c); have h2:=cardB_len b c; simp only [List.foldl_cons,List.length_cons]; omega
theorem sealB_len (l:List Card):(sealB l).length≤l.length * 521:=by
 have h1:=cardsB_len (seenK l) []
 have h2:=seenK_len l
 unfold sealB; simp only [List.length_nil] at h1; omega
def sealB_ann:Ann:={ gha:=[(1,.any 3 1),(7,.cut 0)],fin:=some 0,live:=[(3,[3,7,8,9])],out:=[(3,[3,7,8,9])] }
@[simp] abbrev Sr_6 (v1_:List Int) (v2_:List Card) (v3_:Nat):Fr:=(mkF 31 [(3,(AV.sl .any 1 (List.map rU8 v1_))),(7,(AV.sl .any 9 (List.map Card.row v2_))),(8,(AV.int .i64 ((v2_.length:Nat):Int))),(9,(AV.int .i64 ((v3_:Nat):Int)))])
theorem sealB_step (l:List Card) (b:List Int) (i:Nat) (hl:l.length < 1000) (hb:b.length≤i * 521) (hle_:i≤l.length) {eX:Ex} {FX:Fr} {HX:Heap} (k1:(decide (((i:Nat):Int) < ((l.length:Nat):Int)))=true→LoopTo (codeQ Try.prog (X sealB_ann) (loopOf Try.f72 0)) (some [3,7,8,9]) (some [3,7,8,9]) (mkF 31 [(3,(.sl .any 1 (List.map rU8 (intB (byteB (textB (textB b (nth l i).key.app) (nth l i).key.id) (showsC (nth l i))) (nth l i).lease)))),(7,(.sl .any 9 (List.map Card.row l))),(8,(.int .i64 ((l.length:Nat):Int))),(9,(.int .i64 ((i+1:Nat):Int)))]) ([]:Heap) eX FX HX) (k2:(decide (((i:Nat):Int) < ((l.length:Nat):Int)))=false→((.exit 0:Ex),(Sr_6 b l i),([]:Heap))=(eX,FX,HX)):LoopTo (codeQ Try.prog (X sealB_ann) (loopOf Try.f72 0)) (some [3,7,8,9]) (some [3,7,8,9]) (Sr_6 b l i) ([]:Heap) eX FX HX:=by
 have h1:=textB_len b (nth l i).key.app
 have h2:=textB_len (textB b (nth l i).key.app) (nth l i).key.id
 have h3:=byteB_len (textB (textB b (nth l i).key.app) (nth l i).key.id) (showsC (nth l i))
 exact stepO (.r (.g (.two (decide (((i:Nat):Int) < ((l.length:Nat):Int))) (fun h1 h1'=>(.r (.h' ([⟨0,9,[[(AV.str ⟨#[]⟩),(AV.str ⟨#[]⟩),(AV.int .i64 0),(AV.int .i64 0),(AV.int .i64 0),(AV.int .i64 0),(AV.int .i64 0),(AV.int .i64 0),(AV.bool false)]],none⟩]:Heap) (.is 0 9 9 (List.map Card.row l) ((i:Nat):Int) (Card.row (nth l i)) (IdxSl.mk _ ow ow) (.g (.r (.c 4 (textF_at b (nth l i).key.app oa ([⟨0,9,[(Card.row (nth l i))],none⟩]:Heap)) (.c 8 (textF_at (textB b (nth l i).key.app) (nth l i).key.id oa ([⟨0,9,[(Card.row (nth l i))],none⟩]:Heap)) (.c 10 (shows_at (nth l i)  ([⟨0,9,[(Card.row (nth l i))],none⟩]:Heap)) (.c 11 (byteF_at (textB (textB b (nth l i).key.app) (nth l i).key.id) (showsC (nth l i)) oa ([⟨0,9,[(Card.row (nth l i))],none⟩]:Heap)) (.rd (AV.agg (Card.row (nth l i))) ([⟨0,9,[(Card.row (nth l i))],none⟩]:Heap) (.rd (AV.agg (Card.row (nth l i))) ([⟨0,9,[(Card.row (nth l i))],none⟩]:Heap) (.rd (AV.str (nth l i).key.id) ([⟨0,9,[(Card.row (nth l i))],none⟩]:Heap) (.g (.r (.c 3 (intF_at (byteB (textB (textB b (nth l i).key.app) (nth l i).key.id) (showsC (nth l i))) (nth l i).lease oa ([⟨0,9,[(Card.row (nth l i))],none⟩]:Heap)) (.g (.r (.h' ([⟨0,9,[(Card.row (nth l i))],none⟩]:Heap) (.y 0 (.int .i64 (IntKind.i64.wrap (((i:Nat):Int)+1))) (AV.int .i64 ((i+1:Nat):Int)) (Yes.add ow ow ow) (.h' ([]:Heap) (.b 0 (.g (.l (k1 h1))))))))))))))))))))))))) (fun h1 h1'=>(.l (k2 h1))))))
def sealB_f (l:List Card) (i:Nat) (s:(List Int)):(List Int):=(intB (byteB (textB (textB s (nth l i).key.app) (nth l i).key.id) (showsC (nth l i))) (nth l i).lease)
theorem sealB_loop (l:List Card) (hl:l.length < 1000)  (r_:Nat):∀ (b:List Int) (i:Nat) (sF:(List Int)),i+r_=l.length→b.length≤i * 521→sF=iter (sealB_f l) r_ i (b) →
 LoopTo (codeQ Try.prog (X sealB_ann) (loopOf Try.f72 0)) (some [3,7,8,9]) (some [3,7,8,9]) (Sr_6 b l i) ([]:Heap) (.exit 0) (mkF 31 [(3,(.sl .any 1 (List.map rU8 sF))),(7,(.sl .any 9 (List.map Card.row l))),(8,(.int .i64 ((l.length:Nat):Int))),(9,(.int .i64 ((l.length:Nat):Int)))]) ([]:Heap):=by
 induction r_ with
 | zero =>
  intro b i sF hi_ hb  hF
  obtain rfl:l.length=i:=by omega
  have e_:sF=(b):=hF
  refine sealB_step l b l.length hl hb (Nat.le_refl _) (fun h=>by simp at h <;> omega) (fun _=>?_)
  first | done | rfl | (rw [e_]; done) | (rw [e_]; rfl)
 | succ r_ ih =>
  intro b i sF hi_ hb  hF
  refine sealB_step l b i hl hb ow (fun h1=>?_) (fun h=>by simp at h <;> omega)
  · exact ih (intB (byteB (textB (textB b (nth l i).key.app) (nth l i).key.id) (showsC (nth l i))) (nth l i).lease) (i+1) sF ow (by have h9:(intB (byteB (textB (textB b (nth l i).key.app) (nth l i).key.id) (showsC (nth l i))) (nth l i).lease).length≤b.length+521:=cardB_len b (nth l i); first | omega | assumption | (simp; done) | (simp; omega) | (simp [*]; done) | (simp [*]; omega))  (by rw [hF] <;> simp only [iter,sealB_f,if_true,Bool.false_eq_true,if_false])
theorem sealB_iter (l:List Card):l.foldl cardB []=iter (sealB_f l) l.length 0 []:=(iter_all (sealB_f l) cardB l (fun i s hi=>rfl) []).symm
def sumStep (h x:Int):Int:=IntKind.u32.wrap (IntKind.u32.wrap (IntKind.u32.wrap (h * 31)+IntKind.u32.wrap x)+7)
def sumB (l:List Int):Int:=l.foldl sumStep 17
def sum_ann:Ann:={ fin:=some 0,live:=[(3,[3,6,7,8])],out:=[(3,[3,6,7,8])] }
@[simp] abbrev Sr_8 (v1_:Int) (v2_:List Int) (v3_:Nat):Fr:=(mkF 20 [(3,(AV.int .u32 v1_)),(6,(AV.sl .any 1 (List.map rU8 v2_))),(7,(AV.int .i64 ((v2_.length:Nat):Int))),(8,(AV.int .i64 ((v3_:Nat):Int)))])
theorem sum_step (l:List Int) (h:Int) (i:Nat) (hl:l.length < 1048576) (hle_:i≤l.length) {eX:Ex} {FX:Fr} {HX:Heap} (k1:(decide (((i:Nat):Int) < ((l.length:Nat):Int)))=true→LoopTo (codeQ Try.prog (X sum_ann) (loopOf Try.f71 0)) (some [3,6,7,8]) (some [3,6,7,8]) (mkF 20 [(3,(.int .u32 (IntKind.u32.wrap ((IntKind.u32.wrap ((IntKind.u32.wrap (h * 31))+(IntKind.u32.wrap (nth l i))))+7)))),(6,(.sl .any 1 (List.map rU8 l))),(7,(.int .i64 ((l.length:Nat):Int))),(8,(.int .i64 ((i+1:Nat):Int)))]) ([]:Heap) eX FX HX) (k2:(decide (((i:Nat):Int) < ((l.length:Nat):Int)))=false→((.exit 0:Ex),(Sr_8 h l i),([]:Heap))=(eX,FX,HX)):LoopTo (codeQ Try.prog (X sum_ann) (loopOf Try.f71 0)) (some [3,6,7,8]) (some [3,6,7,8]) (Sr_8 h l i) ([]:Heap) eX FX HX :=
 stepO (.r (.g (.two (decide (((i:Nat):Int) < ((l.length:Nat):Int))) (fun h1 h1'=>(.r (.is 0 1 1 (List.map rU8 l) ((i:Nat):Int) (rU8 (nth l i)) (IdxSl.mk _ ow ow) (.g (.r (.g (.r (.y 0 (.int .i64 (IntKind.i64.wrap (((i:Nat):Int)+1))) (AV.int .i64 ((i+1:Nat):Int)) (Yes.add ow ow ow) (.g (.l (k1 h1))))))))))) (fun h1 h1'=>(.l (k2 h1))))))
def sum_f (l:List Int) (i:Nat) (s:Int):Int:=((IntKind.u32.wrap ((IntKind.u32.wrap ((IntKind.u32.wrap (s * 31))+(IntKind.u32.wrap (nth l i))))+7)))
theorem sum_loop (l:List Int) (hl:l.length < 1048576)  (r_:Nat):∀ (h:Int) (i:Nat) (sF:Int),i+r_=l.length→sF=iter (sum_f l) r_ i (h) →
 LoopTo (codeQ Try.prog (X sum_ann) (loopOf Try.f71 0)) (some [3,6,7,8]) (some [3,6,7,8]) (Sr_8 h l i) ([]:Heap) (.exit 0) (mkF 20 [(3,(.int .u32 sF)),(6,(.sl .any 1 (List.map rU8 l))),(7,(.int .i64 ((l.length:Nat):Int))),(8,(.int .i64 ((l.length:Nat):Int)))]) ([]:Heap):=by
 induction r_ with
 | zero =>
  intro h i sF hi_   hF
  obtain rfl:l.length=i:=by omega
  have e_:sF=(h):=hF
  refine sum_step l h l.length hl (Nat.le_refl _) (fun h=>by simp at h <;> omega) (fun _=>?_)
  first | done | rfl | (rw [e_]; done) | (rw [e_]; rfl)
 | succ r_ ih =>
  intro h i sF hi_   hF
  refine sum_step l h i hl ow (fun h1=>?_) (fun h=>by simp at h <;> omega)
  · exact ih (IntKind.u32.wrap ((IntKind.u32.wrap ((IntKind.u32.wrap (h * 31))+(IntKind.u32.wrap (nth l i))))+7)) (i+1) sF ow   (by rw [hF] <;> simp only [iter,sum_f,if_true,Bool.false_eq_true,if_false])
theorem sum_iter (l:List Int):sumB l=iter (sum_f l) l.length 0 17:=(iter_all (sum_f l) sumStep l (fun i s hi=>rfl) 17).symm
@[simp] abbrev Sr_9 (v1_:List Int):Fr:=(mkF 20 [(3,(AV.int .u32 (sumB v1_))),(6,(AV.sl .any 1 (List.map rU8 v1_))),(7,(AV.int .i64 ((v1_.length:Nat):Int))),(8,(AV.int .i64 ((v1_.length:Nat):Int)))])
theorem sum_spec (l:List Int) (hl:l.length < 1048576):ACalls Try.prog 71 [(.sl .any 1 (List.map rU8 l))] ([]:Heap) ((AV.int .u32 (sumB l)),([]:Heap)) :=
 specO (fn:=Try.f71) (ann:=sum_ann) (Has.o Try.func71) (.r (.g (.r (.g (.r (.y 1 (.int .i64 ((List.length (List.map rU8 l):Nat):Int)) (AV.int .i64 ((l.length:Nat):Int)) (Yes.len _ _ _) (.g (.loop (Sr_9 l) (show LoopTo (codeQ Try.prog (X sum_ann) (loopOf Try.f71 0)) (some [3,6,7,8]) (some [3,6,7,8]) (mkF 20 [(3,(.int .u32 17)),(6,(.sl .any 1 (List.map rU8 l))),(7,(.int .i64 ((l.length:Nat):Int))),(8,(.int .i64 0))]) ([]:Heap) (.exit 0) (Sr_9 l) ([]:Heap) from (sum_loop l hl (List.length l) 17 0 (sumB l) ow (sum_iter _))) (.r (.g (.f 0 (AV.int .u32 (sumB l)) (.e (AV.int .u32 (sumB l))))))))))))))
theorem sum_at (l:List Int) (hl:l.length < 1048576) (H:Heap):ACalls Try.prog 71 [(.sl .any 1 (List.map rU8 l))] H ((AV.int .u32 (sumB l)),H):=(sum_spec l hl).lift kr kr H
def ofB (l:List Card):Int:=sumB (sealB l)
end Go.Proofs.Ytfjedpipdnlkfaa.AM

set_option linter.unusedVariables false
set_option linter.unusedSimpArgs false
set_option maxRecDepth 100000
namespace Go.Proofs.Ytfjedpipdnlkfaa.AM
open Go
attribute [local irreducible] Tp.card Tp.cardT Tp.next Tp.step Tp.key Tp.keyT
theorem bl_irrefl:∀ (x:List UInt8),Op.bytesLess x x=false
 | []=>rfl
 | a :: x=>by
  have:=bl_irrefl x
  simp [Op.bytesLess,this]
theorem bl_asymm:∀ (x y:List UInt8),Op.bytesLess x y=true→Op.bytesLess y x=false
 | [],[],h=>by simp [Op.bytesLess] at h
 | [],b :: y,h=>rfl
 | a :: x,[],h=>by simp [Op.bytesLess] at h
 | a :: x,b :: y,h=>by
  simp only [Op.bytesLess,Bool.or_eq_true,Bool.and_eq_true,decide_eq_true_eq,beq_iff_eq] at h
  rcases h with h | ⟨rfl,h⟩
  · have h1:¬ b < a:=fun h'=>by exact absurd (UInt8.lt_trans h h') (UInt8.lt_irrefl _)
    have h2:¬ b=a:=fun e=>by subst e; exact UInt8.lt_irrefl _ h
    simp [Op.bytesLess,h1,h2]
  · have:=bl_asymm x y h
    simp [Op.bytesLess,this]
theorem bl_trans:∀ (x y z:List UInt8),Op.bytesLess x y=true→Op.bytesLess y z=true→Op.bytesLess x z=true
 | [],[],z,h,_=>by simp [Op.bytesLess] at h
 | [],b :: y,[],_,h=>by simp [Op.bytesLess] at h
 | [],b :: y,c :: z,_,_=>rfl
 | a :: x,[],z,h,_=>by simp [Op.bytesLess] at h
 | a :: x,b :: y,[],_,h=>by simp [Op.bytesLess] at h
 | a :: x,b :: y,c :: z,h,k=>by
  simp only [Op.bytesLess,Bool.or_eq_true,Bool.and_eq_true,decide_eq_true_eq,beq_iff_eq] at h k ⊢
  rcases h with h | ⟨rfl,h⟩
  · rcases k with k | ⟨rfl,k⟩
    · exact .inl (UInt8.lt_trans h k)
    · exact .inl h
  · rcases k with k | ⟨rfl,k⟩
    · exact .inl k
    · exact .inr ⟨rfl,bl_trans x y z h k⟩
theorem bl_tri:∀ (x y:List UInt8),Op.bytesLess x y=false→Op.bytesLess y x=false→x=y
 | [],[],_,_=>rfl
 | [],b :: y,h,_=>by simp [Op.bytesLess] at h
 | a :: x,[],_,h=>by simp [Op.bytesLess] at h
 | a :: x,b :: y,h,k=>by
  simp only [Op.bytesLess,Bool.or_eq_false_iff,decide_eq_false_iff_not] at h k
  have e:a=b:=by
   rcases UInt8.lt_or_lt_of_ne (a:=a) (b:=b) |> fun f=>Classical.em (a=b) with e | e
   · exact e
   · rcases UInt8.lt_or_lt_of_ne e with h1 | h1
     · exact absurd h1 h.1
     · exact absurd h1 k.1
  subst e
  simp only [beq_self_eq_true,Bool.true_and] at h k
  rw [bl_tri x y h.2 k.2]
theorem ba_eq {a b:ByteArray} (h:a.toList=b.toList):a=b:=by
 rw [ByteArray.toList_eq,ByteArray.toList_eq] at h
 obtain ⟨⟨a⟩⟩:=a
 obtain ⟨⟨b⟩⟩:=b
 simp at h
 rw [h]
theorem Key.eqb_iff (a b:Key):Key.eqb a b=true↔a=b:=by
 unfold Key.eqb
 constructor
 · intro h
   simp only [Bool.and_true,Bool.and_eq_true,beq_iff_eq] at h
   cases a; cases b
   exact congr (congrArg Key.mk (ba_eq h.1)) (ba_eq h.2)
 · intro h; subst h; simp
theorem bk_irrefl (a:Key):beforeK a a=false:=by simp [beforeK,bl_irrefl]
theorem bk_asymm {a b:Key} (h:beforeK a b=true):beforeK b a=false:=by
 unfold beforeK at *
 by_cases e:a.app.toList=b.app.toList
 · have e':b.app.toList=a.app.toList:=e.symm
   simp [e] at h
   simp [e']
   exact bl_asymm _ _ h
 · have e':¬ b.app.toList=a.app.toList:=fun x=>e x.symm
   simp [e] at h
   simp [e']
   exact bl_asymm _ _ h
theorem bk_trans {a b c:Key} (h:beforeK a b=true) (k:beforeK b c=true):beforeK a c=true:=by
 unfold beforeK at *
 by_cases e:a.app.toList=b.app.toList
 · by_cases f:b.app.toList=c.app.toList
   · simp [e] at h; simp [f] at k; simp [e,f]
     exact bl_trans _ _ _ h k
   · simp [f] at k
     have:¬ a.app.toList=c.app.toList:=by rw [e]; exact f
     simp [this]; rw [e]; exact k
 · simp [e] at h
   by_cases f:b.app.toList=c.app.toList
   · have:¬ a.app.toList=c.app.toList:=by rw [← f]; exact e
     simp [this]; rw [← f]; exact h
   · simp [f] at k
     have h1:=bl_trans _ _ _ h k
     have:¬ a.app.toList=c.app.toList:=fun x=>by rw [x] at h; have:=bl_asymm _ _ h; rw [k] at this; simp at this
     simp [this]; exact h1
theorem bk_tri {a b:Key} (h:beforeK a b=false) (k:beforeK b a=false):a=b:=by
 unfold beforeK at *
 by_cases e:a.app.toList=b.app.toList
 · have e':b.app.toList=a.app.toList:=e.symm
   simp [e] at h; simp [e'] at k
   have h2:=bl_tri _ _ h k
   cases a; cases b
   exact congr (congrArg Key.mk (ba_eq e)) (ba_eq h2)
 · have e':¬ b.app.toList=a.app.toList:=fun x=>e x.symm
   simp [e] at h; simp [e'] at k
   exact absurd (bl_tri _ _ h k) e
theorem bk_lt_le {a b c:Key} (h:beforeK a b=true) (k:beforeK c b=false):beforeK a c=true:=by
 cases e:beforeK b c with
 | true=>exact bk_trans h e
 | false=>rw [← bk_tri e k]; exact h
theorem bk_le_trans {a b c:Key} (h:beforeK b a=false) (k:beforeK c b=false):beforeK c a=false:=by
 cases e:beforeK c a with
 | false=>rfl
 | true=>have:=bk_lt_le e h; rw [this] at k; simp at k
theorem less_before (a b:Key):lessK a b=beforeK a b:=by
 unfold lessK cmpK cmpS beforeK
 by_cases h1:Op.bytesLess a.app.toList b.app.toList=true
 · have:¬ a.app.toList=b.app.toList:=fun e=>by rw [e,bl_irrefl] at h1; simp at h1
   simp [h1,this]
 · by_cases h2:a.app.toList=b.app.toList
   · simp [h2,bl_irrefl]
     by_cases h3:Op.bytesLess a.id.toList b.id.toList=true
     · simp [h3]
     · by_cases h4:a.id.toList=b.id.toList
       · simp [h4,bl_irrefl]
       · simp [h3,h4]
   · simp [h1,h2]
theorem nth_mem {α:Type} [Inhabited α] {l:List α} {i:Nat} (h:i < l.length):nth l i∈l:=List.mem_of_getElem? (nth_get h)
theorem nth_getElem {α:Type} [Inhabited α] {l:List α} {i:Nat} (h:i < l.length):nth l i=l[i]:=by
 simp [nth,List.getD_eq_getElem?_getD,List.getElem?_eq_getElem h]
theorem pw_nth {α:Type} [Inhabited α] {R:α→α→Prop} {l:List α}:List.Pairwise R l↔∀ i j,i < j→j < l.length→R (nth l i) (nth l j):=by
 rw [List.pairwise_iff_getElem]
 constructor
 · intro h i j hij hj
   rw [nth_getElem (show i < l.length by omega),nth_getElem hj]
   exact h i j _ _ hij
 · intro h i j hi hj hij
   have:=h i j hij hj
   rwa [nth_getElem hi,nth_getElem hj] at this
theorem mem_nth {α:Type} [Inhabited α] {l:List α} {x:α} (h:x∈l):∃ i,i < l.length∧nth l i=x:=by
 obtain ⟨i,hi,rfl⟩:=List.getElem_of_mem h
 exact ⟨i,hi,nth_getElem hi⟩
theorem nth_take {α:Type} [Inhabited α] {l:List α} {i k:Nat} (h:i < k):nth (l.take k) i=nth l i:=by
 simp [nth,List.getD_eq_getElem?_getD,List.getElem?_take,h]
theorem nth_drop {α:Type} [Inhabited α] {l:List α} {i k:Nat}:nth (l.drop k) i=nth l (k+i):=by
 simp [nth,List.getD_eq_getElem?_getD,List.getElem?_drop]
end Go.Proofs.Ytfjedpipdnlkfaa.AM

set_option linter.unusedVariables false
set_option linter.unusedSimpArgs false
set_option maxRecDepth 100000
set_option linter.unusedSectionVars false
namespace Go.Proofs.Ytfjedpipdnlkfaa.AM
open Go
section
variable {α:Type} [Inhabited α]
def posG (lt:α→α→Bool) (x:α) (out:List α):Nat→Nat
 | 0=>0
 | k+1=>if lt x (nth out k)=true then posG lt x out k else k+1
def insG (lt:α→α→Bool) (out:List α) (x:α):List α:=(out.take (posG lt x out out.length)++[x])++out.drop (posG lt x out out.length)
theorem posG_le (lt:α→α→Bool) (x:α) (out:List α) (k:Nat):posG lt x out k≤k:=by
 induction k with
 | zero=>simp only [posG]; omega
 | succ k ih=>simp only [posG]; split <;> omega
theorem posG_congr (lt:α→α→Bool) (x:α) {out out':List α} (k:Nat) (h:∀ i,i < k→nth out i=nth out' i):posG lt x out k=posG lt x out' k:=by
 induction k with
 | zero=>rfl
 | succ k ih=>simp only [posG]; rw [h k (by omega),ih fun i hi=>h i (by omega)]
theorem posG_spec (lt:α→α→Bool) (x:α) (out:List α) (k:Nat):(∀ i,posG lt x out k≤i→i < k→lt x (nth out i)=true)∧(0 < posG lt x out k→lt x (nth out (posG lt x out k - 1))=false):=by
 induction k with
 | zero=>simp only [posG]; exact ⟨fun i h1 h2=>by omega,fun h=>by omega⟩
 | succ k ih =>
  simp only [posG]
  split
  · rename_i h
    refine ⟨fun i h1 h2=>?_,ih.2⟩
    rcases Nat.lt_or_ge i k with h3 | h3
    · exact ih.1 i h1 h3
    · rw [show i=k by omega]; exact h
  · rename_i h
    exact ⟨fun i h1 h2=>by omega,fun _=>by simpa using h⟩
theorem insG_perm (lt:α→α→Bool) (out:List α) (x:α):List.Perm (insG lt out x) (x :: out):=by
 unfold insG
 rw [List.append_assoc,List.singleton_append]
 refine List.perm_middle.trans ?_
 rw [List.take_append_drop]
theorem insG_len (lt:α→α→Bool) (out:List α) (x:α):(insG lt out x).length=out.length+1:=by
 rw [(insG_perm lt out x).length_eq]; rfl
structure Weak (lt:α→α→Bool):Prop where
 asymm:∀ a b,lt a b=true→lt b a=false
 trans:∀ a b c,lt b a=false→lt c b=false→lt c a=false
abbrev Srt (lt:α→α→Bool) (l:List α):Prop:=List.Pairwise (fun a b=>lt b a=false) l
theorem insG_sorted {lt:α→α→Bool} (W:Weak lt) {out:List α} (h:Srt lt out) (x:α):Srt lt (insG lt out x):=by
 obtain ⟨h1,h2⟩:=posG_spec lt x out out.length
 have hp:=posG_le lt x out out.length
 generalize hpe:posG lt x out out.length=p at *
 have hs:=pw_nth.1 h
 unfold insG
 rw [hpe,List.append_assoc,List.singleton_append]
 refine List.pairwise_append.2 ⟨h.sublist (List.take_sublist _ _),List.pairwise_cons.2 ⟨fun y hy=>?_,h.sublist (List.drop_sublist _ _)⟩,fun a ha y hy=>?_⟩
 · obtain ⟨i,hi,rfl⟩:=mem_nth hy
   simp only [List.length_drop] at hi
   rw [nth_drop]
   exact W.asymm _ _ (h1 (p+i) (by omega) (by omega))
 · have hxp:lt x a=false:=by
    obtain ⟨i,hi,rfl⟩:=mem_nth ha
    simp only [List.length_take] at hi
    rw [nth_take (by omega)]
    have h3:=h2 (by omega)
    rcases Nat.lt_or_ge i (p - 1) with h4 | h4
    · exact W.trans _ _ _ (hs i (p - 1) h4 (by omega)) h3
    · rw [show i=p - 1 by omega]; exact h3
   rcases List.mem_cons.1 hy with rfl | hy
   · exact hxp
   · obtain ⟨i,hi,rfl⟩:=mem_nth ha
     obtain ⟨j,hj,rfl⟩:=mem_nth hy
     simp only [List.length_take] at hi
     simp only [List.length_drop] at hj
     rw [nth_take (by omega),nth_drop]
     exact hs i (p+j) (by omega) (by omega)
def sortG (lt:α→α→Bool) (l:List α):List α:=l.foldl (insG lt) []
theorem foldG (lt:α→α→Bool) (l:List α):∀ (out:List α),List.Perm (l.foldl (insG lt) out) (out++l):=by
 induction l with
 | nil=>intro out; simp
 | cons x l ih =>
  intro out
  exact (ih (insG lt out x)).trans (((insG_perm lt out x).append_right l).trans (by simpa using List.perm_middle.symm))
theorem foldG_sorted {lt:α→α→Bool} (W:Weak lt) (l:List α):∀ (out:List α),Srt lt out→Srt lt (l.foldl (insG lt) out):=by
 induction l with
 | nil=>intro out h; exact h
 | cons x l ih=>intro out h; exact ih _ (insG_sorted W h x)
theorem sortG_perm (lt:α→α→Bool) (l:List α):List.Perm (sortG lt l) l:=foldG lt l []
theorem sortG_sorted {lt:α→α→Bool} (W:Weak lt) (l:List α):Srt lt (sortG lt l):=foldG_sorted W l [] List.Pairwise.nil
theorem sink_ins (cmp:α→α→Int) (j:Nat):∀ (l:List α),j < l.length→sink cmp 0 j l=insG (fun a b=>decide (cmp a b < 0)) (l.take j) (nth l j)++l.drop (j+1):=by
 induction j with
 | zero =>
  intro l h
  simp only [sink]
  have hd:l=nth l 0 :: l.drop 1:=by
   have:=drop_nth (l:=l) (i:=0) h
   simpa using this
  conv=>lhs; rw [hd]
  simp [insG,posG]
 | succ j ih =>
  intro l h
  simp only [sink]
  have h0:decide (((j+1:Nat):Int) > ((0:Nat):Int))=true:=decide_eq_true (by omega)
  rw [if_pos h0]
  have htk:l.take (j+1)=l.take j++[nth l j]:=by
   rw [List.take_add_one]
   congr 1
   rw [nth_get (by omega)]
   rfl
  have hdj:l.drop (j+1)=nth l (j+1) :: l.drop (j+2):=drop_nth h
  have hlen:(l.take j).length=j:=by simp; omega
  by_cases hc:decide (cmp (nth l (j+1)) (nth l j) < 0)=true
  · rw [if_pos hc]
    rw [ih _ (by simp; omega)]
    have e1:((l.set (j+1) (nth l j)).set j (nth l (j+1))).take j=l.take j:=by
     rw [List.take_set_of_le (by omega),List.take_set_of_le (by omega)]
    have e2:nth ((l.set (j+1) (nth l j)).set j (nth l (j+1))) j=nth l (j+1):=by
     unfold nth
     rw [List.getD_eq_getElem?_getD,List.getElem?_set_self (by simp; omega)]; rfl
    have e3:((l.set (j+1) (nth l j)).set j (nth l (j+1))).drop (j+1)=nth l j :: l.drop (j+2):=by
     rw [List.drop_set_of_lt (by omega),drop_nth (by simp; omega)]
     congr 1
     · unfold nth
       rw [List.getD_eq_getElem?_getD,List.getElem?_set_self (by omega)]; rfl
     · rw [List.drop_set_of_lt (by omega)]
    rw [e1,e2,e3]
    have hpos:posG (fun a b=>decide (cmp a b < 0)) (nth l (j+1)) (l.take (j+1)) (l.take (j+1)).length=posG (fun a b=>decide (cmp a b < 0)) (nth l (j+1)) (l.take j) j:=by
     rw [show (l.take (j+1)).length=j+1 by rw [List.length_take]; omega]
     simp only [posG]
     rw [nth_take (by omega),if_pos hc]
     exact posG_congr _ _ _ fun i hi=>by rw [nth_take (by omega),nth_take hi]
    have hle:=posG_le (fun a b=>decide (cmp a b < 0)) (nth l (j+1)) (l.take j) j
    unfold insG
    rw [hpos,hlen]
    generalize posG (fun a b=>decide (cmp a b < 0)) (nth l (j+1)) (l.take j) j=p at *
    rw [htk,List.take_append_of_le_length (by omega),List.drop_append_of_le_length (by omega)]
    simp
  · rw [if_neg hc]
    have hpos:posG (fun a b=>decide (cmp a b < 0)) (nth l (j+1)) (l.take (j+1)) (l.take (j+1)).length=j+1:=by
     rw [show (l.take (j+1)).length=j+1 by rw [List.length_take]; omega]
     simp only [posG]
     rw [nth_take (by omega),if_neg hc]
    unfold insG
    rw [hpos]
    rw [List.take_of_length_le (l:=l.take (j+1)) (by simp; omega),List.drop_of_length_le (l:=l.take (j+1)) (by simp; omega),List.append_nil,List.append_assoc,List.singleton_append,← hdj,List.take_append_drop]
theorem insSort_fold (cmp:α→α→Int) (rest:List α):∀ (S:List α),insSort cmp 0 rest.length S.length (S++rest)=rest.foldl (insG fun a b=>decide (cmp a b < 0)) S:=by
 induction rest with
 | nil=>intro S; simp [insSort]
 | cons x rest ih =>
  intro S
  simp only [List.length_cons,insSort,List.foldl_cons]
  rw [sink_ins cmp S.length _ (by simp)]
  have e1:(S++x :: rest).take S.length=S:=by simp
  have e3:(S++x :: rest).drop (S.length+1)=rest:=by
   rw [List.drop_append]
   simp
  rw [e1,nth_append_len,e3]
  have:=ih (insG (fun a b=>decide (cmp a b < 0)) S x)
  rwa [insG_len] at this
theorem insSort_sortG (cmp:α→α→Int) (l:List α):insSort cmp 0 (l.length - 1) 1 l=sortG (fun a b=>decide (cmp a b < 0)) l:=by
 cases l with
 | nil=>rfl
 | cons x l =>
  have:=insSort_fold cmp l [x]
  simpa [sortG,insG,posG] using this
end
end Go.Proofs.Ytfjedpipdnlkfaa.AM

set_option linter.unusedVariables false
set_option linter.unusedSimpArgs false
set_option maxRecDepth 100000
namespace Go.Proofs.Ytfjedpipdnlkfaa.AM
open Go
section
variable {α:Type} [Inhabited α]
theorem insG_split {lt:α→α→Bool} (W:Weak lt) {out:List α} (h:Srt lt out) (x:α):insG lt out x=out.filter (fun y=>!lt x y)++x :: out.filter (fun y=>lt x y):=by
 obtain ⟨h1,h2⟩:=posG_spec lt x out out.length
 have hp:=posG_le lt x out out.length
 generalize hpe:posG lt x out out.length=p at *
 have hs:=pw_nth.1 h
 have hA:∀ y∈out.take p,lt x y=false:=by
  intro y hy
  obtain ⟨i,hi,rfl⟩:=mem_nth hy
  simp only [List.length_take] at hi
  have hi':i < p:=by omega
  rw [nth_take hi']
  have h3:=h2 (by omega)
  rcases Nat.lt_or_ge i (p - 1) with h4 | h4
  · exact W.trans _ _ _ (hs i (p - 1) h4 (by omega)) (by simpa using h3)
  · rw [show i=p - 1 by omega]; simpa using h3
 have hB:∀ y∈out.drop p,lt x y=true:=by
  intro y hy
  obtain ⟨i,hi,rfl⟩:=mem_nth hy
  simp only [List.length_drop] at hi
  rw [nth_drop]
  exact h1 (p+i) (by omega) (by omega)
 have e1:out.filter (fun y=>!lt x y)=out.take p:=by
  conv=>lhs; rw [← List.take_append_drop p out]
  rw [List.filter_append,List.filter_eq_self.2 (fun y hy=>by simp [hA y hy]),List.filter_eq_nil_iff.2 (fun y hy=>by simp [hB y hy]),List.append_nil]
 have e2:out.filter (fun y=>lt x y)=out.drop p:=by
  conv=>lhs; rw [← List.take_append_drop p out]
  rw [List.filter_append,List.filter_eq_nil_iff.2 (fun y hy=>by simp [hA y hy]),List.filter_eq_self.2 (fun y hy=>by simp [hB y hy]),List.nil_append]
 unfold insG
 rw [hpe,e1,e2]; simp
end
end Go.Proofs.Ytfjedpipdnlkfaa.AM

set_option linter.unusedVariables false
set_option linter.unusedSimpArgs false
set_option maxRecDepth 100000
namespace Go.Proofs.Ytfjedpipdnlkfaa.AM
open Go
attribute [local irreducible] Tp.card Tp.cardT Tp.next Tp.step Tp.key Tp.keyT
abbrev ltE (a b:Card):Bool:=decide (cmpK a.key b.key < 0)
theorem ltE_before:(fun a b:Card=>beforeK a.key b.key)=ltE:=by funext a b; exact (less_before a.key b.key).symm
theorem weakE:Weak ltE:=⟨fun a b h=>by rw [← ltE_before] at h ⊢; exact bk_asymm h,fun a b c h k=>by rw [← ltE_before] at h k ⊢; exact bk_le_trans h k⟩
end Go.Proofs.Ytfjedpipdnlkfaa.AM

set_option linter.unusedVariables false
set_option linter.unusedSimpArgs false
set_option maxRecDepth 100000
namespace Go.Proofs.Ytfjedpipdnlkfaa.AM
open Go
attribute [local irreducible] Tp.card Tp.cardT Tp.next Tp.step Tp.key Tp.keyT
end Go.Proofs.Ytfjedpipdnlkfaa.AM

set_option maxRecDepth 100000
set_option linter.unusedVariables false
set_option linter.unusedSimpArgs false
namespace Go.Proofs.Ytfjedpipdnlkfaa.AM
open Go Go.Proofs.Ytfjedpipdnlkfaa
attribute [local irreducible] ACalls funT codeT codeQ LoopTo
attribute [local irreducible] Tp.card Tp.cardT Tp.next Tp.step Tp.key Tp.keyT sink insSort beforeK sortP cmpK byteB cutS textB byteAt intB showsC hereL seenK cardB sealB sumStep sumB ofB strL
end Go.Proofs.Ytfjedpipdnlkfaa.AM

set_option maxRecDepth 100000
set_option linter.unusedVariables false
set_option linter.unusedSimpArgs false
namespace Go.Proofs.Ytfjedpipdnlkfaa.AM
open Go Go.Proofs.Ytfjedpipdnlkfaa
attribute [local irreducible] ACalls funT codeT codeQ LoopTo
attribute [local irreducible] Tp.card Tp.cardT Tp.next Tp.step Tp.key Tp.keyT sink insSort beforeK
def isNaNn_ann:Ann:={ fin:=some 0 }
theorem isNaNn_spec (n : Int)  : ACalls Try.prog 92 [(.int .i64 n)] ([] : Heap) ((AV.bool false), ([] : Heap)) :=
  specO (fn := Try.f92) (ann := isNaNn_ann) (Has.o Try.func92) (.r (.g (.r (.g (.f 0 (AV.bool (n != n)) (.e (AV.bool (n != n)) (by
        simp)))))))
theorem isNaNn_at (n:Int)  (H:Heap):ACalls Try.prog 92 [(.int .i64 n)] H ((AV.bool false),H):=(isNaNn_spec n ).lift kr kr H
def compareN_ann:Ann:={ fin:=some 0 }
theorem compareN_spec (a b : Int)  : ACalls Try.prog 82 [(.int .i64 a), (.int .i64 b)] ([] : Heap) ((AV.int .i64 (cmpI a b)), ([] : Heap)) :=
  specO (fn := Try.f82) (ann := compareN_ann) (Has.o Try.func82) (.r (.g (.r (.c 1 (isNaNn_at a  ([] : Heap)) (.g (.r (.c 1 (isNaNn_at b  ([] : Heap)) (.g (.r (.g (.no (.r (.g (.no (.r (.g (.two (decide (a < b)) (fun h1 h1' => (.r (.g (.f 0 (AV.int .i64 (-1)) (.e (AV.int .i64 (-1)) (by
        simp_all [cmpI] <;> omega)))))) (fun h1 h1' => (.r (.g (.two (decide (a > b)) (fun h2 h2' => (.r (.g (.f 0 (AV.int .i64 1) (.e (AV.int .i64 1) (by
        simp_all [cmpI] <;> omega)))))) (fun h2 h2' => (.r (.g (.f 0 (AV.int .i64 0) (.e (AV.int .i64 0) (by
        simp_all [cmpI] <;> omega)))))))))))))))))))))))))))
theorem compareN_at (a b:Int)  (H:Heap):ACalls Try.prog 82 [(.int .i64 a),(.int .i64 b)] H ((AV.int .i64 (cmpI a b)),H):=(compareN_spec a b ).lift kr kr H
def or3_ann:Ann:={ fin:=some 0 }
theorem or3_spec (x y z : Int)  : ACalls Try.prog 80 [(.sl .any 1 [[(.int .i64 x)], [(.int .i64 y)], [(.int .i64 z)]])] ([] : Heap) ((AV.int .i64 (if x = 0 then if y = 0 then z else y else x)), ([] : Heap)) :=
  specO (fn := Try.f80) (ann := or3_ann) (Has.o Try.func80) (.r (.g (.r (.g (.r (.g (.roll 4 (.r (.g (.yes (.r (.g (.r (.g (.two (x != 0) (fun h1 h1' => (.r (.g (.f 0 (AV.int .i64 x) (.e (AV.int .i64 x) (by
        simp_all)))))) (fun h1 h1' => (.r (.g (.r (.g (.yes (.r (.g (.r (.g (.two (y != 0) (fun h2 h2' => (.r (.g (.f 0 (AV.int .i64 y) (.e (AV.int .i64 y) (by
        simp_all)))))) (fun h2 h2' => (.r (.g (.r (.g (.yes (.r (.g (.r (.g (.two (z != 0) (fun h3 h3' => (.r (.g (.f 0 (AV.int .i64 z) (.e (AV.int .i64 z) (by
        simp_all)))))) (fun h3 h3' => (.r (.g (.r (.g (.no (.r (.g (.f 0 (AV.int .i64 0) (.e (AV.int .i64 0) (by
        simp_all))))))))))))))))))))))))))))))))))))))))))))))))
theorem or3_at (x y z:Int)  (H:Heap):ACalls Try.prog 80 [(.sl .any 1 [[(.int .i64 x)],[(.int .i64 y)],[(.int .i64 z)]])] H ((AV.int .i64 (if x=0 then if y=0 then z else y else x)),H):=(or3_spec x y z ).lift kr kr H
def cmpSt (a b:Stamp):Int:=if cmpI a.t b.t=0 then if cmpI a.n b.n=0 then cmpI a.node b.node else cmpI a.n b.n else cmpI a.t b.t
def stLess_ann:Ann:={ refs:=[2,3],fin:=some 0 }
theorem stLess_spec (a b:Stamp) :ACalls Try.prog 69 [(.agg (Stamp.row a)),(.agg (Stamp.row b))] ([]:Heap) ((AV.bool (decide (cmpSt a b < 0))),([]:Heap)) :=
 specO (fn:=Try.f69) (ann:=stLess_ann) (Has.o Try.func69) (.r (.g (.r (.c 4 (compareI_at a.t b.t  ([]:Heap)) (.c 9 (compareI_at a.n b.n  ([]:Heap)) (.c 14 (compareN_at a.node b.node  ([]:Heap)) (.c 16 (ACalls.pre (args:=[(AV.sl .any 1 [[(AV.int .i64 (cmpI a.t b.t))],[(AV.int .i64 (cmpI a.n b.n))],[(AV.int .i64 (cmpI a.node b.node))]])]) (args':=[(AV.sl .clip 1 [[(AV.int .i64 (cmpI a.t b.t))],[(AV.int .i64 (cmpI a.n b.n))],[(AV.int .i64 (cmpI a.node b.node))]])]) (or3_at (cmpI a.t b.t) (cmpI a.n b.n) (cmpI a.node b.node)  ([]:Heap)) ⟨⟨rfl,rfl,.inl rfl⟩,trivial⟩) (.g (.f 0 (AV.bool (decide ((if (cmpI a.t b.t)=0 then if (cmpI a.n b.n)=0 then (cmpI a.node b.node) else (cmpI a.n b.n) else (cmpI a.t b.t)) < 0))) (.e (AV.bool (decide ((if (cmpI a.t b.t)=0 then if (cmpI a.n b.n)=0 then (cmpI a.node b.node) else (cmpI a.n b.n) else (cmpI a.t b.t)) < 0)))))))))))))
theorem stLess_at (a b:Stamp)  (H:Heap):ACalls Try.prog 69 [(.agg (Stamp.row a)),(.agg (Stamp.row b))] H ((AV.bool (decide (cmpSt a b < 0))),H):=(stLess_spec a b ).lift kr kr H
end Go.Proofs.Ytfjedpipdnlkfaa.AM

set_option linter.unusedVariables false
set_option linter.unusedSimpArgs false
namespace Go.Proofs.Ytfjedpipdnlkfaa.AM
open Go
theorem ssem_copyN {P:Program} {F:Fr} {H:Heap} {dst:Option Tmp} {x y:Operand} {t t' e0:TypeId} {type:TypeId} {pos:String} {after:Array Edge} {guard:Option (Nat × Bool)} {id g k e n id2 g2 e2 n2:Nat} {els els2:List (List AV)} {room room2:Option Nat}
 (ht:P.underlying t=some (.slice e0)) (hk:∀ w:World,(Go.sizeOf e0).run P w=.ok k w) (hx:opv F x=some (.osl id g k e n)) (ho:H[id]?=some ⟨g,k,els,room⟩) (hy:opv F y=some (.osl id2 g2 k e2 n2)) (ho2:H[id2]?=some ⟨g2,k,els2,room2⟩)
 (h0:0 < n) (hn:n≤n2) (he:e≤els.length) (he2:e2+n≤els2.length) :
 SSem P F H ⟨dst,.call { callee:=.builtin .copy,args:=#[x,y],argTypes:=#[t,t'] },type,pos,after,guard⟩ (.int .i64 (n:Int),H.set id ⟨g,k,els.take e++(els2.drop e2).take n++els.drop (e+n),room⟩):=by
 intro G w C f hf hH
 have hv:=hf x (by simp [Op.operands,Call.operands]) _ hx
 have hvs:=hf y (by simp [Op.operands,Call.operands]) _ hy
 have hgen:g=C.γ id:=hH.gen id _ ho
 have hgen2:g2=C.γ id2:=hH.gen id2 _ ho2
 have hnl:((els2.drop e2).take n).length=n:=by simp; omega
 generalize hu2:f y=u2 at hvs
 cases hvs with
 | osl0=>omega
 | osl _ _ _ _ _ _ ad2 cap2 hnc2 hle2 hl2 =>
 have hvs':VR G w C (.osl id2 g2 k e2 n) (.slice (some ad2) n cap2):=.osl _ _ _ _ _ _ _ _ (by omega) hle2 fun hg=>by
  obtain ⟨l,b,q1,q2,q3,q4,q5⟩:=hl2 hg
  exact ⟨l,b,q1,q2,q3,by omega,q5⟩
 obtain ⟨nv,hsrc⟩:=rowsIn_src (P:=P) (k:=k) (xs:=(els2.drop e2).take n) hH hvs' (by simp [rowsIn,ho2,he2])
 generalize hu:f x=u at hv
 cases hv with
 | osl0=>omega
 | osl _ _ _ _ _ _ ad cap hnc hle h =>
  obtain ⟨l,bb,hι,hlb,hlk,hen,hcap,had⟩:=h hgen
  have had':=had (by omega)
  subst had'
  have hob:=hH.ob id _ l ho hι
  obtain ⟨cur,et,hcur,hcsz,_⟩:=hob.cells bb hlb
  obtain ⟨h1,h2⟩:=place_sound hH ho hι hlb hlk hsrc.length hsrc.row hsrc.rel he (by omega) hcur
  rw [hnl] at h2
  have hm:(e+n) * l.k≤l.room * l.k:=Nat.mul_le_mul_right _ (by omega)
  rw [Nat.add_mul] at hm
  have hnvl:nv.length=n * l.k:=by rw [hsrc.length,hlk,hnl]
  have hst:=run_storeCells_at P bb (l.sh+e * k) et nv 0 cur w hcur (by rw [← hlk]; simp; omega) hsrc.oneCell
  simp only [Nat.add_zero] at hst
  have hmin:Nat.min n2 n=n:=Nat.min_eq_right hn
  have hfc:(Builtin.firstCells k n (.slice (some ad2) n2 cap2)).run P w=.ok nv.toArray w:=by
   have:=hsrc.cells w rfl
   rw [hnl] at this
   exact this
  have hr:(Builtin.copy_ #[t,t'] type #[f x,f y]).run P w=.ok (.int .i64 (n:Int)) (w.setRow bb (cur.toList.take (l.sh+e * l.k)++nv++cur.toList.drop (l.sh+e * l.k+nv.length)).toArray):=by
   rw [hu,hu2,hlk]
   simp [Builtin.copy_,run_underlying ht,Builtin.lenOf,hmin,hk w,hfc,hst,goInt]
  refine ⟨_,_,?_,G,C,h1,h2,.int ..,?_⟩
  · simp [execOp,resolve,invoke,builtin,hr]
  · refine ⟨by simp,fun j hj _ hιj=>⟨hιj,rfl,?_⟩⟩
    have hne:id≠j:=fun e'=>by subst e'; rw [hι] at hιj; simp at hιj
    exact List.getElem?_set_ne hne
theorem run_overlaps_b {P:Program} (w:World) (tS tR e:TypeId) (ht:P.underlying tS=some (.slice e)) (size:Nat) (hz:∀ w,(Go.sizeOf e).run P w=.ok size w)
 (a b:Addr) (la ca lb cb:Nat) (hne:a.block≠b.block) (tA tB:TypeId) (kA kB:Nat)
 (hsa:w.shape? a.block=some (tA,kA)) (hsb:w.shape? b.block=some (tB,kB)) (hkB:kB≠0) (hkA:kA≠0)
 (hfb:w.frozen? b=false) (hfe:w.frozen? { block:=b.block,off:=kB }=false) :
 (Extern.SlicesOverlaps.overlaps #[tS,tS] #[tR] #[.slice (some a) la ca,.slice (some b) lb cb]).run P w=.ok (.bool false) w:=by
 have hnb:(a.block != b.block)=true:=by simpa using hne
 have hnb':(a.block == b.block)=false:=by simpa using hne
 change Sem.run P (α:=Value) (do
  let some t := (#[tS, tS] : Array TypeId)[0]? | stuck "slices.overlaps: no parameter types"
  let .slice elem ← underlying t | stuck "slices.overlaps: slice type expected"
  let size ← Go.sizeOf elem
  match (some a:Option Addr),(some b:Option Addr) with
  | some a,some b =>
   if la=0∨lb=0∨size=0 then pure (Value.bool false)
   else if a.block != b.block&&(← frozen a)&&(← frozen b) then unsupported .addressObserved
   else do
    if a.block != b.block then do
     noView a; noView b
     if ← mayBeOne a b then return Value.bool ((← choose (.extern "sameAddr.stringBytes" 2)) == 1)
    pure (Value.bool (a.block == b.block&&a.off < b.off+lb * size&&b.off < a.off+la * size))
  | _,_=>pure (Value.bool false)) w=_
 by_cases h0:la=0∨lb=0∨size=0
 · simp [run_underlying ht,hz,h0]
 · cases kB with
   | zero=>exact absurd rfl hkB
   | succ kB =>
    cases kA with
    | zero=>exact absurd rfl hkA
    | succ kA =>
    cases hfa:w.frozen? a <;> cases hfa2:w.frozen? { block:=a.block,off:=kA+1 } <;>
    simp [run_underlying ht,hz,h0,hnb,hnb',frozen,noView,viewAt,mayBeOne,stringish,shape,Sem.run,hsa,hsb,hfb,hfe,hfa,hfa2]
theorem acalls_overlaps {P:Program} {f:FuncId} {tS tR e0:TypeId} {k:Nat} (hc:∀ vs w,(callFunc f vs).run P w=((Extern.SlicesOverlaps.overlaps #[tS,tS] #[tR] vs).run P w).andThen fun v w'=>.ok (.value v) w')
 (ht:P.underlying tS=some (.slice e0)) (hk:∀ w:World,(Go.sizeOf e0).run P w=.ok k w) (hk0:0 < k) {tg:Tg} {rows:List (List AV)} {id g e n:Nat} {H:Heap} {o:Ob} (ho:H[id]?=some o) (hg:o.gen=g) :
 ACalls P f [.sl tg k rows,.osl id g k e n] H (.bool false,H):=by
 intro G w C vs hsz hargs hH
 have h0:=hargs 0 (by simp)
 have h1:=hargs 1 (by simp)
 have hvs:vs = #[vs.getD 0 undef,vs.getD 1 undef]:=by
  have hs2:vs.size=2:=by simpa using hsz
  apply Array.ext
  · simp [hs2]
  · intro i hi1 hi2
    rcases i with _ | _ | i
    · simp [Array.getD_eq_getD_getElem?,hs2]
    · simp [Array.getD_eq_getD_getElem?,hs2]
    · omega
 simp only [List.getD_cons_zero,List.getD_cons_succ] at h0 h1
 generalize vs.getD 0 undef=v0 at h0 hvs
 generalize vs.getD 1 undef=v1 at h1 hvs
 subst hvs
 have hdone:(Extern.SlicesOverlaps.overlaps #[tS,tS] #[tR] #[v0,v1]).run P w=.ok (.bool false) w→FCalls P f #[v0,v1] w (After G w C H (.bool false,H)):=fun hr=>by
  unfold FCalls
  have:=hc #[v0,v1] w
  rw [this]
  rw [hr,Result.andThen_ok]
  exact ⟨G,C,Ev.refl ..,hH,.bool ..,Pd.refl⟩
 apply hdone
 have hgen:g=C.γ id:=by rw [← hg]; exact hH.gen id o ho
 have hsome:∀ (a:Option Addr) la ca (b:Option Addr) lb cb,(a=none∨b=none∨la=0∨lb=0)→(Extern.SlicesOverlaps.overlaps #[tS,tS] #[tR] #[.slice a la ca,.slice b lb cb]).run P w=.ok (.bool false) w:=by
  intro a la ca b lb cb h
  change Sem.run P (α:=Value) (do
   let some t := (#[tS, tS] : Array TypeId)[0]? | stuck "slices.overlaps: no parameter types"
   let .slice elem ← underlying t | stuck "slices.overlaps: slice type expected"
   let size ← Go.sizeOf elem
   match (a:Option Addr),(b:Option Addr) with
   | some a,some b =>
    if la=0∨lb=0∨size=0 then pure (Value.bool false)
    else if a.block != b.block&&(← frozen a)&&(← frozen b) then unsupported .addressObserved
    else do
     if a.block != b.block then do
      noView a; noView b
      if ← mayBeOne a b then return Value.bool ((← choose (.extern "sameAddr.stringBytes" 2)) == 1)
     pure (Value.bool (a.block == b.block&&a.off < b.off+lb * size&&b.off < a.off+la * size))
   | _,_=>pure (Value.bool false)) w=_
  cases a <;> cases b <;> simp [run_underlying ht,hk w]
  intro h1 h2 h3
  rcases h with h | h | h | h
  · simp at h
  · simp at h
  · exact absurd h h1
  · exact absurd h h2
 generalize hu0:v0=u0 at h0
 cases h0 with
 | nils=>
  cases h1 with
  | osl=>subst hu0; exact hsome _ _ _ _ _ _ (.inl rfl)
  | osl0=>subst hu0; exact hsome _ _ _ _ _ _ (.inl rfl)
 | sl _ _ _ _ ad cap htg hclip hle hs cv hkl hcl h1' hv =>
  subst hu0
  cases h1 with
  | osl0=>exact hsome _ _ _ _ _ _ (.inr (.inr (.inr rfl)))
  | osl _ _ _ _ _ _ ad2 cap2 hnc hle2 hl2 =>
   by_cases hr0:rows.length=0
   · exact hsome _ _ _ _ _ _ (.inr (.inr (.inl hr0)))
   by_cases hn0:n=0
   · exact hsome _ _ _ _ _ _ (.inr (.inr (.inr hn0)))
   obtain ⟨l,b,hι,hlb,hlk,hen,hcap,had⟩:=hl2 hgen
   have had':=had (by omega)
   have hne:rows≠[]:=fun e=>by simp [e] at hr0
   obtain ⟨hsp,hG⟩:=hs hne
   have hcell:=hcl 0 0 (by omega) hk0
   obtain ⟨cs,et,hcs,hcsz,_⟩:=(hH.ob id o l ho hι).cells b hlb
   have hbG:=(hH.own id l b hι hlb).2
   have hm:(e+n) * l.k≤l.room * l.k:=Nat.mul_le_mul_right _ hen
   have hm2:1 * l.k≤(e+n) * l.k:=Nat.mul_le_mul_right _ (by omega)
   have hsa:∃ tA kA,w.shape? ad.block=some (tA,kA)∧kA≠0:=by
    unfold World.cell? at hcell
    unfold World.shape?
    split at hcell
    · rename_i c t fr hw
      refine ⟨t,c.size,by simp only at hw; rw [hw],fun e0=>?_⟩
      have:c = #[]:=Array.eq_empty_of_size_eq_zero e0
      simp [this] at hcell
    · simp at hcell
   obtain ⟨tA,kA,hsa,hkA⟩:=hsa
   have hb2:ad2.block=b:=by rw [had']
   refine run_overlaps_b w tS tR e0 ht k hk ad ad2 _ _ _ _ (fun e'=>?_) tA et kA cs.size hsa (by rw [hb2]; simp [World.shape?,hcs]) (by omega) hkA (by simp [World.frozen?,hb2,hcs]) (by simp [World.frozen?,hb2,hcs])
   rw [hb2] at e'
   exact hbG (e' ▸ hG)
end Go.Proofs.Ytfjedpipdnlkfaa.AM

set_option linter.unusedVariables false
set_option linter.unusedSimpArgs false
namespace Go.Proofs.Ytfjedpipdnlkfaa.AM
open Go
def regsOf:Code→Nat→Option (Array Oper)
 | .region id ops _,r=>bif Nat.beq id r then some ops else none
 | .seq a b,r=>match regsOf a r with
  | some x=>some x
  | none=>regsOf b r
 | .cond _ a b,r=>match regsOf a r with
  | some x=>some x
  | none=>regsOf b r
 | .block _ c,r=>regsOf c r
 | .loop c,r=>regsOf c r
 | _,_=>none
def opIn (fn:Func) (r i:Nat):Oper:=match (fn.body.bind (regsOf · r)).bind (·[i]?) with
 | some o=>o
 | none => ⟨none, .move (.tmp 0), 0, "", #[], none⟩
def argO (o:Oper) (i:Nat):Operand:=match o.op with
 | .call c=>c.args.getD i (.tmp 0)
 | .slice _ x _ _ _=>x
 | _=>.tmp 0
def loO (o:Oper):Option Operand:=match o.op with
 | .slice _ _ lo _ _=>lo
 | _=>none
def hiO (o:Oper):Operand:=match o.op with
 | .slice _ _ _ (some hi) _=>hi
 | _=>.tmp 0
section
variable {P:Program} {X:Env} {F:Fr} {H H2:Heap} {ar:Nat} {o:Oper} {a:AV}
theorem Sat.sem (hs:isSem X o=true) (h:SSem P F H o (a,H2)):Sat P X F H ar o a H2:=by
 unfold Sat
 rw [hs]
 exact .inl h
theorem tok_slice {T:TT} (hT:TOk P T) {t e:TypeId} {ti:TI} (ht:T t=some ti) (hd:ti.d=.slice e):P.underlying t=some (.slice e):=by
 have:=(hT t ti ht).und
 rw [hd] at this
 exact this
theorem tok_int {T:TT} (hT:TOk P T) {t:TypeId} {ti:TI} {k:IntKind} (ht:T t=some ti) (hd:ti.d=.int k):P.underlying t=some (.int k):=by
 have:=(hT t ti ht).und
 rw [hd] at this
 exact this
theorem one_of_scalar {v:Value} {a:AV} (h:ofScalar v=some a):v.oneCell'=true:=by
 unfold ofScalar at h
 split at h <;> first | rfl | simp at h
theorem one_of_scalars:∀ {vs:List Value} {as_:List AV},ofScalars vs=some as_→∀ v∈vs,v.oneCell'=true
 | [],_,_,v,hv=>by simp at hv
 | x :: xs,as_,h,v,hv=>by
  simp only [ofScalars] at h
  split at h
  · rename_i a l h1 h2
    simp only [List.mem_cons] at hv
    rcases hv with rfl | hv
    · exact one_of_scalar h1
    · exact one_of_scalars h2 v hv
  · simp at h
theorem scalars_len:∀ {vs:List Value} {as_:List AV},ofScalars vs=some as_→vs.length=as_.length
 | [],as_,h=>by simp [ofScalars] at h; subst h; rfl
 | x :: xs,as_,h=>by
  simp only [ofScalars] at h
  split at h
  · rename_i a l h1 h2
    simp only [Option.some.injEq] at h
    subst h
    simp [scalars_len h2]
  · simp at h
theorem sat_copy (hT:TOk P X.T) {t t' e0:TypeId} {ti te:TI} (hop:o.op=.call { callee:=.builtin .copy,args:=#[argO o 0,argO o 1],argTypes:=#[t,t'] }) (hsem:isSem X o=true) (ht:X.T t=some ti) (htd:ti.d=.slice e0) (hte:X.T e0=some te)
 {id g k e n:Nat} {els new els':List (List AV)} {room:Option Nat} {s:AV} {c:Int} (hk:te.size=k) (hx:opv F (argO o 0)=some (.osl id g k e n)) (ho:H[id]?=some ⟨g,k,els,room⟩) (hy:opv F (argO o 1)=some s) (hs:rowsIn H k s=some new)
 (h0:0 < new.length) (hn:new.length≤n) (he:e≤els.length) (hels:els.take e++new++els.drop (e+new.length)=els') (hc:c=(new.length:Int)) (hH:H.set id ⟨g,k,els',room⟩=H2):Sat P X F H ar o (.int .i64 c) H2:=by
 refine Sat.sem hsem ?_
 subst hH hels hc hk
 obtain ⟨dst,op,type,pos,after,guard⟩:=o
 simp only at hop
 generalize argO _ 0=x at hop hx
 generalize argO _ 1=y at hop hy
 subst hop
 exact ssem_copy (tok_slice hT ht htd) (fun w=>(hT _ _ hte).sizeOf w) hx ho hy hs h0 hn he
theorem sat_copyN (hT:TOk P X.T) {t t' e0:TypeId} {ti te:TI} (hop:o.op=.call { callee:=.builtin .copy,args:=#[argO o 0,argO o 1],argTypes:=#[t,t'] }) (hsem:isSem X o=true) (ht:X.T t=some ti) (htd:ti.d=.slice e0) (hte:X.T e0=some te)
 {id g k e n id2 g2 e2 n2:Nat} {els els2 els':List (List AV)} {room room2:Option Nat} {c:Int} (hk:te.size=k) (hx:opv F (argO o 0)=some (.osl id g k e n)) (ho:H[id]?=some ⟨g,k,els,room⟩) (hy:opv F (argO o 1)=some (.osl id2 g2 k e2 n2)) (ho2:H[id2]?=some ⟨g2,k,els2,room2⟩)
 (h0:0 < n) (hn:n≤n2) (he:e≤els.length) (he2:e2+n≤els2.length) (hels:els.take e++(els2.drop e2).take n++els.drop (e+n)=els') (hc:c=(n:Int)) (hH:H.set id ⟨g,k,els',room⟩=H2):Sat P X F H ar o (.int .i64 c) H2:=by
 refine Sat.sem hsem ?_
 subst hH hels hc hk
 obtain ⟨dst,op,type,pos,after,guard⟩:=o
 simp only at hop
 generalize argO _ 0=x at hop hx
 generalize argO _ 1=y at hop hy
 subst hop
 exact ssem_copyN (tok_slice hT ht htd) (fun w=>(hT _ _ hte).sizeOf w) hx ho hy ho2 h0 hn he he2
theorem sat_cap (hT:TOk P X.T) {t e0:TypeId} {ti:TI} (hop:o.op=.call { callee:=.builtin .cap,args:=#[argO o 0],argTypes:=#[t] }) (hsem:isSem X o=true) (ht:X.T t=some ti) (htd:ti.d=.slice e0)
 {id g k e n r:Nat} {els:List (List AV)} {c:Int} (hx:opv F (argO o 0)=some (.osl id g k e n)) (ho:H[id]?=some ⟨g,k,els,some r⟩) (hc:c=((r - e:Nat):Int)):Sat P X F H ar o (.int .i64 c) H:=by
 refine Sat.sem hsem ?_
 subst hc
 obtain ⟨dst,op,type,pos,after,guard⟩:=o
 simp only at hop
 generalize argO _ 0=x at hop hx
 subst hop
 exact ssem_cap (tok_slice hT ht htd) hx ho
theorem sat_slice (hT:TOk P X.T) {t e0:TypeId} {ti te:TI} (hop:o.op=.slice t (argO o 0) (loO o) (some (hiO o)) none) (hsem:isSem X o=true) (ht:X.T t=some ti) (htd:ti.d=.slice e0) (hte:X.T e0=some te)
 {id g k e n r l h e' n':Nat} {els:List (List AV)} (hk:te.size=k) (hx:opv F (argO o 0)=some (.osl id g k e n)) (ho:H[id]?=some ⟨g,k,els,some r⟩) (hlo:optInt F (loO o) 0=some (l:Int)) (hhi:optInt F (some (hiO o)) 0=some (h:Int)) (h1:l≤h) (h2:e+h≤r) (he':e'=e+l) (hn':n'=h - l) :
 Sat P X F H ar o (.osl id g k e' n') H:=by
 refine Sat.sem hsem ?_
 subst hk he' hn'
 obtain ⟨dst,op,type,pos,after,guard⟩:=o
 simp only at hop
 generalize argO _ 0=x at hop hx
 generalize loO _=lo at hop hlo
 generalize hiO _=hi at hop hhi
 subst hop
 exact ssem_slice (tok_slice hT ht htd) (fun w=>(hT _ _ hte).sizeOf w) hx ho hlo hhi h1 h2
theorem sat_make (hT:TOk P X.T) {t t' e0:TypeId} {ti ti' te:TI} {kk kx:IntKind} (hop:o.op=.call { callee:=.builtin .append,args:=#[argO o 0,argO o 1],argTypes:=#[t,t'] }) (hsem:isSem X o=true) (ht:X.T t=some ti) (htd:ti.d=.slice e0) (hte:X.T e0=some te) (ht':X.T t'=some ti') (htd':ti'.d=.int kk)
 {id g k e n n' r c:Nat} {els ys els':List (List AV)} (hk:te.size=k) (hx:opv F (argO o 0)=some (.osl id g k e n)) (ho:H[id]?=some ⟨g,k,els,some r⟩) (hrows:rowsIn H k (.osl id g k e n)=some ys) (hlen:ys.length=n) (hy:opv F (argO o 1)=some (.int kx (c:Int)))
 (hg:r - e < n+c) (hb:0 < te.bytes) (hs:0 < k) (hc:0 < c) (hby:(n+c) * te.bytes≤140737488355328) (hels:ys++List.replicate c (List.replicate k .unk)=els') (hn':n'=n+c) (hH:H++[⟨0,k,els',none⟩]=H2) :
 Sat P X F H ar o (.osl H.length 0 k 0 n') H2:=by
 refine Sat.sem hsem ?_
 subst hk hels hH hn'
 obtain ⟨dst,op,type,pos,after,guard⟩:=o
 simp only at hop
 generalize argO _ 0=x at hop hx
 generalize argO _ 1=y at hop hy
 subst hop
 obtain ⟨i,hi,hsz,hbt,z,hz,hzs,hzl,hza⟩:=(hT _ _ hte).info
 rw [← hsz] at hx ho hrows hs ⊢
 rw [← hbt] at hb hby
 exact ssem_make (tok_slice hT ht htd) (tok_int hT ht' htd') hi hz (by have:=scalars_len hzs; simp at this; omega) (one_of_scalars hzs) hx ho hrows hlen hy hg hb hs hc hby
end
section
variable {α:Type} (row:α→List AV) (x:α) (u:List AV)
theorem ins1 (l:List α) {i c:Nat} (hi:i≤l.length) (hc:0 < c):((l.take i).map row++List.replicate c u).take i++[row x]++((l.take i).map row++List.replicate c u).drop (i+1)=(l.take i++[x]).map row++List.replicate (c - 1) u:=by
 have hl:((l.take i).map row).length=i:=by simp; omega
 rw [List.take_append_of_le_length (by omega),List.take_of_length_le (by omega),List.drop_append,hl,List.drop_of_length_le (by omega)]
 simp
theorem ins2 (l:List α) {i c:Nat} (hi:i≤l.length) (hc:c=l.length - i):((l.take i++[x]).map row++List.replicate c u).take (i+1)++(l.drop i).map row++((l.take i++[x]).map row++List.replicate c u).drop (i+1+((l.drop i).map row).length)=(l.take i++x :: l.drop i).map row:=by
 have hl:((l.take i++[x]).map row).length=i+1:=by simp; omega
 have h2:((l.take i++[x]).map row++List.replicate c u).drop (i+1+((l.drop i).map row).length)=[]:=List.drop_of_length_le (by rw [List.length_append,hl,List.length_replicate,List.length_map,List.length_drop]; omega)
 rw [h2,List.take_append_of_le_length (by omega),List.take_of_length_le (by omega)]
 simp
theorem ins3 (l:List α) {i:Nat} (hi:i < l.length):(l.map row).take (i+1)++((l.map row).drop i).take (l.length - i)++(l.map row).drop (i+1+(l.length - i))=(l.take (i+1)++l.drop i).map row:=by
 rw [List.take_of_length_le (l:=(l.map row).drop i) (by simp),List.drop_of_length_le (i:=i+1+(l.length - i)) (by simp; omega)]
 simp [List.map_take,List.map_drop]
theorem ins4 (l:List α) {i:Nat} (hi:i < l.length):((l.take (i+1)++l.drop i).map row).take i++[row x]++((l.take (i+1)++l.drop i).map row).drop (i+1)=(l.take i++x :: l.drop i).map row:=by
 have hl:(l.take (i+1)).length=i+1:=by simp; omega
 rw [← List.map_take,← List.map_drop,List.take_append_of_le_length (by omega),List.take_take,List.drop_append,hl,List.drop_of_length_le (by omega)]
 simp
end
end Go.Proofs.Ytfjedpipdnlkfaa.AM

set_option linter.unusedVariables false
set_option linter.unusedSimpArgs false
namespace Go.Proofs.Ytfjedpipdnlkfaa.AM
open Go
theorem ACalls.insert {P:Program} {f:FuncId} {α:Type} {row:α→List AV} {k:Nat} (hrow:∀ (n:Nat) (l:List α),AV.bddss n (l.map row)=true) {l:List α} {x:α} {g i:Nat} (hi:i≤l.length)
 (hE:ACalls P f [.osl 0 g k 0 l.length,.int .i64 (l.length:Int),.sl .clip k [row x]] [⟨g,k,l.map row,none⟩] (.osl 0 (g+1) k 0 (l.length+1),[⟨g+1,k,(l++[x]).map row,none⟩]))
 (hG:i < l.length→∀ r,r < l.length+1→ACalls P f [.osl 0 g k 0 l.length,.int .i64 (i:Int),.sl .clip k [row x]] [⟨g,k,l.map row,some r⟩] (.osl 1 0 k 0 (l.length+1),[⟨g,k,l.map row,some r⟩,⟨0,k,(l.take i++x :: l.drop i).map row,none⟩]))
 (hR:i < l.length→∀ r,l.length+1≤r→ACalls P f [.osl 0 g k 0 l.length,.int .i64 (i:Int),.sl .clip k [row x]] [⟨g,k,l.map row,some r⟩] (.osl 0 g k 0 (l.length+1),[⟨g,k,(l.take i++x :: l.drop i).map row,some r⟩])) :
 ACalls P f [.osl 0 g k 0 l.length,.int .i64 (i:Int),.sl .clip k [row x]] [⟨g,k,l.map row,none⟩] (.osl 0 (g+1) k 0 (l.length+1),[⟨g+1,k,(l.take i++x :: l.drop i).map row,none⟩]):=by
 by_cases hil:i=l.length
 · subst hil
   rw [List.take_length,List.drop_length]
   exact hE
 have hlt:i < l.length:=by omega
 refine ACalls.room (id:=0) (i:=0) (g:=g) (k:=k) (e:=0) (n:=l.length) (els:=l.map row) rfl rfl fun r hr=>?_
 show ACalls P f _ [⟨g,k,l.map row,some r⟩] _
 have hlen:(l.take i++x :: l.drop i).length=l.length+1:=by simp; omega
 rcases Nat.lt_or_ge r (l.length+1) with h | h
 · have h1:=(hG hlt r h).ghost (i:=0) (id:=0) (g:=g) (x:=.osl 0 g k 0 l.length) (a':=.osl 0 (g+1) k 0 (l.length+1)) (H2:=[⟨g+1,k,(l.take i++x :: l.drop i).map row,none⟩]++[⟨1,k,[],none⟩]) rfl (.inr ⟨_,_,_,rfl⟩) rfl rfl rfl rfl
    fun G w C v hH hv hl=>steal_sound (id:=0) (j:=1) (g:=g) (gj:=0) hH (by decide) rfl rfl rfl rfl hv hl
   refine h1.forget rfl rfl fun id o ho=>.inr ?_
   cases id with
   | zero =>
    simp only [List.getElem?_cons_zero,Option.some.injEq] at ho
    subst ho
    exact hrow _ _
   | succ id=>simp at ho
 · have h1:=(hR hlt r h).ghost0 (a':=.osl 0 (g+1) k 0 (l.length+1)) (H2:=[⟨g+1,k,(l.take i++x :: l.drop i).map row,some r⟩]) fun G w C v hH hv=>by
    obtain ⟨C',q⟩:=gen_sound hH hv (o:=⟨g,k,(l.take i++x :: l.drop i).map row,some r⟩) rfl rfl (Nat.le_succ g)
    exact ⟨G,C',q⟩
   have h2:=h1.shrink (m:=l.length+1) rfl
   have e:((l.take i++x :: l.drop i).map row).take (l.length+1)=(l.take i++x :: l.drop i).map row:=List.take_of_length_le (by rw [List.length_map]; omega)
   rw [e] at h2
   exact h2
end Go.Proofs.Ytfjedpipdnlkfaa.AM

set_option linter.unusedVariables false
set_option linter.unusedSimpArgs false
namespace Go.Proofs.Ytfjedpipdnlkfaa.AM
open Go
def AV.scalss (els:List (List AV)):Bool:=els.all fun r=>r.all AV.scal
theorem scalss_get {els:List (List AV)} (h:AV.scalss els=true) {i j:Nat} (hi:i < els.length) (hj:j < (els.getD i []).length):((els.getD i []).getD j .skip).scal=true:=by
 have h1:els.getD i []∈els:=by
  rw [List.getD_eq_getElem?_getD,List.getElem?_eq_getElem hi]; exact List.getElem_mem _
 have h3:=List.all_eq_true.1 h _ h1
 generalize els.getD i []=r at hj h3 ⊢
 have h2:r.getD j .skip∈r:=by
  rw [List.getD_eq_getElem?_getD,List.getElem?_eq_getElem hj]; exact List.getElem_mem _
 exact List.all_eq_true.1 h3 _ h2
theorem scalss_map {α:Type} {row:α→List AV} (h:∀ x,(row x).all AV.scal=true) (l:List α):AV.scalss (l.map row)=true:=by
 unfold AV.scalss
 rw [List.all_eq_true]
 intro r hr
 obtain ⟨x,_,rfl⟩:=List.mem_map.1 hr
 exact h x
theorem ACalls.borrow_osl {P:Program} {f:FuncId} {args args':List AV} {g k n:Nat} {o:Ob} (h:ACalls P f args [] (.osl 0 g k 0 n,[o])) (ho:AV.scalss o.els=true) {H:Heap} (hb:Brs H args' args):ACalls P f args' H (.osl H.length g k 0 n,H++[o]):=by
 intro G w C vs hsz hargs hH
 obtain ⟨hlen,hbr⟩:=Brs.get hb
 have key:∀ i,i < args.length→VR (fun b=>G b∨∃ id l,C.ι id=some l∧l.b=some b) w Cx.none (args.getD i .skip) (vs.getD i undef):=by
  intro i hi
  have hv:=hargs i (by omega)
  rcases hbr i hi with ⟨e,h0⟩ | ⟨id,g,k,e,n,rows,h1,h2,h3,h4⟩
  · rw [e] at hv
    have:=hv.cut 0 h0
    rw [cut_zero] at this
    exact this.mono (fun b hb=>.inl hb) (fun _ _=>rfl) (CxLe.refl _)
  · rw [h1] at hv
    rw [h2]
    obtain ⟨G',C',e1,e2,e3,_⟩:=freeze_sound hH hv h3 h4
    have:=e3.cut 0 rfl
    rw [cut_zero] at this
    refine this.mono (fun b hb=>?_) (fun _ _=>rfl) (CxLe.refl _)
    rcases e1.grow b hb with h5 | h5 | h5
    · exact .inl h5
    · exact .inr h5
    · have:=e2.gsz b hb; omega
 refine (h _ w Cx.none vs (by omega) key
  ⟨fun id o ho=>by simp at ho,fun id _=>⟨rfl,rfl⟩,fun id l b hl=>by simp [Cx.none] at hl,fun i j l l' b hl=>by simp [Cx.none] at hl,fun id o l ho=>by simp at ho,
   fun b hb=>hb.elim (hH.gsz b) fun ⟨id,l,h1,h2⟩=>(hH.own id l b h1 h2).1⟩).mono fun v w' ⟨G2,C2,he,hh,hv,hp⟩=>?_
 have hall:∀ b,b < w.heap.size→w'.heap[b]?=w.heap[b]?:=fun b hb=>he.rest b hb fun id l hl=>by simp [Cx.none] at hl
 obtain ⟨hγn,hιn⟩:=hH.out H.length (Nat.le_refl _)
 have hnew:∀ l b,C2.ι 0=some l→l.b=some b→w.heap.size≤b:=fun l b hl hb=>by
  rcases he.own 0 l b hl hb with ⟨j,m,hm,_⟩ | h1
  · simp [Cx.none] at hm
  · exact h1
 have hC1:(C.lay H.length (C2.ι 0) (C2.γ 0)).ι H.length=C2.ι 0:=Cx.lay_ι ..
 have hC2:(C.lay H.length (C2.ι 0) (C2.γ 0)).γ H.length=C2.γ 0:=Cx.lay_γ ..
 have hC3:∀ j,j≠H.length→(C.lay H.length (C2.ι 0) (C2.γ 0)).ι j=C.ι j∧(C.lay H.length (C2.ι 0) (C2.γ 0)).γ j=C.γ j:=fun j hj=>Cx.lay_ne _ _ _ _ hj
 generalize C.lay H.length (C2.ι 0) (C2.γ 0)=C' at hC1 hC2 hC3
 have hcx:CxLe C C':=fun j=>by
  by_cases hj:j=H.length
  · subst hj; rw [hC2,hγn,hC1,hιn]; exact ⟨Nat.zero_le _,fun _ l hl=>by simp at hl⟩
  · rw [(hC3 j hj).1,(hC3 j hj).2]; exact ⟨Nat.le_refl _,fun _ l hl=>hl⟩
 have hev:Ev G w C G w' C':=⟨he.os,he.tape,he.output,he.size,fun _ h=>h,fun b hb=>hall b (hH.gsz b hb),hcx,fun b hb _=>hall b hb,fun _ h=>.inl h,fun id l b h1 h2=>by
  by_cases hj:id=H.length
  · subst hj; rw [hC1] at h1; exact .inr (hnew l b h1 h2)
  · rw [(hC3 id hj).1] at h1; exact .inl ⟨id,l,h1,h2⟩,he.frz⟩
 have hget:∀ (j:Nat) (oj:Ob),(H++[o])[j]?=some oj→(j < H.length∧H[j]?=some oj)∨(j=H.length∧oj=o):=fun j oj hj=>by
  rcases Nat.lt_or_ge j H.length with h' | h'
  · rw [List.getElem?_append_left h'] at hj; exact .inl ⟨h',hj⟩
  · have:=heap_lt hj
    simp at this
    obtain rfl:j=H.length:=by omega
    simp at hj
    exact .inr ⟨rfl,hj.symm⟩
 refine ⟨G,C',hev,⟨fun j oj hj=>?_,fun j hj=>?_,fun j l b hl hlb=>?_,fun i j l l' b hi hj hb hb'=>?_,fun j oj l hj hl=>?_,fun b hb=>Nat.lt_of_lt_of_le (hH.gsz b hb) he.size⟩,?_,by simp,fun j hj _ hιj=>?_⟩
 · rcases hget j oj hj with ⟨h1,h2⟩ | ⟨rfl,rfl⟩
   · rw [(hC3 j (by omega)).2]; exact hH.gen j oj h2
   · rw [hC2]; exact hh.gen 0 oj rfl
 · simp only [List.length_append,List.length_singleton] at hj
   rw [(hC3 j (by omega)).1,(hC3 j (by omega)).2]; exact hH.out j (by omega)
 · by_cases hj:j=H.length
   · subst hj; rw [hC1] at hl
     obtain ⟨q1,q2⟩:=hh.own 0 l b hl hlb
     exact ⟨q1,fun hg=>q2 (he.lock b (.inl hg))⟩
   · rw [(hC3 j hj).1] at hl
     obtain ⟨q1,q2⟩:=hH.own j l b hl hlb
     exact ⟨Nat.lt_of_lt_of_le q1 he.size,q2⟩
 · by_cases h1:i=H.length <;> by_cases h2:j=H.length
   · omega
   · subst h1; rw [hC1] at hi; rw [(hC3 j h2).1] at hj
     have:=hnew l b hi hb; have:=(hH.own j l' b hj hb').1; omega
   · subst h2; rw [hC1] at hj; rw [(hC3 i h1).1] at hi
     have:=hnew l' b hj hb'; have:=(hH.own i l b hi hb).1; omega
   · rw [(hC3 i h1).1] at hi; rw [(hC3 j h2).1] at hj
     exact hH.inj i j l l' b hi hj hb hb'
 · rcases hget j oj hj with ⟨h1,h2⟩ | ⟨rfl,rfl⟩
   · rw [(hC3 j (by omega)).1] at hl
     exact (hH.ob j oj l h2 hl).ev hev fun b hb=>hall b (hH.own j l b hl hb).1
   · rw [hC1] at hl
     have hob:=hh.ob 0 oj l rfl hl
     refine ⟨hob.k,hob.rm,hob.no,hob.len,hob.row,fun b hb=>?_⟩
     obtain ⟨cs,et,q1,q2,q3⟩:=hob.cells b hb
     exact ⟨cs,et,q1,q2,fun i j hi hj=>⟨(q3 i j hi hj).1,(q3 i j hi hj).2.scal (scalss_get ho hi (by rw [hob.row i hi]; exact hj))⟩⟩
 · cases hv with
   | osl _ _ _ _ _ _ ad cap hnc hle hl =>
    refine .osl _ _ _ _ _ _ _ _ hnc (by rw [hC2]; exact hle) fun hg=>?_
    rw [hC2] at hg
    rw [hC1]
    exact hl hg
   | osl0 _ _ _ _ _ base hle hl =>
    refine .osl0 _ _ _ _ _ _ (by rw [hC2]; exact hle) fun hg=>?_
    rw [hC2] at hg
    rw [hC1]
    exact hl hg
 · rw [(hC3 j (by omega)).1,(hC3 j (by omega)).2,List.getElem?_append_left hj]
   exact ⟨hιj,rfl,rfl⟩
end Go.Proofs.Ytfjedpipdnlkfaa.AM

set_option linter.unusedVariables false
set_option linter.unusedSimpArgs false
namespace Go.Proofs.Ytfjedpipdnlkfaa.AM
open Go
theorem ACalls.virField {P:Program} {f:FuncId} {args:List AV} {a:AV} {k k0:Nat} (h:ACalls P f args [] (.obj 0 0 0 0,[⟨0,2,[[a,.sl .nil k0 []]],none⟩])):ACalls P f args [] (.obj 0 0 0 0,[⟨0,2,[[a,.osl 1 0 k 0 0]],none⟩,⟨0,k,[],none⟩]) :=
 h.ghost0 fun G w C v hH hv=>vir_cell_sound (id:=0) (e:=0) (c:=1) (k0:=k0) (o:=⟨0,2,[[a,.sl .nil k0 []]],none⟩) hH k rfl (by simp) (by simp) rfl hv (VR.shows hv (id:=0) (g:=0) (.inl ⟨_,_,rfl⟩) (by simpa using hH.gen 0 _ rfl))
end Go.Proofs.Ytfjedpipdnlkfaa.AM

set_option linter.unusedVariables false
set_option linter.unusedSimpArgs false
namespace Go.Proofs.Ytfjedpipdnlkfaa.AM
open Go
end Go.Proofs.Ytfjedpipdnlkfaa.AM

set_option linter.unusedVariables false
set_option linter.unusedSimpArgs false
namespace Go.Proofs.Ytfjedpipdnlkfaa.AM
open Go
section
variable {G:Nat→Prop} {w:World} {C:Cx} {H:Heap}
end
end Go.Proofs.Ytfjedpipdnlkfaa.AM

set_option linter.unusedVariables false
set_option linter.unusedSimpArgs false
namespace Go.Proofs.Ytfjedpipdnlkfaa.AM
open Go
theorem ACalls.reclone {P:Program} {f:FuncId} {k n e g m:Nat} {els ys:List (List AV)} (h:ACalls P f [.sl .any k ys] [] (.osl 0 0 k 0 m,[⟨0,k,ys,none⟩])) (hs:AV.scalss ys=true) (hy:AV.bddss 1 ys=true)
 (hb:Brs [⟨g,k,els,none⟩] [.osl 0 g k e n] [.sl .any k ys]):ACalls P f [.osl 0 g k e n] [⟨g,k,els,none⟩] (.osl 0 (g+1) k 0 m,[⟨g+1,k,ys,none⟩]):=by
 have h0:=h.borrow_osl hs hb
 have h1:=h0.ghost (i:=0) (id:=0) (g:=g) (x:=.osl 0 g k e n) (a':=.osl 0 (g+1) k 0 m) (H2:=[⟨g+1,k,ys,none⟩]++[⟨1,k,[],none⟩]) rfl (.inr ⟨_,_,_,rfl⟩) rfl rfl rfl rfl
  fun G w C v hH hv hl=>steal_sound (id:=0) (j:=1) (g:=g) (gj:=0) hH (by decide) rfl rfl rfl rfl hv hl
 refine h1.forget rfl rfl fun id o ho=>.inr ?_
 cases id with
 | zero =>
  simp only [List.getElem?_cons_zero,Option.some.injEq] at ho
  subst ho
  exact hy
 | succ id=>simp at ho
theorem IdxOsl.mko {id g k n e0:Nat} {i:Int} {j:Nat} (m:Nat) (H:Heap) (hi:i=(m:Int)) (hj:m < n) (he:j=e0+m):IdxOsl id g k k e0 n i H j:=by
 subst hi he
 have:(m:Int) < (n:Int):=by omega
 simp [IdxOsl,this]
end Go.Proofs.Ytfjedpipdnlkfaa.AM

set_option linter.unusedVariables false
set_option linter.unusedSimpArgs false
namespace Go.Proofs.Ytfjedpipdnlkfaa.AM
open Go
def ixX (o:Oper):Operand:=match o.op with
 | .index _ x _=>x
 | _=>.tmp 0
def ixN (o:Oper):Operand:=match o.op with
 | .index _ _ i=>i
 | _=>.tmp 0
theorem str_get {s:ByteArray} {i:Nat} (h:i < s.size):∃ b:UInt8,s[i]?=some b∧nth (strL s) i=(b.toNat:Int):=by
 refine ⟨s[i],by simp [h],?_⟩
 have h2:i < s.data.toList.length:=by simpa using h
 unfold strL nth
 rw [List.getD_eq_getElem?_getD,List.getElem?_map,List.getElem?_eq_getElem h2]
 rfl
theorem sat_index {P:Program} {X:Env} {F:Fr} {H:Heap} {ar:Nat} {o:Oper} (hT:TOk P X.T) {xt:TypeId} {ts:TI} {s:ByteArray} {i:Int} {n:Nat} (hop:o.op=.index xt (ixX o) (ixN o)) (hsem:isSem X o=true) (hs:X.T xt=some ts) (hsd:ts.d=.string)
 (hx:opv F (ixX o)=some (.str s)) (hi:opv F (ixN o)=some (.int .i64 i)) (hn:i=(n:Int)) (hlt:n < s.size):Sat P X F H ar o (.int .u8 (nth (strL s) n)) H:=by
 refine Sat.sem hsem ?_
 obtain ⟨dst,op,type,pos,after,guard⟩:=o
 simp only at hop
 generalize ixX _=x at hop hx
 generalize ixN _=y at hop hi
 subst hop hn
 intro G w C f hf hH
 have hv:=hf x (by simp [Op.operands]) _ hx
 have hv2:=hf y (by simp [Op.operands]) _ hi
 generalize hu:f x=u at hv
 generalize hu2:f y=u2 at hv2
 cases hv
 cases hv2
 have h2:P.underlying xt=some .string:=by
  have:=(hT _ _ hs).und
  rw [hsd] at this
  exact this
 obtain ⟨b,hb,hnb⟩:=str_get hlt
 have hr:(Instr.index xt (f x) (f y)).run P w=.ok (.int .u8 b.toNat) w:=by
  rw [hu,hu2]
  simp [Instr.index,asIntOf,run_underlying h2,hb]
 rw [hnb]
 exact ⟨_,w,by simp [execOp,hr],G,C,Ev.refl ..,hH,.int ..,Pd.refl⟩
end Go.Proofs.Ytfjedpipdnlkfaa.AM

set_option maxRecDepth 100000
set_option linter.unusedVariables false
set_option linter.unusedSimpArgs false
namespace Go.Proofs.Ytfjedpipdnlkfaa.AM
open Go Go.Proofs.Ytfjedpipdnlkfaa
attribute [local irreducible] ACalls funT codeT codeQ LoopTo
def stR (s:Stamp):Bool:=decide (0≤s.t)&&(decide (0≤s.n)&&(decide (0≤s.node)&&decide (s.node < 6)))
def stRight_ann:Ann:={ refs:=[1],fin:=some 0 }
theorem stRight_spec (s : Stamp)  : ACalls Try.prog 49 [(.agg (Stamp.row s))] ([] : Heap) ((AV.bool (stR s)), ([] : Heap)) :=
  specO (fn := Try.f49) (ann := stRight_ann) (Has.o Try.func49) (.r (.g (.r (.two (decide (s.t ≥ 0)) (fun h1 h1' => (.yes (.yes (.two (decide (s.n ≥ 0)) (fun h2 h2' => (.yes (.yes (.two (decide (s.node ≥ 0)) (fun h3 h3' => (.yes (.yes (.g (.f 0 (AV.bool (decide (s.node < 6))) (.e (AV.bool (decide (s.node < 6))) (by
        simp only [stR]
        simp_all <;> omega))))))) (fun h3 h3' => (.no (.no (.g (.f 0 (AV.bool false) (.e (AV.bool false) (by
        simp only [stR]
        simp_all <;> omega))))))))))) (fun h2 h2' => (.no (.no (.no (.no (.no (.g (.f 0 (AV.bool false) (.e (AV.bool false) (by
        simp only [stR]
        simp_all <;> omega)))))))))))))) (fun h1 h1' => (.no (.no (.no (.no (.no (.no (.no (.no (.g (.f 0 (AV.bool false) (.e (AV.bool false) (by
        simp only [stR]
        simp_all <;> omega)))))))))))))))))
theorem stRight_at (s:Stamp)  (H:Heap):ACalls Try.prog 49 [(.agg (Stamp.row s))] H ((AV.bool (stR s)),H):=(stRight_spec s ).lift kr kr H
end Go.Proofs.Ytfjedpipdnlkfaa.AM
