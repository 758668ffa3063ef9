/-
  Texts of this claim, part 7 of 7: an abstract machine over the model; what functions come to; plain laws.
-/
import Derived.Test.YtmghjcbabebanaaGreatMServerPairs6
import Derived.Below
import Derived.Carry
import Derived.ChangeSlices
set_option maxRecDepth 100000
set_option linter.unusedVariables false
set_option linter.unusedSimpArgs false
namespace Go.Proofs.YtmghjcbabebanaaGreat.AM
open Go Go.RowKit
theorem Ev.below {G G':Nat->Prop} {w w':World} {C':Cx} (h:Ev G w Cx.none G' w' C'):Below w.heap.size w w' :=
 ⟨h.os,h.tape,h.output,h.size,fun b hb=>h.rest b hb fun id l hl=>by simp [Cx.none] at hl⟩
def sQ (w:World) (a:Option Addr) (len cap:Nat) (zs:List Int):Prop :=
 (a=none/\len=0/\cap=0/\zs=[])\/∃ x,a=some x/\len<=cap/\cap<=maxLen/\zs.length=cap/\∀ i,i < zs.length->w.cell? (x.add i)=some (.int .i64 (zs.getD i 0))
theorem c0I {w:World} {a:Addr} {v:Value} (h:w.cell? a=some v):a.block < w.heap.size:=by
 unfold World.cell? at h
 rcases Nat.lt_or_ge a.block w.heap.size with h' | h'
 · exact h'
 · rw [Array.getElem?_eq_none ya_] at h; simp at h
theorem zU {w:World} {a:Addr} {v:Value} (h:w.cell? a=some v):a.spot=none:=by
 unfold World.cell? at h
 split at h
 · split at h
   · simp at h
   · rename_i hs; simpa using hs
 · simp at h
theorem sQ.rel {w:World} {a:Option Addr} {len cap:Nat} {zs:List Int} (h:sQ w a len cap zs):VR (fun b=>b < w.heap.size) w Cx.none (.sl .any 1 ((zs.take len).map x9)) (.slice a len cap)/\(zs.take len).length < 9223372036854775808:=by
 rcases h with ⟨rfl,rfl,rfl,rfl⟩ | ⟨x,rfl,hl,hm,hz,hc⟩
 · exact ⟨.nils _ _ _ yf_,by simp⟩
 · have hm':cap<=9223372036854775807:=by simpa [maxLen] using hm
   have hlen:((zs.take len).map x9).length=len:=by simp; omega
   refine ⟨?_,by simp; omega⟩
   have key:=VR.sl (G:=fun b=>b < w.heap.size) (w:=w) Cx.none .any ((zs.take len).map x9) 1 x cap yf_ yf_ ya_ (fun hne=>?_) (fun i _=>.int .i64 (zs.getD i 0)) (fun i hi=>?_) (fun i j hi hj=>?_) (fun _ _ _ _=>rfl) fun i j hi hj=>?_
   · rwa [hlen] at key
   · have h0:0 < zs.length:=by
      rcases Nat.eq_zero_or_pos zs.length with h | h
      · have:zs=[]:=List.eq_nil_of_length_eq_zero h
        subst this; simp at hne
      · exact h
     have:=hc 0 h0
     simp only [Addr.add,if_true] at this
     exact ⟨zU this,c0I this⟩
   · have:((zs.take len).map x9)[i]?=some (x9 ((zs.take len)[i]'(by rw [hlen] at hi; simp; omega))):=by
      rw [List.getElem?_map,List.getElem?_eq_getElem (by rw [hlen] at hi; simp; omega)]; rfl
     rw [List.getD_eq_getElem?_getD,this]; rfl
   · obtain rfl:j=0:=by omega
     have h0:0 < zs.length:=by omega
     have hsp:=zU (hc 0 h0)
     simp only [Addr.add,if_true] at hsp
     have:=hc i ya_
     obtain ⟨xb,xo,xs⟩:=x
     simp only at hsp
     subst hsp
     rw [U4] at this
     simpa using this
   · obtain rfl:j=0:=by omega
     have hi':i < zs.length:=by omega
     have:((zs.take len).map x9).getD i []=[.int .i64 (zs.getD i 0)]:=by
      simp [List.getD_eq_getElem?_getD,List.getElem?_take,show i < len by omega,hi',x9]
     rw [this]
     exact .int ..
theorem j6.yes {P:Program} {f:FuncId} {fn:Func} (hf:Has P f fn) {args:List AV} {H':Heap} (h:j6 P f args [] (.bool true,H')) {vs:Array Value} {w:World} (hsz:vs.size=args.length)
 (hargs:∀ i,i < args.length->VR (fun b=>b < w.heap.size) w Cx.none (args.getD i .skip) (vs.getD i undef)) :
 Calls P f vs w fun e w'=>e=.returned (.bool true)/\Below w.heap.size w w' :=
 Calls.mono (h.calls hf hsz hargs (fun b hb=>hb)) fun e w' ⟨v,G',C',he,h1,h2⟩=>by
  cases h2
  exact ⟨he,h1.below⟩
end Go.Proofs.YtmghjcbabebanaaGreat.AM
