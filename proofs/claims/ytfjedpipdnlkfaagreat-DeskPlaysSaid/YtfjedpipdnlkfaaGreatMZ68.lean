/-
  Texts of this claim, part 8 of 8: an abstract machine over the model; what functions come to; plain laws.
-/
import Derived.Test.YtfjedpipdnlkfaaGreatMZ67
import Derived.Below
import Derived.Carry
import Derived.ChangeSlices
import Derived.Deep.Slices
set_option linter.unusedSectionVars false
set_option maxRecDepth 100000
set_option linter.unusedVariables false
set_option linter.unusedSimpArgs false
namespace Go.Proofs.YtfjedpipdnlkfaaGreat.AM
open Go Go.Proofs.YtfjedpipdnlkfaaGreat
attribute [local irreducible] E5 J2 j5 l6 l8
theorem c0f (l:l9E) (k:Key):List.Sublist (H6 l k) l:=by
 unfold H6
 split
 · have h1:List.Sublist (l.drop (r9 l k+1)) (l.drop (r9 l k)):=by
    rw [<- List.drop_drop]; exact List.drop_sublist _ _
   have h2:=List.Sublist.append (List.Sublist.refl (l.take (r9 l k))) h1
   rwa [List.take_append_drop] at h2
 · exact List.Sublist.refl _
theorem c0g (ks:l9K):∀ (l:l9E),List.Sublist (ks.foldl H6 l) l:=by
 induction ks with
 | nil=>intro l; exact List.Sublist.refl _
 | cons k ks ih=>intro l; rw [List.foldl_cons]; exact (ih _).trans (c0f l k)
theorem b9H {l:l9E} {x:Entry} {st:l7} {nd:Int} (h:st.node=nd) (hx:x.card.stamp.node=nd):(K4 l x st).node=nd:=by
 unfold K4; split <;> assumption
theorem c8f {nd:Int} {s:DS} (h:s.st.node=nd) (q:Msg) (now:Int):(hdD nd s q now).s.st.node=nd:=by
 unfold hdD
 split
 · split
   · exact h
   · simp only [DS.turn]
     rcases a6c s.l s.g s.al s.ga s.gt nd s.st q (j4 now) with ⟨_,_,_,e,_⟩ | ⟨_,_,_,_,e,_⟩ | ⟨x,_,hx,e⟩
     · rw [e]; exact h
     · rw [e]; exact h
     · rw [e]; exact b9H h (by rw [hx]; rfl)
 · exact h
theorem a6j (nd now:Int):∀ (ks:l9K) {s:DS},s.st.node=nd->(swF nd now ks s).st.node=nd
 | [],_,h=>h
 | k :: ks,s,_=>a6j nd now ks (a6h nd now s k)
theorem a1x {s:DS} (h:s.l.length<=32) (now late:Int):(C9 s now late).length<=32:=by
 unfold C9
 split
 · simp
 · exact vJ h now late
theorem c8g {n:Nat} {s:DS} (h:Y9 n s) (nd:Int) (q:Msg) (now:Int):(hdD nd s q now).m.cards.length<=32/\(hdD nd s q now).m.keys.length=0:=by
 have h1:=h.len
 have h2:=mH (List.map Entry.card s.l)
 rw [List.length_map] at h2
 unfold hdD
 split
 · split
   · show (aC s.l s.al q.seq q.tag).cards.length<=32/\(aC s.l s.al q.seq q.tag).keys.length=0
     unfold aC
     split
     · exact ⟨by show (J9 (List.map Entry.card s.l)).length<=32; omega,rfl⟩
     · have h3:=b5n s.l s.al q.seq
       exact ⟨by show (W9 s.l s.al q.seq).length<=32; omega,rfl⟩
   · exact ⟨by simp [hdM],rfl⟩
 · exact ⟨by simp [hdM],rfl⟩
def plS (nd now:Int) (s:DS) (a:AskT):DS :=
 if (a.kind == 6)=true then swF nd (j4 now) (C9 s (j4 now) a.late) s
 else if (a.kind == 7)=true then ⟨List.foldl H6 s.l (G7 s.l (j4 now)),s.g,s.al,s.ga,s.gf,s.gl,s.gt,s.st⟩
 else if (a.kind == 8)=true then ⟨C8 (l9 32) s.l ⟨a.c,now⟩,H8 (l9 32) s.l ⟨a.c,now⟩ s.g,F6 s.l ⟨a.c,now⟩ s.al,M4 s.l ⟨a.c,now⟩ s.ga,s.gf,s.gl,s.gt,s.st⟩
 else if (a.kind == 9)=true then ⟨s.l,s.g,s.al,s.ga,tkF s.gf now,tkL s.gf s.gl s.gt now,tkT s.gf s.gt now,s.st⟩
 else (hdD nd s a.m now).s
theorem b8S {n:Nat} {s:DS} (h:Y9 n s) (nd now:Int) (a:AskT):Y9 (n+33) (plS nd now s a):=by
 unfold plS
 split
 · exact (a6i nd (j4 now) _ h).mono (by have:=a1x h.len (j4 now) a.late; omega)
 split
 · have hs:=c0g (G7 s.l (j4 now)) s.l
   exact ⟨List.Pairwise.sublist (hs.map kE) h.srt,Nat.le_trans hs.length_le h.len,Nat.le_trans h.al ow,h.g0,h.g1⟩
 split
 · have ho:=h.put ⟨a.c,now⟩
   exact ⟨ho.srt,ho.len,Nat.le_trans ho.al ow,ho.g0,ho.g1⟩
 split
 · have ht:=c8s s.gf now (gt:=s.gt) ⟨h.g0,h.g1⟩
   exact ⟨h.srt,h.len,Nat.le_trans h.al ow,ht.1,ht.2⟩
 · exact (h.hd nd a.m now).mono ow
theorem c2G {nd:Int} {s:DS} (h:s.st.node=nd) (now:Int) (a:AskT):(plS nd now s a).st.node=nd:=by
 unfold plS
 split
 · exact a6j nd _ _ h
 split
 · exact h
 split
 · exact h
 split
 · exact h
 · exact c8f h a.m now
attribute [local irreducible] P6 maxS j6 F6 M4 A8 C8 H8 d9 q9 tuR O9 hdD aC j4 cK F8 opM Q5 I5 w9 gU G7 M0 H6 y5 aF tkF tkL tkT W9 J9 ofB swC swF C9 plS
def a2e:Ann:={ gha:=[(29,.cut 10)],fin:=some 0,live:=[(6,[2,7,8,9,10])],out:=[(6,[])] }
@[simp] abbrev iM (a:Int) (b:List AskT) (c:Nat):=(IntKind.i64.wrap (a+(nth b c).more))
@[simp] abbrev qH (a:Int) (b:List AskT) (c:Nat):=(iI (iM a b c))
@[simp] abbrev a8T (a:List AskT) (b:Int) (c:Nat):Fr:=(mkF 135 [(2,(sA 25 (List.map AskT.row a))),(7,(oO 5 0 0 0)),(8,(oO 9 0 0 0)),(9,(qH b a c)),(10,(iN (c+1)))])
@[simp] abbrev y7 (a:Int) (b:List AskT) (c:Nat):=(IntKind.i64.wrap (a+(nth b c).more))
@[simp] abbrev b6j (a:Int) (b:Int) (c:List AskT) (d:Nat) (e:DS):Ob:=(o_ 0 2 [[(iI (l9 32)),(AV.osl 1 (swF a (j4 (y7 b c d)) (C9 e (j4 (y7 b c d)) (nth c d).late) e).g 10 0 (List.length (swF a (j4 (y7 b c d)) (C9 e (j4 (y7 b c d)) (nth c d).late) e).l))]])
@[simp] abbrev b6i (a:Int) (b:Int) (c:List AskT) (d:Nat) (e:DS):Ob:=(o_ ((swF a (j4 (y7 b c d)) (C9 e (j4 (y7 b c d)) (nth c d).late) e).g) 10 (mE (swF a (j4 (y7 b c d)) (C9 e (j4 (y7 b c d)) (nth c d).late) e).l))
@[simp] abbrev a2A (a:Int) (b:Int) (c:List AskT) (d:Nat) (e:DS):Ob:=(o_ 0 3 [[(iI (swF a (j4 (y7 b c d)) (C9 e (j4 (y7 b c d)) (nth c d).late) e).gf),(iI (swF a (j4 (y7 b c d)) (C9 e (j4 (y7 b c d)) (nth c d).late) e).gl),(iI (swF a (j4 (y7 b c d)) (C9 e (j4 (y7 b c d)) (nth c d).late) e).gt)]])
@[simp] abbrev b6h (a:Int) (b:Int) (c:List AskT) (d:Nat) (e:DS):Ob:=(o_ 0 2 [[(iN ((List.length (swF a (j4 (y7 b c d)) (C9 e (j4 (y7 b c d)) (nth c d).late) e).al))),(AV.osl 4 (swF a (j4 (y7 b c d)) (C9 e (j4 (y7 b c d)) (nth c d).late) e).ga 2 0 (List.length (o7 (swF a (j4 (y7 b c d)) (C9 e (j4 (y7 b c d)) (nth c d).late) e).al)))]])
@[simp] abbrev b6g (a:Int) (b:Int) (c:List AskT) (d:Nat) (e:DS):Ob:=(o_ ((swF a (j4 (y7 b c d)) (C9 e (j4 (y7 b c d)) (nth c d).late) e).ga) 2 (mK (o7 (swF a (j4 (y7 b c d)) (C9 e (j4 (y7 b c d)) (nth c d).late) e).al)))
@[simp] abbrev b6f (a:Int) (b:Int) (c:List AskT) (d:Nat) (e:DS):Ob:=(o_ 0 7 [[(iI a),(iI (swF a (j4 (y7 b c d)) (C9 e (j4 (y7 b c d)) (nth c d).late) e).st.t),(iI (swF a (j4 (y7 b c d)) (C9 e (j4 (y7 b c d)) (nth c d).late) e).st.node),(iI (swF a (j4 (y7 b c d)) (C9 e (j4 (y7 b c d)) (nth c d).late) e).st.n),(oO 0 0 0 0),(oO 2 0 0 0),(oO 3 0 0 0)]])
@[simp] abbrev c5T (a:Int) (b:Int) (c:List AskT) (d:Nat) (e:DS):Ob:=(o_ 0 2 [[(iI (l9 32)),(sA 10 (mE (swF a (j4 (y7 b c d)) (C9 e (j4 (y7 b c d)) (nth c d).late) e).l))]])
@[simp] abbrev c5S (a:Int) (b:Int) (c:List AskT) (d:Nat) (e:DS):Ob:=(o_ 0 1 [[(sA 2 (mK (swF a (j4 (y7 b c d)) (C9 e (j4 (y7 b c d)) (nth c d).late) e).al))]])
@[simp] abbrev c5R (a:Int) (b:Int) (c:List AskT) (d:Nat) (e:DS):Ob:=(o_ 0 6 [[(oO 6 0 0 0),(oO 7 0 0 0),(oO 8 0 0 0),(iI (swF a (j4 (y7 b c d)) (C9 e (j4 (y7 b c d)) (nth c d).late) e).st.t),(iI (swF a (j4 (y7 b c d)) (C9 e (j4 (y7 b c d)) (nth c d).late) e).st.node),(iI (swF a (j4 (y7 b c d)) (C9 e (j4 (y7 b c d)) (nth c d).late) e).st.n)]])
@[simp] abbrev c9U (a:Int) (b:Int) (c:List AskT) (d:Nat) (e:DS):Heap:=[b6j a b c d e,b6i a b c d e,a2A a b c d e,b6h a b c d e,b6g a b c d e,b6f a b c d e,c5T a b c d e,a2A a b c d e,c5S a b c d e,c5R a b c d e]
@[simp] abbrev a8S (a:DS) (b:Int) (c:List AskT) (d:Nat):Ob:=(o_ 0 2 [[(iI (l9 32)),(AV.osl 1 a.g 10 0 (List.length (List.foldl H6 a.l (G7 a.l (j4 (y7 b c d))))))]])
@[simp] abbrev a8R (a:DS) (b:Int) (c:List AskT) (d:Nat):Ob:=(o_ a.g 10 (mE (List.foldl H6 a.l (G7 a.l (j4 (y7 b c d))))))
@[simp] abbrev c0K (a:DS) (b:Int) (c:List AskT) (d:Nat):Ob:=(o_ 0 2 [[(iI (l9 32)),(sA 10 (mE (List.foldl H6 a.l (G7 a.l (j4 (y7 b c d))))))]])
@[simp] abbrev a3s (a:DS):=[[(oO 6 0 0 0),(oO 7 0 0 0),(oO 8 0 0 0),(iI a.st.t),(iI a.st.node),(iI a.st.n)]]
@[simp] abbrev fV (a:DS):Ob:=(o_ 0 6 (a3s a))
@[simp] abbrev c9T (a:DS) (b:Int) (c:List AskT) (d:Nat) (e:Int):Heap:=[a8S a b c d,a8R a b c d,Y1 a,iY a,iX a,fA e a,c0K a b c d,Y1 a,jC a,fV a]
@[simp] abbrev a8Q (a:DS) (b:List AskT) (d:Nat) (e:Int):Ob:=(o_ 0 2 [[(iI (l9 32)),(AV.osl 1 (H8 (l9 32) a.l (Entry.mk (nth b d).c (y7 e b d)) a.g) 10 0 (List.length (C8 (l9 32) a.l (Entry.mk (nth b d).c (y7 e b d)))))]])
@[simp] abbrev a8P (a:DS) (b:List AskT) (d:Nat) (e:Int):Ob:=(o_ (H8 (l9 32) a.l (Entry.mk (nth b d).c (y7 e b d)) a.g) 10 (mE (C8 (l9 32) a.l (Entry.mk (nth b d).c (y7 e b d)))))
@[simp] abbrev a8O (a:DS) (b:List AskT) (d:Nat) (e:Int):Ob:=(o_ 0 2 [[(iN ((List.length (F6 a.l (Entry.mk (nth b d).c (y7 e b d)) a.al)))),(AV.osl 4 (M4 a.l (Entry.mk (nth b d).c (y7 e b d)) a.ga) 2 0 (List.length (o7 (F6 a.l (Entry.mk (nth b d).c (y7 e b d)) a.al))))]])
@[simp] abbrev a8N (a:DS) (b:List AskT) (d:Nat) (e:Int):Ob:=(o_ (M4 a.l (Entry.mk (nth b d).c (y7 e b d)) a.ga) 2 (mK (o7 (F6 a.l (Entry.mk (nth b d).c (y7 e b d)) a.al))))
@[simp] abbrev c0J (a:DS) (b:List AskT) (d:Nat) (e:Int):Ob:=(o_ 0 2 [[(iI (l9 32)),(sA 10 (mE (C8 (l9 32) a.l (Entry.mk (nth b d).c (y7 e b d)))))]])
@[simp] abbrev c0I (a:DS) (b:List AskT) (d:Nat) (e:Int):Ob:=(o_ 0 1 [[(sA 2 (mK (F6 a.l (Entry.mk (nth b d).c (y7 e b d)) a.al)))]])
@[simp] abbrev c9S (a:DS) (b:List AskT) (c:Nat) (d:Int) (e:Int):Heap:=[a8Q a b c d,a8P a b c d,Y1 a,a8O a b c d,a8N a b c d,fA e a,c0J a b c d,Y1 a,c0I a b c d,fV a]
@[simp] abbrev yY (a:DS) (b:Int) (c:List AskT) (d:Nat):Ob:=(o_ 0 3 [[(iI (tkF a.gf (y7 b c d))),(iI (tkL a.gf a.gl a.gt (y7 b c d))),(iI (tkT a.gf a.gt (y7 b c d)))]])
@[simp] abbrev c9R (a:DS) (b:Int) (c:List AskT) (d:Nat) (e:Int):Heap:=[qL a,(o_ a.g 10 (mE a.l)),yY a b c d,iY a,iX a,fA e a,mF a,yY a b c d,jC a,fV a]
@[simp] abbrev c3Z (a:Int) (b:DS) (c:List AskT) (d:Nat) (e:Int):=[[(iI (l9 32)),(AV.osl 1 (hdD a b (nth c d).m (iM e c d)).s.g 10 0 (List.length (hdD a b (nth c d).m (iM e c d)).s.l))]]
@[simp] abbrev a8M (a:Int) (b:DS) (c:List AskT) (d:Nat) (e:Int):Ob:=(o_ 0 2 (c3Z a b c d e))
@[simp] abbrev a8L (a:Int) (b:DS) (c:List AskT) (d:Nat) (e:Int):Ob:=(o_ ((hdD a b (nth c d).m (y7 e c d)).s.g) 10 (mE (hdD a b (nth c d).m (y7 e c d)).s.l))
@[simp] abbrev c3Y (a:Int) (b:DS) (c:List AskT) (d:Nat) (e:Int):=[[(iI (hdD a b (nth c d).m (iM e c d)).s.gf),(iI (hdD a b (nth c d).m (iM e c d)).s.gl),(iI (hdD a b (nth c d).m (iM e c d)).s.gt)]]
@[simp] abbrev uQ (a:Int) (b:DS) (c:List AskT) (d:Nat) (e:Int):Ob:=(o_ 0 3 (c3Y a b c d e))
@[simp] abbrev c3X (a:Int) (b:DS) (c:List AskT) (d:Nat) (e:Int):=[[(iN ((List.length (hdD a b (nth c d).m (iM e c d)).s.al))),(AV.osl 4 (hdD a b (nth c d).m (iM e c d)).s.ga 2 0 (List.length (o7 (hdD a b (nth c d).m (iM e c d)).s.al)))]]
@[simp] abbrev a8K (a:Int) (b:DS) (c:List AskT) (d:Nat) (e:Int):Ob:=(o_ 0 2 (c3X a b c d e))
@[simp] abbrev a8J (a:Int) (b:DS) (c:List AskT) (d:Nat) (e:Int):Ob:=(o_ ((hdD a b (nth c d).m (y7 e c d)).s.ga) 2 (mK (o7 (hdD a b (nth c d).m (y7 e c d)).s.al)))
@[simp] abbrev c3W (a:Int) (b:DS) (c:List AskT) (d:Nat) (e:Int):=[[(iI a),(iI (hdD a b (nth c d).m (iM e c d)).s.st.t),(iI (hdD a b (nth c d).m (iM e c d)).s.st.node),(iI (hdD a b (nth c d).m (iM e c d)).s.st.n),(oO 0 0 0 0),(oO 2 0 0 0),(oO 3 0 0 0)]]
@[simp] abbrev a8I (a:Int) (b:DS) (c:List AskT) (d:Nat) (e:Int):Ob:=(o_ 0 7 (c3W a b c d e))
@[simp] abbrev a8H (a:Int) (b:DS) (c:List AskT) (d:Nat) (e:Int):Ob:=(o_ 0 2 [[(iI (l9 32)),(sA 10 (mE (hdD a b (nth c d).m (y7 e c d)).s.l))]])
@[simp] abbrev a8G (a:Int) (b:DS) (c:List AskT) (d:Nat) (e:Int):Ob:=(o_ 0 1 [[(sA 2 (mK (hdD a b (nth c d).m (y7 e c d)).s.al))]])
@[simp] abbrev a8F (a:Int) (b:DS) (c:List AskT) (d:Nat) (e:Int):Ob:=(o_ 0 6 [[(oO 6 0 0 0),(oO 7 0 0 0),(oO 8 0 0 0),(iI (hdD a b (nth c d).m (iM e c d)).s.st.t),(iI (hdD a b (nth c d).m (iM e c d)).s.st.node),(iI (hdD a b (nth c d).m (iM e c d)).s.st.n)]])
@[simp] abbrev c9Q (a:Int) (b:DS) (c:List AskT) (d:Nat) (e:Int):Heap:=[a8M a b c d e,a8L a b c d e,uQ a b c d e,a8K a b c d e,a8J a b c d e,a8I a b c d e,a8H a b c d e,uQ a b c d e,a8G a b c d e,a8F a b c d e]
@[simp] abbrev c4U (a:DS) (b:Int):Heap:=[qL a,(o_ a.g 10 (mE a.l)),Y1 a,iY a,iX a,fA b a,mF a,Y1 a,jC a,fV a]
@[simp] abbrev c4T (a:Int) (b:Int) (c:List AskT) (d:Nat) (e:DS):Heap:=[b6j a b c d e,b6i a b c d e,a2A a b c d e,b6h a b c d e,b6g a b c d e,b6f a b c d e,mF e,Y1 e,jC e,fV e,(o_ 0 25 [(AskT.row (nth c d))])]
@[simp] abbrev wJ (a:DS) (b:Int) (c:List AskT) (d:Nat):Heap:=[qL a,(o_ a.g 10 (mE a.l)),Y1 a,iY a,iX a,fA b a,mF a,Y1 a,jC a,fV a,(o_ 0 25 [(AskT.row (nth c d))])]
@[simp] abbrev a2B (a:Int) (b:Int) (c:List AskT) (d:Nat) (e:DS):Heap:=[b6j a b c d e,b6i a b c d e,a2A a b c d e,b6h a b c d e,b6g a b c d e,b6f a b c d e,c5T a b c d e,a2A a b c d e,c5S a b c d e,c5R a b c d e,(o_ 0 25 [(AskT.row (nth c d))])]
@[simp] abbrev b6m (a:DS) (b:Int) (c:List AskT) (d:Nat) (e:Int):Heap:=[a8S a b c d,a8R a b c d,Y1 a,iY a,iX a,fA e a,mF a,Y1 a,jC a,fV a,(o_ 0 25 [(AskT.row (nth c d))])]
@[simp] abbrev a5C (a:DS) (b:Int) (c:List AskT) (d:Nat) (e:Int):Heap:=[a8S a b c d,a8R a b c d,Y1 a,iY a,iX a,fA e a,c0K a b c d,Y1 a,jC a,fV a,(o_ 0 25 [(AskT.row (nth c d))])]
@[simp] abbrev c5W (a:DS) (b:List AskT) (c:Nat) (d:Int) (e:Int):Heap:=[a8Q a b c d,a8P a b c d,Y1 a,a8O a b c d,a8N a b c d,fA e a,mF a,Y1 a,jC a,fV a,(o_ 0 25 [(AskT.row (nth b c))])]
@[simp] abbrev a5B (a:DS) (b:List AskT) (c:Nat) (d:Int) (e:Int):Heap:=[a8Q a b c d,a8P a b c d,Y1 a,a8O a b c d,a8N a b c d,fA e a,c0J a b c d,Y1 a,c0I a b c d,fV a,(o_ 0 25 [(AskT.row (nth b c))])]
@[simp] abbrev b6l (a:DS) (b:Int) (c:List AskT) (d:Nat) (e:Int):Heap:=[qL a,(o_ a.g 10 (mE a.l)),yY a b c d,iY a,iX a,fA e a,mF a,Y1 a,jC a,fV a,(o_ 0 25 [(AskT.row (nth c d))])]
@[simp] abbrev a5A (a:DS) (b:Int) (c:List AskT) (d:Nat) (e:Int):Heap:=[qL a,(o_ a.g 10 (mE a.l)),yY a b c d,iY a,iX a,fA e a,mF a,yY a b c d,jC a,fV a,(o_ 0 25 [(AskT.row (nth c d))])]
@[simp] abbrev a8E (a:Int) (b:DS) (c:List AskT) (d:Nat) (e:Int):Ob:=(o_ 0 13 [(Msg.row (hdD a b (nth c d).m (y7 e c d)).m)])
@[simp] abbrev c5V (a:Int) (b:DS) (c:List AskT) (d:Nat) (e:Int):Heap:=[a8M a b c d e,a8L a b c d e,uQ a b c d e,a8K a b c d e,a8J a b c d e,a8I a b c d e,a8H a b c d e,uQ a b c d e,a8G a b c d e,a8F a b c d e,(o_ 0 25 [(AskT.row (nth c d))]),a8E a b c d e,(o_ 0 13 [[z_,z_,z_,z_,z_,z_,z_,e_,e_,bF,(AV.int .u32 0),(AV.sl .nil 0 []),(AV.sl .nil 0 [])]])]
@[simp] abbrev a5z (a:Int) (b:DS) (c:List AskT) (d:Nat) (e:Int):Heap:=[a8M a b c d e,a8L a b c d e,uQ a b c d e,a8K a b c d e,a8J a b c d e,a8I a b c d e,a8H a b c d e,uQ a b c d e,a8G a b c d e,a8F a b c d e,(o_ 0 25 [(AskT.row (nth c d))]),a8E a b c d e,a8E a b c d e]
theorem R5 {p:Prop} (h:p:=by first | omega | assumption | (simp; done) | (simp; omega) | exact (hs12 (by have q:=of_decide_eq_true h1; omega)).1 | exact (hs12 (by have q:=of_decide_eq_true h1; omega)).2):p:=h
@[simp] abbrev a3r :=(l8 Tryz.prog (X a2e) (p9 Tryz.f28 0))
@[simp] abbrev c8S (a:List AskT) (b:Nat) (d:Int):=(AV.agg [(AV.str (nth a b).c.key.app),(AV.str (nth a b).c.key.id),(iI (nth a b).c.status),(iI (nth a b).c.over),(iI (nth a b).c.lease),(iI (nth a b).c.stamp.t),(iI (nth a b).c.stamp.node),(iI (nth a b).c.stamp.n),(bB (nth a b).c.gone),(iI (iM d a b))])
theorem a2Y (xs:List AskT) (nd now:Int) (s:DS) (i:Nat) (hsz:∀ a∈xs,a.m.key.app.size < 9223372036854775808/\a.m.key.id.size < 9223372036854775808) (hi:i<=70) (hI:Y9 (33 * i) s) (hnd:s.st.node=nd) {eX:Ex} {FX:Fr} {HX:Heap} (k1:(decide ((i:Int) < (xs.length:Int)))=true->(decide ((i:Int) < 70))=true->((nth xs i).kind == 6)=true->j5 a3r (some [2,7,8,9,10]) (some []) (a8T xs now i) (c9U nd now xs i s) eX FX HX) (k2:(decide ((i:Int) < (xs.length:Int)))=true->(decide ((i:Int) < 70))=true->((nth xs i).kind == 6)=false->((nth xs i).kind == 7)=true->j5 a3r (some [2,7,8,9,10]) (some []) (a8T xs now i) (c9T s now xs i nd) eX FX HX) (k3:(decide ((i:Int) < (xs.length:Int)))=true->(decide ((i:Int) < 70))=true->((nth xs i).kind == 6)=false->((nth xs i).kind == 7)=false->((nth xs i).kind == 8)=true->j5 a3r (some [2,7,8,9,10]) (some []) (a8T xs now i) (c9S s xs i now nd) eX FX HX) (k4:(decide ((i:Int) < (xs.length:Int)))=true->(decide ((i:Int) < 70))=true->((nth xs i).kind == 6)=false->((nth xs i).kind == 7)=false->((nth xs i).kind == 8)=false->((nth xs i).kind == 9)=true->j5 a3r (some [2,7,8,9,10]) (some []) (a8T xs now i) (c9R s now xs i nd) eX FX HX) (k5:(decide ((i:Int) < (xs.length:Int)))=true->(decide ((i:Int) < 70))=true->((nth xs i).kind == 6)=false->((nth xs i).kind == 7)=false->((nth xs i).kind == 8)=false->((nth xs i).kind == 9)=false->j5 a3r (some [2,7,8,9,10]) (some []) (a8T xs now i) (c9Q nd s xs i now) eX FX HX) (k6:(decide ((i:Int) < (xs.length:Int)))=true->(decide ((i:Int) < 70))=false->((.exit 0:Ex),(mkF 135 []),(c4U s nd))=(eX,FX,HX)) (k7:(decide ((i:Int) < (xs.length:Int)))=false->((.exit 0:Ex),(mkF 135 []),(c4U s nd))=(eX,FX,HX)):j5 a3r (some [2,7,8,9,10]) (some []) (mkF 135 [(2,(sA 25 (List.map AskT.row xs))),(7,(oO 5 0 0 0)),(8,(oO 9 0 0 0)),(9,(iI now)),(10,(iN i))]) (c4U s nd) eX FX HX:=by
 have l1:=hI.len
 have l2:=hI.al
 have l3:=hI.g0
 have l4:=hI.g1
 have l5:=hI.srt
 have p1:=b8S hI nd (y7 now xs i) (nth xs i)
 have q1:=p1.len
 have q2:=p1.al
 have m1:=c8g hI nd (nth xs i).m (y7 now xs i)
 have m2:(hdD nd s (nth xs i).m (y7 now xs i)).c.length<=1:=c8h hI nd (nth xs i).m (y7 now xs i)
 have o1:=zC nd (j4 (y7 now xs i)) (C9 s (j4 (y7 now xs i)) (nth xs i).late) s
 have o2:=a1x l1 (j4 (y7 now xs i)) (nth xs i).late
 have e6:=a6i nd (j4 (y7 now xs i)) (C9 s (j4 (y7 now xs i)) (nth xs i).late) hI
 have r1:=e6.len
 have r2:=e6.al
 have d1:=b5d (G7 s.l (j4 (y7 now xs i))) s.l
 have w1:=a2X ⟨(nth xs i).c,(y7 now xs i)⟩ l1
 have w2:=a6t s.l ⟨(nth xs i).c,(y7 now xs i)⟩ s.al
 have h1':=(hI.hd nd (nth xs i).m (y7 now xs i))
 have v1:=h1'.len
 have v2:=h1'.al
 have hs12:i < xs.length->(nth xs i).m.key.app.size < 9223372036854775808/\(nth xs i).m.key.id.size < 9223372036854775808:=fun h=>hsz _ (kX h)
 exact F7 (.r (.y 2 (.int .i64 ((List.length (List.map AskT.row xs):Nat):Int)) (iN xs.length) (Yes.len _ _ _) (.two (decide ((i:Int) < (xs.length:Int))) (fun h1 h1'=>(.u (.two (decide ((i:Int) < 70)) (fun h2 h2'=>(.u (.ru (.h' [(o_ 0 2 (b5v s)),(o_ s.g 10 (mE s.l)),(o_ 0 3 (iO s)),(o_ 0 2 (a8l s)),(o_ s.ga 2 (mK (o7 s.al))),(o_ 0 7 (a8k nd s)),(o_ 0 2 (yM s)),(o_ 0 3 (iO s)),(o_ 0 1 [[(sA 2 (mK s.al))]]),(o_ 0 6 (a3s s)),(o_ 0 25 [[z_,z_,z_,z_,z_,z_,z_,z_,e_,e_,bF,(AV.int .u32 0),(AV.sl .nil 0 []),(AV.sl .nil 0 []),z_,z_,e_,e_,z_,z_,z_,z_,z_,z_,bF]])] (.is 2 25 25 (List.map AskT.row xs) (i:Int) (AskT.row (nth xs i)) (J6.mk _ ow ow) (.s (.s (.s (.g (.two ((nth xs i).kind == 6) (fun h3 h3'=>(.r (.ch 4 (c4T nd now xs i s) (l6.put2 [0,1,2,3,4,5] (wJ s nd xs i) (sA 9 (mC (swC nd (j4 (y7 now xs i)) (C9 s (j4 (y7 now xs i)) (nth xs i).late) s))) (c4T nd now xs i s) (c3F s.l s.g s.al s.ga s.gf s.gl s.gt nd s.st (y7 now xs i) (nth xs i).late R5 R5 R5 R5) (⟨rfl,⟨Ob.ren0 (Entry.o9 0 _),⟨rfl,⟨rfl,⟨Ob.ren0 (Key.o9 0 _),⟨rfl,trivial⟩⟩⟩⟩⟩⟩) (⟨rfl,⟨Ob.ren0 (Entry.o9 0 _),⟨rfl,⟨rfl,⟨Ob.ren0 (Key.o9 0 _),⟨rfl,trivial⟩⟩⟩⟩⟩⟩)) (.ch 9 (a2B nd now xs i s) (l6.pre (args:=[(oO 9 0 0 0),(qH now xs i),(iI (nth xs i).late)]) (args':=[(oO 9 0 0 0),(qH now xs i),(iI (nth xs i).late)]) (l6.put2 [6,7,8,9] (c4T nd now xs i s) (sA 9 (mC (swC nd (j4 (y7 now xs i)) (C9 s (j4 (y7 now xs i)) (nth xs i).late) s))) (a2B nd now xs i s) (c2k s.l s.g s.al s.ga s.gf s.gl s.gt s.st nd (y7 now xs i) (nth xs i).late R5 R5 R5 R5 R5) (⟨rfl,⟨rfl,⟨rfl,⟨rfl,trivial⟩⟩⟩⟩) (⟨rfl,⟨rfl,⟨rfl,⟨rfl,trivial⟩⟩⟩⟩)) ⟨AV.j3 _,AV.j3 _,AV.j3 _,trivial⟩) (.c 10 ((vB (swC nd (j4 (y7 now xs i)) (C9 s (j4 (y7 now xs i)) (nth xs i).late) s) (swC nd (j4 (y7 now xs i)) (C9 s (j4 (y7 now xs i)) (nth xs i).late) s) R5 (rfl)).lift kr kr (a2B nd now xs i s)) (.rd (iI (nth xs i).late) (wJ s nd xs i) (.rn (.c 2 (l6.put2 [0,1,2,3,4,5,6,7,8,9] (a2B nd now xs i s) bT (a2B nd now xs i s) (iT (swF nd (j4 (y7 now xs i)) (C9 s (j4 (y7 now xs i)) (nth xs i).late) s).l (swF nd (j4 (y7 now xs i)) (C9 s (j4 (y7 now xs i)) (nth xs i).late) s).g (swF nd (j4 (y7 now xs i)) (C9 s (j4 (y7 now xs i)) (nth xs i).late) s).al (swF nd (j4 (y7 now xs i)) (C9 s (j4 (y7 now xs i)) (nth xs i).late) s).ga (swF nd (j4 (y7 now xs i)) (C9 s (j4 (y7 now xs i)) (nth xs i).late) s).gf (swF nd (j4 (y7 now xs i)) (C9 s (j4 (y7 now xs i)) (nth xs i).late) s).gl (swF nd (j4 (y7 now xs i)) (C9 s (j4 (y7 now xs i)) (nth xs i).late) s).gt nd (swF nd (j4 (y7 now xs i)) (C9 s (j4 (y7 now xs i)) (nth xs i).late) s).st R5 R5) (⟨rfl,⟨Ob.ren0 (Entry.o9 0 _),⟨rfl,⟨rfl,⟨Ob.ren0 (Key.o9 0 _),⟨rfl,⟨rfl,⟨rfl,⟨rfl,⟨rfl,trivial⟩⟩⟩⟩⟩⟩⟩⟩⟩⟩) (⟨rfl,⟨Ob.ren0 (Entry.o9 0 _),⟨rfl,⟨rfl,⟨Ob.ren0 (Key.o9 0 _),⟨rfl,⟨rfl,⟨rfl,⟨rfl,⟨rfl,trivial⟩⟩⟩⟩⟩⟩⟩⟩⟩⟩)) (.h' (c9U nd now xs i s) (.b 10 (.rn (.y 1 (.int .i64 (cb_ i)) (iN (i+1)) Yes.o (.g (.l (k1 h1 h2 h3))))))))))))))) (fun h3 h3'=>(.r (.g (.two ((nth xs i).kind == 7) (fun h4 h4'=>(.r (.ch 2 (b6m s now xs i nd) (l6.put2 [0,1,2,3,4,5] (wJ s nd xs i) (iN ((List.length (G7 s.l (j4 (y7 now xs i)))))) (b6m s now xs i nd) (c3G s.l s.g s.al s.ga s.gf s.gl s.gt nd s.st (y7 now xs i) R5) (⟨rfl,⟨Ob.ren0 (Entry.o9 0 _),⟨rfl,⟨rfl,⟨Ob.ren0 (Key.o9 0 _),⟨rfl,trivial⟩⟩⟩⟩⟩⟩) (⟨rfl,⟨Ob.ren0 (Entry.o9 0 _),⟨rfl,⟨rfl,⟨Ob.ren0 (Key.o9 0 _),⟨rfl,trivial⟩⟩⟩⟩⟩⟩)) (.ch 5 (a5C s now xs i nd) (l6.pre (args:=[(oO 9 0 0 0),(qH now xs i)]) (args':=[(oO 9 0 0 0),(qH now xs i)]) (l6.put2 [6,7,8,9] (b6m s now xs i nd) (iN ((List.length (G7 s.l (j4 (y7 now xs i)))))) (a5C s now xs i nd) (c2m s.l s.al s.gf s.gl s.gt s.st (y7 now xs i) R5) (⟨rfl,⟨rfl,⟨rfl,⟨rfl,trivial⟩⟩⟩⟩) (⟨rfl,⟨rfl,⟨rfl,⟨rfl,trivial⟩⟩⟩⟩)) ⟨AV.j3 _,AV.j3 _,trivial⟩) (.y 6 (bB ((((List.length (G7 s.l (j4 (y7 now xs i)))):Nat):Int) != (((List.length (G7 s.l (j4 (y7 now xs i)))):Nat):Int))) bF (Yes.b yf_) (.rn (.c 2 (l6.put2 [0,1,2,3,4,5,6,7,8,9] (a5C s now xs i nd) bT (a5C s now xs i nd) (iT (List.foldl H6 s.l (G7 s.l (j4 (y7 now xs i)))) s.g s.al s.ga s.gf s.gl s.gt nd s.st R5 R5) (⟨rfl,⟨Ob.ren0 (Entry.o9 0 _),⟨rfl,⟨rfl,⟨Ob.ren0 (Key.o9 0 _),⟨rfl,⟨rfl,⟨rfl,⟨rfl,⟨rfl,trivial⟩⟩⟩⟩⟩⟩⟩⟩⟩⟩) (⟨rfl,⟨Ob.ren0 (Entry.o9 0 _),⟨rfl,⟨rfl,⟨Ob.ren0 (Key.o9 0 _),⟨rfl,⟨rfl,⟨rfl,⟨rfl,⟨rfl,trivial⟩⟩⟩⟩⟩⟩⟩⟩⟩⟩)) (.h' (c9T s now xs i nd) (.b 10 (.rn (.y 1 (.int .i64 (cb_ i)) (iN (i+1)) Yes.o (.g (.l (k2 h1 h2 h3 h4)))))))))))))) (fun h4 h4'=>(.r (.g (.two ((nth xs i).kind == 8) (fun h5 h5'=>(.r (.ch 5 (c5W s xs i now nd) (l6.pre (args:=[(oO 5 0 0 0),(AV.agg (Entry.row (Entry.mk (nth xs i).c (y7 now xs i))))]) (args':=[(oO 5 0 0 0),(c8S xs i now)]) (zQ s.l s.g s.al s.ga s.gf s.gl s.gt nd s.st.t s.st.node s.st.n (Entry.mk (nth xs i).c (y7 now xs i)) R5 R5 [(o_ 0 2 (yM s)),(o_ 0 3 (iO s)),(o_ 0 1 [[(sA 2 (mK s.al))]]),(o_ 0 6 (a3s s)),(o_ 0 25 [(AskT.row (nth xs i))])]) ⟨AV.j3 _,AV.j3 _,trivial⟩) (.ch 11 (a5B s xs i now nd) (l6.pre (args:=[(oO 9 0 0 0),(AV.agg (Entry.row (Entry.mk (nth xs i).c (y7 now xs i))))]) (args':=[(oO 9 0 0 0),(c8S xs i now)]) (l6.put2 [6,7,8,9] (c5W s xs i now nd) (iI (A8 (l9 32) s.l (Entry.mk (nth xs i).c (y7 now xs i)))) (a5B s xs i now nd) (a4k s.l s.al s.gf s.gl s.gt s.st.t s.st.node s.st.n (Entry.mk (nth xs i).c (y7 now xs i)) R5 R5) (⟨rfl,⟨rfl,⟨rfl,⟨rfl,trivial⟩⟩⟩⟩) (⟨rfl,⟨rfl,⟨rfl,⟨rfl,trivial⟩⟩⟩⟩)) ⟨AV.j3 _,AV.j3 _,trivial⟩) (.y 12 (bB ((A8 (l9 32) s.l (Entry.mk (nth xs i).c (y7 now xs i))) != (A8 (l9 32) s.l (Entry.mk (nth xs i).c (y7 now xs i))))) bF (Yes.b yf_) (.rd (AV.agg (Card.row (nth xs i).c)) (wJ s nd xs i) (.rn (.c 2 (l6.put2 [0,1,2,3,4,5,6,7,8,9] (a5B s xs i now nd) bT (a5B s xs i now nd) (iT (C8 (l9 32) s.l (Entry.mk (nth xs i).c (y7 now xs i))) (H8 (l9 32) s.l (Entry.mk (nth xs i).c (y7 now xs i)) s.g) (F6 s.l (Entry.mk (nth xs i).c (y7 now xs i)) s.al) (M4 s.l (Entry.mk (nth xs i).c (y7 now xs i)) s.ga) s.gf s.gl s.gt nd s.st R5 R5) (⟨rfl,⟨Ob.ren0 (Entry.o9 0 _),⟨rfl,⟨rfl,⟨Ob.ren0 (Key.o9 0 _),⟨rfl,⟨rfl,⟨rfl,⟨rfl,⟨rfl,trivial⟩⟩⟩⟩⟩⟩⟩⟩⟩⟩) (⟨rfl,⟨Ob.ren0 (Entry.o9 0 _),⟨rfl,⟨rfl,⟨Ob.ren0 (Key.o9 0 _),⟨rfl,⟨rfl,⟨rfl,⟨rfl,⟨rfl,trivial⟩⟩⟩⟩⟩⟩⟩⟩⟩⟩)) (.h' (c9S s xs i now nd) (.b 10 (.rn (.y 1 (.int .i64 (cb_ i)) (iN (i+1)) Yes.o (.g (.l (k3 h1 h2 h3 h4 h5))))))))))))))) (fun h5 h5'=>(.r (.g (.two ((nth xs i).kind == 9) (fun h6 h6'=>(.r (.c 1 (l6.put2 [0,1,2,3,4,5] (wJ s nd xs i) (oO 2 0 0 0) (wJ s nd xs i) (sO s.l s.g s.al s.ga s.gf s.gl s.gt nd s.st ) (⟨rfl,⟨Ob.ren0 (Entry.o9 0 _),⟨rfl,⟨rfl,⟨Ob.ren0 (Key.o9 0 _),⟨rfl,trivial⟩⟩⟩⟩⟩⟩) (⟨rfl,⟨Ob.ren0 (Entry.o9 0 _),⟨rfl,⟨rfl,⟨Ob.ren0 (Key.o9 0 _),⟨rfl,trivial⟩⟩⟩⟩⟩⟩)) (.rn (.c 1 (l6.put2 [0,1,2,3,4,5] (wJ s nd xs i) (oO 2 0 0 0) (wJ s nd xs i) (sO s.l s.g s.al s.ga s.gf s.gl s.gt nd s.st ) (⟨rfl,⟨Ob.ren0 (Entry.o9 0 _),⟨rfl,⟨rfl,⟨Ob.ren0 (Key.o9 0 _),⟨rfl,trivial⟩⟩⟩⟩⟩⟩) (⟨rfl,⟨Ob.ren0 (Entry.o9 0 _),⟨rfl,⟨rfl,⟨Ob.ren0 (Key.o9 0 _),⟨rfl,trivial⟩⟩⟩⟩⟩⟩)) (.ch 3 (b6l s now xs i nd) (l6.pre (args:=[(oO 2 0 0 0),(qH now xs i)]) (args':=[(oO 2 0 0 0),(qH now xs i)]) (l6.put2 [2] (wJ s nd xs i) (AV.tup []) (b6l s now xs i nd) (b4y s.gf s.gl s.gt (y7 now xs i) ) (⟨rfl,trivial⟩) (⟨rfl,trivial⟩)) ⟨AV.j3 _,AV.j3 _,trivial⟩) (.s (.ch 5 (a5A s now xs i nd) (l6.pre (args:=[(oO 7 0 0 0),(qH now xs i)]) (args':=[(oO 7 0 0 0),(qH now xs i)]) (l6.put2 [7] (b6l s now xs i nd) (AV.tup []) (a5A s now xs i nd) (b0t s.gf s.gl s.gt (y7 now xs i) ) (⟨rfl,trivial⟩) (⟨rfl,trivial⟩)) ⟨AV.j3 _,AV.j3 _,trivial⟩) (.s (.c 2 (l6.put2 [0,1,2,3,4,5,6,7,8,9] (a5A s now xs i nd) bT (a5A s now xs i nd) (iT s.l s.g s.al s.ga (tkF s.gf (y7 now xs i)) (tkL s.gf s.gl s.gt (y7 now xs i)) (tkT s.gf s.gt (y7 now xs i)) nd s.st R5 R5) (⟨rfl,⟨Ob.ren0 (Entry.o9 0 _),⟨rfl,⟨rfl,⟨Ob.ren0 (Key.o9 0 _),⟨rfl,⟨rfl,⟨rfl,⟨rfl,⟨rfl,trivial⟩⟩⟩⟩⟩⟩⟩⟩⟩⟩) (⟨rfl,⟨Ob.ren0 (Entry.o9 0 _),⟨rfl,⟨rfl,⟨Ob.ren0 (Key.o9 0 _),⟨rfl,⟨rfl,⟨rfl,⟨rfl,⟨rfl,trivial⟩⟩⟩⟩⟩⟩⟩⟩⟩⟩)) (.h' (c9R s now xs i nd) (.b 10 (.rn (.y 1 (.int .i64 (cb_ i)) (iN (i+1)) Yes.o (.g (.l (k4 h1 h2 h3 h4 h5 h6))))))))))))))))) (fun h6 h6'=>(.r (.ch 4 [(o_ 0 2 (c3Z nd s xs i now)),(o_ ((hdD nd s (nth xs i).m (y7 now xs i)).s.g) 10 (mE (hdD nd s (nth xs i).m (y7 now xs i)).s.l)),(o_ 0 3 (c3Y nd s xs i now)),(o_ 0 2 (c3X nd s xs i now)),(o_ ((hdD nd s (nth xs i).m (y7 now xs i)).s.ga) 2 (mK (o7 (hdD nd s (nth xs i).m (y7 now xs i)).s.al))),(o_ 0 7 (c3W nd s xs i now)),(o_ 0 2 (yM s)),(o_ 0 3 (iO s)),(o_ 0 1 [[(sA 2 (mK s.al))]]),(o_ 0 6 (a3s s)),(o_ 0 25 [(AskT.row (nth xs i))]),(o_ 0 13 [[z_,z_,z_,z_,z_,z_,z_,e_,e_,bF,(AV.int .u32 0),(AV.sl .nil 0 []),(AV.sl .nil 0 [])]])] (d1H s.l s.g s.al s.ga s.gf s.gl s.gt nd s.st (nth xs i).m (y7 now xs i) R5 R5 R5 [(o_ 0 2 (yM s)),(o_ 0 3 (iO s)),(o_ 0 1 [[(sA 2 (mK s.al))]]),(o_ 0 6 (a3s s)),(o_ 0 25 [(AskT.row (nth xs i))]),(o_ 0 13 [[z_,z_,z_,z_,z_,z_,z_,e_,e_,bF,(AV.int .u32 0),(AV.sl .nil 0 []),(AV.sl .nil 0 [])]])]) (.s (.ch 4 (c5V nd s xs i now) (l6.pre (args:=[(oO 9 0 0 0),(AV.agg (Msg.row (nth xs i).m)),(qH now xs i)]) (args':=[(oO 9 0 0 0),(AV.agg (Msg.row (nth xs i).m)),(qH now xs i)]) (l6.put2 [6,7,8,9] [(o_ 0 2 (c3Z nd s xs i now)),(o_ ((hdD nd s (nth xs i).m (y7 now xs i)).s.g) 10 (mE (hdD nd s (nth xs i).m (y7 now xs i)).s.l)),(o_ 0 3 (c3Y nd s xs i now)),(o_ 0 2 (c3X nd s xs i now)),(o_ ((hdD nd s (nth xs i).m (y7 now xs i)).s.ga) 2 (mK (o7 (hdD nd s (nth xs i).m (y7 now xs i)).s.al))),(o_ 0 7 (c3W nd s xs i now)),(o_ 0 2 (yM s)),(o_ 0 3 (iO s)),(o_ 0 1 [[(sA 2 (mK s.al))]]),(o_ 0 6 (a3s s)),(o_ 0 25 [(AskT.row (nth xs i))]),(o_ 0 13 [(Msg.row (hdD nd s (nth xs i).m (y7 now xs i)).m)]),(o_ 0 13 [[z_,z_,z_,z_,z_,z_,z_,e_,e_,bF,(AV.int .u32 0),(AV.sl .nil 0 []),(AV.sl .nil 0 [])]])] (AV.tup [(AV.agg (Msg.row (hdD nd s (nth xs i).m (y7 now xs i)).m)),(sA 9 (mC (hdD nd s (nth xs i).m (y7 now xs i)).c))]) (c5V nd s xs i now) (c2v s.l s.g s.al s.ga s.gf s.gl s.gt s.st (nth xs i).m (y7 now xs i) nd R5 R5 R5 R5 R5 R5) (⟨rfl,⟨rfl,⟨rfl,⟨rfl,trivial⟩⟩⟩⟩) (⟨rfl,⟨rfl,⟨rfl,⟨rfl,trivial⟩⟩⟩⟩)) ⟨AV.j3 _,⟨AV.j3 _,AV.j3 _,AV.j3 _,AV.j3 _,AV.j3 _,AV.j3 _,AV.j3 _,AV.j3 _,AV.j3 _,AV.j3 _,AV.j3 _,⟨rfl,rfl,.inl rfl⟩,⟨rfl,rfl,.inl rfl⟩,trivial⟩,AV.j3 _,trivial⟩) (.s (.c 2 ((a9I (hdD nd s (nth xs i).m (y7 now xs i)).m R5 R5).lift kr kr (a5z nd s xs i now)) (.n3 (.c 7 ((vB (hdD nd s (nth xs i).m (y7 now xs i)).c (hdD nd s (nth xs i).m (y7 now xs i)).c R5 (rfl)).lift kr kr (a5z nd s xs i now)) (.n (.rn (.c 2 (l6.put2 [0,1,2,3,4,5,6,7,8,9] (a5z nd s xs i now) bT (a5z nd s xs i now) (iT (hdD nd s (nth xs i).m (y7 now xs i)).s.l (hdD nd s (nth xs i).m (y7 now xs i)).s.g (hdD nd s (nth xs i).m (y7 now xs i)).s.al (hdD nd s (nth xs i).m (y7 now xs i)).s.ga (hdD nd s (nth xs i).m (y7 now xs i)).s.gf (hdD nd s (nth xs i).m (y7 now xs i)).s.gl (hdD nd s (nth xs i).m (y7 now xs i)).s.gt nd (hdD nd s (nth xs i).m (y7 now xs i)).s.st R5 R5) (⟨rfl,⟨Ob.ren0 (Entry.o9 0 _),⟨rfl,⟨rfl,⟨Ob.ren0 (Key.o9 0 _),⟨rfl,⟨rfl,⟨rfl,⟨rfl,⟨rfl,trivial⟩⟩⟩⟩⟩⟩⟩⟩⟩⟩) (⟨rfl,⟨Ob.ren0 (Entry.o9 0 _),⟨rfl,⟨rfl,⟨Ob.ren0 (Key.o9 0 _),⟨rfl,⟨rfl,⟨rfl,⟨rfl,⟨rfl,trivial⟩⟩⟩⟩⟩⟩⟩⟩⟩⟩)) (.h' (c9Q nd s xs i now) (.b 10 (.rn (.y 1 (.int .i64 (cb_ i)) (iN (i+1)) Yes.o (.g (.l (k5 h1 h2 h3 h4 h5 h6))))))))))))))))))))))))))))))))))))))))) (fun h2 h2'=>(.n (.g (.n (.l (k6 h1 h2))))))))) (fun h1 h1'=>(.n3 (.g (.n (.l (k7 h1)))))))))
def plF (xs:List AskT) (nd:Int):Nat->Nat->Int->DS->Int × DS
 | 0,_,now,s=>(now,s)
 | r+1,i,now,s=>if i < xs.length then plF xs nd r (i+1) (IntKind.i64.wrap (now+(nth xs i).more)) (plS nd (IntKind.i64.wrap (now+(nth xs i).more)) s (nth xs i)) else (now,s)
theorem c7U (xs:List AskT) (nd:Int) (hsz:∀ a∈xs,a.m.key.app.size < 9223372036854775808/\a.m.key.id.size < 9223372036854775808) (r:Nat):∀ (i:Nat) (now:Int) (s:DS),i+r=70->Y9 (33 * i) s->s.st.node=nd ->
 j5 (l8 Tryz.prog (X a2e) (p9 Tryz.f28 0)) (some [2,7,8,9,10]) (some []) (mkF 135 [(2,(sA 25 (List.map AskT.row xs))),(7,(oO 5 0 0 0)),(8,(oO 9 0 0 0)),(9,(iI now)),(10,(iN i))]) [(o_ 0 2 [[(iI (l9 32)),(AV.osl 1 s.g 10 0 (List.length s.l))]]),(o_ s.g 10 (mE s.l)),(o_ 0 3 [[(iI s.gf),(iI s.gl),(iI s.gt)]]),(o_ 0 2 [[(iN ((List.length s.al))),(AV.osl 4 s.ga 2 0 (List.length (o7 s.al)))]]),(o_ s.ga 2 (mK (o7 s.al))),(o_ 0 7 [[(iI nd),(iI s.st.t),(iI s.st.node),(iI s.st.n),(oO 0 0 0 0),(oO 2 0 0 0),(oO 3 0 0 0)]]),(o_ 0 2 [[(iI (l9 32)),(sA 10 (mE s.l))]]),(o_ 0 3 [[(iI s.gf),(iI s.gl),(iI s.gt)]]),(o_ 0 1 [[(sA 2 (mK s.al))]]),(o_ 0 6 [[(oO 6 0 0 0),(oO 7 0 0 0),(oO 8 0 0 0),(iI s.st.t),(iI s.st.node),(iI s.st.n)]])] (.exit 0) (mkF 135 []) [(o_ 0 2 [[(iI (l9 32)),(AV.osl 1 (plF xs nd r i now s).2.g 10 0 (List.length (plF xs nd r i now s).2.l))]]),(o_ ((plF xs nd r i now s).2.g) 10 (mE (plF xs nd r i now s).2.l)),(o_ 0 3 [[(iI (plF xs nd r i now s).2.gf),(iI (plF xs nd r i now s).2.gl),(iI (plF xs nd r i now s).2.gt)]]),(o_ 0 2 [[(iN ((List.length (plF xs nd r i now s).2.al))),(AV.osl 4 (plF xs nd r i now s).2.ga 2 0 (List.length (o7 (plF xs nd r i now s).2.al)))]]),(o_ ((plF xs nd r i now s).2.ga) 2 (mK (o7 (plF xs nd r i now s).2.al))),(o_ 0 7 [[(iI nd),(iI (plF xs nd r i now s).2.st.t),(iI (plF xs nd r i now s).2.st.node),(iI (plF xs nd r i now s).2.st.n),(oO 0 0 0 0),(oO 2 0 0 0),(oO 3 0 0 0)]]),(o_ 0 2 [[(iI (l9 32)),(sA 10 (mE (plF xs nd r i now s).2.l))]]),(o_ 0 3 [[(iI (plF xs nd r i now s).2.gf),(iI (plF xs nd r i now s).2.gl),(iI (plF xs nd r i now s).2.gt)]]),(o_ 0 1 [[(sA 2 (mK (plF xs nd r i now s).2.al))]]),(o_ 0 6 [[(oO 6 0 0 0),(oO 7 0 0 0),(oO 8 0 0 0),(iI (plF xs nd r i now s).2.st.t),(iI (plF xs nd r i now s).2.st.node),(iI (plF xs nd r i now s).2.st.n)]])]:=by
 induction r with
 | zero =>
  intro i now s hi hI hn
  refine a2Y xs nd now s i hsz ow hI hn (fun _ h _=>absurd (of_decide_eq_true h) ow) (fun _ h _ _=>absurd (of_decide_eq_true h) ow) (fun _ h _ _ _=>absurd (of_decide_eq_true h) ow) (fun _ h _ _ _ _=>absurd (of_decide_eq_true h) ow) (fun _ h _ _ _ _=>absurd (of_decide_eq_true h) ow) (fun _ _=>rfl) (fun _=>rfl)
 | succ r ih =>
  intro i now s hi hI hn
  by_cases hl:i < xs.length
  · have e:plF xs nd (r+1) i now s=plF xs nd r (i+1) (IntKind.i64.wrap (now+(nth xs i).more)) (plS nd (IntKind.i64.wrap (now+(nth xs i).more)) s (nth xs i)):=if_pos hl
    have q:=ih (i+1) (IntKind.i64.wrap (now+(nth xs i).more)) (plS nd (IntKind.i64.wrap (now+(nth xs i).more)) s (nth xs i)) ow ((b8S hI nd (IntKind.i64.wrap (now+(nth xs i).more)) (nth xs i)).mono ow) (c2G hn (IntKind.i64.wrap (now+(nth xs i).more)) (nth xs i))
    rw [e]
    refine a2Y xs nd now s i hsz ow hI hn (fun _ _ h3=>?_) (fun _ _ h3 h4=>?_) (fun _ _ h3 h4 h5=>?_) (fun _ _ h3 h4 h5 h6=>?_) (fun _ _ h3 h4 h5 h6=>?_) (fun _ h=>absurd (of_decide_eq_false h) ow) (fun h=>absurd (of_decide_eq_false h) ow)
    · have e2:plS nd (IntKind.i64.wrap (now+(nth xs i).more)) s (nth xs i)=swF nd (j4 (IntKind.i64.wrap (now+(nth xs i).more))) (C9 s (j4 (IntKind.i64.wrap (now+(nth xs i).more))) (nth xs i).late) s:=by with_unfolding_all exact if_pos h3
      rw [e2] at q ⊢; exact q
    · have e2:plS nd (IntKind.i64.wrap (now+(nth xs i).more)) s (nth xs i)=⟨List.foldl H6 s.l (G7 s.l (j4 (IntKind.i64.wrap (now+(nth xs i).more)))),s.g,s.al,s.ga,s.gf,s.gl,s.gt,s.st⟩:=by with_unfolding_all unfold plS; rw [if_neg a5S,if_pos h4]
      rw [e2] at q ⊢; exact q
    · have e2:plS nd (IntKind.i64.wrap (now+(nth xs i).more)) s (nth xs i)=⟨C8 (l9 32) s.l ⟨(nth xs i).c,(IntKind.i64.wrap (now+(nth xs i).more))⟩,H8 (l9 32) s.l ⟨(nth xs i).c,(IntKind.i64.wrap (now+(nth xs i).more))⟩ s.g,F6 s.l ⟨(nth xs i).c,(IntKind.i64.wrap (now+(nth xs i).more))⟩ s.al,M4 s.l ⟨(nth xs i).c,(IntKind.i64.wrap (now+(nth xs i).more))⟩ s.ga,s.gf,s.gl,s.gt,s.st⟩:=by with_unfolding_all unfold plS; rw [if_neg a5S,if_neg (by rw [h4]; simp),if_pos h5]
      rw [e2] at q ⊢; exact q
    · have e2:plS nd (IntKind.i64.wrap (now+(nth xs i).more)) s (nth xs i)=⟨s.l,s.g,s.al,s.ga,tkF s.gf (IntKind.i64.wrap (now+(nth xs i).more)),tkL s.gf s.gl s.gt (IntKind.i64.wrap (now+(nth xs i).more)),tkT s.gf s.gt (IntKind.i64.wrap (now+(nth xs i).more)),s.st⟩:=by with_unfolding_all unfold plS; rw [if_neg a5S,if_neg (by rw [h4]; simp),if_neg (by rw [h5]; simp),if_pos h6]
      rw [e2] at q ⊢; exact q
    · have e2:plS nd (IntKind.i64.wrap (now+(nth xs i).more)) s (nth xs i)=(hdD nd s (nth xs i).m (IntKind.i64.wrap (now+(nth xs i).more))).s:=by with_unfolding_all unfold plS; rw [if_neg a5S,if_neg (by rw [h4]; simp),if_neg (by rw [h5]; simp),if_neg (by rw [h6]; simp)]
      rw [e2] at q ⊢; exact q
  · have e:plF xs nd (r+1) i now s=(now,s):=if_neg hl
    rw [e]
    refine a2Y xs nd now s i hsz ow hI hn (fun h _ _=>absurd (of_decide_eq_true h) ow) (fun h _ _ _=>absurd (of_decide_eq_true h) ow) (fun h _ _ _ _=>absurd (of_decide_eq_true h) ow) (fun h _ _ _ _ _=>absurd (of_decide_eq_true h) ow) (fun h _ _ _ _ _=>absurd (of_decide_eq_true h) ow) (fun _ _=>rfl) (fun _=>rfl)
def ds0 (nd t0:Int):DS:=⟨[],0,[],0,t0,0,0,⟨0,nd,0⟩⟩
theorem c8J (nd t0:Int):Y9 (33 * 0) (ds0 nd t0):=⟨c1y,by simp [ds0],by simp [ds0],Int.le_refl _,by simp [ds0]⟩
def plG (xs:List AskT) (nd t0:Int):DS:=(plF xs nd 70 0 t0 (ds0 nd t0)).2
@[simp] abbrev c0H (a:Int):Ob:=(o_ 0 7 (c4A a))
@[simp] abbrev b6k (a:Int) (b:Int):Heap:=[a9a,a8Z,a0d a,a8Y,a8X,c0H b]
@[simp] abbrev c5U (a:Int) (b:Int):Heap:=[a9a,a8Z,a0d a,a8Y,a8X,c0H b,(o_ 0 2 [[(iI (l9 32)),(sA 10 (mE ([]:l9E)))]]),a0d a,(o_ 0 1 [[(sA 2 (mK ([]:l9K)))]]),(o_ 0 6 [[(oO 6 0 0 0),(oO 7 0 0 0),(oO 8 0 0 0),z_,(iI b),z_]])]
theorem b3L (nd t0:Int) (xs:List AskT) (hsz:∀ a∈xs,a.m.key.app.size < 9223372036854775808/\a.m.key.id.size < 9223372036854775808) (h1:0<=nd) (h2:nd < 6) (h3:j4 t0=t0):AC 28 [(iI nd),(iI t0),(sA 25 (List.map AskT.row xs))] [] (bT,[]) :=
 o8 (fn:=Tryz.f28) (ann:=a2e) (Has.o Tryz.func28) (.r (.s (.ch 2 (b6k t0 nd) (l6.put2 [] [] (oO 5 0 0 0) (b6k t0 nd) (a4M nd t0 oa oa oa) (trivial) (⟨rfl,⟨Ob.ren0 (Entry.o9 0 _),⟨rfl,⟨rfl,⟨Ob.ren0 (Key.o9 0 _),⟨rfl,trivial⟩⟩⟩⟩⟩⟩)) (.ch 5 (c5U t0 nd) (l6.put2 [] (b6k t0 nd) (oO 9 0 0 0) (c5U t0 nd) (b3C nd t0 oa oa oa) (trivial) (⟨rfl,⟨rfl,⟨rfl,⟨rfl,trivial⟩⟩⟩⟩)) (.s (.rn (.s (.g (.loop (mkF 135 []) (c7U xs nd hsz 70 0 t0 (ds0 nd t0) ow (c8J nd t0) rfl) (.r (.g (.h' [] (.q 0 bT)))))))))))))
theorem b3M (nd t0:Int) (xs:List AskT) (hb:¬ (0<=nd/\nd < 6/\j4 t0=t0)):AC 28 [(iI nd),(iI t0),(sA 25 (List.map AskT.row xs))] [] (bT,[]) :=
 o8 (fn:=Tryz.f28) (ann:=a2e) (Has.o Tryz.func28) (.r (.s (.c 2 ((c0k nd t0 oa).lift kr kr []) (.c 5 ((b8w nd t0 oa).lift kr kr []) (.s (.rn (.s (.g (.roll 1 (.r (.y 2 (.int .i64 ((List.length (List.map AskT.row xs):Nat):Int)) (iN xs.length) (Yes.len _ _ _) (.two (decide (0 < (xs.length:Int))) (fun h1 h1'=>(.u3 (.g (.n (.qr 0 bT))))) (fun h1 h1'=>(.n3 (.g (.n (.qr 0 bT)))))))))))))))))
theorem rZ (nd t0:Int) (xs:List AskT) (hsz:∀ a∈xs,a.m.key.app.size < 9223372036854775808/\a.m.key.id.size < 9223372036854775808):AC 28 [(iI nd),(iI t0),(sA 25 (List.map AskT.row xs))] [] (bT,[]):=by
 by_cases hb:0<=nd/\nd < 6/\j4 t0=t0
 · exact b3L nd t0 xs hsz hb.1 hb.2.1 hb.2.2
 · exact b3M nd t0 xs hb
attribute [local irreducible] Tp.ask Tp.card akB akE akL akM akQ akT akZ bX
theorem c8o (i:Nat):(nth a3H i).size < 100:=by
 rcases Nat.lt_or_ge i 4 with h | h
 · have key:((List.range 4).all fun i=>Nat.blt (nth a3H i).size 100)=true:=by kernel_rfl
   exact Nat.le_of_ble_eq_true (c0G key h)
 · have e:nth a3H i=default:=by unfold nth; rw [List.getD_eq_getElem?_getD,List.getElem?_eq_none (by simpa [a3H] using h)]; rfl
   rw [e]; decide
theorem c8F (i:Nat):(nth a3j i).size < 100:=by
 rcases Nat.lt_or_ge i 5 with h | h
 · have key:((List.range 5).all fun i=>Nat.blt (nth a3j i).size 100)=true:=by kernel_rfl
   exact Nat.le_of_ble_eq_true (c0G key h)
 · have e:nth a3j i=default:=by unfold nth; rw [List.getD_eq_getElem?_getD,List.getElem?_eq_none (by simpa [a3j] using h)]; rfl
   rw [e]; decide
theorem c9O (t:Tp):t.ask.1.key.app.size < 9223372036854775808/\t.ask.1.key.id.size < 9223372036854775808:=by
 with_unfolding_all unfold Tp.ask
 simp only []
 split
 · exact ⟨show (0:Nat) < _ by omega,show (0:Nat) < _ by omega⟩
 · have h1:=c8o (((t.step 50).step 5).next 4)
   have h2:=c8F ((((t.step 50).step 5).step 4).next 5)
   exact ⟨by show (nth a3H (((t.step 50).step 5).next 4)).size < _; omega,by show (nth a3j ((((t.step 50).step 5).step 4).next 5)).size < _; omega⟩
theorem c9P (len:Nat) (r:Nat):∀ (t:Tp) (a:AskT),a∈akL len r t->a.m.key.app.size < 9223372036854775808/\a.m.key.id.size < 9223372036854775808:=by
 induction r with
 | zero=>intro t a h; with_unfolding_all simp [akL] at h
 | succ r ih =>
  intro t a h
  have e:akL len (r+1) t=if t.pos < len then akQ t :: akL len r (akT t) else []:=by with_unfolding_all rfl
  rw [e] at h
  split at h
  · rcases List.mem_cons.1 h with rfl | h
    · have e2:(akQ t).m=(t.step 10).ask.1:=by with_unfolding_all rfl
      rw [e2]; exact c9O _
    · exact ih _ _ h
  · simp at h
theorem c4Q (tape:List Int) (n:Nat):∀ a∈bX tape n,a.m.key.app.size < 9223372036854775808/\a.m.key.id.size < 9223372036854775808:=by with_unfolding_all exact c9P _ _ _
def b5g:Ann:={ fin:=some 0 }
theorem a2G {p:Prop} (h:p:=by first | omega | assumption | exact c4Q _ _ | (simp; done) | (simp; omega) | exact kr):p:=h
theorem b0I (tape:List Int) (nd t0:Int) (xs:List AskT) (hl:tape.length < 9223372036854775808) (hsz:∀ a∈xs,a.m.key.app.size < 9223372036854775808/\a.m.key.id.size < 9223372036854775808):AC 7 [(wG tape),(iI nd),(iI t0),(sA 25 (List.map AskT.row xs))] [] (bT,[]) :=
 o8 (fn:=Tryz.f7) (ann:=b5g) (Has.o Tryz.func7) (.r (.s (.c 1 (l6.pre (args:=[(iI nd),z_,(iN 5)]) (args':=[(iI nd),z_,(iI 5)]) ((a0o nd 5 a2G).lift kr kr []) ⟨AV.j3 _,AV.j3 _,AV.j3 _,trivial⟩) (.y 3 (iW ((BitVec.ofInt 64 t0 &&& BitVec.ofInt 64 65535).toNat)) (iN (maskN t0 65535)) (Yes.mask (m:=65535) ow) (.c 5 (l6.pre (args:=[(wG tape),(iN 60)]) (args':=[(wG tape),(iI 60)]) ((c0C tape 60 a2G a2G).lift kr kr []) ⟨⟨rfl,rfl,.inl rfl⟩,AV.j3 _,trivial⟩) (.c 6 ((rZ ((wN nd 5:Nat):Int) ((maskN t0 65535:Nat):Int) (bX tape 60) a2G).lift kr kr []) (.u4 (.c 11 ((rZ nd t0 xs a2G).lift kr kr []) (.u2 (.c 15 ((rZ 0 5 xs a2G).lift kr kr []) (.u (.c 18 ((a7t).lift kr kr []) (.q 0 bT)))))))))))))
structure tF where
 kind:Int
 op:Int
 status:Int
 code:Int
 tag:Int
 n:Int
 seq:Int
 key:Key
 full:Bool
 sum:Int
 deriving Inhabited
def tF.row (x:tF):List AV:=[(iI x.kind),(iI x.op),(iI x.status),(iI x.code),(iI x.tag),(iI x.n),(iI x.seq),(AV.str x.key.app),(AV.str x.key.id),(bB x.full),(AV.int .u32 x.sum),(AV.sl .nil 0 []),(AV.sl .nil 0 [])]
@[simp] theorem tF.V5 (n:Nat) (x:tF):AV.bdds n x.row=true:=by simp [tF.row,AV.bdds,AV.bdd]
@[simp] theorem tF.o9 (n:Nat) (l:List tF):AV.D5 n (l.map tF.row)=true:=by induction l with | nil=>rfl | cons x l ih=>simp [AV.D5,tF.V5,ih]
structure wX where
 kind:Int
 m:tF
 more:Int
 late:Int
 c:Card
 deriving Inhabited
def wX.row (x:wX):List AV:=[(iI x.kind),(iI x.m.kind),(iI x.m.op),(iI x.m.status),(iI x.m.code),(iI x.m.tag),(iI x.m.n),(iI x.m.seq),(AV.str x.m.key.app),(AV.str x.m.key.id),(bB x.m.full),(AV.int .u32 x.m.sum),(AV.sl .nil 0 []),(AV.sl .nil 0 []),(iI x.more),(iI x.late),(AV.str x.c.key.app),(AV.str x.c.key.id),(iI x.c.status),(iI x.c.over),(iI x.c.lease),(iI x.c.stamp.t),(iI x.c.stamp.node),(iI x.c.stamp.n),(bB x.c.gone)]
@[simp] theorem wX.V5 (n:Nat) (x:wX):AV.bdds n x.row=true:=by simp [wX.row,AV.bdds,AV.bdd]
@[simp] theorem wX.o9 (n:Nat) (l:List wX):AV.D5 n (l.map wX.row)=true:=by induction l with | nil=>rfl | cons x l ih=>simp [AV.D5,wX.V5,ih]
end Go.Proofs.YtfjedpipdnlkfaaGreat.AM
namespace Go.Proofs.YtfjedpipdnlkfaaGreat.AM
open Go Go.RowKit
theorem Ev.below {G G':Nat->Prop} {w w':World} {C':Cx} (h:Ev G w Cx.none G' w' C'):Below w.heap.size w w' :=
 ⟨h.os,h.tape,h.output,h.size,fun b hb=>h.rest b hb fun id l hl=>by simp [Cx.none] at hl⟩
def a2F (w:World) (a:Option Addr) (len cap:Nat) (zs:List Int):Prop :=
 (a=none/\len=0/\cap=0/\zs=[])\/∃ x,a=some x/\len<=cap/\cap<=maxLen/\zs.length=cap/\∀ i,i < zs.length->w.cell? (x.add i)=some (.int .i64 (zs.getD i 0))
theorem a8s {w:World} {a:Addr} {v:Value} (h:w.cell? a=some v):a.block < w.heap.size:=by
 unfold World.cell? at h
 rcases Nat.lt_or_ge a.block w.heap.size with h' | h'
 · exact h'
 · rw [Array.getElem?_eq_none ya_] at h; simp at h
theorem sP {w:World} {a:Addr} {v:Value} (h:w.cell? a=some v):a.spot=none:=by
 unfold World.cell? at h
 split at h
 · split at h
   · simp at h
   · rename_i hs; simpa using hs
 · simp at h
theorem a2F.rel {w:World} {a:Option Addr} {len cap:Nat} {zs:List Int} (h:a2F w a len cap zs):VR (fun b=>b < w.heap.size) w Cx.none (.sl .any 1 ((zs.take len).map fI)) (.slice a len cap)/\(zs.take len).length < 9223372036854775808:=by
 rcases h with ⟨rfl,rfl,rfl,rfl⟩ | ⟨x,rfl,hl,hm,hz,hc⟩
 · exact ⟨.nils _ _ _ yf_,by simp⟩
 · have hm':cap<=9223372036854775807:=by simpa [maxLen] using hm
   have hlen:((zs.take len).map fI).length=len:=by simp; omega
   refine ⟨?_,by simp; omega⟩
   have key:=VR.sl (G:=fun b=>b < w.heap.size) (w:=w) Cx.none .any ((zs.take len).map fI) 1 x cap yf_ yf_ ya_ (fun hne=>?_) (fun i _=>.int .i64 (zs.getD i 0)) (fun i hi=>?_) (fun i j hi hj=>?_) (fun _ _ _ _=>rfl) fun i j hi hj=>?_
   · rwa [hlen] at key
   · have h0:0 < zs.length:=by
      rcases Nat.eq_zero_or_pos zs.length with h | h
      · have:zs=[]:=List.eq_nil_of_length_eq_zero h
        subst this; simp at hne
      · exact h
     have:=hc 0 h0
     simp only [Addr.add,if_true] at this
     exact ⟨sP this,a8s this⟩
   · have:((zs.take len).map fI)[i]?=some (fI ((zs.take len)[i]'(by rw [hlen] at hi; simp; omega))):=by
      rw [List.getElem?_map,List.getElem?_eq_getElem (by rw [hlen] at hi; simp; omega)]; rfl
     rw [List.getD_eq_getElem?_getD,this]; rfl
   · obtain rfl:j=0:=by omega
     have h0:0 < zs.length:=by omega
     have hsp:=sP (hc 0 h0)
     simp only [Addr.add,if_true] at hsp
     have:=hc i ya_
     obtain ⟨xb,xo,xs⟩:=x
     simp only at hsp
     subst hsp
     rw [U0] at this
     simpa using this
   · obtain rfl:j=0:=by omega
     have hi':i < zs.length:=by omega
     have:((zs.take len).map fI).getD i []=[.int .i64 (zs.getD i 0)]:=by
      simp [List.getD_eq_getElem?_getD,List.getElem?_take,show i < len by omega,hi',fI]
     rw [this]
     exact .int ..
theorem l6.yes {P:Program} {f:FuncId} {fn:Func} (hf:Has P f fn) {args:List AV} {H':Heap} (h:l6 P f args [] (.bool true,H')) {vs:Array Value} {w:World} (hsz:vs.size=args.length)
 (hargs:∀ i,i < args.length->VR (fun b=>b < w.heap.size) w Cx.none (args.getD i .skip) (vs.getD i undef)) :
 Calls P f vs w fun e w'=>e=.returned (.bool true)/\Below w.heap.size w w' :=
 Calls.mono (h.calls hf hsz hargs (fun b hb=>hb)) fun e w' ⟨v,G',C',he,h1,h2⟩=>by
  cases h2
  exact ⟨he,h1.below⟩
open Go.Deep
inductive CK where
 | int (k:IntKind) | bool | str
def CK.ok:CK->Value->Prop
 | .int k,v=>∃ n,v=.int k n
 | .bool,v=>∃ b,v=.bool b
 | .str,v=>∃ s,v=.string s
def uF (K:TypeId->Option (List CK)):List (TypeId × Nat)->Nat->Option (List CK)
 | [],_=>some []
 | (t,o) :: fs,p=>if o=p then match K t with
  | some ks=>match uF K fs (p+ks.length) with
   | some l=>some (ks++l)
   | none=>none
  | none=>none else none
def pI (T:TT):Nat->TypeId->Option (List CK)
 | 0,_=>none
 | d+1,t=>match T t with
  | some ti=>match ti.d with
   | .int k=>some [.int k]
   | .bool=>some [.bool]
   | .string=>some [.str]
   | .struct fs=>uF (pI T d) fs 0
   | _=>none
  | none=>none
theorem a2k {K:TypeId->Option (List CK)} {cs:List Value} {c:TypeId->Nat}:∀ (fs:List (TypeId × Nat)) (p:Nat) (ks:List CK),uF K fs p=some ks ->
 (∀ (i:Nat) t o,fs[i]?=some (t,o)->∀ kt,K t=some kt->∀ (j:Nat) ck,kt[j]?=some ck->∃ v,((cs.drop o).take (c t))[j]?=some v/\ck.ok v) ->
 ∀ (j:Nat) ck,ks[j]?=some ck->∃ v,cs[p+j]?=some v/\ck.ok v
 | [],p,ks,h,_,j,ck,hj=>by simp [uF] at h; subst h; simp at hj
 | (t,o) :: fs,p,ks,h,hf,j,ck,hj=>by
  simp only [uF] at h
  split at h
  case isFalse=>simp at h
  rename_i hop
  split at h
  case h_2=>simp at h
  rename_i kt hkt
  split at h
  case h_2=>simp at h
  rename_i l hl
  simp only [Option.some.injEq] at h
  subst h hop
  rcases Nat.lt_or_ge j kt.length with h' | h'
  · rw [List.getElem?_append_left h'] at hj
    obtain ⟨v,hv,hok⟩:=hf 0 t o rfl kt hkt j ck hj
    refine ⟨v,?_,hok⟩
    rw [List.getElem?_take] at hv
    split at hv
    · rwa [List.getElem?_drop] at hv
    · simp at hv
  · rw [List.getElem?_append_right h'] at hj
    obtain ⟨v,hv,hok⟩:=a2k fs (o+kt.length) l hl (fun i t' o' hi=>hf (i+1) t' o' yc_) (j - kt.length) ck hj
    refine ⟨v,?_,hok⟩
    rwa [show o+kt.length+(j - kt.length)=o+j by omega] at hv
section
variable {H:Type} {enc:TypeId × Value->H} {P:Program} {w:World} {base:Nat} {spare:Nat->Bool} {held:Bool}
theorem a1v {T:TT} (hT:TOk P T):∀ (d:Nat) {t:TypeId} {ks:List CK} {fuel:Nat} {cs:List Value} {x:DataW H × List MemPlace},pI T d t=some ks->DataW.trod enc P w base spare held fuel t cs=some x ->
 ∀ (j:Nat) ck,ks[j]?=some ck->∃ v,cs[j]?=some v/\ck.ok v
 | 0,t,ks,fuel,cs,x,h,_,j,ck,hj=>by simp [pI] at h
 | d+1,t,ks,fuel,cs,x,h,ht,j,ck,hj=>by
  simp only [pI] at h
  split at h
  case h_2=>simp at h
  rename_i ti hti
  have hu:=(hT t ti hti).und
  split at h
  · rename_i k hd
    rw [hd] at hu
    simp only [Option.some.injEq] at h
    subst h
    obtain ⟨n,rfl,_⟩:=DataW.trod_int hu ht
    cases j with
    | zero=>simp at hj; subst hj; exact ⟨_,rfl,n,rfl⟩
    | succ j=>simp at hj
  · rename_i hd
    rw [hd] at hu
    simp only [Option.some.injEq] at h
    subst h
    obtain ⟨b,rfl,_⟩:=DataW.trod_bool hu ht
    cases j with
    | zero=>simp at hj; subst hj; exact ⟨_,rfl,b,rfl⟩
    | succ j=>simp at hj
  · rename_i hd
    rw [hd] at hu
    simp only [Option.some.injEq] at h
    subst h
    obtain ⟨s,rfl,_⟩:=DataW.trod_string hu ht
    cases j with
    | zero=>simp at hj; subst hj; exact ⟨_,rfl,s,rfl⟩
    | succ j=>simp at hj
  · rename_i fs hd
    rw [hd] at hu
    obtain ⟨fields,hf,hmap,_⟩:=hu
    obtain ⟨xs,n,_,_,hlen,hxl,hget⟩:=DataW.trod_struct hf ht
    have:=a2k (cs:=cs) (c:=fun t=>P.cellsOf t) fs 0 ks h (fun i t' o hi kt hkt j ck hj=>by
     rw [<- hmap,List.getElem?_map] at hi
     cases hfi:fields.toList[i]? with
     | none=>rw [hfi] at hi; simp at hi
     | some f =>
      rw [hfi] at hi
      simp only [Option.map_some,Option.some.injEq,Prod.mk.injEq] at hi
      obtain ⟨rfl,rfl⟩:=hi
      have hfa:fields[i]?=some f:=by simpa using hfi
      have h1:=hget i f hfa
      have hi2:i < fields.size:=by
       rcases Nat.lt_or_ge i fields.size with h' | h'
       · exact h'
       · rw [Array.getElem?_eq_none h'] at hfa; simp at hfa
      rw [List.getElem?_eq_getElem ya_] at h1
      exact a1v hT d hkt h1 j ck hj) j ck hj
    simpa using this
  · simp at h
theorem b3g {T:TT} (hT:TOk P T) {d:Nat} {t e:TypeId} {ks:List CK} {fuel:Nat} {cs:List Value} {x:DataW H × List MemPlace} (ht:P.underlying t=some (.slice e)) (hk:pI T d e=some ks) (hc:P.cellsOf e=ks.length) (h:DataW.trod enc P w base spare held fuel t cs=some x) :
 cs=[.slice none 0 0]\/∃ (a:Addr) (len cap:Nat),cs=[.slice (some a) len cap]/\len<=cap/\cap<=maxLen/\∀ (i j:Nat) ck,i < len->ks[j]?=some ck->∃ v,w.cell? (a.add (i * ks.length+j))=some v/\ck.ok v:=by
 rcases open_slice ht h with ⟨h0,_⟩ | ⟨a,len,cap,m,n,D,Pl,rfl,hb,hl,hm,hmm,rfl,hx⟩
 · exact .inl h0
 refine .inr ⟨a,len,cap,rfl,hl,hm,fun i j ck hi hj=>?_⟩
 have him:i < m:=by rw [hmm]; split <;> omega
 obtain ⟨cs',h1,h2⟩:=hx i him
 obtain ⟨v,hv,hok⟩:=a1v hT d hk h2 j ck hj
 obtain ⟨_,hlen,hcell⟩:=World.cells?_some h1
 have hjl:j < ks.length:=by
  rcases Nat.lt_or_ge j ks.length with h' | h'
  · exact h'
  · rw [List.getElem?_eq_none h'] at hj; simp at hj
 refine ⟨v,?_,hok⟩
 rw [<- hv,<- hcell j (by rw [hc]; exact hjl),hc,add_add]
end
def gZ {α:Type} [Inhabited α] (row:α->List AV) (k:Nat) (w:World) (a:Option Addr) (len cap:Nat) (zs:List α):Prop :=
 zs.length=len/\((a=none/\len=0/\cap=0)\/∃ x,a=some x/\len<=cap/\cap<=maxLen/\∀ i j,i < len->j < k->∃ v,w.cell? (x.add (i * k+j))=some v/\v.oneCell'=true/\VR (fun b=>b < w.heap.size) w Cx.none ((row (nth zs i)).getD j .skip) v)
theorem gZ.of {α:Type} [Inhabited α] {row:α->List AV} {k:Nat} {w:World} {a:Addr} {len cap:Nat} (h1:len<=cap) (h2:cap<=maxLen)
 (h:∀ i,i < len->∃ x:α,∀ j,j < k->∃ v,w.cell? (a.add (i * k+j))=some v/\v.oneCell'=true/\VR (fun b=>b < w.heap.size) w Cx.none ((row x).getD j .skip) v):∃ zs,gZ row k w (some a) len cap zs:=by
 obtain ⟨q,hq⟩:=choose_lt h
 refine ⟨(List.range len).map q,by simp,.inr ⟨a,rfl,h1,h2,fun i j hi hj=>?_⟩⟩
 have:nth ((List.range len).map q) i=q i:=by
  have:=kY (l:=(List.range len).map q) (i:=i) yc_
  rw [List.getElem?_map,List.getElem?_range hi] at this
  simpa using this.symm
 rw [this]
 exact hq i hi j hj
theorem gZ.rel {α:Type} [Inhabited α] {row:α->List AV} {k:Nat} (hrow:∀ x,(row x).length=k) (hk:0 < k) {w:World} {a:Option Addr} {len cap:Nat} {zs:List α} (h:gZ row k w a len cap zs):VR (fun b=>b < w.heap.size) w Cx.none (.sl .any k (zs.map row)) (.slice a len cap):=by
 obtain ⟨hz,h⟩:=h
 rcases h with ⟨rfl,rfl,rfl⟩ | ⟨x,rfl,hl,hm,hc⟩
 · obtain rfl:zs=[]:=List.eq_nil_of_length_eq_zero hz
   exact .nils _ _ _ yf_
 · have hlen:(zs.map row).length=len:=by simp [hz]
   have hsp:(zs.map row)≠[]->x.spot=none/\x.block < w.heap.size:=fun hne=>by
    have h0:0 < len:=by
     rcases Nat.eq_zero_or_pos len with h | h
     · rw [h] at hlen; exact absurd (List.eq_nil_of_length_eq_zero hlen) hne
     · exact h
    obtain ⟨v,hv,_⟩:=hc 0 0 h0 hk
    simp only [Nat.zero_mul,Nat.add_zero,Addr.add,if_true] at hv
    exact ⟨sP hv,a8s hv⟩
   have hrowi:∀ i,i < (zs.map row).length->(zs.map row).getD i []=row (nth zs i):=fun i hi=>by
    rw [List.getD_eq_getElem?_getD,b1t row yc_]; rfl
   have hcell:∀ i j,i < (zs.map row).length->j < k->∃ v,w.cell? ⟨x.block,x.off+i * k+j,none⟩=some v/\v.oneCell'=true/\VR (fun b=>b < w.heap.size) w Cx.none ((row (nth zs i)).getD j .skip) v:=fun i j hi hj=>by
    obtain ⟨v,hv,h1,h2⟩:=hc i j ya_ hj
    refine ⟨v,?_,h1,h2⟩
    obtain ⟨hs1,_⟩:=hsp (fun e=>by rw [e] at hi; simp at hi)
    obtain ⟨xb,xo,xs⟩:=x
    simp only at hs1
    subst hs1
    rw [U0] at hv
    rw [Nat.add_assoc]
    exact hv
   have key:=VR.sl (G:=fun b=>b < w.heap.size) (w:=w) Cx.none .any (zs.map row) k x cap yf_ yf_ ya_ hsp (fun i j=>(w.cell? ⟨x.block,x.off+i * k+j,none⟩).getD undef) (fun i hi=>by rw [hrowi i hi]; exact hrow _) (fun i j hi hj=>by
    obtain ⟨v,hv,_⟩:=hcell i j hi hj
    rw [hv]; rfl) (fun i j hi hj=>by
    obtain ⟨v,hv,h1,_⟩:=hcell i j hi hj
    rw [hv]; exact h1) fun i j hi hj=>by
    obtain ⟨v,hv,_,h2⟩:=hcell i j hi hj
    rw [hv,hrowi i hi]; exact h2
   rwa [hlen] at key
inductive CL where
 | int (k:IntKind) | bool | str | sl (ks:List CK)
def CL.ok (w:World):CL->Value->Prop
 | .int k,v=>∃ n,v=.int k n
 | .bool,v=>∃ b,v=.bool b
 | .str,v=>∃ s:ByteArray,v=.string s/\s.size < 9223372036854775808
 | .sl ks,v=>∃ (a:Option Addr) (len cap:Nat),v=.slice a len cap/\((a=none/\len=0/\cap=0)\/∃ x,a=some x/\len<=cap/\cap<=maxLen/\∀ (i j:Nat) ck,i < len->ks[j]?=some ck->∃ v,w.cell? (x.add (i * ks.length+j))=some v/\ck.ok v)
def uE (K:TypeId->Option (List CL)):List (TypeId × Nat)->Nat->Option (List CL)
 | [],_=>some []
 | (t,o) :: fs,p=>if o=p then match K t with
  | some ks=>match uE K fs (p+ks.length) with
   | some l=>some (ks++l)
   | none=>none
  | none=>none else none
def uD (T:TT):Nat->TypeId->Option (List CL)
 | 0,_=>none
 | d+1,t=>match T t with
  | some ti=>match ti.d with
   | .int k=>some [.int k]
   | .bool=>some [.bool]
   | .string=>some [.str]
   | .struct fs=>uE (uD T d) fs 0
   | .slice e=>match T e with
    | some te=>match pI T d e with
     | some ks=>if te.size=ks.length then some [.sl ks] else none
     | none=>none
    | none=>none
   | _=>none
  | none=>none
theorem a2j {w:World} {K:TypeId->Option (List CL)} {cs:List Value} {c:TypeId->Nat}:∀ (fs:List (TypeId × Nat)) (p:Nat) (ks:List CL),uE K fs p=some ks ->
 (∀ (i:Nat) t o,fs[i]?=some (t,o)->∀ kt,K t=some kt->∀ (j:Nat) ck,kt[j]?=some ck->∃ v,((cs.drop o).take (c t))[j]?=some v/\ck.ok w v) ->
 ∀ (j:Nat) ck,ks[j]?=some ck->∃ v,cs[p+j]?=some v/\ck.ok w v
 | [],p,ks,h,_,j,ck,hj=>by simp [uE] at h; subst h; simp at hj
 | (t,o) :: fs,p,ks,h,hf,j,ck,hj=>by
  simp only [uE] at h
  split at h
  case isFalse=>simp at h
  rename_i hop
  split at h
  case h_2=>simp at h
  rename_i kt hkt
  split at h
  case h_2=>simp at h
  rename_i l hl
  simp only [Option.some.injEq] at h
  subst h hop
  rcases Nat.lt_or_ge j kt.length with h' | h'
  · rw [List.getElem?_append_left h'] at hj
    obtain ⟨v,hv,hok⟩:=hf 0 t o rfl kt hkt j ck hj
    refine ⟨v,?_,hok⟩
    rw [List.getElem?_take] at hv
    split at hv
    · rwa [List.getElem?_drop] at hv
    · simp at hv
  · rw [List.getElem?_append_right h'] at hj
    obtain ⟨v,hv,hok⟩:=a2j fs (o+kt.length) l hl (fun i t' o' hi=>hf (i+1) t' o' yc_) (j - kt.length) ck hj
    refine ⟨v,?_,hok⟩
    rwa [show o+kt.length+(j - kt.length)=o+j by omega] at hv
section
variable {H:Type} {enc:TypeId × Value->H} {P:Program} {w:World} {base:Nat} {spare:Nat->Bool} {held:Bool}
theorem b5E {T:TT} (hT:TOk P T) {t:TypeId} {ti:TI} (h:T t=some ti):P.cellsOf t=ti.size:=by
 obtain ⟨i,hi,hs,_⟩:=(hT t ti h).info
 simp [Program.cellsOf,hi,hs]
theorem a1u {T:TT} (hT:TOk P T):∀ (d:Nat) {t:TypeId} {ks:List CL} {fuel:Nat} {cs:List Value} {x:DataW H × List MemPlace},uD T d t=some ks->DataW.trod enc P w base spare held fuel t cs=some x ->
 ∀ (j:Nat) ck,ks[j]?=some ck->∃ v,cs[j]?=some v/\ck.ok w v
 | 0,t,ks,fuel,cs,x,h,_,j,ck,hj=>by simp [uD] at h
 | d+1,t,ks,fuel,cs,x,h,ht,j,ck,hj=>by
  simp only [uD] at h
  split at h
  case h_2=>simp at h
  rename_i ti hti
  have hu:=(hT t ti hti).und
  split at h
  · rename_i k hd
    rw [hd] at hu
    simp only [Option.some.injEq] at h
    subst h
    obtain ⟨n,rfl,_⟩:=DataW.trod_int hu ht
    cases j with
    | zero=>simp at hj; subst hj; exact ⟨_,rfl,n,rfl⟩
    | succ j=>simp at hj
  · rename_i hd
    rw [hd] at hu
    simp only [Option.some.injEq] at h
    subst h
    obtain ⟨b,rfl,_⟩:=DataW.trod_bool hu ht
    cases j with
    | zero=>simp at hj; subst hj; exact ⟨_,rfl,b,rfl⟩
    | succ j=>simp at hj
  · rename_i hd
    rw [hd] at hu
    simp only [Option.some.injEq] at h
    subst h
    obtain ⟨s,rfl,_,hsz⟩:=DataW.trod_string hu ht
    cases j with
    | zero=>simp at hj; subst hj; exact ⟨_,rfl,s,rfl,Nat.lt_succ_of_le hsz⟩
    | succ j=>simp at hj
  · rename_i fs hd
    rw [hd] at hu
    obtain ⟨fields,hf,hmap,_⟩:=hu
    obtain ⟨xs,n,_,_,hlen,hxl,hget⟩:=DataW.trod_struct hf ht
    have:=a2j (w:=w) (cs:=cs) (c:=fun t=>P.cellsOf t) fs 0 ks h (fun i t' o hi kt hkt j ck hj=>by
     rw [<- hmap,List.getElem?_map] at hi
     cases hfi:fields.toList[i]? with
     | none=>rw [hfi] at hi; simp at hi
     | some f =>
      rw [hfi] at hi
      simp only [Option.map_some,Option.some.injEq,Prod.mk.injEq] at hi
      obtain ⟨rfl,rfl⟩:=hi
      have hfa:fields[i]?=some f:=by simpa using hfi
      have h1:=hget i f hfa
      have hi2:i < fields.size:=by
       rcases Nat.lt_or_ge i fields.size with h' | h'
       · exact h'
       · rw [Array.getElem?_eq_none h'] at hfa; simp at hfa
      rw [List.getElem?_eq_getElem ya_] at h1
      exact a1u hT d hkt h1 j ck hj) j ck hj
    simpa using this
  · rename_i e hd
    rw [hd] at hu
    split at h
    case h_2=>simp at h
    rename_i te hte
    split at h
    case h_2=>simp at h
    rename_i kt hkt
    split at h
    case isFalse=>simp at h
    rename_i hsz
    simp only [Option.some.injEq] at h
    subst h
    have hc:P.cellsOf e=kt.length:=by rw [b5E hT hte,hsz]
    cases j with
    | succ j=>simp at hj
    | zero =>
     simp at hj; subst hj
     rcases b3g hT hu hkt hc ht with rfl | ⟨a,len,cap,rfl,h1,h2,h3⟩
     · exact ⟨_,rfl,none,0,0,rfl,.inl ⟨rfl,rfl,rfl⟩⟩
     · exact ⟨_,rfl,some a,len,cap,rfl,.inr ⟨a,rfl,h1,h2,h3⟩⟩
  · simp at h
theorem b3f {T:TT} (hT:TOk P T) {d:Nat} {t e:TypeId} {ks:List CL} {fuel:Nat} {cs:List Value} {x:DataW H × List MemPlace} (ht:P.underlying t=some (.slice e)) (hk:uD T d e=some ks) (hc:P.cellsOf e=ks.length) (h:DataW.trod enc P w base spare held fuel t cs=some x) :
 cs=[.slice none 0 0]\/∃ (a:Addr) (len cap:Nat),cs=[.slice (some a) len cap]/\len<=cap/\cap<=maxLen/\∀ (i j:Nat) ck,i < len->ks[j]?=some ck->∃ v,w.cell? (a.add (i * ks.length+j))=some v/\ck.ok w v:=by
 rcases open_slice ht h with ⟨h0,_⟩ | ⟨a,len,cap,m,n,D,Pl,rfl,hb,hl,hm,hmm,rfl,hx⟩
 · exact .inl h0
 refine .inr ⟨a,len,cap,rfl,hl,hm,fun i j ck hi hj=>?_⟩
 have him:i < m:=by rw [hmm]; split <;> omega
 obtain ⟨cs',h1,h2⟩:=hx i him
 obtain ⟨v,hv,hok⟩:=a1u hT d hk h2 j ck hj
 obtain ⟨_,hlen,hcell⟩:=World.cells?_some h1
 have hjl:j < ks.length:=by
  rcases Nat.lt_or_ge j ks.length with h' | h'
  · exact h'
  · rw [List.getElem?_eq_none h'] at hj; simp at hj
 refine ⟨v,?_,hok⟩
 rw [<- hv,<- hcell j (by rw [hc]; exact hjl),hc,add_add]
end
theorem CL.rows {α:Type} [Inhabited α] {row:α->List AV} {k:Nat} (hrow:∀ x,(row x).length=k) (hk:0 < k) {w:World} {ks:List CK} (hks:ks.length=k) {v:Value} (h:(CL.sl ks).ok w v)
 (mk:∀ {a:Addr} {p:Nat},(∀ (j:Nat) ck,ks[j]?=some ck->∃ v,w.cell? (a.add (p+j))=some v/\ck.ok v)->∃ x:α,∀ j,j < k->∃ v,w.cell? (a.add (p+j))=some v/\v.oneCell'=true/\VR (fun b=>b < w.heap.size) w Cx.none ((row x).getD j .skip) v) :
 v.oneCell'=true/\∃ zs:List α,VR (fun b=>b < w.heap.size) w Cx.none (.sl .any k (zs.map row)) v:=by
 obtain ⟨a,len,cap,rfl,h⟩:=h
 refine ⟨rfl,?_⟩
 rcases h with ⟨rfl,rfl,rfl⟩ | ⟨x,rfl,h1,h2,h3⟩
 · exact ⟨[],.nils _ _ _ yf_⟩
 · obtain ⟨zs,hz⟩:=gZ.of (row:=row) (k:=k) (w:=w) h1 h2 fun i hi=>mk (p:=i * k) fun j ck hj=>by rw [<- hks]; exact h3 i j ck hi hj
   exact ⟨zs,hz.rel hrow hk⟩
theorem gZ.ofP {α:Type} [Inhabited α] {row:α->List AV} {k:Nat} {w:World} {a:Addr} {len cap:Nat} (Q:α->Prop) (h1:len<=cap) (h2:cap<=maxLen)
 (h:∀ i,i < len->∃ x:α,Q x/\∀ j,j < k->∃ v,w.cell? (a.add (i * k+j))=some v/\v.oneCell'=true/\VR (fun b=>b < w.heap.size) w Cx.none ((row x).getD j .skip) v):∃ zs,gZ row k w (some a) len cap zs/\∀ x∈zs,Q x:=by
 obtain ⟨q,hq⟩:=choose_lt h
 refine ⟨(List.range len).map q,⟨by simp,.inr ⟨a,rfl,h1,h2,fun i j hi hj=>?_⟩⟩,fun x hx=>?_⟩
 · have:nth ((List.range len).map q) i=q i:=by
    have:=kY (l:=(List.range len).map q) (i:=i) yc_
    rw [List.getElem?_map,List.getElem?_range hi] at this
    simpa using this.symm
   rw [this]
   exact (hq i hi).2 j hj
 · obtain ⟨i,hi,rfl⟩:=List.mem_map.1 hx
   exact (hq i (List.mem_range.1 hi)).1
end Go.Proofs.YtfjedpipdnlkfaaGreat.AM
