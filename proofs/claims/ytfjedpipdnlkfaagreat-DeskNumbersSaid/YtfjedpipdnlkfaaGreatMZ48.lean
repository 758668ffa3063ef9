/-
  Texts of this claim, part 8 of 8: an abstract machine over the model; what functions come to; plain laws.
-/
import Derived.Test.YtfjedpipdnlkfaaGreatMZ47
import Derived.Below
import Derived.Carry
import Derived.ChangeSlices
set_option linter.unusedSectionVars false
set_option maxRecDepth 100000
set_option linter.unusedVariables false
set_option linter.unusedSimpArgs false
namespace Go.Proofs.YtfjedpipdnlkfaaGreat.AM
open Go Go.Proofs.YtfjedpipdnlkfaaGreat
attribute [local irreducible] E8 J4 j6 l6 l9
theorem c0p (l:l9E) (k:Key):List.Sublist (H9 l k) l:=by
 unfold H9
 split
 · have h1:List.Sublist (l.drop (u7 l k+1)) (l.drop (u7 l k)):=by
    rw [<- List.drop_drop]; exact List.drop_sublist _ _
   have h2:=List.Sublist.append (List.Sublist.refl (l.take (u7 l k))) h1
   rwa [List.take_append_drop] at h2
 · exact List.Sublist.refl _
theorem c0q (ks:l9K):∀ (l:l9E),List.Sublist (ks.foldl H9 l) l:=by
 induction ks with
 | nil=>intro l; exact List.Sublist.refl _
 | cons k ks ih=>intro l; rw [List.foldl_cons]; exact (ih _).trans (c0p l k)
theorem b9R {l:l9E} {x:Entry} {st:l8} {nd:Int} (h:st.node=nd) (hx:x.card.stamp.node=nd):(K6 l x st).node=nd:=by
 unfold K6; split <;> assumption
theorem c8B {nd:Int} {s:DS} (h:s.st.node=nd) (q:Msg) (now:Int):(hdD nd s q now).s.st.node=nd:=by
 unfold hdD
 split
 · split
   · exact h
   · simp only [DS.turn]
     rcases a6e s.l s.g s.al s.ga s.gt nd s.st q (j4 now) with ⟨_,_,_,e,_⟩ | ⟨_,_,_,_,e,_⟩ | ⟨x,_,hx,e⟩
     · rw [e]; exact h
     · rw [e]; exact h
     · rw [e]; exact b9R h (by rw [hx]; rfl)
 · exact h
theorem a6m (nd now:Int):∀ (ks:l9K) {s:DS},s.st.node=nd->(swF nd now ks s).st.node=nd
 | [],_,h=>h
 | k :: ks,s,_=>a6m nd now ks (a6k nd now s k)
theorem a1z {s:DS} (h:s.l.length<=32) (now late:Int):(D6 s now late).length<=32:=by
 unfold D6
 split
 · simp
 · exact vM h now late
theorem c8C {n:Nat} {s:DS} (h:Z7 n s) (nd:Int) (q:Msg) (now:Int):(hdD nd s q now).m.cards.length<=32/\(hdD nd s q now).m.keys.length=0:=by
 have h1:=h.len
 have h2:=mP (List.map Entry.card s.l)
 rw [List.length_map] at h2
 unfold hdD
 split
 · split
   · show (aI s.l s.al q.seq q.tag).cards.length<=32/\(aI s.l s.al q.seq q.tag).keys.length=0
     unfold aI
     split
     · exact ⟨by show (K4 (List.map Entry.card s.l)).length<=32; omega,rfl⟩
     · have h3:=b5t s.l s.al q.seq
       exact ⟨by show (X3 s.l s.al q.seq).length<=32; omega,rfl⟩
   · exact ⟨by simp [hdM],rfl⟩
 · exact ⟨by simp [hdM],rfl⟩
def plS (nd now:Int) (s:DS) (a:y8):DS :=
 if (a.kind == 6)=true then swF nd (j4 now) (D6 s (j4 now) a.late) s
 else if (a.kind == 7)=true then ⟨List.foldl H9 s.l (H7 s.l (j4 now)),s.g,s.al,s.ga,s.gf,s.gl,s.gt,s.st⟩
 else if (a.kind == 8)=true then ⟨C9 (o7 32) s.l ⟨a.c,now⟩,I5 (o7 32) s.l ⟨a.c,now⟩ s.g,F8 s.l ⟨a.c,now⟩ s.al,M7 s.l ⟨a.c,now⟩ s.ga,s.gf,s.gl,s.gt,s.st⟩
 else if (a.kind == 9)=true then ⟨s.l,s.g,s.al,s.ga,tkF s.gf now,tkL s.gf s.gl s.gt now,tkT s.gf s.gt now,s.st⟩
 else (hdD nd s a.m now).s
theorem b9c {n:Nat} {s:DS} (h:Z7 n s) (nd now:Int) (a:y8):Z7 (n+33) (plS nd now s a):=by
 unfold plS
 split
 · exact (a6l nd (j4 now) _ h).mono (by have:=a1z h.len (j4 now) a.late; omega)
 split
 · have hs:=c0q (H7 s.l (j4 now)) s.l
   exact ⟨List.Pairwise.sublist (hs.map kE) h.srt,Nat.le_trans hs.length_le h.len,Nat.le_trans h.al ow,h.g0,h.g1⟩
 split
 · have ho:=h.put ⟨a.c,now⟩
   exact ⟨ho.srt,ho.len,Nat.le_trans ho.al ow,ho.g0,ho.g1⟩
 split
 · have ht:=c8Q s.gf now (gt:=s.gt) ⟨h.g0,h.g1⟩
   exact ⟨h.srt,h.len,Nat.le_trans h.al ow,ht.1,ht.2⟩
 · exact (h.hd nd a.m now).mono ow
theorem c2R {nd:Int} {s:DS} (h:s.st.node=nd) (now:Int) (a:y8):(plS nd now s a).st.node=nd:=by
 unfold plS
 split
 · exact a6m nd _ _ h
 split
 · exact h
 split
 · exact h
 split
 · exact h
 · exact c8B h a.m now
attribute [local irreducible] P9 maxS l7 F8 M7 A9 C9 I5 d9 r9 tuR P7 hdD aI j4 dD F9 opM Q8 I7 x9 gZ H7 M5 H9 y5 aK tkF tkL tkT X3 K4 ofB swC swF D6 plS
def a2g:Ann:={ gha:=[(29,.cut 10)],fin:=some 0,live:=[(6,[2,7,8,9,10])],out:=[(6,[])] }
@[simp] abbrev iT (a:Int) (b:List y8) (c:Nat):=(IntKind.i64.wrap (a+(nth b c).more))
@[simp] abbrev qN (a:Int) (b:List y8) (c:Nat):=(iI (iT a b c))
@[simp] abbrev a8Z (a:List y8) (b:Int) (c:Nat):Fr:=(mkF 135 [(2,(sA 25 (List.map y8.row a))),(7,(oO 5 0 0 0)),(8,(oO 9 0 0 0)),(9,(qN b a c)),(10,(iN (c+1)))])
@[simp] abbrev y7 (a:Int) (b:List y8) (c:Nat):=(IntKind.i64.wrap (a+(nth b c).more))
@[simp] abbrev b6r (a:Int) (b:Int) (c:List y8) (d:Nat) (e:DS):Ob:=(o_ 0 2 [[(iI (o7 32)),(AV.osl 1 (swF a (j4 (y7 b c d)) (D6 e (j4 (y7 b c d)) (nth c d).late) e).g 10 0 (List.length (swF a (j4 (y7 b c d)) (D6 e (j4 (y7 b c d)) (nth c d).late) e).l))]])
@[simp] abbrev b6q (a:Int) (b:Int) (c:List y8) (d:Nat) (e:DS):Ob:=(o_ ((swF a (j4 (y7 b c d)) (D6 e (j4 (y7 b c d)) (nth c d).late) e).g) 10 (mE (swF a (j4 (y7 b c d)) (D6 e (j4 (y7 b c d)) (nth c d).late) e).l))
@[simp] abbrev a2B (a:Int) (b:Int) (c:List y8) (d:Nat) (e:DS):Ob:=(o_ 0 3 [[(iI (swF a (j4 (y7 b c d)) (D6 e (j4 (y7 b c d)) (nth c d).late) e).gf),(iI (swF a (j4 (y7 b c d)) (D6 e (j4 (y7 b c d)) (nth c d).late) e).gl),(iI (swF a (j4 (y7 b c d)) (D6 e (j4 (y7 b c d)) (nth c d).late) e).gt)]])
@[simp] abbrev b6p (a:Int) (b:Int) (c:List y8) (d:Nat) (e:DS):Ob:=(o_ 0 2 [[(iN ((List.length (swF a (j4 (y7 b c d)) (D6 e (j4 (y7 b c d)) (nth c d).late) e).al))),(AV.osl 4 (swF a (j4 (y7 b c d)) (D6 e (j4 (y7 b c d)) (nth c d).late) e).ga 2 0 (List.length (o8 (swF a (j4 (y7 b c d)) (D6 e (j4 (y7 b c d)) (nth c d).late) e).al)))]])
@[simp] abbrev b6o (a:Int) (b:Int) (c:List y8) (d:Nat) (e:DS):Ob:=(o_ ((swF a (j4 (y7 b c d)) (D6 e (j4 (y7 b c d)) (nth c d).late) e).ga) 2 (mK (o8 (swF a (j4 (y7 b c d)) (D6 e (j4 (y7 b c d)) (nth c d).late) e).al)))
@[simp] abbrev b6n (a:Int) (b:Int) (c:List y8) (d:Nat) (e:DS):Ob:=(o_ 0 7 [[(iI a),(iI (swF a (j4 (y7 b c d)) (D6 e (j4 (y7 b c d)) (nth c d).late) e).st.t),(iI (swF a (j4 (y7 b c d)) (D6 e (j4 (y7 b c d)) (nth c d).late) e).st.node),(iI (swF a (j4 (y7 b c d)) (D6 e (j4 (y7 b c d)) (nth c d).late) e).st.n),(oO 0 0 0 0),(oO 2 0 0 0),(oO 3 0 0 0)]])
@[simp] abbrev c6o (a:Int) (b:Int) (c:List y8) (d:Nat) (e:DS):Ob:=(o_ 0 2 [[(iI (o7 32)),(sA 10 (mE (swF a (j4 (y7 b c d)) (D6 e (j4 (y7 b c d)) (nth c d).late) e).l))]])
@[simp] abbrev c6n (a:Int) (b:Int) (c:List y8) (d:Nat) (e:DS):Ob:=(o_ 0 1 [[(sA 2 (mK (swF a (j4 (y7 b c d)) (D6 e (j4 (y7 b c d)) (nth c d).late) e).al))]])
@[simp] abbrev c6m (a:Int) (b:Int) (c:List y8) (d:Nat) (e:DS):Ob:=(o_ 0 6 [[(oO 6 0 0 0),(oO 7 0 0 0),(oO 8 0 0 0),(iI (swF a (j4 (y7 b c d)) (D6 e (j4 (y7 b c d)) (nth c d).late) e).st.t),(iI (swF a (j4 (y7 b c d)) (D6 e (j4 (y7 b c d)) (nth c d).late) e).st.node),(iI (swF a (j4 (y7 b c d)) (D6 e (j4 (y7 b c d)) (nth c d).late) e).st.n)]])
@[simp] abbrev d0u (a:Int) (b:Int) (c:List y8) (d:Nat) (e:DS):Heap:=[b6r a b c d e,b6q a b c d e,a2B a b c d e,b6p a b c d e,b6o a b c d e,b6n a b c d e,c6o a b c d e,a2B a b c d e,c6n a b c d e,c6m a b c d e]
@[simp] abbrev a8Y (a:DS) (b:Int) (c:List y8) (d:Nat):Ob:=(o_ 0 2 [[(iI (o7 32)),(AV.osl 1 a.g 10 0 (List.length (List.foldl H9 a.l (H7 a.l (j4 (y7 b c d))))))]])
@[simp] abbrev a8X (a:DS) (b:Int) (c:List y8) (d:Nat):Ob:=(o_ a.g 10 (mE (List.foldl H9 a.l (H7 a.l (j4 (y7 b c d))))))
@[simp] abbrev c0T (a:DS) (b:Int) (c:List y8) (d:Nat):Ob:=(o_ 0 2 [[(iI (o7 32)),(sA 10 (mE (List.foldl H9 a.l (H7 a.l (j4 (y7 b c d))))))]])
@[simp] abbrev a3r (a:DS):=[[(oO 6 0 0 0),(oO 7 0 0 0),(oO 8 0 0 0),(iI a.st.t),(iI a.st.node),(iI a.st.n)]]
@[simp] abbrev gG (a:DS):Ob:=(o_ 0 6 (a3r a))
@[simp] abbrev d0t (a:DS) (b:Int) (c:List y8) (d:Nat) (e:Int):Heap:=[a8Y a b c d,a8X a b c d,Y4 a,jD a,jC a,fF e a,c0T a b c d,Y4 a,jH a,gG a]
@[simp] abbrev a8W (a:DS) (b:List y8) (d:Nat) (e:Int):Ob:=(o_ 0 2 [[(iI (o7 32)),(AV.osl 1 (I5 (o7 32) a.l (Entry.mk (nth b d).c (y7 e b d)) a.g) 10 0 (List.length (C9 (o7 32) a.l (Entry.mk (nth b d).c (y7 e b d)))))]])
@[simp] abbrev a8V (a:DS) (b:List y8) (d:Nat) (e:Int):Ob:=(o_ (I5 (o7 32) a.l (Entry.mk (nth b d).c (y7 e b d)) a.g) 10 (mE (C9 (o7 32) a.l (Entry.mk (nth b d).c (y7 e b d)))))
@[simp] abbrev a8U (a:DS) (b:List y8) (d:Nat) (e:Int):Ob:=(o_ 0 2 [[(iN ((List.length (F8 a.l (Entry.mk (nth b d).c (y7 e b d)) a.al)))),(AV.osl 4 (M7 a.l (Entry.mk (nth b d).c (y7 e b d)) a.ga) 2 0 (List.length (o8 (F8 a.l (Entry.mk (nth b d).c (y7 e b d)) a.al))))]])
@[simp] abbrev a8T (a:DS) (b:List y8) (d:Nat) (e:Int):Ob:=(o_ (M7 a.l (Entry.mk (nth b d).c (y7 e b d)) a.ga) 2 (mK (o8 (F8 a.l (Entry.mk (nth b d).c (y7 e b d)) a.al))))
@[simp] abbrev c0S (a:DS) (b:List y8) (d:Nat) (e:Int):Ob:=(o_ 0 2 [[(iI (o7 32)),(sA 10 (mE (C9 (o7 32) a.l (Entry.mk (nth b d).c (y7 e b d)))))]])
@[simp] abbrev c0R (a:DS) (b:List y8) (d:Nat) (e:Int):Ob:=(o_ 0 1 [[(sA 2 (mK (F8 a.l (Entry.mk (nth b d).c (y7 e b d)) a.al)))]])
@[simp] abbrev d0s (a:DS) (b:List y8) (c:Nat) (d:Int) (e:Int):Heap:=[a8W a b c d,a8V a b c d,Y4 a,a8U a b c d,a8T a b c d,fF e a,c0S a b c d,Y4 a,c0R a b c d,gG a]
@[simp] abbrev zC (a:DS) (b:Int) (c:List y8) (d:Nat):Ob:=(o_ 0 3 [[(iI (tkF a.gf (y7 b c d))),(iI (tkL a.gf a.gl a.gt (y7 b c d))),(iI (tkT a.gf a.gt (y7 b c d)))]])
@[simp] abbrev d0r (a:DS) (b:Int) (c:List y8) (d:Nat) (e:Int):Heap:=[qR a,(o_ a.g 10 (mE a.l)),zC a b c d,jD a,jC a,fF e a,mM a,zC a b c d,jH a,gG a]
@[simp] abbrev c4s (a:Int) (b:DS) (c:List y8) (d:Nat) (e:Int):=[[(iI (o7 32)),(AV.osl 1 (hdD a b (nth c d).m (iT e c d)).s.g 10 0 (List.length (hdD a b (nth c d).m (iT e c d)).s.l))]]
@[simp] abbrev a8S (a:Int) (b:DS) (c:List y8) (d:Nat) (e:Int):Ob:=(o_ 0 2 (c4s a b c d e))
@[simp] abbrev a8R (a:Int) (b:DS) (c:List y8) (d:Nat) (e:Int):Ob:=(o_ ((hdD a b (nth c d).m (y7 e c d)).s.g) 10 (mE (hdD a b (nth c d).m (y7 e c d)).s.l))
@[simp] abbrev c4r (a:Int) (b:DS) (c:List y8) (d:Nat) (e:Int):=[[(iI (hdD a b (nth c d).m (iT e c d)).s.gf),(iI (hdD a b (nth c d).m (iT e c d)).s.gl),(iI (hdD a b (nth c d).m (iT e c d)).s.gt)]]
@[simp] abbrev uS (a:Int) (b:DS) (c:List y8) (d:Nat) (e:Int):Ob:=(o_ 0 3 (c4r a b c d e))
@[simp] abbrev c4q (a:Int) (b:DS) (c:List y8) (d:Nat) (e:Int):=[[(iN ((List.length (hdD a b (nth c d).m (iT e c d)).s.al))),(AV.osl 4 (hdD a b (nth c d).m (iT e c d)).s.ga 2 0 (List.length (o8 (hdD a b (nth c d).m (iT e c d)).s.al)))]]
@[simp] abbrev a8Q (a:Int) (b:DS) (c:List y8) (d:Nat) (e:Int):Ob:=(o_ 0 2 (c4q a b c d e))
@[simp] abbrev a8P (a:Int) (b:DS) (c:List y8) (d:Nat) (e:Int):Ob:=(o_ ((hdD a b (nth c d).m (y7 e c d)).s.ga) 2 (mK (o8 (hdD a b (nth c d).m (y7 e c d)).s.al)))
@[simp] abbrev c4p (a:Int) (b:DS) (c:List y8) (d:Nat) (e:Int):=[[(iI a),(iI (hdD a b (nth c d).m (iT e c d)).s.st.t),(iI (hdD a b (nth c d).m (iT e c d)).s.st.node),(iI (hdD a b (nth c d).m (iT e c d)).s.st.n),(oO 0 0 0 0),(oO 2 0 0 0),(oO 3 0 0 0)]]
@[simp] abbrev a8O (a:Int) (b:DS) (c:List y8) (d:Nat) (e:Int):Ob:=(o_ 0 7 (c4p a b c d e))
@[simp] abbrev a8N (a:Int) (b:DS) (c:List y8) (d:Nat) (e:Int):Ob:=(o_ 0 2 [[(iI (o7 32)),(sA 10 (mE (hdD a b (nth c d).m (y7 e c d)).s.l))]])
@[simp] abbrev a8M (a:Int) (b:DS) (c:List y8) (d:Nat) (e:Int):Ob:=(o_ 0 1 [[(sA 2 (mK (hdD a b (nth c d).m (y7 e c d)).s.al))]])
@[simp] abbrev a8L (a:Int) (b:DS) (c:List y8) (d:Nat) (e:Int):Ob:=(o_ 0 6 [[(oO 6 0 0 0),(oO 7 0 0 0),(oO 8 0 0 0),(iI (hdD a b (nth c d).m (iT e c d)).s.st.t),(iI (hdD a b (nth c d).m (iT e c d)).s.st.node),(iI (hdD a b (nth c d).m (iT e c d)).s.st.n)]])
@[simp] abbrev d0q (a:Int) (b:DS) (c:List y8) (d:Nat) (e:Int):Heap:=[a8S a b c d e,a8R a b c d e,uS a b c d e,a8Q a b c d e,a8P a b c d e,a8O a b c d e,a8N a b c d e,uS a b c d e,a8M a b c d e,a8L a b c d e]
@[simp] abbrev c5o (a:DS) (b:Int):Heap:=[qR a,(o_ a.g 10 (mE a.l)),Y4 a,jD a,jC a,fF b a,mM a,Y4 a,jH a,gG a]
@[simp] abbrev c5n (a:Int) (b:Int) (c:List y8) (d:Nat) (e:DS):Heap:=[b6r a b c d e,b6q a b c d e,a2B a b c d e,b6p a b c d e,b6o a b c d e,b6n a b c d e,mM e,Y4 e,jH e,gG e,(o_ 0 25 [(y8.row (nth c d))])]
@[simp] abbrev wO (a:DS) (b:Int) (c:List y8) (d:Nat):Heap:=[qR a,(o_ a.g 10 (mE a.l)),Y4 a,jD a,jC a,fF b a,mM a,Y4 a,jH a,gG a,(o_ 0 25 [(y8.row (nth c d))])]
@[simp] abbrev a2C (a:Int) (b:Int) (c:List y8) (d:Nat) (e:DS):Heap:=[b6r a b c d e,b6q a b c d e,a2B a b c d e,b6p a b c d e,b6o a b c d e,b6n a b c d e,c6o a b c d e,a2B a b c d e,c6n a b c d e,c6m a b c d e,(o_ 0 25 [(y8.row (nth c d))])]
@[simp] abbrev b6u (a:DS) (b:Int) (c:List y8) (d:Nat) (e:Int):Heap:=[a8Y a b c d,a8X a b c d,Y4 a,jD a,jC a,fF e a,mM a,Y4 a,jH a,gG a,(o_ 0 25 [(y8.row (nth c d))])]
@[simp] abbrev a5E (a:DS) (b:Int) (c:List y8) (d:Nat) (e:Int):Heap:=[a8Y a b c d,a8X a b c d,Y4 a,jD a,jC a,fF e a,c0T a b c d,Y4 a,jH a,gG a,(o_ 0 25 [(y8.row (nth c d))])]
@[simp] abbrev c6r (a:DS) (b:List y8) (c:Nat) (d:Int) (e:Int):Heap:=[a8W a b c d,a8V a b c d,Y4 a,a8U a b c d,a8T a b c d,fF e a,mM a,Y4 a,jH a,gG a,(o_ 0 25 [(y8.row (nth b c))])]
@[simp] abbrev a5D (a:DS) (b:List y8) (c:Nat) (d:Int) (e:Int):Heap:=[a8W a b c d,a8V a b c d,Y4 a,a8U a b c d,a8T a b c d,fF e a,c0S a b c d,Y4 a,c0R a b c d,gG a,(o_ 0 25 [(y8.row (nth b c))])]
@[simp] abbrev b6t (a:DS) (b:Int) (c:List y8) (d:Nat) (e:Int):Heap:=[qR a,(o_ a.g 10 (mE a.l)),zC a b c d,jD a,jC a,fF e a,mM a,Y4 a,jH a,gG a,(o_ 0 25 [(y8.row (nth c d))])]
@[simp] abbrev a5C (a:DS) (b:Int) (c:List y8) (d:Nat) (e:Int):Heap:=[qR a,(o_ a.g 10 (mE a.l)),zC a b c d,jD a,jC a,fF e a,mM a,zC a b c d,jH a,gG a,(o_ 0 25 [(y8.row (nth c d))])]
@[simp] abbrev a8K (a:Int) (b:DS) (c:List y8) (d:Nat) (e:Int):Ob:=(o_ 0 13 [(Msg.row (hdD a b (nth c d).m (y7 e c d)).m)])
@[simp] abbrev c6q (a:Int) (b:DS) (c:List y8) (d:Nat) (e:Int):Heap:=[a8S a b c d e,a8R a b c d e,uS a b c d e,a8Q a b c d e,a8P a b c d e,a8O a b c d e,a8N a b c d e,uS a b c d e,a8M a b c d e,a8L a b c d e,(o_ 0 25 [(y8.row (nth c d))]),a8K a b c d e,(o_ 0 13 [[z_,z_,z_,z_,z_,z_,z_,e_,e_,bF,(AV.int .u32 0),(AV.sl .nil 0 []),(AV.sl .nil 0 [])]])]
@[simp] abbrev a5B (a:Int) (b:DS) (c:List y8) (d:Nat) (e:Int):Heap:=[a8S a b c d e,a8R a b c d e,uS a b c d e,a8Q a b c d e,a8P a b c d e,a8O a b c d e,a8N a b c d e,uS a b c d e,a8M a b c d e,a8L a b c d e,(o_ 0 25 [(y8.row (nth c d))]),a8K a b c d e,a8K a b c d e]
theorem R8 {p:Prop} (h:p:=by first | omega | assumption | (simp; done) | (simp; omega) | exact (hs12 (by have q:=of_decide_eq_true h1; omega)).1 | exact (hs12 (by have q:=of_decide_eq_true h1; omega)).2):p:=h
@[simp] abbrev a3q :=(l9 Tryz.prog (X a2g) (p9 Tryz.f28 0))
@[simp] abbrev c9q (a:List y8) (b:Nat) (d:Int):=(AV.agg [(AV.str (nth a b).c.key.app),(AV.str (nth a b).c.key.id),(iI (nth a b).c.status),(iI (nth a b).c.over),(iI (nth a b).c.lease),(iI (nth a b).c.stamp.t),(iI (nth a b).c.stamp.node),(iI (nth a b).c.stamp.n),(bB (nth a b).c.gone),(iI (iT d a b))])
theorem a2X (xs:List y8) (nd now:Int) (s:DS) (i:Nat) (hsz:∀ a∈xs,a.m.key.app.size < 9223372036854775808/\a.m.key.id.size < 9223372036854775808) (hi:i<=70) (hI:Z7 (33 * i) s) (hnd:s.st.node=nd) {eX:Ex} {FX:Fr} {HX:Heap} (k1:(decide ((i:Int) < (xs.length:Int)))=true->(decide ((i:Int) < 70))=true->((nth xs i).kind == 6)=true->j6 a3q (some [2,7,8,9,10]) (some []) (a8Z xs now i) (d0u nd now xs i s) eX FX HX) (k2:(decide ((i:Int) < (xs.length:Int)))=true->(decide ((i:Int) < 70))=true->((nth xs i).kind == 6)=false->((nth xs i).kind == 7)=true->j6 a3q (some [2,7,8,9,10]) (some []) (a8Z xs now i) (d0t s now xs i nd) eX FX HX) (k3:(decide ((i:Int) < (xs.length:Int)))=true->(decide ((i:Int) < 70))=true->((nth xs i).kind == 6)=false->((nth xs i).kind == 7)=false->((nth xs i).kind == 8)=true->j6 a3q (some [2,7,8,9,10]) (some []) (a8Z xs now i) (d0s s xs i now nd) eX FX HX) (k4:(decide ((i:Int) < (xs.length:Int)))=true->(decide ((i:Int) < 70))=true->((nth xs i).kind == 6)=false->((nth xs i).kind == 7)=false->((nth xs i).kind == 8)=false->((nth xs i).kind == 9)=true->j6 a3q (some [2,7,8,9,10]) (some []) (a8Z xs now i) (d0r s now xs i nd) eX FX HX) (k5:(decide ((i:Int) < (xs.length:Int)))=true->(decide ((i:Int) < 70))=true->((nth xs i).kind == 6)=false->((nth xs i).kind == 7)=false->((nth xs i).kind == 8)=false->((nth xs i).kind == 9)=false->j6 a3q (some [2,7,8,9,10]) (some []) (a8Z xs now i) (d0q nd s xs i now) eX FX HX) (k6:(decide ((i:Int) < (xs.length:Int)))=true->(decide ((i:Int) < 70))=false->((.exit 0:Ex),(mkF 135 []),(c5o s nd))=(eX,FX,HX)) (k7:(decide ((i:Int) < (xs.length:Int)))=false->((.exit 0:Ex),(mkF 135 []),(c5o s nd))=(eX,FX,HX)):j6 a3q (some [2,7,8,9,10]) (some []) (mkF 135 [(2,(sA 25 (List.map y8.row xs))),(7,(oO 5 0 0 0)),(8,(oO 9 0 0 0)),(9,(iI now)),(10,(iN i))]) (c5o s nd) eX FX HX:=by
 have l1:=hI.len
 have l2:=hI.al
 have l3:=hI.g0
 have l4:=hI.g1
 have l5:=hI.srt
 have p1:=b9c hI nd (y7 now xs i) (nth xs i)
 have q1:=p1.len
 have q2:=p1.al
 have m1:=c8C hI nd (nth xs i).m (y7 now xs i)
 have m2:(hdD nd s (nth xs i).m (y7 now xs i)).c.length<=1:=c8D hI nd (nth xs i).m (y7 now xs i)
 have o1:=zG nd (j4 (y7 now xs i)) (D6 s (j4 (y7 now xs i)) (nth xs i).late) s
 have o2:=a1z l1 (j4 (y7 now xs i)) (nth xs i).late
 have e6:=a6l nd (j4 (y7 now xs i)) (D6 s (j4 (y7 now xs i)) (nth xs i).late) hI
 have r1:=e6.len
 have r2:=e6.al
 have d1:=b5k (H7 s.l (j4 (y7 now xs i))) s.l
 have w1:=a2W ⟨(nth xs i).c,(y7 now xs i)⟩ l1
 have w2:=a6w s.l ⟨(nth xs i).c,(y7 now xs i)⟩ s.al
 have h1':=(hI.hd nd (nth xs i).m (y7 now xs i))
 have v1:=h1'.len
 have v2:=h1'.al
 have hs12:i < xs.length->(nth xs i).m.key.app.size < 9223372036854775808/\(nth xs i).m.key.id.size < 9223372036854775808:=fun h=>hsz _ (lH h)
 exact F7 (.r (.y 2 (.int .i64 ((List.length (List.map y8.row xs):Nat):Int)) (iN xs.length) (Yes.len _ _ _) (.two (decide ((i:Int) < (xs.length:Int))) (fun h1 h1'=>(.u (.two (decide ((i:Int) < 70)) (fun h2 h2'=>(.u (.ru (.h' [(o_ 0 2 (b5D s)),(o_ s.g 10 (mE s.l)),(o_ 0 3 (iU s)),(o_ 0 2 (a8s s)),(o_ s.ga 2 (mK (o8 s.al))),(o_ 0 7 (a8r nd s)),(o_ 0 2 (yQ s)),(o_ 0 3 (iU s)),(o_ 0 1 [[(sA 2 (mK s.al))]]),(o_ 0 6 (a3r s)),(o_ 0 25 [[z_,z_,z_,z_,z_,z_,z_,z_,e_,e_,bF,(AV.int .u32 0),(AV.sl .nil 0 []),(AV.sl .nil 0 []),z_,z_,e_,e_,z_,z_,z_,z_,z_,z_,bF]])] (.is 2 25 25 (List.map y8.row xs) (i:Int) (y8.row (nth xs i)) (J8.mk _ ow ow) (.s (.s (.s (.g (.two ((nth xs i).kind == 6) (fun h3 h3'=>(.r (.ch 4 (c5n nd now xs i s) (l6.put2 [0,1,2,3,4,5] (wO s nd xs i) (sA 9 (mC (swC nd (j4 (y7 now xs i)) (D6 s (j4 (y7 now xs i)) (nth xs i).late) s))) (c5n nd now xs i s) (c3P s.l s.g s.al s.ga s.gf s.gl s.gt nd s.st (y7 now xs i) (nth xs i).late R8 R8 R8 R8) (⟨rfl,⟨Ob.ren0 (Entry.p8 0 _),⟨rfl,⟨rfl,⟨Ob.ren0 (Key.p8 0 _),⟨rfl,trivial⟩⟩⟩⟩⟩⟩) (⟨rfl,⟨Ob.ren0 (Entry.p8 0 _),⟨rfl,⟨rfl,⟨Ob.ren0 (Key.p8 0 _),⟨rfl,trivial⟩⟩⟩⟩⟩⟩)) (.ch 9 (a2C nd now xs i s) (l6.pre (args:=[(oO 9 0 0 0),(qN now xs i),(iI (nth xs i).late)]) (args':=[(oO 9 0 0 0),(qN now xs i),(iI (nth xs i).late)]) (l6.put2 [6,7,8,9] (c5n nd now xs i s) (sA 9 (mC (swC nd (j4 (y7 now xs i)) (D6 s (j4 (y7 now xs i)) (nth xs i).late) s))) (a2C nd now xs i s) (c2u s.l s.g s.al s.ga s.gf s.gl s.gt s.st nd (y7 now xs i) (nth xs i).late R8 R8 R8 R8 R8) (⟨rfl,⟨rfl,⟨rfl,⟨rfl,trivial⟩⟩⟩⟩) (⟨rfl,⟨rfl,⟨rfl,⟨rfl,trivial⟩⟩⟩⟩)) ⟨AV.j3 _,AV.j3 _,AV.j3 _,trivial⟩) (.c 10 ((vE (swC nd (j4 (y7 now xs i)) (D6 s (j4 (y7 now xs i)) (nth xs i).late) s) (swC nd (j4 (y7 now xs i)) (D6 s (j4 (y7 now xs i)) (nth xs i).late) s) R8 (rfl)).lift kr kr (a2C nd now xs i s)) (.rd (iI (nth xs i).late) (wO s nd xs i) (.rn (.c 2 (l6.put2 [0,1,2,3,4,5,6,7,8,9] (a2C nd now xs i s) bT (a2C nd now xs i s) (iZ (swF nd (j4 (y7 now xs i)) (D6 s (j4 (y7 now xs i)) (nth xs i).late) s).l (swF nd (j4 (y7 now xs i)) (D6 s (j4 (y7 now xs i)) (nth xs i).late) s).g (swF nd (j4 (y7 now xs i)) (D6 s (j4 (y7 now xs i)) (nth xs i).late) s).al (swF nd (j4 (y7 now xs i)) (D6 s (j4 (y7 now xs i)) (nth xs i).late) s).ga (swF nd (j4 (y7 now xs i)) (D6 s (j4 (y7 now xs i)) (nth xs i).late) s).gf (swF nd (j4 (y7 now xs i)) (D6 s (j4 (y7 now xs i)) (nth xs i).late) s).gl (swF nd (j4 (y7 now xs i)) (D6 s (j4 (y7 now xs i)) (nth xs i).late) s).gt nd (swF nd (j4 (y7 now xs i)) (D6 s (j4 (y7 now xs i)) (nth xs i).late) s).st R8 R8) (⟨rfl,⟨Ob.ren0 (Entry.p8 0 _),⟨rfl,⟨rfl,⟨Ob.ren0 (Key.p8 0 _),⟨rfl,⟨rfl,⟨rfl,⟨rfl,⟨rfl,trivial⟩⟩⟩⟩⟩⟩⟩⟩⟩⟩) (⟨rfl,⟨Ob.ren0 (Entry.p8 0 _),⟨rfl,⟨rfl,⟨Ob.ren0 (Key.p8 0 _),⟨rfl,⟨rfl,⟨rfl,⟨rfl,⟨rfl,trivial⟩⟩⟩⟩⟩⟩⟩⟩⟩⟩)) (.h' (d0u nd now xs i s) (.b 10 (.rn (.y 1 (.int .i64 (cb_ i)) (iN (i+1)) Yes.o (.g (.l (k1 h1 h2 h3))))))))))))))) (fun h3 h3'=>(.r (.g (.two ((nth xs i).kind == 7) (fun h4 h4'=>(.r (.ch 2 (b6u s now xs i nd) (l6.put2 [0,1,2,3,4,5] (wO s nd xs i) (iN ((List.length (H7 s.l (j4 (y7 now xs i)))))) (b6u s now xs i nd) (c3Q s.l s.g s.al s.ga s.gf s.gl s.gt nd s.st (y7 now xs i) R8) (⟨rfl,⟨Ob.ren0 (Entry.p8 0 _),⟨rfl,⟨rfl,⟨Ob.ren0 (Key.p8 0 _),⟨rfl,trivial⟩⟩⟩⟩⟩⟩) (⟨rfl,⟨Ob.ren0 (Entry.p8 0 _),⟨rfl,⟨rfl,⟨Ob.ren0 (Key.p8 0 _),⟨rfl,trivial⟩⟩⟩⟩⟩⟩)) (.ch 5 (a5E s now xs i nd) (l6.pre (args:=[(oO 9 0 0 0),(qN now xs i)]) (args':=[(oO 9 0 0 0),(qN now xs i)]) (l6.put2 [6,7,8,9] (b6u s now xs i nd) (iN ((List.length (H7 s.l (j4 (y7 now xs i)))))) (a5E s now xs i nd) (c2w s.l s.al s.gf s.gl s.gt s.st (y7 now xs i) R8) (⟨rfl,⟨rfl,⟨rfl,⟨rfl,trivial⟩⟩⟩⟩) (⟨rfl,⟨rfl,⟨rfl,⟨rfl,trivial⟩⟩⟩⟩)) ⟨AV.j3 _,AV.j3 _,trivial⟩) (.y 6 (bB ((((List.length (H7 s.l (j4 (y7 now xs i)))):Nat):Int) != (((List.length (H7 s.l (j4 (y7 now xs i)))):Nat):Int))) bF (Yes.b yf_) (.rn (.c 2 (l6.put2 [0,1,2,3,4,5,6,7,8,9] (a5E s now xs i nd) bT (a5E s now xs i nd) (iZ (List.foldl H9 s.l (H7 s.l (j4 (y7 now xs i)))) s.g s.al s.ga s.gf s.gl s.gt nd s.st R8 R8) (⟨rfl,⟨Ob.ren0 (Entry.p8 0 _),⟨rfl,⟨rfl,⟨Ob.ren0 (Key.p8 0 _),⟨rfl,⟨rfl,⟨rfl,⟨rfl,⟨rfl,trivial⟩⟩⟩⟩⟩⟩⟩⟩⟩⟩) (⟨rfl,⟨Ob.ren0 (Entry.p8 0 _),⟨rfl,⟨rfl,⟨Ob.ren0 (Key.p8 0 _),⟨rfl,⟨rfl,⟨rfl,⟨rfl,⟨rfl,trivial⟩⟩⟩⟩⟩⟩⟩⟩⟩⟩)) (.h' (d0t s now xs i nd) (.b 10 (.rn (.y 1 (.int .i64 (cb_ i)) (iN (i+1)) Yes.o (.g (.l (k2 h1 h2 h3 h4)))))))))))))) (fun h4 h4'=>(.r (.g (.two ((nth xs i).kind == 8) (fun h5 h5'=>(.r (.ch 5 (c6r s xs i now nd) (l6.pre (args:=[(oO 5 0 0 0),(AV.agg (Entry.row (Entry.mk (nth xs i).c (y7 now xs i))))]) (args':=[(oO 5 0 0 0),(c9q xs i now)]) (zU s.l s.g s.al s.ga s.gf s.gl s.gt nd s.st.t s.st.node s.st.n (Entry.mk (nth xs i).c (y7 now xs i)) R8 R8 [(o_ 0 2 (yQ s)),(o_ 0 3 (iU s)),(o_ 0 1 [[(sA 2 (mK s.al))]]),(o_ 0 6 (a3r s)),(o_ 0 25 [(y8.row (nth xs i))])]) ⟨AV.j3 _,AV.j3 _,trivial⟩) (.ch 11 (a5D s xs i now nd) (l6.pre (args:=[(oO 9 0 0 0),(AV.agg (Entry.row (Entry.mk (nth xs i).c (y7 now xs i))))]) (args':=[(oO 9 0 0 0),(c9q xs i now)]) (l6.put2 [6,7,8,9] (c6r s xs i now nd) (iI (A9 (o7 32) s.l (Entry.mk (nth xs i).c (y7 now xs i)))) (a5D s xs i now nd) (a4j s.l s.al s.gf s.gl s.gt s.st.t s.st.node s.st.n (Entry.mk (nth xs i).c (y7 now xs i)) R8 R8) (⟨rfl,⟨rfl,⟨rfl,⟨rfl,trivial⟩⟩⟩⟩) (⟨rfl,⟨rfl,⟨rfl,⟨rfl,trivial⟩⟩⟩⟩)) ⟨AV.j3 _,AV.j3 _,trivial⟩) (.y 12 (bB ((A9 (o7 32) s.l (Entry.mk (nth xs i).c (y7 now xs i))) != (A9 (o7 32) s.l (Entry.mk (nth xs i).c (y7 now xs i))))) bF (Yes.b yf_) (.rd (AV.agg (j5.row (nth xs i).c)) (wO s nd xs i) (.rn (.c 2 (l6.put2 [0,1,2,3,4,5,6,7,8,9] (a5D s xs i now nd) bT (a5D s xs i now nd) (iZ (C9 (o7 32) s.l (Entry.mk (nth xs i).c (y7 now xs i))) (I5 (o7 32) s.l (Entry.mk (nth xs i).c (y7 now xs i)) s.g) (F8 s.l (Entry.mk (nth xs i).c (y7 now xs i)) s.al) (M7 s.l (Entry.mk (nth xs i).c (y7 now xs i)) s.ga) s.gf s.gl s.gt nd s.st R8 R8) (⟨rfl,⟨Ob.ren0 (Entry.p8 0 _),⟨rfl,⟨rfl,⟨Ob.ren0 (Key.p8 0 _),⟨rfl,⟨rfl,⟨rfl,⟨rfl,⟨rfl,trivial⟩⟩⟩⟩⟩⟩⟩⟩⟩⟩) (⟨rfl,⟨Ob.ren0 (Entry.p8 0 _),⟨rfl,⟨rfl,⟨Ob.ren0 (Key.p8 0 _),⟨rfl,⟨rfl,⟨rfl,⟨rfl,⟨rfl,trivial⟩⟩⟩⟩⟩⟩⟩⟩⟩⟩)) (.h' (d0s s xs i now nd) (.b 10 (.rn (.y 1 (.int .i64 (cb_ i)) (iN (i+1)) Yes.o (.g (.l (k3 h1 h2 h3 h4 h5))))))))))))))) (fun h5 h5'=>(.r (.g (.two ((nth xs i).kind == 9) (fun h6 h6'=>(.r (.c 1 (l6.put2 [0,1,2,3,4,5] (wO s nd xs i) (oO 2 0 0 0) (wO s nd xs i) (sV s.l s.g s.al s.ga s.gf s.gl s.gt nd s.st ) (⟨rfl,⟨Ob.ren0 (Entry.p8 0 _),⟨rfl,⟨rfl,⟨Ob.ren0 (Key.p8 0 _),⟨rfl,trivial⟩⟩⟩⟩⟩⟩) (⟨rfl,⟨Ob.ren0 (Entry.p8 0 _),⟨rfl,⟨rfl,⟨Ob.ren0 (Key.p8 0 _),⟨rfl,trivial⟩⟩⟩⟩⟩⟩)) (.rn (.c 1 (l6.put2 [0,1,2,3,4,5] (wO s nd xs i) (oO 2 0 0 0) (wO s nd xs i) (sV s.l s.g s.al s.ga s.gf s.gl s.gt nd s.st ) (⟨rfl,⟨Ob.ren0 (Entry.p8 0 _),⟨rfl,⟨rfl,⟨Ob.ren0 (Key.p8 0 _),⟨rfl,trivial⟩⟩⟩⟩⟩⟩) (⟨rfl,⟨Ob.ren0 (Entry.p8 0 _),⟨rfl,⟨rfl,⟨Ob.ren0 (Key.p8 0 _),⟨rfl,trivial⟩⟩⟩⟩⟩⟩)) (.ch 3 (b6t s now xs i nd) (l6.pre (args:=[(oO 2 0 0 0),(qN now xs i)]) (args':=[(oO 2 0 0 0),(qN now xs i)]) (l6.put2 [2] (wO s nd xs i) (AV.tup []) (b6t s now xs i nd) (b4F s.gf s.gl s.gt (y7 now xs i) ) (⟨rfl,trivial⟩) (⟨rfl,trivial⟩)) ⟨AV.j3 _,AV.j3 _,trivial⟩) (.s (.ch 5 (a5C s now xs i nd) (l6.pre (args:=[(oO 7 0 0 0),(qN now xs i)]) (args':=[(oO 7 0 0 0),(qN now xs i)]) (l6.put2 [7] (b6t s now xs i nd) (AV.tup []) (a5C s now xs i nd) (b0A s.gf s.gl s.gt (y7 now xs i) ) (⟨rfl,trivial⟩) (⟨rfl,trivial⟩)) ⟨AV.j3 _,AV.j3 _,trivial⟩) (.s (.c 2 (l6.put2 [0,1,2,3,4,5,6,7,8,9] (a5C s now xs i nd) bT (a5C s now xs i nd) (iZ s.l s.g s.al s.ga (tkF s.gf (y7 now xs i)) (tkL s.gf s.gl s.gt (y7 now xs i)) (tkT s.gf s.gt (y7 now xs i)) nd s.st R8 R8) (⟨rfl,⟨Ob.ren0 (Entry.p8 0 _),⟨rfl,⟨rfl,⟨Ob.ren0 (Key.p8 0 _),⟨rfl,⟨rfl,⟨rfl,⟨rfl,⟨rfl,trivial⟩⟩⟩⟩⟩⟩⟩⟩⟩⟩) (⟨rfl,⟨Ob.ren0 (Entry.p8 0 _),⟨rfl,⟨rfl,⟨Ob.ren0 (Key.p8 0 _),⟨rfl,⟨rfl,⟨rfl,⟨rfl,⟨rfl,trivial⟩⟩⟩⟩⟩⟩⟩⟩⟩⟩)) (.h' (d0r s now xs i nd) (.b 10 (.rn (.y 1 (.int .i64 (cb_ i)) (iN (i+1)) Yes.o (.g (.l (k4 h1 h2 h3 h4 h5 h6))))))))))))))))) (fun h6 h6'=>(.r (.ch 4 [(o_ 0 2 (c4s nd s xs i now)),(o_ ((hdD nd s (nth xs i).m (y7 now xs i)).s.g) 10 (mE (hdD nd s (nth xs i).m (y7 now xs i)).s.l)),(o_ 0 3 (c4r nd s xs i now)),(o_ 0 2 (c4q nd s xs i now)),(o_ ((hdD nd s (nth xs i).m (y7 now xs i)).s.ga) 2 (mK (o8 (hdD nd s (nth xs i).m (y7 now xs i)).s.al))),(o_ 0 7 (c4p nd s xs i now)),(o_ 0 2 (yQ s)),(o_ 0 3 (iU s)),(o_ 0 1 [[(sA 2 (mK s.al))]]),(o_ 0 6 (a3r s)),(o_ 0 25 [(y8.row (nth xs i))]),(o_ 0 13 [[z_,z_,z_,z_,z_,z_,z_,e_,e_,bF,(AV.int .u32 0),(AV.sl .nil 0 []),(AV.sl .nil 0 [])]])] (d2h s.l s.g s.al s.ga s.gf s.gl s.gt nd s.st (nth xs i).m (y7 now xs i) R8 R8 R8 [(o_ 0 2 (yQ s)),(o_ 0 3 (iU s)),(o_ 0 1 [[(sA 2 (mK s.al))]]),(o_ 0 6 (a3r s)),(o_ 0 25 [(y8.row (nth xs i))]),(o_ 0 13 [[z_,z_,z_,z_,z_,z_,z_,e_,e_,bF,(AV.int .u32 0),(AV.sl .nil 0 []),(AV.sl .nil 0 [])]])]) (.s (.ch 4 (c6q nd s xs i now) (l6.pre (args:=[(oO 9 0 0 0),(AV.agg (Msg.row (nth xs i).m)),(qN now xs i)]) (args':=[(oO 9 0 0 0),(AV.agg (Msg.row (nth xs i).m)),(qN now xs i)]) (l6.put2 [6,7,8,9] [(o_ 0 2 (c4s nd s xs i now)),(o_ ((hdD nd s (nth xs i).m (y7 now xs i)).s.g) 10 (mE (hdD nd s (nth xs i).m (y7 now xs i)).s.l)),(o_ 0 3 (c4r nd s xs i now)),(o_ 0 2 (c4q nd s xs i now)),(o_ ((hdD nd s (nth xs i).m (y7 now xs i)).s.ga) 2 (mK (o8 (hdD nd s (nth xs i).m (y7 now xs i)).s.al))),(o_ 0 7 (c4p nd s xs i now)),(o_ 0 2 (yQ s)),(o_ 0 3 (iU s)),(o_ 0 1 [[(sA 2 (mK s.al))]]),(o_ 0 6 (a3r s)),(o_ 0 25 [(y8.row (nth xs i))]),(o_ 0 13 [(Msg.row (hdD nd s (nth xs i).m (y7 now xs i)).m)]),(o_ 0 13 [[z_,z_,z_,z_,z_,z_,z_,e_,e_,bF,(AV.int .u32 0),(AV.sl .nil 0 []),(AV.sl .nil 0 [])]])] (AV.tup [(AV.agg (Msg.row (hdD nd s (nth xs i).m (y7 now xs i)).m)),(sA 9 (mC (hdD nd s (nth xs i).m (y7 now xs i)).c))]) (c6q nd s xs i now) (c2F s.l s.g s.al s.ga s.gf s.gl s.gt s.st (nth xs i).m (y7 now xs i) nd R8 R8 R8 R8 R8 R8) (⟨rfl,⟨rfl,⟨rfl,⟨rfl,trivial⟩⟩⟩⟩) (⟨rfl,⟨rfl,⟨rfl,⟨rfl,trivial⟩⟩⟩⟩)) ⟨AV.j3 _,⟨AV.j3 _,AV.j3 _,AV.j3 _,AV.j3 _,AV.j3 _,AV.j3 _,AV.j3 _,AV.j3 _,AV.j3 _,AV.j3 _,AV.j3 _,⟨rfl,rfl,.inl rfl⟩,⟨rfl,rfl,.inl rfl⟩,trivial⟩,AV.j3 _,trivial⟩) (.s (.c 2 ((a9P (hdD nd s (nth xs i).m (y7 now xs i)).m R8 R8).lift kr kr (a5B nd s xs i now)) (.n3 (.c 7 ((vE (hdD nd s (nth xs i).m (y7 now xs i)).c (hdD nd s (nth xs i).m (y7 now xs i)).c R8 (rfl)).lift kr kr (a5B nd s xs i now)) (.n (.rn (.c 2 (l6.put2 [0,1,2,3,4,5,6,7,8,9] (a5B nd s xs i now) bT (a5B nd s xs i now) (iZ (hdD nd s (nth xs i).m (y7 now xs i)).s.l (hdD nd s (nth xs i).m (y7 now xs i)).s.g (hdD nd s (nth xs i).m (y7 now xs i)).s.al (hdD nd s (nth xs i).m (y7 now xs i)).s.ga (hdD nd s (nth xs i).m (y7 now xs i)).s.gf (hdD nd s (nth xs i).m (y7 now xs i)).s.gl (hdD nd s (nth xs i).m (y7 now xs i)).s.gt nd (hdD nd s (nth xs i).m (y7 now xs i)).s.st R8 R8) (⟨rfl,⟨Ob.ren0 (Entry.p8 0 _),⟨rfl,⟨rfl,⟨Ob.ren0 (Key.p8 0 _),⟨rfl,⟨rfl,⟨rfl,⟨rfl,⟨rfl,trivial⟩⟩⟩⟩⟩⟩⟩⟩⟩⟩) (⟨rfl,⟨Ob.ren0 (Entry.p8 0 _),⟨rfl,⟨rfl,⟨Ob.ren0 (Key.p8 0 _),⟨rfl,⟨rfl,⟨rfl,⟨rfl,⟨rfl,trivial⟩⟩⟩⟩⟩⟩⟩⟩⟩⟩)) (.h' (d0q nd s xs i now) (.b 10 (.rn (.y 1 (.int .i64 (cb_ i)) (iN (i+1)) Yes.o (.g (.l (k5 h1 h2 h3 h4 h5 h6))))))))))))))))))))))))))))))))))))))))) (fun h2 h2'=>(.n (.g (.n (.l (k6 h1 h2))))))))) (fun h1 h1'=>(.n3 (.g (.n (.l (k7 h1)))))))))
def plF (xs:List y8) (nd:Int):Nat->Nat->Int->DS->Int × DS
 | 0,_,now,s=>(now,s)
 | r+1,i,now,s=>if i < xs.length then plF xs nd r (i+1) (IntKind.i64.wrap (now+(nth xs i).more)) (plS nd (IntKind.i64.wrap (now+(nth xs i).more)) s (nth xs i)) else (now,s)
theorem c8p (xs:List y8) (nd:Int) (hsz:∀ a∈xs,a.m.key.app.size < 9223372036854775808/\a.m.key.id.size < 9223372036854775808) (r:Nat):∀ (i:Nat) (now:Int) (s:DS),i+r=70->Z7 (33 * i) s->s.st.node=nd ->
 j6 (l9 Tryz.prog (X a2g) (p9 Tryz.f28 0)) (some [2,7,8,9,10]) (some []) (mkF 135 [(2,(sA 25 (List.map y8.row xs))),(7,(oO 5 0 0 0)),(8,(oO 9 0 0 0)),(9,(iI now)),(10,(iN i))]) [(o_ 0 2 [[(iI (o7 32)),(AV.osl 1 s.g 10 0 (List.length s.l))]]),(o_ s.g 10 (mE s.l)),(o_ 0 3 [[(iI s.gf),(iI s.gl),(iI s.gt)]]),(o_ 0 2 [[(iN ((List.length s.al))),(AV.osl 4 s.ga 2 0 (List.length (o8 s.al)))]]),(o_ s.ga 2 (mK (o8 s.al))),(o_ 0 7 [[(iI nd),(iI s.st.t),(iI s.st.node),(iI s.st.n),(oO 0 0 0 0),(oO 2 0 0 0),(oO 3 0 0 0)]]),(o_ 0 2 [[(iI (o7 32)),(sA 10 (mE s.l))]]),(o_ 0 3 [[(iI s.gf),(iI s.gl),(iI s.gt)]]),(o_ 0 1 [[(sA 2 (mK s.al))]]),(o_ 0 6 [[(oO 6 0 0 0),(oO 7 0 0 0),(oO 8 0 0 0),(iI s.st.t),(iI s.st.node),(iI s.st.n)]])] (.exit 0) (mkF 135 []) [(o_ 0 2 [[(iI (o7 32)),(AV.osl 1 (plF xs nd r i now s).2.g 10 0 (List.length (plF xs nd r i now s).2.l))]]),(o_ ((plF xs nd r i now s).2.g) 10 (mE (plF xs nd r i now s).2.l)),(o_ 0 3 [[(iI (plF xs nd r i now s).2.gf),(iI (plF xs nd r i now s).2.gl),(iI (plF xs nd r i now s).2.gt)]]),(o_ 0 2 [[(iN ((List.length (plF xs nd r i now s).2.al))),(AV.osl 4 (plF xs nd r i now s).2.ga 2 0 (List.length (o8 (plF xs nd r i now s).2.al)))]]),(o_ ((plF xs nd r i now s).2.ga) 2 (mK (o8 (plF xs nd r i now s).2.al))),(o_ 0 7 [[(iI nd),(iI (plF xs nd r i now s).2.st.t),(iI (plF xs nd r i now s).2.st.node),(iI (plF xs nd r i now s).2.st.n),(oO 0 0 0 0),(oO 2 0 0 0),(oO 3 0 0 0)]]),(o_ 0 2 [[(iI (o7 32)),(sA 10 (mE (plF xs nd r i now s).2.l))]]),(o_ 0 3 [[(iI (plF xs nd r i now s).2.gf),(iI (plF xs nd r i now s).2.gl),(iI (plF xs nd r i now s).2.gt)]]),(o_ 0 1 [[(sA 2 (mK (plF xs nd r i now s).2.al))]]),(o_ 0 6 [[(oO 6 0 0 0),(oO 7 0 0 0),(oO 8 0 0 0),(iI (plF xs nd r i now s).2.st.t),(iI (plF xs nd r i now s).2.st.node),(iI (plF xs nd r i now s).2.st.n)]])]:=by
 induction r with
 | zero =>
  intro i now s hi hI hn
  refine a2X xs nd now s i hsz ow hI hn (fun _ h _=>absurd (of_decide_eq_true h) ow) (fun _ h _ _=>absurd (of_decide_eq_true h) ow) (fun _ h _ _ _=>absurd (of_decide_eq_true h) ow) (fun _ h _ _ _ _=>absurd (of_decide_eq_true h) ow) (fun _ h _ _ _ _=>absurd (of_decide_eq_true h) ow) (fun _ _=>rfl) (fun _=>rfl)
 | succ r ih =>
  intro i now s hi hI hn
  by_cases hl:i < xs.length
  · have e:plF xs nd (r+1) i now s=plF xs nd r (i+1) (IntKind.i64.wrap (now+(nth xs i).more)) (plS nd (IntKind.i64.wrap (now+(nth xs i).more)) s (nth xs i)):=if_pos hl
    have q:=ih (i+1) (IntKind.i64.wrap (now+(nth xs i).more)) (plS nd (IntKind.i64.wrap (now+(nth xs i).more)) s (nth xs i)) ow ((b9c hI nd (IntKind.i64.wrap (now+(nth xs i).more)) (nth xs i)).mono ow) (c2R hn (IntKind.i64.wrap (now+(nth xs i).more)) (nth xs i))
    rw [e]
    refine a2X xs nd now s i hsz ow hI hn (fun _ _ h3=>?_) (fun _ _ h3 h4=>?_) (fun _ _ h3 h4 h5=>?_) (fun _ _ h3 h4 h5 h6=>?_) (fun _ _ h3 h4 h5 h6=>?_) (fun _ h=>absurd (of_decide_eq_false h) ow) (fun h=>absurd (of_decide_eq_false h) ow)
    · have e2:plS nd (IntKind.i64.wrap (now+(nth xs i).more)) s (nth xs i)=swF nd (j4 (IntKind.i64.wrap (now+(nth xs i).more))) (D6 s (j4 (IntKind.i64.wrap (now+(nth xs i).more))) (nth xs i).late) s:=by with_unfolding_all exact if_pos h3
      rw [e2] at q ⊢; exact q
    · have e2:plS nd (IntKind.i64.wrap (now+(nth xs i).more)) s (nth xs i)=⟨List.foldl H9 s.l (H7 s.l (j4 (IntKind.i64.wrap (now+(nth xs i).more)))),s.g,s.al,s.ga,s.gf,s.gl,s.gt,s.st⟩:=by with_unfolding_all unfold plS; rw [if_neg a5U,if_pos h4]
      rw [e2] at q ⊢; exact q
    · have e2:plS nd (IntKind.i64.wrap (now+(nth xs i).more)) s (nth xs i)=⟨C9 (o7 32) s.l ⟨(nth xs i).c,(IntKind.i64.wrap (now+(nth xs i).more))⟩,I5 (o7 32) s.l ⟨(nth xs i).c,(IntKind.i64.wrap (now+(nth xs i).more))⟩ s.g,F8 s.l ⟨(nth xs i).c,(IntKind.i64.wrap (now+(nth xs i).more))⟩ s.al,M7 s.l ⟨(nth xs i).c,(IntKind.i64.wrap (now+(nth xs i).more))⟩ s.ga,s.gf,s.gl,s.gt,s.st⟩:=by with_unfolding_all unfold plS; rw [if_neg a5U,if_neg (by rw [h4]; simp),if_pos h5]
      rw [e2] at q ⊢; exact q
    · have e2:plS nd (IntKind.i64.wrap (now+(nth xs i).more)) s (nth xs i)=⟨s.l,s.g,s.al,s.ga,tkF s.gf (IntKind.i64.wrap (now+(nth xs i).more)),tkL s.gf s.gl s.gt (IntKind.i64.wrap (now+(nth xs i).more)),tkT s.gf s.gt (IntKind.i64.wrap (now+(nth xs i).more)),s.st⟩:=by with_unfolding_all unfold plS; rw [if_neg a5U,if_neg (by rw [h4]; simp),if_neg (by rw [h5]; simp),if_pos h6]
      rw [e2] at q ⊢; exact q
    · have e2:plS nd (IntKind.i64.wrap (now+(nth xs i).more)) s (nth xs i)=(hdD nd s (nth xs i).m (IntKind.i64.wrap (now+(nth xs i).more))).s:=by with_unfolding_all unfold plS; rw [if_neg a5U,if_neg (by rw [h4]; simp),if_neg (by rw [h5]; simp),if_neg (by rw [h6]; simp)]
      rw [e2] at q ⊢; exact q
  · have e:plF xs nd (r+1) i now s=(now,s):=if_neg hl
    rw [e]
    refine a2X xs nd now s i hsz ow hI hn (fun h _ _=>absurd (of_decide_eq_true h) ow) (fun h _ _ _=>absurd (of_decide_eq_true h) ow) (fun h _ _ _ _=>absurd (of_decide_eq_true h) ow) (fun h _ _ _ _ _=>absurd (of_decide_eq_true h) ow) (fun h _ _ _ _ _=>absurd (of_decide_eq_true h) ow) (fun _ _=>rfl) (fun _=>rfl)
def ds0 (nd t0:Int):DS:=⟨[],0,[],0,t0,0,0,⟨0,nd,0⟩⟩
theorem c9g (nd t0:Int):Z7 (33 * 0) (ds0 nd t0):=⟨c1I,by simp [ds0],by simp [ds0],Int.le_refl _,by simp [ds0]⟩
def plG (xs:List y8) (nd t0:Int):DS:=(plF xs nd 70 0 t0 (ds0 nd t0)).2
@[simp] abbrev c0Q (a:Int):Ob:=(o_ 0 7 (c4T a))
@[simp] abbrev b6s (a:Int) (b:Int):Heap:=[a9g,a9f,a0g a,a9e,a9d,c0Q b]
@[simp] abbrev c6p (a:Int) (b:Int):Heap:=[a9g,a9f,a0g a,a9e,a9d,c0Q b,(o_ 0 2 [[(iI (o7 32)),(sA 10 (mE ([]:l9E)))]]),a0g a,(o_ 0 1 [[(sA 2 (mK ([]:l9K)))]]),(o_ 0 6 [[(oO 6 0 0 0),(oO 7 0 0 0),(oO 8 0 0 0),z_,(iI b),z_]])]
theorem b3S (nd t0:Int) (xs:List y8) (hsz:∀ a∈xs,a.m.key.app.size < 9223372036854775808/\a.m.key.id.size < 9223372036854775808) (h1:0<=nd) (h2:nd < 6) (h3:j4 t0=t0):AC 28 [(iI nd),(iI t0),(sA 25 (List.map y8.row xs))] [] (bT,[]) :=
 o9 (fn:=Tryz.f28) (ann:=a2g) (Has.o Tryz.func28) (.r (.s (.ch 2 (b6s t0 nd) (l6.put2 [] [] (oO 5 0 0 0) (b6s t0 nd) (a4L nd t0 oa oa oa) (trivial) (⟨rfl,⟨Ob.ren0 (Entry.p8 0 _),⟨rfl,⟨rfl,⟨Ob.ren0 (Key.p8 0 _),⟨rfl,trivial⟩⟩⟩⟩⟩⟩)) (.ch 5 (c6p t0 nd) (l6.put2 [] (b6s t0 nd) (oO 9 0 0 0) (c6p t0 nd) (b3J nd t0 oa oa oa) (trivial) (⟨rfl,⟨rfl,⟨rfl,⟨rfl,trivial⟩⟩⟩⟩)) (.s (.rn (.s (.g (.loop (mkF 135 []) (c8p xs nd hsz 70 0 t0 (ds0 nd t0) ow (c9g nd t0) rfl) (.r (.g (.h' [] (.q 0 bT)))))))))))))
theorem b3T (nd t0:Int) (xs:List y8) (hb:¬ (0<=nd/\nd < 6/\j4 t0=t0)):AC 28 [(iI nd),(iI t0),(sA 25 (List.map y8.row xs))] [] (bT,[]) :=
 o9 (fn:=Tryz.f28) (ann:=a2g) (Has.o Tryz.func28) (.r (.s (.c 2 ((c0u nd t0 oa).lift kr kr []) (.c 5 ((b8G nd t0 oa).lift kr kr []) (.s (.rn (.s (.g (.roll 1 (.r (.y 2 (.int .i64 ((List.length (List.map y8.row xs):Nat):Int)) (iN xs.length) (Yes.len _ _ _) (.two (decide (0 < (xs.length:Int))) (fun h1 h1'=>(.u3 (.g (.n (.qr 0 bT))))) (fun h1 h1'=>(.n3 (.g (.n (.qr 0 bT)))))))))))))))))
theorem a0x (nd t0:Int) (xs:List y8) (hsz:∀ a∈xs,a.m.key.app.size < 9223372036854775808/\a.m.key.id.size < 9223372036854775808):AC 28 [(iI nd),(iI t0),(sA 25 (List.map y8.row xs))] [] (bT,[]):=by
 by_cases hb:0<=nd/\nd < 6/\j4 t0=t0
 · exact b3S nd t0 xs hsz hb.1 hb.2.1 hb.2.2
 · exact b3T nd t0 xs hb
end Go.Proofs.YtfjedpipdnlkfaaGreat.AM
namespace Go.Proofs.YtfjedpipdnlkfaaGreat.AM
open Go
theorem VR.rows {G:Nat->Prop} {w:World} {C:Cx} {k:Nat} {xs ys:List (List AV)} {v:Value} (h:VR G w C (.sl .any k xs) v) (hl:xs.length=ys.length) (hw:∀ i,i < xs.length->AV.wks (xs.getD i []) (ys.getD i [])):VR G w C (.sl .any k ys) v:=by
 cases h with
 | nils _ _ _ hg =>
  obtain rfl:ys=[]:=List.eq_nil_of_length_eq_zero hl.symm
  exact .nils _ _ _ hg
 | sl _ _ _ _ ad cap hg hclip hle hs cv hk hc h1 h =>
  rw [hl]
  refine .sl C .any ys k ad cap yf_ yf_ ya_ (fun hn=>hs fun e=>hn (List.eq_nil_of_length_eq_zero (by rw [<- hl,e]; rfl))) cv (fun i hi=>?_) (fun i j hi hj=>hc i j ya_ hj) (fun i j hi hj=>h1 i j ya_ hj) fun i j hi hj=>?_
  · rw [<- (AV.pK (hw i ya_)).1]; exact hk i ya_
  · exact (h i j ya_ hj).wk ((AV.pK (hw i ya_)).2 j (by rw [hk i ya_]; exact hj))
theorem l6.c8o {P:Program} {f:FuncId} {pre:List AV} {k:Nat} {xs ys:List (List AV)} {H:Heap} {r:AV × Heap} (h:l6 P f (pre++[.sl .any k ys]) H r) (hl:xs.length=ys.length) (hw:∀ i,i < xs.length->AV.wks (xs.getD i []) (ys.getD i [])):l6 P f (pre++[.sl .any k xs]) H r:=by
 intro G w C vs hsz hargs hH
 refine h G w C vs (by simpa using hsz) (fun i hi=>?_) hH
 have:=hargs i yc_
 rcases Nat.lt_or_ge i pre.length with h' | h'
 · have e1:∀ z,(pre++[z]).getD i AV.skip=pre.getD i .skip:=fun z=>by simp [List.getD_eq_getElem?_getD,List.getElem?_append_left h']
   rw [e1] at this ⊢; exact this
 · obtain rfl:i=pre.length:=by simp at hi; omega
   have e1:∀ z,(pre++[z]).getD pre.length AV.skip=z:=fun z=>by simp [List.getD_eq_getElem?_getD]
   rw [e1] at this ⊢; exact this.rows hl hw
theorem a5s {T:TT} {H H':Heap} {t e:TypeId} {te:TI} {α:Type} {row:α->List AV} {g:Tg} {id k n:Nat} {l m:List α} {x:AV} {z:Nat} {b:Nat} {y:List AV}
 (ht:T t=some { d:=.slice e,size:=z,bytes:=b,zero:=y }) (hte:T e=some te) (hsz:te.size=k) (hk:0 < k) (hb:0 < te.bytes) (hg:g=.clip\/g=.cn)
 (hx:F5 H k x=some (m.map row)) (hm:0 < m.length) (hn:n=l.length+m.length) (hid:id=H.length) (hH':H'=H++[⟨0,k,(l++m).map row,none⟩]) (hlen:(l.length+m.length) * te.bytes<=140737488355328) :
 aN T H t (.sl g k (l.map row)) x=some (.osl id 0 k 0 n,H'):=by
 subst hn hid hH' hsz
 cases m with
 | nil=>simp at hm
 | cons a m =>
  simp only [aN,ht,hte,hx]
  simp only [List.length_cons] at hlen
  rcases hg with rfl | rfl <;> simp [most,hlen,hb,hk]
open Go.Proofs.YtfjedpipdnlkfaaGreat
attribute [local irreducible] E8 J4 P7 Tp.ask Tp.card akB akE akL akM akQ akT akZ cZ j6 l6 l9
theorem c8M (i:Nat):(nth a3G i).size < 100:=by
 rcases Nat.lt_or_ge i 4 with h | h
 · have key:((List.range 4).all fun i=>Nat.blt (nth a3G i).size 100)=true:=by kernel_rfl
   exact Nat.le_of_ble_eq_true (c0P key h)
 · have e:nth a3G i=default:=by unfold nth; rw [List.getD_eq_getElem?_getD,List.getElem?_eq_none (by simpa [a3G] using h)]; rfl
   rw [e]; decide
theorem c9c (i:Nat):(nth a3j i).size < 100:=by
 rcases Nat.lt_or_ge i 5 with h | h
 · have key:((List.range 5).all fun i=>Nat.blt (nth a3j i).size 100)=true:=by kernel_rfl
   exact Nat.le_of_ble_eq_true (c0P key h)
 · have e:nth a3j i=default:=by unfold nth; rw [List.getD_eq_getElem?_getD,List.getElem?_eq_none (by simpa [a3j] using h)]; rfl
   rw [e]; decide
theorem d0l (t:Tp):t.ask.1.key.app.size < 9223372036854775808/\t.ask.1.key.id.size < 9223372036854775808:=by
 with_unfolding_all unfold Tp.ask
 simp only []
 split
 · exact ⟨show (0:Nat) < _ by omega,show (0:Nat) < _ by omega⟩
 · have h1:=c8M (((t.step 50).step 5).next 4)
   have h2:=c9c ((((t.step 50).step 5).step 4).next 5)
   exact ⟨by show (nth a3G (((t.step 50).step 5).next 4)).size < _; omega,by show (nth a3j ((((t.step 50).step 5).step 4).next 5)).size < _; omega⟩
theorem d0m (len:Nat) (r:Nat):∀ (t:Tp) (a:y8),a∈akL len r t->a.m.key.app.size < 9223372036854775808/\a.m.key.id.size < 9223372036854775808:=by
 induction r with
 | zero=>intro t a h; with_unfolding_all simp [akL] at h
 | succ r ih =>
  intro t a h
  have e:akL len (r+1) t=if t.pos < len then akQ t :: akL len r (akT t) else []:=by with_unfolding_all rfl
  rw [e] at h
  split at h
  · rcases List.mem_cons.1 h with rfl | h
    · have e2:(akQ t).m=(t.step 10).ask.1:=by with_unfolding_all rfl
      rw [e2]; exact d0l _
    · exact ih _ _ h
  · simp at h
theorem c5j (tape:List Int) (n:Nat):∀ a∈cZ tape n,a.m.key.app.size < 9223372036854775808/\a.m.key.id.size < 9223372036854775808:=by with_unfolding_all exact d0m _ _ _
def uZ:Ann:={ gh:=[(6,.frz 3)],gha:=[(1,.vir 3 1)],fin:=some 0,live:=[(3,[0,3,4])],out:=[(3,[0,3,4])] }
@[simp] abbrev c4o (a b:Nat):=(IntKind.i64.wrap ((IntKind.i64.wrap ((IntKind.i64.wrap ((IntKind.i64.wrap ((a:Int) * (a:Int))) * 7))+(IntKind.i64.wrap ((b:Int) * 47))))+(IntKind.i64.wrap ((a:Int) * (b:Int)))))
@[simp] abbrev d0p (a:Nat) (b:List Int) (c:Nat) (d:Nat):Heap:=[(o_ (a+1) 1 (List.map aH (b++[(Int.tmod (c4o c d) 211)])))]
@[simp] abbrev c5m (a:Nat) (b:Nat) (c:Nat) (d:Nat):Fr:=(mkF 25 [(0,(iN a)),(3,(AV.osl 0 b 1 0 c)),(4,(iN d))])
@[reducible] def d2A:TI:={ d:=.int .i64,size:=1,bytes:=8,zero:=[.int .i64 0] }
theorem a3V (kk:Nat) (out:List Int) (k:Nat) (g:Nat) (i:Nat) (hq:kk < 1000) (hk:k=out.length) (hki:k<=i) (hle_:i<=700) {eX:Ex} {FX:Fr} {HX:Heap} (k1:(decide ((i:Int) < 700))=true->j6 (l9 Tryz.prog (X uZ) (p9 Tryz.f29 0)) (some [0,3,4]) (some [0,3,4]) (mkF 25 [(0,(iN kk)),(3,(AV.osl 0 (g+1) 1 0 (k+1))),(4,(iN (i+1)))]) (d0p g out i kk) eX FX HX) (k2:(decide ((i:Int) < 700))=false->((.exit 0:Ex),(c5m kk g k i),[(o_ g 1 (List.map aH out))])=(eX,FX,HX)):j6 (l9 Tryz.prog (X uZ) (p9 Tryz.f29 0)) (some [0,3,4]) (some [0,3,4]) (c5m kk g k i) [(o_ g 1 (List.map aH out))] eX FX HX :=
 F7 (.r (.g (.two (decide ((i:Int) < 700)) (fun h1 h1'=>(.r (.ap 14 22 (AV.osl 0 g 1 0 k) (AV.sl .clip 1 [[(iI (Int.tmod (c4o i kk) 211))]]) (AV.osl 0 (g+1) 1 0 (k+1)) (d0p g out i kk) (H6 (row:=aH) (l:=out) (x:=(Int.tmod (c4o i kk) 211)) (T:=tt) (e:=3) (te:=d2A) (z:=1) (b:=24) (y:=[.sl .nil 0 []]) kr kr rfl z8 z8 kr aU rfl rfl (by first | omega | (show _ * 8<=_; omega) | (simp; omega))) (.s (.y 1 (.int .i64 (cb_ i)) (iN (i+1)) Yes.o (.g (.l (k1 h1)))))))) (fun h1 h1'=>(.l (k2 h1))))))
def pY (kk:Nat) (i:Nat) (s:(List Int) × Nat × Nat):(List Int) × Nat × Nat:=(s.1++[(Int.tmod (IntKind.i64.wrap ((IntKind.i64.wrap ((IntKind.i64.wrap ((IntKind.i64.wrap ((i:Int) * (i:Int))) * 7))+(IntKind.i64.wrap ((kk:Int) * 47))))+(IntKind.i64.wrap ((i:Int) * (kk:Int))))) 211)],(s.2.1+1),(s.2.2+1))
theorem b7F (kk:Nat) (hq:kk < 1000)  (r_:Nat):∀ (out:List Int) (k:Nat) (g:Nat) (i:Nat) (sF:(List Int) × Nat × Nat),i+r_=700->k=out.length->k<=i->sF=iter (pY kk) r_ i (out,k,g) ->
 j6 (l9 Tryz.prog (X uZ) (p9 Tryz.f29 0)) (some [0,3,4]) (some [0,3,4]) (c5m kk g k i) [(o_ g 1 (List.map aH out))] (.exit 0) (mkF 25 [(0,(iN kk)),(3,(AV.osl 0 sF.2.2 1 0 sF.2.1)),(4,(iN 700))]) [(o_ sF.2.2 1 (List.map aH sF.1))]:=by
 induction r_ with
 | zero =>
  intro out k g i sF hi_ hk hki  hF
  obtain rfl:700=i:=by omega
  have e_:sF=(out,k,g):=hF
  refine a3V kk out k g 700 hq hk hki (Nat.le_refl _) (fun h=>by simp at h <;> omega) (fun _=>?_)
  first | done | rfl | (rw [e_]; done) | (rw [e_]; rfl)
 | succ r_ ih =>
  intro out k g i sF hi_ hk hki  hF
  refine a3V kk out k g i hq hk hki ow (fun h1=>?_) (fun h=>by simp at h <;> omega)
  · exact ih (out++[(Int.tmod (IntKind.i64.wrap ((IntKind.i64.wrap ((IntKind.i64.wrap ((IntKind.i64.wrap ((i:Int) * (i:Int))) * 7))+(IntKind.i64.wrap ((kk:Int) * 47))))+(IntKind.i64.wrap ((i:Int) * (kk:Int))))) 211)]) (k+1) (g+1) (i+1) sF ow N9 N9  (by rw [hF] <;> simp only [iter,pY,if_true,Bool.false_eq_true,if_false])
def iG (kk:Nat):List Int:=(iter (pY kk) 700 0 ([],0,0)).1
theorem a6f (kk:Nat):(iG kk).length=700/\iter (pY kk) 700 0 ([],0,0)=(iG kk,700,700):=by
 have h:=a7y (pY kk) (fun i s=>s.1.length=i/\s.2.1=i/\s.2.2=i) 700 (fun i s _ hs=>by unfold pY; simp [hs.1,hs.2.1,hs.2.2]) 700 0 ([],0,0) ow ⟨rfl,rfl,rfl⟩
 simp only [Nat.zero_add] at h
 refine ⟨h.1,?_⟩
 unfold iG
 generalize iter (pY kk) 700 0 ([],0,0)=x at h
 obtain ⟨x1,x2,x3⟩:=x
 simp only at h
 rw [h.2.1,h.2.2]
@[simp] abbrev d3b (a:Nat):Fr:=(mkF 25 [(0,(iN a)),(3,(AV.osl 0 700 1 0 700)),(4,(iN 700))])
@[simp] abbrev b5B (a:Nat):=(sA 1 (List.map aH (iG a)))
theorem b7E (kk:Nat) (hq:kk < 1000):AC 29 [(iN kk)] [] ((b5B kk),[]):=by
 have ht:=a6f kk
 have ht1:=ht.1
 exact o9 (fn:=Tryz.f29) (ann:=uZ) (Has.o Tryz.func29) (.r (.s (.s (.g (.loop (d3b kk) (b7F kk hq 700 [] 0 0 0 (iG kk,700,700) ow rfl ow ht.2.symm) (.r (.w 3 (List.map aH (iG kk)) (And.intro (G7 (room:=none) kr om) (c2P _ _):F5 [(o_ 700 1 (List.map aH (iG kk)))] 1 (AV.osl 0 700 1 0 700)=some (List.map aH (iG kk))/\AV.D5 0 (List.map aH (iG kk))=true) (.g (.h' [] (.q 0 (b5B kk)))))))))))
attribute [local irreducible] iG
structure Z6 where
 kind:Int
 op:Int
 status:Int
 code:Int
 tag:Int
 n:Int
 seq:Int
 key:Key
 full:Bool
 sum:Int
 deriving Inhabited
def Z6.row (x:Z6):List AV:=[(iI x.kind),(iI x.op),(iI x.status),(iI x.code),(iI x.tag),(iI x.n),(iI x.seq),(AV.str x.key.app),(AV.str x.key.id),(bB x.full),(AV.int .u32 x.sum),(AV.sl .nil 0 []),(AV.sl .nil 0 [])]
@[simp] theorem Z6.V7 (n:Nat) (x:Z6):AV.bdds n x.row=true:=by simp [Z6.row,AV.bdds,AV.bdd]
@[simp] theorem Z6.p8 (n:Nat) (l:List Z6):AV.D5 n (l.map Z6.row)=true:=by induction l with | nil=>rfl | cons x l ih=>simp [AV.D5,Z6.V7,ih]
structure G8 where
 kind:Int
 m:Z6
 more:Int
 late:Int
 c:j5
 deriving Inhabited
def G8.row (x:G8):List AV:=[(iI x.kind),(iI x.m.kind),(iI x.m.op),(iI x.m.status),(iI x.m.code),(iI x.m.tag),(iI x.m.n),(iI x.m.seq),(AV.str x.m.key.app),(AV.str x.m.key.id),(bB x.m.full),(AV.int .u32 x.m.sum),(AV.sl .nil 0 []),(AV.sl .nil 0 []),(iI x.more),(iI x.late),(AV.str x.c.key.app),(AV.str x.c.key.id),(iI x.c.status),(iI x.c.over),(iI x.c.lease),(iI x.c.stamp.t),(iI x.c.stamp.node),(iI x.c.stamp.n),(bB x.c.gone)]
@[simp] theorem G8.V7 (n:Nat) (x:G8):AV.bdds n x.row=true:=by simp [G8.row,AV.bdds,AV.bdd]
@[simp] theorem G8.p8 (n:Nat) (l:List G8):AV.D5 n (l.map G8.row)=true:=by induction l with | nil=>rfl | cons x l ih=>simp [AV.D5,G8.V7,ih]
def Z6.up (q:Z6):Msg:=⟨q.kind,q.op,q.status,q.code,q.tag,q.n,q.seq,q.key,q.full,q.sum,[],[]⟩
def G8.up (a:G8):y8:=⟨a.kind,a.m.up,a.more,a.late,a.c⟩
theorem G8.wk (a:G8):AV.wks a.row a.up.row:=⟨rfl,rfl,rfl,rfl,rfl,rfl,rfl,rfl,rfl,rfl,rfl,rfl,⟨rfl,rfl,.inr rfl⟩,⟨rfl,rfl,.inr rfl⟩,rfl,rfl,rfl,rfl,rfl,rfl,rfl,rfl,rfl,rfl,rfl,trivial⟩
theorem M6 (nd t0:Int) (xs:List G8) (hsz:∀ a∈xs,a.m.key.app.size < 9223372036854775808/\a.m.key.id.size < 9223372036854775808):AC 28 [(iI nd),(iI t0),(sA 25 (List.map G8.row xs))] [] (bT,[]):=by
 have h:=a0x nd t0 (xs.map G8.up) (fun a ha=>by
  obtain ⟨b,hb,rfl⟩:=List.mem_map.1 ha
  exact hsz b hb)
 refine l6.c8o (pre:=[iI nd,iI t0]) h yf_ fun i hi=>?_
 have hi':i < xs.length:=by simpa using hi
 have e1:(List.map G8.row xs).getD i []=G8.row (nth xs i):=by rw [List.getD_eq_getElem?_getD,a3a G8.row hi']; rfl
 have e2:(List.map y8.row (List.map G8.up xs)).getD i []=y8.row (nth xs i).up:=by rw [List.map_map,List.getD_eq_getElem?_getD,a3a (y8.row ∘ G8.up) hi']; rfl
 rw [e1,e2]; exact G8.wk _
def kJ:Ann:={ own:=[46],big:=[30,36],gh:=[(11,.frz 2),(11,.cut 0)],gha:=[(6,.vir 2 25),(4,.cut 0),(10,.cut 1)],fin:=some 0,live:=[(2,[1]),(8,[2,3]),(12,[2,47,48,49]),(15,[2,5,47,48,49,53,54,55])],out:=[(2,[]),(8,[2]),(12,[2]),(15,[2,5,47,48,49])] }
theorem b1O {p:Prop} (h:p:=by first | omega | assumption | exact c5j _ _ | (simp; done) | (simp; omega) | exact kr):p:=h
theorem a7U   (q:Nat)  (hle_:q<=40) {eX:Ex} {FX:Fr} {HX:Heap} (k1:(decide ((q:Int) < 40))=true->j6 (l9 Tryz.prog (X kJ) (p9 Tryz.f6 0)) (some [1]) (some []) (mkF 78 [(1,(iN (q+1)))]) [] eX FX HX) (k2:(decide ((q:Int) < 40))=false->((.exit 0:Ex),(mkF 78 []),[])=(eX,FX,HX)):j6 (l9 Tryz.prog (X kJ) (p9 Tryz.f6 0)) (some [1]) (some []) (mkF 78 [(1,(iN q))]) [] eX FX HX:=by
 have ht:=(a6f q).1
 have hal:=a4W (iG q) 60
 exact F7 (.r (.g (.two (decide ((q:Int) < 40)) (fun h1 h1'=>(.r (.y 1 (.int .i64 (Int.tmod (q:Int) 6)) (iN (q % 6)) (Yes.rem) (.y 3 (iW ((q:Int) * 5)) (iN (q * 5)) Yes.o (.c 5 ((b7E q b1O).lift kr kr []) (.c 6 (l6.pre (args:=[(b5B q),(iN 60)]) (args':=[(b5B q),(iI 60)]) ((c0M (iG q) 60 b1O b1O).lift kr kr []) ⟨⟨rfl,rfl,.inl rfl⟩,AV.j3 _,trivial⟩) (.c 7 ((a0x ((q % 6:Nat):Int) ((q * 5:Nat):Int) (cZ (iG q) 60) b1O).lift kr kr []) (.b 0 (.rn (.y 1 (.int .i64 (cb_ q)) (iN (q+1)) Yes.o (.g (.l (k1 h1))))))))))))) (fun h1 h1'=>(.l (k2 h1))))))
def c6j  (q:Nat) (s:Unit):Unit:=()
theorem c3Y    (r_:Nat):∀  (q:Nat) (sF:Unit),q+r_=40->sF=iter (c6j ) r_ q () ->
 j6 (l9 Tryz.prog (X kJ) (p9 Tryz.f6 0)) (some [1]) (some []) (mkF 78 [(1,(iN q))]) [] (.exit 0) (mkF 78 []) []:=by
 induction r_ with
 | zero =>
  intro  q sF hi_   hF
  obtain rfl:40=q:=by omega
  have e_:sF=():=hF
  refine a7U   40  (Nat.le_refl _) (fun h=>by simp at h <;> omega) (fun _=>?_)
  first | done | rfl | (rw [e_]; done) | (rw [e_]; rfl)
 | succ r_ ih =>
  intro  q sF hi_   hF
  refine a7U   q  ow (fun h1=>?_) (fun h=>by simp at h <;> omega)
  · exact ih  (q+1) sF ow   (by rw [hF] <;> simp only [iter,c6j,if_true,Bool.false_eq_true,if_false])
@[simp] abbrev sW (a:Nat):=(IntKind.i32.wrap ((97+(a % 26):Nat):Int))
@[simp] abbrev yP (a:Nat):=(IntKind.i32.wrap ((97+(a / 26):Nat):Int))
@[simp] abbrev d0o (a:Nat) (b:List G8) (c:Nat):Heap:=[(o_ (a+1) 25 (List.map G8.row (b++([(G8.mk 0 (Z6.mk 1 1 1 0 0 5 0 (Key.mk (ByteArray.mk #[97]) (((ByteArray.mk #[105])++(Utf8.encode (sW c)))++(Utf8.encode (yP c)))) false 0) 0 0 (j5.mk (Key.mk (ByteArray.mk #[]) (ByteArray.mk #[])) 0 0 0 (l8.mk 0 0 0) false)),(G8.mk 0 (Z6.mk 1 5 0 0 0 0 ((c:Int) - 3) (Key.mk (ByteArray.mk #[]) (ByteArray.mk #[])) false 0) 0 0 (j5.mk (Key.mk (ByteArray.mk #[]) (ByteArray.mk #[])) 0 0 0 (l8.mk 0 0 0) false))]))))]
@[simp] abbrev d0n (a:Nat) (b:Nat) (c:Nat):Fr:=(mkF 78 [(2,(AV.osl 0 a 25 0 b)),(3,(iN c))])
@[simp] abbrev c4a (a:Nat):=(IntKind.i32.wrap ((97+(a % 26):Nat):Int))
@[simp] abbrev c4n (a:Nat):=(AV.str (Utf8.encode (c4a a)))
@[simp] abbrev c4m (a:Nat):=(AV.str ((ByteArray.mk #[105])++(Utf8.encode (c4a a))))
@[simp] abbrev c4l (a:Nat):=(AV.str (((ByteArray.mk #[105])++(Utf8.encode (c4a a)))++(Utf8.encode (IntKind.i32.wrap ((97+(a / 26):Nat):Int)))))
theorem a7T  (out:List G8) (k:Nat) (g:Nat) (i:Nat) (hk:k=out.length) (hki:k<=2 * i) (hle_:i<=35) {eX:Ex} {FX:Fr} {HX:Heap} (k1:(decide ((i:Int) < 35))=true->j6 (l9 Tryz.prog (X kJ) (p9 Tryz.f6 1)) (some [2,3]) (some [2]) (mkF 78 [(2,(AV.osl 0 (g+1) 25 0 (k+2))),(3,(iN (i+1)))]) (d0o g out i) eX FX HX) (k2:(decide ((i:Int) < 35))=false->((.exit 2:Ex),(mkF 78 [(2,(AV.osl 0 g 25 0 k))]),[(o_ g 25 (List.map G8.row out))])=(eX,FX,HX)):j6 (l9 Tryz.prog (X kJ) (p9 Tryz.f6 1)) (some [2,3]) (some [2]) (d0n g k i) [(o_ g 25 (List.map G8.row out))] eX FX HX:=by
 have s1:i < 35->(Utf8.encode (sW i)).size=1:=fun h=>vV (i % 26) ow
 have s2:i < 35->(Utf8.encode (yP i)).size=1:=fun h=>vV (i / 26) ow
 have s0:(ByteArray.mk #[105]).size=1:=rfl
 have s3:i < 35->((ByteArray.mk #[105])++(Utf8.encode (sW i))).size=2:=fun h=>by rw [ByteArray.size_append,s1 h]; rfl
 exact F7 (.r (.g (.two (decide ((i:Int) < 35)) (fun h1 h1'=>(.r (.y 2 (.int .i64 (Int.tmod (i:Int) 26)) (iN (i % 26)) (Yes.rem) (.y 3 (iW (97+((i % 26:Nat):Int))) (iN (97+(i % 26))) Yes.o (.t 5 (c4n i) [(o_ g 25 (List.map G8.row out))] (a6y (src:=21) (dst':=9) (ts:={ d:=.int .i32,size:=1,bytes:=4,zero:=[.int .i32 0] }) (td:={ d:=.string,size:=1,bytes:=16,zero:=[.str ⟨#[]⟩] }) (k:=.i32) (n:=(sW i)) bS kr kr kr rfl kr rfl kr:Sat Tryz.prog (X kJ) (mkF 78 [(2,(AV.osl 0 g 25 0 k)),(3,(iN i)),(21,(iN i)),(22,(bB (decide ((i:Int) < 35)))),(25,(AV.osl 0 g 25 0 k)),(26,(iN i)),(27,(iN (i % 26))),(28,(iN (97+(i % 26)))),(29,(AV.int .i32 (sW i)))]) [(o_ g 25 (List.map G8.row out))] 1 (Y6 Tryz.f6 10 5) (c4n i) [(o_ g 25 (List.map G8.row out))]) (.t 6 (c4m i) [(o_ g 25 (List.map G8.row out))] (b1r ow:Option.map (fun a=>(a,([(o_ g 25 (List.map G8.row out))]:Heap))) (if (((ByteArray.mk #[105]).size+(Utf8.encode (sW i)).size:Nat):Int) > IntKind.i64.max then none else some (.str ((ByteArray.mk #[105])++(Utf8.encode (sW i)))))=some ((c4m i),([(o_ g 25 (List.map G8.row out))]:Heap))) (.y 8 (iW (Int.tdiv (i:Int) 26)) (iN (i / 26)) (Yes.quo ow) (.y 9 (iW (97+((i / 26:Nat):Int))) (iN (97+(i / 26))) Yes.o (.t 11 (AV.str (Utf8.encode (yP i))) [(o_ g 25 (List.map G8.row out))] (a6y (src:=21) (dst':=9) (ts:={ d:=.int .i32,size:=1,bytes:=4,zero:=[.int .i32 0] }) (td:={ d:=.string,size:=1,bytes:=16,zero:=[.str ⟨#[]⟩] }) (k:=.i32) (n:=(yP i)) bS kr kr kr rfl kr rfl kr:Sat Tryz.prog (X kJ) (mkF 78 [(2,(AV.osl 0 g 25 0 k)),(3,(iN i)),(21,(iN i)),(22,(bB (decide ((i:Int) < 35)))),(25,(AV.osl 0 g 25 0 k)),(26,(iN i)),(27,(iN (i % 26))),(28,(iN (97+(i % 26)))),(29,(AV.int .i32 (sW i))),(30,(c4n i)),(31,(c4m i)),(32,(iN i)),(33,(iN (i / 26))),(34,(iN (97+(i / 26)))),(35,(AV.int .i32 (yP i)))]) [(o_ g 25 (List.map G8.row out))] 1 (Y6 Tryz.f6 10 11) (AV.str (Utf8.encode (yP i))) [(o_ g 25 (List.map G8.row out))]) (.t 12 (c4l i) [(o_ g 25 (List.map G8.row out))] (b1r ow:Option.map (fun a=>(a,([(o_ g 25 (List.map G8.row out))]:Heap))) (if ((((ByteArray.mk #[105])++(Utf8.encode (sW i))).size+(Utf8.encode (yP i)).size:Nat):Int) > IntKind.i64.max then none else some (.str (((ByteArray.mk #[105])++(Utf8.encode (sW i)))++(Utf8.encode (yP i)))))=some ((c4l i),([(o_ g 25 (List.map G8.row out))]:Heap))) (.y 17 (iW ((i:Int) - 3)) (iI ((i:Int) - 3)) Yes.o (.ao 21 27 (AV.osl 0 g 25 0 k) (AV.sl .clip 25 [[z_,(iI 1),(iI 1),(iI 1),z_,z_,(iI 5),z_,a1j,(c4l i),bF,(AV.int .u32 0),(AV.sl .nil 0 []),(AV.sl .nil 0 []),z_,z_,e_,e_,z_,z_,z_,z_,z_,z_,bF],[z_,(iI 1),(iI 5),z_,z_,z_,z_,(iI ((i:Int) - 3)),e_,e_,bF,(AV.int .u32 0),(AV.sl .nil 0 []),(AV.sl .nil 0 []),z_,z_,e_,e_,z_,z_,z_,z_,z_,z_,bF]]) (AV.osl 0 (g+1) 25 0 (k+2)) (d0o g out i) (F3 (T:=tt) (e:=41) (te:=b2j) (z:=1) (b:=24) (y:=[.sl .nil 0 []]) (row:=G8.row) (l:=out) kr kr rfl z8 z8 kr rfl om rfl rfl (by first | omega | (show _ * 256<=_; omega) | (simp; done) | (simp; omega))) (.b 1 (.s (.y 1 (.int .i64 (cb_ i)) (iN (i+1)) Yes.o (.g (.l (k1 h1)))))))))))))))))) (fun h1 h1'=>(.l (k2 h1))))))
def wI  (i:Nat) (s:(List G8) × Nat × Nat):(List G8) × Nat × Nat:=(s.1++([(G8.mk 0 (Z6.mk 1 1 1 0 0 5 0 (Key.mk (ByteArray.mk #[97]) (((ByteArray.mk #[105])++(Utf8.encode (IntKind.i32.wrap ((97+(i % 26):Nat):Int))))++(Utf8.encode (IntKind.i32.wrap ((97+(i / 26):Nat):Int))))) false 0) 0 0 (j5.mk (Key.mk (ByteArray.mk #[]) (ByteArray.mk #[])) 0 0 0 (l8.mk 0 0 0) false)),(G8.mk 0 (Z6.mk 1 5 0 0 0 0 ((i:Int) - 3) (Key.mk (ByteArray.mk #[]) (ByteArray.mk #[])) false 0) 0 0 (j5.mk (Key.mk (ByteArray.mk #[]) (ByteArray.mk #[])) 0 0 0 (l8.mk 0 0 0) false))]),(s.2.1+2),(s.2.2+1))
theorem c3X    (r_:Nat):∀ (out:List G8) (k:Nat) (g:Nat) (i:Nat) (sF:(List G8) × Nat × Nat),i+r_=35->k=out.length->k<=2 * i->sF=iter (wI ) r_ i (out,k,g) ->
 j6 (l9 Tryz.prog (X kJ) (p9 Tryz.f6 1)) (some [2,3]) (some [2]) (d0n g k i) [(o_ g 25 (List.map G8.row out))] (.exit 2) (mkF 78 [(2,(AV.osl 0 sF.2.2 25 0 sF.2.1))]) [(o_ sF.2.2 25 (List.map G8.row sF.1))]:=by
 induction r_ with
 | zero =>
  intro out k g i sF hi_ hk hki  hF
  obtain rfl:35=i:=by omega
  have e_:sF=(out,k,g):=hF
  refine a7T  out k g 35 hk hki (Nat.le_refl _) (fun h=>by simp at h <;> omega) (fun _=>?_)
  first | done | rfl | (rw [e_]; done) | (rw [e_]; rfl)
 | succ r_ ih =>
  intro out k g i sF hi_ hk hki  hF
  refine a7T  out k g i hk hki ow (fun h1=>?_) (fun h=>by simp at h <;> omega)
  · exact ih (out++([(G8.mk 0 (Z6.mk 1 1 1 0 0 5 0 (Key.mk (ByteArray.mk #[97]) (((ByteArray.mk #[105])++(Utf8.encode (IntKind.i32.wrap ((97+(i % 26):Nat):Int))))++(Utf8.encode (IntKind.i32.wrap ((97+(i / 26):Nat):Int))))) false 0) 0 0 (j5.mk (Key.mk (ByteArray.mk #[]) (ByteArray.mk #[])) 0 0 0 (l8.mk 0 0 0) false)),(G8.mk 0 (Z6.mk 1 5 0 0 0 0 ((i:Int) - 3) (Key.mk (ByteArray.mk #[]) (ByteArray.mk #[])) false 0) 0 0 (j5.mk (Key.mk (ByteArray.mk #[]) (ByteArray.mk #[])) 0 0 0 (l8.mk 0 0 0) false))])) (k+2) (g+1) (i+1) sF ow N9 N9  (by rw [hF] <;> simp only [iter,wI,if_true,Bool.false_eq_true,if_false])
def dnL:List G8:=(iter wI 35 0 ([],0,0)).1
theorem c8L:(dnL.length=70/\∀ a∈dnL,a.m.key.app.size < 9223372036854775808/\a.m.key.id.size < 9223372036854775808)/\iter wI 35 0 ([],0,0)=(dnL,70,35):=by
 have h:=a7y wI (fun i s=>(s.1.length=2 * i/\∀ a∈s.1,a.m.key.app.size < 9223372036854775808/\a.m.key.id.size < 9223372036854775808)/\s.2.1=2 * i/\s.2.2=i) 35 (fun i s hi hs=>by
  have s1:(Utf8.encode (IntKind.i32.wrap ((97+(i % 26):Nat):Int))).size=1:=vV (i % 26) ow
  have s2:(Utf8.encode (IntKind.i32.wrap ((97+(i / 26):Nat):Int))).size=1:=vV (i / 26) ow
  obtain ⟨⟨h1,h2⟩,h3,h4⟩:=hs
  unfold wI
  refine ⟨⟨by simp; omega,fun a ha=>?_⟩,by simp; omega,by simp; omega⟩
  simp only [List.mem_append,List.mem_cons,List.not_mem_nil,or_false] at ha
  rcases ha with ha | rfl | rfl
  · exact h2 a ha
  · refine ⟨show (1:Nat) < _ by omega,?_⟩
    simp only [ByteArray.size_append,s1,s2]
    show 1+1+1 < _
    omega
  · exact ⟨show (0:Nat) < _ by omega,show (0:Nat) < _ by omega⟩) 35 0 ([],0,0) ow ⟨⟨rfl,by simp⟩,rfl,rfl⟩
 simp only [Nat.zero_add] at h
 refine ⟨h.1,?_⟩
 unfold dnL
 generalize iter wI 35 0 ([],0,0)=x at h
 obtain ⟨x1,x2,x3⟩:=x
 simp only at h
 rw [h.2.1,h.2.2]
theorem c8K {xs:List G8} (h:∀ a∈dnL,a.m.key.app.size < 9223372036854775808/\a.m.key.id.size < 9223372036854775808) (hx:∀ a∈xs,a.m.key.app.size < 9223372036854775808/\a.m.key.id.size < 9223372036854775808):∀ a∈List.take 60 dnL++xs,a.m.key.app.size < 9223372036854775808/\a.m.key.id.size < 9223372036854775808:=by
 intro a ha
 rcases List.mem_append.1 ha with h' | h'
 · exact h a (List.mem_of_mem_take h')
 · exact hx a h'
attribute [local irreducible] dnL
@[simp] abbrev b6m :Heap:=[(o_ 0 25 (List.map G8.row ((dnL.take 60)++([(G8.mk 9 (Z6.mk 0 0 0 0 0 0 0 (Key.mk (ByteArray.mk #[]) (ByteArray.mk #[])) false 0) 70 0 (j5.mk (Key.mk (ByteArray.mk #[]) (ByteArray.mk #[])) 0 0 0 (l8.mk 0 0 0) false)),(G8.mk 6 (Z6.mk 0 0 0 0 0 0 0 (Key.mk (ByteArray.mk #[]) (ByteArray.mk #[])) false 0) 100 0 (j5.mk (Key.mk (ByteArray.mk #[]) (ByteArray.mk #[])) 0 0 0 (l8.mk 0 0 0) false)),(G8.mk 0 (Z6.mk 7 0 0 0 0 0 0 (Key.mk (ByteArray.mk #[]) (ByteArray.mk #[])) false 0) 0 0 (j5.mk (Key.mk (ByteArray.mk #[]) (ByteArray.mk #[])) 0 0 0 (l8.mk 0 0 0) false))]))))]
theorem gV {p:Prop} (h:p:=by first | omega | assumption | exact hd2 | (simp; done) | (simp; omega) | exact kr | exact c8K hd2 (by intro a ha; simp only [List.mem_cons,List.not_mem_nil,or_false] at ha; rcases ha with rfl | rfl | rfl <;> exact ⟨show (0:Nat) < _ by omega,show (0:Nat) < _ by omega⟩)):p:=h
@[simp] abbrev c4k :=(AV.sl .cn 25 (List.map G8.row (dnL.take 60)))
@[simp] abbrev c4j :=(AV.osl 0 0 25 0 ((dnL.take 60).length+3))
@[simp] abbrev c9p :=[(iI 2),(iI 9),(sA 25 (List.map G8.row ((dnL.take 60)++([(G8.mk 9 (Z6.mk 0 0 0 0 0 0 0 (Key.mk (ByteArray.mk #[]) (ByteArray.mk #[])) false 0) 70 0 (j5.mk (Key.mk (ByteArray.mk #[]) (ByteArray.mk #[])) 0 0 0 (l8.mk 0 0 0) false)),(G8.mk 6 (Z6.mk 0 0 0 0 0 0 0 (Key.mk (ByteArray.mk #[]) (ByteArray.mk #[])) false 0) 100 0 (j5.mk (Key.mk (ByteArray.mk #[]) (ByteArray.mk #[])) 0 0 0 (l8.mk 0 0 0) false)),(G8.mk 0 (Z6.mk 7 0 0 0 0 0 0 (Key.mk (ByteArray.mk #[]) (ByteArray.mk #[])) false 0) 0 0 (j5.mk (Key.mk (ByteArray.mk #[]) (ByteArray.mk #[])) 0 0 0 (l8.mk 0 0 0) false))]))))]
theorem a5t  :AC 6 [] [] (bT,[]):=by
 have hd:=c8L
 have hd1:=hd.1.1
 have hd2:=hd.1.2
 exact o9 (fn:=Tryz.f6) (ann:=kJ) (Has.o Tryz.func6) (.r (.s (.g (.loop (mkF 78 []) (c3Y 40 0 () ow rfl) (.r (.s (.g (.loop (mkF 78 [(2,(AV.osl 0 35 25 0 70))]) (c3X 35 [] 0 0 0 (dnL,70,35) ow rfl ow hd.2.symm) (.r (.w 2 (List.map G8.row dnL) (And.intro (G7 (room:=none) kr om) (G8.p8 _ _):F5 [(o_ 35 25 (List.map G8.row dnL))] 25 (AV.osl 0 35 25 0 70)=some (List.map G8.row dnL)/\AV.D5 0 (List.map G8.row dnL)=true) (.h' [] (.b 0 (.g (.roll 5 (.r (.ru (.s (.g (.roll 5 (.r (.ru (.s (.c 3 ((M6 (-1) (-1) dnL gV).lift kr kr []) (.rn (.s (.ru (.s (.c 3 ((M6 (-1) 0 dnL gV).lift kr kr []) (.rn (.s (.ru (.s (.c 3 ((M6 (-1) 1099511627776 dnL gV).lift kr kr []) (.rn (.s (.ru (.s (.c 3 ((M6 (-1) 1099511627777 dnL gV).lift kr kr []) (.rn (.s (.rn (.s (.ru (.s (.g (.roll 5 (.r (.ru (.s (.c 3 ((M6 0 (-1) dnL gV).lift kr kr []) (.rn (.s (.ru (.s (.c 3 ((M6 0 0 dnL gV).lift kr kr []) (.rn (.s (.ru (.s (.c 3 ((M6 0 1099511627776 dnL gV).lift kr kr []) (.rn (.s (.ru (.s (.c 3 ((M6 0 1099511627777 dnL gV).lift kr kr []) (.rn (.s (.rn (.s (.ru (.s (.g (.roll 5 (.r (.ru (.s (.c 3 ((M6 5 (-1) dnL gV).lift kr kr []) (.rn (.s (.ru (.s (.c 3 ((M6 5 0 dnL gV).lift kr kr []) (.rn (.s (.ru (.s (.c 3 ((M6 5 1099511627776 dnL gV).lift kr kr []) (.rn (.s (.ru (.s (.c 3 ((M6 5 1099511627777 dnL gV).lift kr kr []) (.rn (.s (.rn (.s (.ru (.s (.g (.roll 5 (.r (.ru (.s (.c 3 ((M6 6 (-1) dnL gV).lift kr kr []) (.rn (.s (.ru (.s (.c 3 ((M6 6 0 dnL gV).lift kr kr []) (.rn (.s (.ru (.s (.c 3 ((M6 6 1099511627776 dnL gV).lift kr kr []) (.rn (.s (.ru (.s (.c 3 ((M6 6 1099511627777 dnL gV).lift kr kr []) (.rn (.s (.rn (.s (.rn (.t 1 c4k [] (xL (l:=0) (h:=60) om om om om nO c1p:Option.map (fun a=>(a,([]:Heap))) (if 25=25\/((List.map G8.row dnL)).isEmpty=true then (if (60:Int)=60 then (bounds 0 60 (List.length (List.map G8.row dnL))).map fun p=>AV.sl .cn 25 ((List.take p.2 (List.map G8.row dnL)).drop p.1) else none) else none)=some (c4k,([]:Heap))) (.ap 7 27 c4k (AV.sl .clip 25 [[(iI 9),z_,z_,z_,z_,z_,z_,z_,e_,e_,bF,(AV.int .u32 0),(AV.sl .nil 0 []),(AV.sl .nil 0 []),(iI 70),z_,e_,e_,z_,z_,z_,z_,z_,z_,bF],[(iI 6),z_,z_,z_,z_,z_,z_,z_,e_,e_,bF,(AV.int .u32 0),(AV.sl .nil 0 []),(AV.sl .nil 0 []),(iI 100),z_,e_,e_,z_,z_,z_,z_,z_,z_,bF],[z_,(iI 7),z_,z_,z_,z_,z_,z_,e_,e_,bF,(AV.int .u32 0),(AV.sl .nil 0 []),(AV.sl .nil 0 []),z_,z_,e_,e_,z_,z_,z_,z_,z_,z_,bF]]) c4j b6m (a5s (T:=tt) (e:=41) (te:=b2j) (z:=1) (b:=24) (y:=[.sl .nil 0 []]) (row:=G8.row) (l:=dnL.take 60) (m:=[(G8.mk 9 (Z6.mk 0 0 0 0 0 0 0 (Key.mk (ByteArray.mk #[]) (ByteArray.mk #[])) false 0) 70 0 (j5.mk (Key.mk (ByteArray.mk #[]) (ByteArray.mk #[])) 0 0 0 (l8.mk 0 0 0) false)),(G8.mk 6 (Z6.mk 0 0 0 0 0 0 0 (Key.mk (ByteArray.mk #[]) (ByteArray.mk #[])) false 0) 100 0 (j5.mk (Key.mk (ByteArray.mk #[]) (ByteArray.mk #[])) 0 0 0 (l8.mk 0 0 0) false)),(G8.mk 0 (Z6.mk 7 0 0 0 0 0 0 (Key.mk (ByteArray.mk #[]) (ByteArray.mk #[])) false 0) 0 0 (j5.mk (Key.mk (ByteArray.mk #[]) (ByteArray.mk #[])) 0 0 0 (l8.mk 0 0 0) false))]) kr kr rfl z8 z8 yf_ rfl om rfl rfl rfl (by first | omega | (show _ * 256<=_; omega) | (simp; done) | (simp; omega))) (.c 8 (l6.borrow (args:=c9p) (args':=[(iI 2),(iI 9),c4j]) (H:=b6m) (M6 2 9 ((dnL.take 60)++([(G8.mk 9 (Z6.mk 0 0 0 0 0 0 0 (Key.mk (ByteArray.mk #[]) (ByteArray.mk #[])) false 0) 70 0 (j5.mk (Key.mk (ByteArray.mk #[]) (ByteArray.mk #[])) 0 0 0 (l8.mk 0 0 0) false)),(G8.mk 6 (Z6.mk 0 0 0 0 0 0 0 (Key.mk (ByteArray.mk #[]) (ByteArray.mk #[])) false 0) 100 0 (j5.mk (Key.mk (ByteArray.mk #[]) (ByteArray.mk #[])) 0 0 0 (l8.mk 0 0 0) false)),(G8.mk 0 (Z6.mk 7 0 0 0 0 0 0 (Key.mk (ByteArray.mk #[]) (ByteArray.mk #[])) false 0) 0 0 (j5.mk (Key.mk (ByteArray.mk #[]) (ByteArray.mk #[])) 0 0 0 (l8.mk 0 0 0) false))])) gV) rfl (show Brs b6m [(iI 2),(iI 9),c4j] c9p from ⟨Br.same kr,Br.same kr,Br.osl (G7 (room:=none) kr (by first | omega | (simp [List.length_set]; done) | (simp [List.length_set]; omega))) (G8.p8 _ _),trivial⟩)) (.u (.c 10 ((a7x).lift kr kr b6m) (.g (.h' [] (.q 0 bT))))))))))))))))))))))))))))))))))))))))))))))))))))))))))))))))))))))))))))))))))))))))))))))))))))))))))))))))))))))))))))))))))))
end Go.Proofs.YtfjedpipdnlkfaaGreat.AM
namespace Go.Proofs.YtfjedpipdnlkfaaGreat.AM
open Go Go.RowKit
theorem Ev.below {G G':Nat->Prop} {w w':World} {C':Cx} (h:Ev G w Cx.none G' w' C'):Below w.heap.size w w' :=
 ⟨h.os,h.tape,h.output,h.size,fun b hb=>h.rest b hb fun id l hl=>by simp [Cx.none] at hl⟩
theorem l6.yes {P:Program} {f:FuncId} {fn:Func} (hf:Has P f fn) {args:List AV} {H':Heap} (h:l6 P f args [] (.bool true,H')) {vs:Array Value} {w:World} (hsz:vs.size=args.length)
 (hargs:∀ i,i < args.length->VR (fun b=>b < w.heap.size) w Cx.none (args.getD i .skip) (vs.getD i undef)) :
 Calls P f vs w fun e w'=>e=.returned (.bool true)/\Below w.heap.size w w' :=
 Calls.mono (h.calls hf hsz hargs (fun b hb=>hb)) fun e w' ⟨v,G',C',he,h1,h2⟩=>by
  cases h2
  exact ⟨he,h1.below⟩
end Go.Proofs.YtfjedpipdnlkfaaGreat.AM
