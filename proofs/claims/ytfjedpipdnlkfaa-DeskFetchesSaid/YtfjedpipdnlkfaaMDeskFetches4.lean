/-
  Texts of this claim, part 4 of 6: an abstract machine over the model; what functions come to; plain laws.
-/
import Derived.Test.YtfjedpipdnlkfaaMDeskFetches3
set_option maxRecDepth 100000
set_option linter.unusedVariables false
set_option linter.unusedSimpArgs false
namespace Go.Proofs.Ytfjedpipdnlkfaa.AM
open Go Go.Proofs.Ytfjedpipdnlkfaa
attribute [local irreducible] ACalls funT codeT codeQ LoopTo
def charOk (c:Int):Bool:=(decide (97≤c)&&decide (c≤122)) || (decide (48≤c)&&decide (c≤57))
def nameB (tx:ByteArray):Bool:=decide (0 < tx.size)&&(decide (tx.size≤16)&&(strL tx).all charOk)
theorem all_nth {l:List Int} {f:Int→Bool} (h:l.all f=true) {j:Nat} (hj:j < l.length):f (nth l j)=true:=by
 rw [List.all_eq_true] at h
 have:=nth_get hj
 exact h _ (List.mem_of_getElem? this)
theorem all_no {l:List Int} {f:Int→Bool} (h:l.all f=false):∃ j,j < l.length∧f (nth l j)=false:=by
 rw [List.all_eq_false] at h
 obtain ⟨x,hx,h2⟩:=h
 obtain ⟨j,hj,e⟩:=List.getElem_of_mem hx
 exact ⟨j,hj,by rw [nth_eq (by rw [List.getElem?_eq_getElem hj,e]) ]; simpa using h2⟩
def nm_ann:Ann:={ big:=[20],fin:=some 0,live:=[(4,[0,2,13,14,15])],out:=[(4,[0,2])] }
@[simp] abbrev Wi_1 (v1_:ByteArray) (v2_:Nat):Fr:=(mkF 36 [(0,(AV.str v1_)),(2,(AV.bool false)),(13,(AV.str v1_)),(14,(AV.int .i64 ((v1_.size:Nat):Int))),(15,(AV.int .i64 ((v2_+1:Nat):Int)))])
theorem nm_step (tx:ByteArray) (i:Nat) (hs:tx.size < 100) (hi:i≤tx.size) {eX:Ex} {FX:Fr} {HX:Heap} (k1:(decide (((i:Nat):Int) < ((tx.size:Nat):Int)))=true→(decide ((nth (strL tx) i) < 97))=true→(decide ((nth (strL tx) i) < 48))=true→((.ret:Ex),(mkF 36 [(0,(.str tx)),(2,(.bool false))]),([]:Heap))=(eX,FX,HX)) (k2:(decide (((i:Nat):Int) < ((tx.size:Nat):Int)))=true→(decide ((nth (strL tx) i) < 97))=true→(decide ((nth (strL tx) i) < 48))=false→(decide ((nth (strL tx) i) > 57))=true→((.ret:Ex),(mkF 36 [(0,(.str tx)),(2,(.bool false))]),([]:Heap))=(eX,FX,HX)) (k3:(decide (((i:Nat):Int) < ((tx.size:Nat):Int)))=true→(decide ((nth (strL tx) i) < 97))=true→(decide ((nth (strL tx) i) < 48))=false→(decide ((nth (strL tx) i) > 57))=false→LoopTo (codeQ Try.prog (X nm_ann) (loopOf Try.f48 0)) (some [0,2,13,14,15]) (some [0,2]) (Wi_1 tx i) ([]:Heap) eX FX HX) (k4:(decide (((i:Nat):Int) < ((tx.size:Nat):Int)))=true→(decide ((nth (strL tx) i) < 97))=false→(decide ((nth (strL tx) i) > 122))=true→(decide ((nth (strL tx) i) < 48))=true→((.ret:Ex),(mkF 36 [(0,(.str tx)),(2,(.bool false))]),([]:Heap))=(eX,FX,HX)) (k5:(decide (((i:Nat):Int) < ((tx.size:Nat):Int)))=true→(decide ((nth (strL tx) i) < 97))=false→(decide ((nth (strL tx) i) > 122))=true→(decide ((nth (strL tx) i) < 48))=false→(decide ((nth (strL tx) i) > 57))=true→((.ret:Ex),(mkF 36 [(0,(.str tx)),(2,(.bool false))]),([]:Heap))=(eX,FX,HX)) (k6:(decide (((i:Nat):Int) < ((tx.size:Nat):Int)))=true→(decide ((nth (strL tx) i) < 97))=false→(decide ((nth (strL tx) i) > 122))=true→(decide ((nth (strL tx) i) < 48))=false→(decide ((nth (strL tx) i) > 57))=false→LoopTo (codeQ Try.prog (X nm_ann) (loopOf Try.f48 0)) (some [0,2,13,14,15]) (some [0,2]) (Wi_1 tx i) ([]:Heap) eX FX HX) (k7:(decide (((i:Nat):Int) < ((tx.size:Nat):Int)))=true→(decide ((nth (strL tx) i) < 97))=false→(decide ((nth (strL tx) i) > 122))=false→LoopTo (codeQ Try.prog (X nm_ann) (loopOf Try.f48 0)) (some [0,2,13,14,15]) (some [0,2]) (Wi_1 tx i) ([]:Heap) eX FX HX) (k8:(decide (((i:Nat):Int) < ((tx.size:Nat):Int)))=false→((.exit 0:Ex),(mkF 36 [(0,(.str tx)),(2,(.bool false))]),([]:Heap))=(eX,FX,HX)):LoopTo (codeQ Try.prog (X nm_ann) (loopOf Try.f48 0)) (some [0,2,13,14,15]) (some [0,2]) (mkF 36 [(0,(.str tx)),(2,(.bool false)),(13,(.str tx)),(14,(.int .i64 ((tx.size:Nat):Int))),(15,(.int .i64 ((i:Nat):Int)))]) ([]:Heap) eX FX HX :=
 stepO (.r (.g (.two (decide (((i:Nat):Int) < ((tx.size:Nat):Int))) (fun h1 h1'=>(.r (.g (.r (.t 2 (AV.int .u8 (nth (strL tx) i)) ([]:Heap) (sat_index (xt:=9) (ts:={ d:=.string,size:=1,bytes:=16,zero:=[.str ⟨#[]⟩] }) (i:=((i:Nat):Int)) (n:=i) ttOk kr kr kr rfl kr kr ow ow:Sat Try.prog (X nm_ann) (mkF 36 [(0,(AV.str tx)),(2,(AV.bool false)),(3,(AV.int .i64 ((i:Nat):Int))),(13,(AV.str tx)),(14,(AV.int .i64 ((tx.size:Nat):Int))),(15,(AV.int .i64 ((i:Nat):Int))),(16,(AV.bool (decide (((i:Nat):Int) < ((tx.size:Nat):Int))))),(17,(AV.int .i64 ((i:Nat):Int))),(18,(AV.str tx)),(19,(AV.int .i64 ((i:Nat):Int)))]) ([]:Heap) 0 (opIn Try.f48 6 2) (AV.int .u8 (nth (strL tx) i)) ([]:Heap)) (.g (.r (.two (decide ((nth (strL tx) i) < 97)) (fun h2 h2'=>(.yes (.yes (.yes (.yes (.two (decide ((nth (strL tx) i) < 48)) (fun h3 h3'=>(.yes (.yes (.g (.yes (.r (.g (.l (k1 h1 h2 h3))))))))) (fun h3 h3'=>(.no (.yes (.g (.two (decide ((nth (strL tx) i) > 57)) (fun h4 h4'=>(.r (.g (.l (k2 h1 h2 h3 h4))))) (fun h4 h4'=>(.r (.y 0 (.int .i64 (IntKind.i64.wrap (((i:Nat):Int)+1))) (AV.int .i64 ((i+1:Nat):Int)) (Yes.add ow ow ow) (.g (.l (k3 h1 h2 h3 h4))))))))))))))))) (fun h2 h2'=>(.no (.two (decide ((nth (strL tx) i) > 122)) (fun h3 h3'=>(.yes (.yes (.two (decide ((nth (strL tx) i) < 48)) (fun h4 h4'=>(.yes (.yes (.g (.yes (.r (.g (.l (k4 h1 h2 h3 h4))))))))) (fun h4 h4'=>(.no (.yes (.g (.two (decide ((nth (strL tx) i) > 57)) (fun h5 h5'=>(.r (.g (.l (k5 h1 h2 h3 h4 h5))))) (fun h5 h5'=>(.r (.y 0 (.int .i64 (IntKind.i64.wrap (((i:Nat):Int)+1))) (AV.int .i64 ((i+1:Nat):Int)) (Yes.add ow ow ow) (.g (.l (k6 h1 h2 h3 h4 h5))))))))))))))) (fun h3 h3'=>(.no (.no (.no (.g (.no (.r (.y 0 (.int .i64 (IntKind.i64.wrap (((i:Nat):Int)+1))) (AV.int .i64 ((i+1:Nat):Int)) (Yes.add ow ow ow) (.g (.l (k7 h1 h2 h3)))))))))))))))))))))) (fun h1 h1'=>(.l (k8 h1))))))
theorem nm_good (tx:ByteArray) (hs:tx.size < 100) (r:Nat):∀ (i:Nat),i+r=tx.size→(∀ j,i≤j→j < tx.size→charOk (nth (strL tx) j)=true) →
 LoopTo (codeQ Try.prog (X nm_ann) (loopOf Try.f48 0)) (some [0,2,13,14,15]) (some [0,2]) (mkF 36 [(0,(.str tx)),(2,(.bool false)),(13,(.str tx)),(14,(.int .i64 ((tx.size:Nat):Int))),(15,(.int .i64 ((i:Nat):Int)))]) ([]:Heap) (.exit 0) (mkF 36 [(0,(.str tx)),(2,(.bool false))]) ([]:Heap):=by
 induction r with
 | zero =>
  intro i hi hall
  refine nm_step tx i hs ow (fun h1 h2 h3=>absurd h1 (by simp; omega)) (fun h1 h2 h3 h4=>absurd h1 (by simp; omega)) (fun h1 h2 h3 h4=>absurd h1 (by simp; omega)) (fun h1 h2 h3 h4=>absurd h1 (by simp; omega)) (fun h1 h2 h3 h4 h5=>absurd h1 (by simp; omega)) (fun h1 h2 h3 h4 h5=>absurd h1 (by simp; omega)) (fun h1 h2 h3=>absurd h1 (by simp; omega)) (fun h1=>rfl)
 | succ r ih =>
  intro i hi hall
  refine nm_step tx i hs ow (fun h1 h2 h3=>absurd (hall i (Nat.le_refl _) ow) (by rw [(show charOk (nth (strL tx) i)=false by simp only [decide_eq_true_eq,decide_eq_false_iff_not] at h1 h2 h3; simp [charOk]; omega)]; simp)) (fun h1 h2 h3 h4=>absurd (hall i (Nat.le_refl _) ow) (by rw [(show charOk (nth (strL tx) i)=false by simp only [decide_eq_true_eq,decide_eq_false_iff_not] at h1 h2 h3 h4; simp [charOk]; omega)]; simp)) (fun h1 h2 h3 h4=>ih (i+1) ow (fun j hj hj2=>hall j ow hj2)) (fun h1 h2 h3 h4=>absurd (hall i (Nat.le_refl _) ow) (by rw [(show charOk (nth (strL tx) i)=false by simp only [decide_eq_true_eq,decide_eq_false_iff_not] at h1 h2 h3 h4; simp [charOk]; omega)]; simp)) (fun h1 h2 h3 h4 h5=>absurd (hall i (Nat.le_refl _) ow) (by rw [(show charOk (nth (strL tx) i)=false by simp only [decide_eq_true_eq,decide_eq_false_iff_not] at h1 h2 h3 h4 h5; simp [charOk]; omega)]; simp)) (fun h1 h2 h3 h4 h5=>ih (i+1) ow (fun j hj hj2=>hall j ow hj2)) (fun h1 h2 h3=>ih (i+1) ow (fun j hj hj2=>hall j ow hj2)) (fun h1=>absurd h1 (by simp; omega))
theorem nm_bad (tx:ByteArray) (hs:tx.size < 100) (r:Nat):∀ (i:Nat),i+r=tx.size→(∃ j,i≤j∧j < tx.size∧charOk (nth (strL tx) j)=false) →
 LoopTo (codeQ Try.prog (X nm_ann) (loopOf Try.f48 0)) (some [0,2,13,14,15]) (some [0,2]) (mkF 36 [(0,(.str tx)),(2,(.bool false)),(13,(.str tx)),(14,(.int .i64 ((tx.size:Nat):Int))),(15,(.int .i64 ((i:Nat):Int)))]) ([]:Heap) (.ret) (mkF 36 [(0,(.str tx)),(2,(.bool false))]) ([]:Heap):=by
 induction r with
 | zero =>
  intro i hi hex
  obtain ⟨j,hj1,hj2,_⟩:=hex
  omega
 | succ r ih =>
  intro i hi hex
  refine nm_step tx i hs ow (fun h1 h2 h3=>rfl) (fun h1 h2 h3 h4=>rfl) (fun h1 h2 h3 h4=>(by
   obtain ⟨j,hj1,hj2,hj3⟩:=hex
   have hne:j≠i:=fun e=>by rw [e,(show charOk (nth (strL tx) i)=true by simp only [decide_eq_true_eq,decide_eq_false_iff_not] at h1 h2 h3 h4; simp [charOk]; omega)] at hj3; simp at hj3
   exact ih (i+1) ow ⟨j,by omega,hj2,hj3⟩)) (fun h1 h2 h3 h4=>rfl) (fun h1 h2 h3 h4 h5=>rfl) (fun h1 h2 h3 h4 h5=>(by
   obtain ⟨j,hj1,hj2,hj3⟩:=hex
   have hne:j≠i:=fun e=>by rw [e,(show charOk (nth (strL tx) i)=true by simp only [decide_eq_true_eq,decide_eq_false_iff_not] at h1 h2 h3 h4 h5; simp [charOk]; omega)] at hj3; simp at hj3
   exact ih (i+1) ow ⟨j,by omega,hj2,hj3⟩)) (fun h1 h2 h3=>(by
   obtain ⟨j,hj1,hj2,hj3⟩:=hex
   have hne:j≠i:=fun e=>by rw [e,(show charOk (nth (strL tx) i)=true by simp only [decide_eq_true_eq,decide_eq_false_iff_not] at h1 h2 h3; simp [charOk]; omega)] at hj3; simp at hj3
   exact ih (i+1) ow ⟨j,by omega,hj2,hj3⟩)) (fun h1=>absurd h1 (by simp; omega))
@[simp] abbrev Wi_2 (v1_:ByteArray):Fr:=(mkF 36 [(0,(AV.str v1_)),(2,(AV.bool false)),(13,(AV.str v1_)),(14,(AV.int .i64 ((v1_.size:Nat):Int))),(15,(AV.int .i64 0))])
theorem nameT_spec (tx:ByteArray) (hb:nameB tx=true):ACalls Try.prog 48 [(.str tx)] ([]:Heap) ((AV.bool true),([]:Heap)):=by
 have hB:=hb
 simp only [nameB,Bool.and_eq_true,decide_eq_true_eq] at hB
 obtain ⟨q1,q2,q3⟩:=hB
 have hs:tx.size < 100:=by omega
 exact specO (fn:=Try.f48) (ann:=nm_ann) (Has.o Try.func48) (.r (.g (.r (.y 2 (AV.bool (((tx.size:Nat):Int) == 0)) (AV.bool false) (Yes.bool (beq_eq_false_iff_ne.2 ow)) (.no (.no (.no (.y 6 (AV.bool (decide (((tx.size:Nat):Int) > 16))) (AV.bool false) (Yes.bool (by simp; omega)) (.g (.no (.r (.g (.loop (mkF 36 [(0,(.str tx)),(2,(.bool false))]) (show LoopTo (codeQ Try.prog (X nm_ann) (loopOf Try.f48 0)) (some [0,2,13,14,15]) (some [0,2]) (Wi_2 tx) ([]:Heap) (.exit 0) (mkF 36 [(0,(.str tx)),(2,(.bool false))]) ([]:Heap) from (nm_good tx hs tx.size 0 ow (fun j hj hj2=>all_nth q3 (by rw [strL_len]; exact hj2)))) (.r (.g (.f 0 (AV.bool true) (.e (AV.bool true))))))))))))))))))
theorem nameF_spec (tx : ByteArray) (hb : nameB tx = false) : ACalls Try.prog 48 [(.str tx)] ([] : Heap) ((AV.bool false), ([] : Heap)) :=
  specO (fn := Try.f48) (ann := nm_ann) (Has.o Try.func48) (.r (.g (.r (.two (((tx.size : Nat) : Int) == 0) (fun h1 h1' => (.yes (.yes (.g (.yes (.r (.g (.f 0 (AV.bool false) (.e (AV.bool false)))))))))) (fun h1 h1' => (.no (.no (.g (.two (decide (((tx.size : Nat) : Int) > 16)) (fun h2 h2' => (.r (.g (.f 0 (AV.bool false) (.e (AV.bool false)))))) (fun h2 h2' => (.r (.g (.loop (mkF 36 [(0, (.str tx)), (2, (.bool false))]) (show LoopTo (codeQ Try.prog (X nm_ann) (loopOf Try.f48 0)) (some [0, 2, 13, 14, 15]) (some [0, 2]) (Wi_2 tx) ([] : Heap) (.ret) (mkF 36 [(0, (.str tx)), (2, (.bool false))]) ([] : Heap) from (nm_bad tx (by have q := h1'; have q2 := h2'; omega) tx.size 0 ow (by
        have q := h1'; have q2 := h2'
        have h3 : (strL tx).all charOk = false := by
          cases h4 : (strL tx).all charOk with
          | false => rfl
          | true =>
            have h5 : nameB tx = true := by simp only [nameB, Bool.and_eq_true, decide_eq_true_eq]; exact ⟨by omega, by omega, h4⟩
            rw [h5] at hb; simp at hb
        obtain ⟨j, hj, hj2⟩ := all_no h3
        exact ⟨j, Nat.zero_le _, by rw [strL_len] at hj; exact hj, hj2⟩))) (.f 0 (AV.bool false) (.e (AV.bool false))))))))))))))))
theorem name_spec (tx:ByteArray) :ACalls Try.prog 48 [(.str tx)] ([]:Heap) ((AV.bool (nameB tx)),([]:Heap)):=by
 cases hb:nameB tx with
 | true=>exact nameT_spec tx hb
 | false=>exact nameF_spec tx hb
theorem name_at (tx:ByteArray)  (H:Heap):ACalls Try.prog 48 [(.str tx)] H ((AV.bool (nameB tx)),H):=(name_spec tx ).lift kr kr H
def cardR (c:Card):Bool:=nameB c.key.app&&(nameB c.key.id&&((decide (c.status=1) || decide (c.status=2))&&((decide (0≤c.over)&&decide (c.over≤3))&&((decide (1≤c.lease)&&decide (c.lease≤1048576))&&stR c.stamp))))
attribute [local irreducible] nameB stR
def cright_ann:Ann:={ refs:=[1],fin:=some 0 }
theorem cright_spec (c : Card)  : ACalls Try.prog 30 [(.agg (Card.row c))] ([] : Heap) ((AV.bool (cardR c)), ([] : Heap)) :=
  specO (fn := Try.f30) (ann := cright_ann) (Has.o Try.func30) (.r (.g (.r (.c 3 (name_at c.key.app  ([] : Heap)) (.two (!(nameB c.key.app)) (fun h1 h1' => (.yes (.yes (.yes (.yes (.g (.yes (.r (.g (.f 0 (AV.bool false) (.e (AV.bool false) (by
        simp only [cardR]
        simp_all <;> omega)))))))))))) (fun h1 h1' => (.no (.no (.no (.c 9 (name_at c.key.id  ([] : Heap)) (.no (.g (.two (!(nameB c.key.id)) (fun h2 h2' => (.r (.g (.f 0 (AV.bool false) (.e (AV.bool false) (by
        simp only [cardR]
        simp_all <;> omega)))))) (fun h2 h2' => (.r (.two (c.status != 1) (fun h3 h3' => (.yes (.yes (.g (.two (c.status != 2) (fun h4 h4' => (.r (.g (.f 0 (AV.bool false) (.e (AV.bool false) (by
        simp only [cardR]
        simp_all <;> omega)))))) (fun h4 h4' => (.r (.two (decide (c.over < 0)) (fun h5 h5' => (.yes (.yes (.g (.yes (.r (.g (.f 0 (AV.bool false) (.e (AV.bool false) (by
        simp only [cardR]
        simp_all <;> omega)))))))))) (fun h5 h5' => (.no (.no (.g (.two (decide (c.over > 3)) (fun h6 h6' => (.r (.g (.f 0 (AV.bool false) (.e (AV.bool false) (by
        simp only [cardR]
        simp_all <;> omega)))))) (fun h6 h6' => (.r (.two (decide (c.lease ≥ 1)) (fun h7 h7' => (.yes (.yes (.two (decide (c.lease ≤ 1048576)) (fun h8 h8' => (.yes (.yes (.c 11 (stRight_at c.stamp  ([] : Heap)) (.g (.f 0 (AV.bool (stR c.stamp)) (.e (AV.bool (stR c.stamp)) (by
        simp only [cardR]
        simp_all <;> omega)))))))) (fun h8 h8' => (.no (.no (.g (.f 0 (AV.bool false) (.e (AV.bool false) (by
        simp only [cardR]
        simp_all <;> omega))))))))))) (fun h7 h7' => (.no (.no (.no (.no (.no (.g (.f 0 (AV.bool false) (.e (AV.bool false) (by
        simp only [cardR]
        simp_all <;> omega)))))))))))))))))))))))))) (fun h3 h3' => (.no (.no (.g (.no (.r (.two (decide (c.over < 0)) (fun h4 h4' => (.yes (.yes (.g (.yes (.r (.g (.f 0 (AV.bool false) (.e (AV.bool false) (by
        simp only [cardR]
        simp_all <;> omega)))))))))) (fun h4 h4' => (.no (.no (.g (.two (decide (c.over > 3)) (fun h5 h5' => (.r (.g (.f 0 (AV.bool false) (.e (AV.bool false) (by
        simp only [cardR]
        simp_all <;> omega)))))) (fun h5 h5' => (.r (.two (decide (c.lease ≥ 1)) (fun h6 h6' => (.yes (.yes (.two (decide (c.lease ≤ 1048576)) (fun h7 h7' => (.yes (.yes (.c 11 (stRight_at c.stamp  ([] : Heap)) (.g (.f 0 (AV.bool (stR c.stamp)) (.e (AV.bool (stR c.stamp)) (by
        simp only [cardR]
        simp_all <;> omega)))))))) (fun h7 h7' => (.no (.no (.g (.f 0 (AV.bool false) (.e (AV.bool false) (by
        simp only [cardR]
        simp_all <;> omega))))))))))) (fun h6 h6' => (.no (.no (.no (.no (.no (.g (.f 0 (AV.bool false) (.e (AV.bool false) (by
        simp only [cardR]
        simp_all <;> omega)))))))))))))))))))))))))))))))))))))))))
theorem cright_at (c:Card)  (H:Heap):ACalls Try.prog 30 [(.agg (Card.row c))] H ((AV.bool (cardR c)),H):=(cright_spec c ).lift kr kr H
attribute [local irreducible] cardR cmpSt
end Go.Proofs.Ytfjedpipdnlkfaa.AM

set_option linter.unusedVariables false
set_option linter.unusedSimpArgs false
set_option maxRecDepth 100000
namespace Go.Proofs.Ytfjedpipdnlkfaa.AM
open Go
def ixOf {α:Type} (p:α→Bool):List α→Nat→Option Nat
 | [],_=>none
 | x :: xs,i=>if p x=true then some i else ixOf p xs (i+1)
def ixI {α:Type} (p:α→Bool) (l:List α):Int:=match ixOf p l 0 with | some n=>(n:Int) | none=>-1
theorem ixOf_some {α:Type} [Inhabited α] {p:α→Bool} (l:List α):∀ (i n:Nat),ixOf p l i=some n→i≤n∧n < i+l.length∧p (nth l (n - i))=true∧∀ j,j < n - i→p (nth l j)=false:=by
 induction l with
 | nil=>intro i n h; simp [ixOf] at h
 | cons x xs ih =>
  intro i n h
  simp only [ixOf] at h
  by_cases hx:p x=true
  · rw [if_pos hx] at h
    obtain rfl:i=n:=by simpa using h
    refine ⟨Nat.le_refl _,by simp,by simpa [nth] using hx,fun j hj=>by omega⟩
  · rw [if_neg hx] at h
    obtain ⟨h1,h2,h3,h4⟩:=ih (i+1) n h
    have e1:n - i=(n - (i+1))+1:=by omega
    refine ⟨by omega,by simp only [List.length_cons]; omega,by rw [e1]; simpa [nth] using h3,fun j hj=>?_⟩
    cases j with
    | zero=>simpa [nth] using hx
    | succ j=>simpa [nth] using h4 j (by omega)
theorem ixOf_none {α:Type} [Inhabited α] {p:α→Bool} (l:List α):∀ (i:Nat),ixOf p l i=none→∀ j,j < l.length→p (nth l j)=false:=by
 induction l with
 | nil=>intro i h j hj; simp at hj
 | cons x xs ih =>
  intro i h j hj
  simp only [ixOf] at h
  by_cases hx:p x=true
  · rw [if_pos hx] at h; simp at h
  · rw [if_neg hx] at h
    cases j with
    | zero=>simpa [nth] using hx
    | succ j=>simpa [nth] using ih (i+1) h j (by simpa using hj)
end Go.Proofs.Ytfjedpipdnlkfaa.AM

set_option maxRecDepth 100000
set_option linter.unusedVariables false
set_option linter.unusedSimpArgs false
namespace Go.Proofs.Ytfjedpipdnlkfaa.AM
open Go Go.Proofs.Ytfjedpipdnlkfaa
attribute [local irreducible] ACalls funT codeT codeQ LoopTo
attribute [local irreducible] Tp.card Tp.cardT Tp.next Tp.step Tp.key Tp.keyT sink insSort beforeK sortP cmpK
def ixKey_ann:Ann:={ refs:=[3],fin:=some 0,live:=[(2,[0,3,7,8])],out:=[(2,[4])] }
theorem ixKey_step (v:Key) (l:List Key) (i:Nat) (hl:l.length < 1099511627776) (hi:i≤l.length) {eX:Ex} {FX:Fr} {HX:Heap} (k1:(decide (((i:Nat):Int) < ((l.length:Nat):Int)))=true→(Key.eqb v (nth l i))=true→((.ret:Ex),(mkF 19 [(4,(.int .i64 ((i:Nat):Int)))]),([]:Heap))=(eX,FX,HX)) (k2:(decide (((i:Nat):Int) < ((l.length:Nat):Int)))=true→(Key.eqb v (nth l i))=false→LoopTo (codeQ Try.prog (X ixKey_ann) (loopOf Try.f78 0)) (some [0,3,7,8]) (some [4]) (mkF 19 [(0,(.sl .any 2 (List.map Key.row l))),(3,(.ref (Key.row v) 0)),(7,(.int .i64 ((l.length:Nat):Int))),(8,(.int .i64 ((i+1:Nat):Int)))]) ([]:Heap) eX FX HX) (k3:(decide (((i:Nat):Int) < ((l.length:Nat):Int)))=false→((.exit 0:Ex),(mkF 19 []),([]:Heap))=(eX,FX,HX)):LoopTo (codeQ Try.prog (X ixKey_ann) (loopOf Try.f78 0)) (some [0,3,7,8]) (some [4]) (mkF 19 [(0,(.sl .any 2 (List.map Key.row l))),(3,(.ref (Key.row v) 0)),(7,(.int .i64 ((l.length:Nat):Int))),(8,(.int .i64 ((i:Nat):Int)))]) ([]:Heap) eX FX HX :=
 stepO (.r (.g (.two (decide (((i:Nat):Int) < ((l.length:Nat):Int))) (fun h1 h1'=>(.r (.g (.r (.is 3 2 2 (List.map Key.row l) ((i:Nat):Int) (Key.row (nth l i)) (IdxSl.mk _ ow ow) (.g (.two (Key.eqb v (nth l i)) (fun h2 h2'=>(.r (.g (.l (k1 h1 h2))))) (fun h2 h2'=>(.r (.y 0 (.int .i64 (IntKind.i64.wrap (((i:Nat):Int)+1))) (AV.int .i64 ((i+1:Nat):Int)) (Yes.add ow ow ow) (.g (.l (k2 h1 h2))))))))))))) (fun h1 h1'=>(.l (k3 h1))))))
theorem ixKey_some (v:Key) (l:List Key) (hl:l.length < 1099511627776) (n:Nat) (hn:n < l.length) (hp:Key.eqb v (nth l n)=true) (r:Nat):∀ (i:Nat),i+r=n→(∀ j,i≤j→j < n→Key.eqb v (nth l j)=false) →
 LoopTo (codeQ Try.prog (X ixKey_ann) (loopOf Try.f78 0)) (some [0,3,7,8]) (some [4]) (mkF 19 [(0,(.sl .any 2 (List.map Key.row l))),(3,(.ref (Key.row v) 0)),(7,(.int .i64 ((l.length:Nat):Int))),(8,(.int .i64 ((i:Nat):Int)))]) ([]:Heap) (.ret) (mkF 19 [(4,(.int .i64 ((n:Nat):Int)))]) ([]:Heap):=by
 induction r with
 | zero =>
  intro i hi h
  obtain rfl:i=n:=by omega
  refine ixKey_step v l i hl ow (fun _ _=>rfl) (fun _ h2=>?_) (fun h1=>?_)
  · rw [hp] at h2; simp at h2
  · simp at h1; omega
 | succ r ih =>
  intro i hi h
  refine ixKey_step v l i hl ow (fun _ h2=>?_) (fun _ h2=>?_) (fun h1=>?_)
  · rw [h i (Nat.le_refl _) ow] at h2; simp at h2
  · exact ih (i+1) ow (fun j h3 h4=>h j ow h4)
  · simp at h1; omega
theorem ixKey_none (v:Key) (l:List Key) (hl:l.length < 1099511627776) (r:Nat):∀ (i:Nat),i+r=l.length→(∀ j,i≤j→j < l.length→Key.eqb v (nth l j)=false) →
 LoopTo (codeQ Try.prog (X ixKey_ann) (loopOf Try.f78 0)) (some [0,3,7,8]) (some [4]) (mkF 19 [(0,(.sl .any 2 (List.map Key.row l))),(3,(.ref (Key.row v) 0)),(7,(.int .i64 ((l.length:Nat):Int))),(8,(.int .i64 ((i:Nat):Int)))]) ([]:Heap) (.exit 0) (mkF 19 []) ([]:Heap):=by
 induction r with
 | zero =>
  intro i hi h
  refine ixKey_step v l i hl ow (fun h1 _=>?_) (fun h1 h2=>?_) (fun h1=>rfl)
  · simp at h1; omega
  · simp at h1; omega
 | succ r ih =>
  intro i hi h
  refine ixKey_step v l i hl ow (fun _ h2=>?_) (fun _ h2=>?_) (fun h1=>?_)
  · rw [h i (Nat.le_refl _) ow] at h2; simp at h2
  · exact ih (i+1) ow (fun j h3 h4=>h j ow h4)
  · simp at h1; omega
@[simp] abbrev Vx_1 (v1_:List Key) (v2_:Key):Fr:=(mkF 19 [(0,(AV.sl .any 2 (List.map Key.row v1_))),(3,(AV.ref (Key.row v2_) 0)),(7,(AV.int .i64 ((v1_.length:Nat):Int))),(8,(AV.int .i64 0))])
theorem ixKeyS_spec (v:Key) (l:List Key) (n:Nat) (hl:l.length < 1099511627776) (hn:n < l.length) (hp:Key.eqb v (nth l n)=true) (h:∀ j,0≤j→j < n→Key.eqb v (nth l j)=false):ACalls Try.prog 78 [(.sl .any 2 (List.map Key.row l)),(.agg (Key.row v))] ([]:Heap) ((AV.int .i64 ((n:Nat):Int)),([]:Heap)) :=
 specO (fn:=Try.f78) (ann:=ixKey_ann) (Has.o Try.func78) (.r (.g (.r (.y 1 (.int .i64 ((List.length (List.map Key.row l):Nat):Int)) (AV.int .i64 ((l.length:Nat):Int)) (Yes.len _ _ _) (.g (.loop (mkF 19 [(4,(.int .i64 ((n:Nat):Int)))]) (show LoopTo (codeQ Try.prog (X ixKey_ann) (loopOf Try.f78 0)) (some [0,3,7,8]) (some [4]) (Vx_1 l v) ([]:Heap) (.ret) (mkF 19 [(4,(.int .i64 ((n:Nat):Int)))]) ([]:Heap) from (ixKey_some v l hl n hn hp n 0 ow h)) (.f 0 (AV.int .i64 ((n:Nat):Int)) (.e (AV.int .i64 ((n:Nat):Int))))))))))
theorem ixKeyN_spec (v:Key) (l:List Key) (hl:l.length < 1099511627776) (h:∀ j,0≤j→j < l.length→Key.eqb v (nth l j)=false):ACalls Try.prog 78 [(.sl .any 2 (List.map Key.row l)),(.agg (Key.row v))] ([]:Heap) ((AV.int .i64 (-1)),([]:Heap)) :=
 specO (fn:=Try.f78) (ann:=ixKey_ann) (Has.o Try.func78) (.r (.g (.r (.y 1 (.int .i64 ((List.length (List.map Key.row l):Nat):Int)) (AV.int .i64 ((l.length:Nat):Int)) (Yes.len _ _ _) (.g (.loop (mkF 19 []) (show LoopTo (codeQ Try.prog (X ixKey_ann) (loopOf Try.f78 0)) (some [0,3,7,8]) (some [4]) (Vx_1 l v) ([]:Heap) (.exit 0) (mkF 19 []) ([]:Heap) from (ixKey_none v l hl l.length 0 ow h)) (.r (.g (.f 0 (AV.int .i64 (-1)) (.e (AV.int .i64 (-1))))))))))))
theorem ixKey_spec (v:Key) (l:List Key) (hl:l.length < 1099511627776):ACalls Try.prog 78 [(.sl .any 2 (List.map Key.row l)),(.agg (Key.row v))] ([]:Heap) ((AV.int .i64 (ixI (Key.eqb v) l)),([]:Heap)):=by
 unfold ixI
 cases h:ixOf (Key.eqb v) l 0 with
 | none=>exact ixKeyN_spec v l hl (fun j _ hj=>ixOf_none l 0 h j hj)
 | some n =>
  obtain ⟨_,h2,h3,h4⟩:=ixOf_some l 0 n h
  exact ixKeyS_spec v l n hl ow h3 (fun j _ hj=>h4 j hj)
theorem ixKey_at (v:Key) (l:List Key) (hl:l.length < 1099511627776) (H:Heap):ACalls Try.prog 78 [(.sl .any 2 (List.map Key.row l)),(.agg (Key.row v))] H ((AV.int .i64 (ixI (Key.eqb v) l)),H):=(ixKey_spec v l hl).lift kr kr H
def hasK (l:List Key) (v:Key):Bool:=decide (ixI (Key.eqb v) l ≥ 0)
def hasKey_ann:Ann:={ refs:=[3],fin:=some 0 }
theorem hasKey_spec (l:List Key) (v:Key) (hl:l.length < 1099511627776):ACalls Try.prog 65 [(.sl .any 2 (List.map Key.row l)),(.agg (Key.row v))] ([]:Heap) ((AV.bool (hasK l v)),([]:Heap)) :=
 specO (fn:=Try.f65) (ann:=hasKey_ann) (Has.o Try.func65) (.r (.g (.r (.c 2 (ixKey_at v l oa ([]:Heap)) (.g (.f 0 (AV.bool (decide ((ixI (Key.eqb v) l) ≥ 0))) (.e (AV.bool (decide ((ixI (Key.eqb v) l) ≥ 0))))))))))
end Go.Proofs.Ytfjedpipdnlkfaa.AM

set_option linter.unusedVariables false
set_option linter.unusedSimpArgs false
set_option maxRecDepth 100000
namespace Go.Proofs.Ytfjedpipdnlkfaa.AM
open Go
def lastsK:List Key→List Key
 | []=>[]
 | k :: r=>if (!(hasK r k))=true then k :: lastsK r else lastsK r
theorem lastsK_len (l:List Key):(lastsK l).length≤l.length:=by
 induction l with
 | nil=>simp [lastsK]
 | cons k l ih=>simp only [lastsK]; split <;> simp only [List.length_cons] <;> omega
def recL (a:List Key):List Key:=a.drop (a.length - 16)
theorem recL_len (a:List Key):(recL a).length=min a.length 16:=by unfold recL; rw [List.length_drop]; omega
theorem recL_add (a:List Key) (k:Key):(recL a++[k]).drop ((recL a).length+1 - 16)=recL (a++[k]):=by
 rw [recL_len]
 unfold recL
 rw [List.length_append,List.length_singleton]
 rcases Nat.lt_or_ge a.length 16 with h | h
 · have e1:a.length - 16=0:=by omega
   have e2:min a.length 16+1 - 16=0:=by omega
   have e3:a.length+1 - 16=0:=by omega
   rw [e1,e2,e3]; simp
 · have e2:min a.length 16+1 - 16=1:=by omega
   have e3:a.length+1 - 16=(a.length - 16)+1:=by omega
   rw [e2,e3,List.drop_append_of_le_length (by rw [List.length_drop]; omega),List.drop_append_of_le_length (by omega),List.drop_drop]
theorem recL_since {a:List Key} {n:Nat} (h1:n≤a.length) (h2:a.length - n≤16):(recL a).drop ((recL a).length - (a.length - n))=a.drop n:=by
 rw [recL_len]
 unfold recL
 rw [List.drop_drop]
 congr 1; omega
def okS (al:List Key) (n:Int):Bool:=decide (0≤n)&&(decide (n≤(al.length:Int))&&decide ((al.length:Int) - n≤16))
def sinceK (al:List Key) (n:Int):List Key:=if okS al n=true then lastsK (al.drop n.toNat) else []
theorem okS_nat {al:List Key} {m:Nat} (h1:m≤al.length) (h2:al.length - m≤16):okS al (m:Int)=true:=by unfold okS; simp; omega
theorem okS_false {al:List Key} {n:Int} (h:n < 0∨(al.length:Int) < n∨16 < (al.length:Int) - n):okS al n=false:=by unfold okS; simp; omega
theorem sinceK_nat {al:List Key} {m:Nat} (h1:m≤al.length) (h2:al.length - m≤16):sinceK al (m:Int)=lastsK (al.drop m):=by unfold sinceK; rw [if_pos (okS_nat h1 h2)]; rfl
theorem sinceK_false {al:List Key} {n:Int} (h:n < 0∨(al.length:Int) < n∨16 < (al.length:Int) - n):sinceK al n=[]:=by unfold sinceK; rw [if_neg (by rw [okS_false h]; simp)]
theorem sinceK_len (al:List Key) (n:Int):(sinceK al n).length≤16:=by
 unfold sinceK
 split
 · rename_i h
   unfold okS at h
   simp at h
   have h1:=lastsK_len (al.drop n.toNat)
   rw [List.length_drop] at h1
   omega
 · simp
end Go.Proofs.Ytfjedpipdnlkfaa.AM

set_option maxRecDepth 100000
set_option linter.unusedVariables false
set_option linter.unusedSimpArgs false
namespace Go.Proofs.Ytfjedpipdnlkfaa.AM
open Go Go.Proofs.Ytfjedpipdnlkfaa
attribute [local irreducible] ACalls funT codeT codeQ LoopTo
attribute [local irreducible] Tp.card Tp.cardT Tp.next Tp.step Tp.key Tp.keyT sink insSort beforeK
theorem hcInsE (vs:Array Value) (w:World):(callFunc 67 vs).run Try.prog w=((Extern.SlicesOverlaps.overlaps #[68,68] #[4] vs).run Try.prog w).andThen fun v w'=>.ok (.value v) w' :=
 run_callFunc_extern (fn:=Try.f67) kr kr kr kr kr vs w
def InsEE_ann:Ann:={ base:=1,fin:=some 1 }
theorem InsEE_spec (l:List Entry) (x:Entry) (g:Nat) (hl:l.length < 1048576):ACalls Try.prog 57 [(.osl 0 g 10 0 l.length),(.int .i64 ((l.length:Nat):Int)),(.sl .clip 10 [(Entry.row x)])] ([⟨g,10,(List.map Entry.row l),none⟩]:Heap) ((AV.osl 0 (g+1) 10 0 (l.length+1)),([⟨(g+1),10,(List.map Entry.row (l++[x])),none⟩]:Heap)) :=
 specO (fn:=Try.f57) (ann:=InsEE_ann) (Has.o Try.func57) (.r (.g (.r (.so 2 0 g 10 0 l.length ((l.length:Nat):Int) ((l.length:Nat):Int) (AV.osl 0 g 10 l.length (l.length - l.length)) (slice_osl (l:=l.length) (h:=l.length) om om om om om om) (.g (.r (.g (.r (.g (.no (.r (.g (.r (.y 2 (AV.bool (((l.length:Nat):Int) == ((l.length:Nat):Int))) (AV.bool true) (Yes.bool om) (.g (.yes (.r (.ap 2 68 (AV.osl 0 g 10 0 l.length) (AV.sl .clip 10 [(Entry.row x)]) (AV.osl 0 (g+1) 10 0 (l.length+1)) ([⟨(g+1),10,(List.map Entry.row (l++[x])),none⟩]:Heap) (evAppend_one (row:=Entry.row) (l:=l) (x:=x) (T:=tt) (e:=88) (te:={ d:=.struct [(39,0),(2,9)],size:=10,bytes:=96,zero:=[.str ⟨#[]⟩,.str ⟨#[]⟩,.int .i64 0,.int .i64 0,.int .i64 0,.int .i64 0,.int .i64 0,.int .i64 0,.bool false,.int .i64 0] }) (z:=1) (b:=24) (y:=[.sl .nil 0 []]) kr kr rfl (by decide) (by decide) kr (by first | assumption | omega | (simp; done) | (simp; omega)) rfl rfl (by first | omega | (show _ * 96≤_; omega) | (simp; omega))) (.g (.f 1 (AV.osl 0 (g+1) 10 0 (l.length+1)) (.e (AV.osl 0 (g+1) 10 0 (l.length+1)))))))))))))))))))))))
def InsEG_ann:Ann:={ big:=[40,60],base:=1 }
@[simp] abbrev Va_1 (v1_:Nat) (v2_:List Entry) (v3_:Nat) (v4_:Nat) (v5_:Entry):Heap:=[⟨v1_,10,(List.map Entry.row v2_),some v3_⟩,⟨0,10,(List.map Entry.row (v2_.take v4_++v5_ :: v2_.drop v4_)),none⟩]
@[simp] abbrev Va_2 (v1_:Nat) (v2_:List Entry) (v3_:Nat) (v4_:Entry):Fr:=(mkF 95 [(0,(AV.osl 0 v1_ 10 0 v2_.length)),(1,(AV.int .i64 ((v3_:Nat):Int))),(2,(AV.sl .clip 10 [(Entry.row v4_)])),(6,(AV.sl .nil 0 [])),(7,(AV.int .i64 1)),(8,(AV.int .i64 ((v2_.length:Nat):Int))),(10,(AV.osl 0 v1_ 10 0 v2_.length)),(11,(AV.int .i64 ((v3_:Nat):Int))),(12,(AV.osl 0 v1_ 10 v3_ (v2_.length - v3_))),(13,(AV.sl .clip 10 [(Entry.row v4_)])),(14,(AV.int .i64 1)),(15,(AV.int .i64 1)),(16,(AV.bool false)),(18,(AV.osl 0 v1_ 10 0 v2_.length)),(19,(AV.int .i64 ((v2_.length:Nat):Int))),(20,(AV.int .i64 ((v3_:Nat):Int))),(21,(AV.int .i64 ((v2_.length:Nat):Int))),(22,(AV.bool false)),(26,(AV.int .i64 ((v2_.length:Nat):Int))),(27,(AV.int .i64 1)),(28,(AV.int .i64 ((v2_.length+1:Nat):Int))),(29,(AV.osl 0 v1_ 10 0 v2_.length))])
@[simp] abbrev Va_3 (v1_:Nat) (v2_:List Entry) (v3_:Nat) (v4_:Nat):Heap:=[⟨v1_,10,(List.map Entry.row v2_),some v3_⟩,⟨0,10,(List.map Entry.row (v2_.take v4_)++List.replicate (v2_.length+1 - v4_) (List.replicate 10 AV.unk)),none⟩]
@[simp] abbrev Va_4 (v1_:Nat) (v2_:List Entry) (v3_:Nat) (v4_:Nat) (v5_:Entry):Heap:=[⟨v1_,10,(List.map Entry.row v2_),some v3_⟩,⟨0,10,(List.map Entry.row (v2_.take v4_++[v5_])++List.replicate (v2_.length+1 - v4_ - 1) (List.replicate 10 AV.unk)),none⟩]
theorem InsEG_spec (l:List Entry) (x:Entry) (g i r:Nat) (hi:i < l.length) (hl:l.length < 1048576) (hr:r < l.length+1):ACalls Try.prog 57 [(.osl 0 g 10 0 l.length),(.int .i64 ((i:Nat):Int)),(.sl .clip 10 [(Entry.row x)])] ([⟨g,10,(List.map Entry.row l),some r⟩]:Heap) ((AV.osl 1 0 10 0 (l.length+1)),(Va_1 g l r i x)) :=
 specO (fn:=Try.f57) (ann:=InsEG_ann) (Has.o Try.func57) (.r (.g (.r (.so 2 0 g 10 0 l.length ((i:Nat):Int) ((l.length:Nat):Int) (AV.osl 0 g 10 i (l.length - i)) (slice_osl (l:=i) (h:=l.length) om om om om om om) (.g (.r (.g (.r (.g (.no (.r (.g (.r (.y 2 (AV.bool (((i:Nat):Int) == ((l.length:Nat):Int))) (AV.bool false) (Yes.bool om) (.g (.no (.r (.y 2 (.int .i64 (IntKind.i64.wrap (((l.length:Nat):Int)+1))) (AV.int .i64 ((l.length+1:Nat):Int)) (Yes.add ow ow ow) (.t 4 (AV.int .i64 ((r:Nat):Int)) ([⟨g,10,(List.map Entry.row l),some r⟩]:Heap) (sat_cap (o:=(opIn Try.f57 8 4)) (t:=68) (e0:=88) (ti:={ d:=.slice 88,size:=1,bytes:=24,zero:=[.sl .nil 0 []] }) (id:=0) (g:=g) (e:=0) (n:=l.length) (k:=10) (r:=r) (els:=(List.map Entry.row l)) ttOk kr kr kr rfl kr kr rfl:Sat Try.prog (X InsEG_ann) (Va_2 g l i x) ([⟨g,10,(List.map Entry.row l),some r⟩]:Heap) 1 (opIn Try.f57 8 4) (AV.int .i64 ((r:Nat):Int)) ([⟨g,10,(List.map Entry.row l),some r⟩]:Heap)) (.y 5 (AV.bool (decide (((l.length+1:Nat):Int) > ((r:Nat):Int)))) (AV.bool true) (Yes.bool om) (.g (.yes (.r (.so 2 0 g 10 0 l.length 0 ((i:Nat):Int) (AV.osl 0 g 10 0 i) (slice_osl (l:=0) (h:=i) om om om om om om) (.y 5 (.int .i64 (IntKind.i64.wrap (((l.length:Nat):Int)+1))) (AV.int .i64 ((l.length+1:Nat):Int)) (Yes.add ow ow ow) (.y 7 (.int .i64 (IntKind.i64.wrap (((l.length+1:Nat):Int) - ((i:Nat):Int)))) (AV.int .i64 ((l.length+1 - i:Nat):Int)) (Yes.add ow ow ow) (.t 8 (AV.osl 1 0 10 0 (l.length+1)) (Va_3 g l r i) (sat_make (o:=(opIn Try.f57 9 8)) (t:=68) (e0:=88) (ti:={ d:=.slice 88,size:=1,bytes:=24,zero:=[.sl .nil 0 []] }) (id:=0) (g:=g) (e:=0) (n:=i) (t':=3) (te:={ d:=.struct [(39,0),(2,9)],size:=10,bytes:=96,zero:=[.str ⟨#[]⟩,.str ⟨#[]⟩,.int .i64 0,.int .i64 0,.int .i64 0,.int .i64 0,.int .i64 0,.int .i64 0,.bool false,.int .i64 0] }) (ti':={ d:=.int .i64,size:=1,bytes:=8,zero:=[.int .i64 0] }) (kk:=.i64) (kx:=.i64) (k:=10) (r:=r) (c:=l.length+1 - i) (els:=(List.map Entry.row l)) (ys:=List.map Entry.row (l.take i)) (els':=(List.map Entry.row (l.take i)++List.replicate (l.length+1 - i) (List.replicate 10 AV.unk))) ttOk kr kr kr rfl kr kr rfl rfl kr kr (by simp [rowsIn,List.map_take]; omega) om kr om (by decide) (by decide) om (by show _ * 96≤_; omega) om om rfl:Sat Try.prog (X InsEG_ann) (mkF 95 [(0,(AV.osl 0 g 10 0 l.length)),(1,(AV.int .i64 ((i:Nat):Int))),(2,(AV.sl .clip 10 [(Entry.row x)])),(6,(AV.sl .nil 0 [])),(7,(AV.int .i64 1)),(8,(AV.int .i64 ((l.length:Nat):Int))),(10,(AV.osl 0 g 10 0 l.length)),(11,(AV.int .i64 ((i:Nat):Int))),(12,(AV.osl 0 g 10 i (l.length - i))),(13,(AV.sl .clip 10 [(Entry.row x)])),(14,(AV.int .i64 1)),(15,(AV.int .i64 1)),(16,(AV.bool false)),(18,(AV.osl 0 g 10 0 l.length)),(19,(AV.int .i64 ((l.length:Nat):Int))),(20,(AV.int .i64 ((i:Nat):Int))),(21,(AV.int .i64 ((l.length:Nat):Int))),(22,(AV.bool false)),(26,(AV.int .i64 ((l.length:Nat):Int))),(27,(AV.int .i64 1)),(28,(AV.int .i64 ((l.length+1:Nat):Int))),(29,(AV.osl 0 g 10 0 l.length)),(30,(AV.int .i64 ((r:Nat):Int))),(31,(AV.bool true)),(32,(AV.osl 0 g 10 0 l.length)),(33,(AV.int .i64 ((i:Nat):Int))),(34,(AV.osl 0 g 10 0 i)),(35,(AV.int .i64 ((l.length:Nat):Int))),(36,(AV.int .i64 1)),(37,(AV.int .i64 ((l.length+1:Nat):Int))),(38,(AV.int .i64 ((i:Nat):Int))),(39,(AV.int .i64 ((l.length+1 - i:Nat):Int)))]) ([⟨g,10,(List.map Entry.row l),some r⟩]:Heap) 1 (opIn Try.f57 9 8) (AV.osl 1 0 10 0 (l.length+1)) (Va_3 g l r i)) (.g (.r (.h' (Va_3 g l r i) (.so 2 1 0 10 0 (l.length+1) ((i:Nat):Int) (((l.length+1):Nat):Int) (AV.osl 1 0 10 i ((l.length+1) - i)) (slice_osl (l:=i) (h:=(l.length+1)) om om om om om om) (.t 4 (AV.int .i64 1) (Va_4 g l r i x) (sat_copy (o:=(opIn Try.f57 10 4)) (t:=68) (e0:=88) (ti:={ d:=.slice 88,size:=1,bytes:=24,zero:=[.sl .nil 0 []] }) (id:=1) (g:=0) (e:=i) (n:=((l.length+1) - i)) (t':=68) (te:={ d:=.struct [(39,0),(2,9)],size:=10,bytes:=96,zero:=[.str ⟨#[]⟩,.str ⟨#[]⟩,.int .i64 0,.int .i64 0,.int .i64 0,.int .i64 0,.int .i64 0,.int .i64 0,.bool false,.int .i64 0] }) (k:=10) (els:=(List.map Entry.row (l.take i)++List.replicate (l.length+1 - i) (List.replicate 10 AV.unk))) (els':=(List.map Entry.row (l.take i++[x])++List.replicate (l.length+1 - i - 1) (List.replicate 10 AV.unk))) (room:=none) (new:=[(Entry.row x)]) (s:=(AV.sl .clip 10 [(Entry.row x)])) ttOk kr kr kr rfl kr rfl kr kr kr kr om om om (ins1 Entry.row x _ l ow ow) (rfl) rfl:Sat Try.prog (X InsEG_ann) (mkF 95 [(0,(AV.osl 0 g 10 0 l.length)),(1,(AV.int .i64 ((i:Nat):Int))),(2,(AV.sl .clip 10 [(Entry.row x)])),(6,(AV.sl .nil 0 [])),(7,(AV.int .i64 1)),(8,(AV.int .i64 ((l.length:Nat):Int))),(9,(AV.osl 1 0 10 0 (l.length+1))),(10,(AV.osl 0 g 10 0 l.length)),(11,(AV.int .i64 ((i:Nat):Int))),(12,(AV.osl 0 g 10 i (l.length - i))),(13,(AV.sl .clip 10 [(Entry.row x)])),(14,(AV.int .i64 1)),(15,(AV.int .i64 1)),(16,(AV.bool false)),(18,(AV.osl 0 g 10 0 l.length)),(19,(AV.int .i64 ((l.length:Nat):Int))),(20,(AV.int .i64 ((i:Nat):Int))),(21,(AV.int .i64 ((l.length:Nat):Int))),(22,(AV.bool false)),(26,(AV.int .i64 ((l.length:Nat):Int))),(27,(AV.int .i64 1)),(28,(AV.int .i64 ((l.length+1:Nat):Int))),(29,(AV.osl 0 g 10 0 l.length)),(30,(AV.int .i64 ((r:Nat):Int))),(31,(AV.bool true)),(32,(AV.osl 0 g 10 0 l.length)),(33,(AV.int .i64 ((i:Nat):Int))),(34,(AV.osl 0 g 10 0 i)),(35,(AV.int .i64 ((l.length:Nat):Int))),(36,(AV.int .i64 1)),(37,(AV.int .i64 ((l.length+1:Nat):Int))),(38,(AV.int .i64 ((i:Nat):Int))),(39,(AV.int .i64 ((l.length+1 - i:Nat):Int))),(40,(AV.osl 1 0 10 0 (l.length+1))),(41,(AV.osl 1 0 10 0 (l.length+1))),(42,(AV.int .i64 ((i:Nat):Int))),(43,(AV.osl 1 0 10 i ((l.length+1) - i))),(44,(AV.sl .clip 10 [(Entry.row x)]))]) (Va_3 g l r i) 2 (opIn Try.f57 10 4) (AV.int .i64 1) (Va_4 g l r i x)) (.g (.r (.h' (Va_4 g l r i x) (.y 3 (.int .i64 (IntKind.i64.wrap (((i:Nat):Int)+1))) (AV.int .i64 ((i+1:Nat):Int)) (Yes.add ow ow ow) (.so 4 1 0 10 0 (l.length+1) ((i+1:Nat):Int) (((l.length+1):Nat):Int) (AV.osl 1 0 10 (i+1) ((l.length+1) - (i+1))) (slice_osl (l:=i+1) (h:=(l.length+1)) om om om om om om) (.so 7 0 g 10 0 l.length ((i:Nat):Int) ((l.length:Nat):Int) (AV.osl 0 g 10 i (l.length - i)) (slice_osl (l:=i) (h:=l.length) om om om om om om) (.t 8 (AV.int .i64 (((l.length - i):Nat):Int)) (Va_1 g l r i x) (sat_copy (o:=(opIn Try.f57 11 8)) (t:=68) (e0:=88) (ti:={ d:=.slice 88,size:=1,bytes:=24,zero:=[.sl .nil 0 []] }) (id:=1) (g:=0) (e:=(i+1)) (n:=((l.length+1) - (i+1))) (t':=68) (te:={ d:=.struct [(39,0),(2,9)],size:=10,bytes:=96,zero:=[.str ⟨#[]⟩,.str ⟨#[]⟩,.int .i64 0,.int .i64 0,.int .i64 0,.int .i64 0,.int .i64 0,.int .i64 0,.bool false,.int .i64 0] }) (k:=10) (els:=(List.map Entry.row (l.take i++[x])++List.replicate (l.length+1 - i - 1) (List.replicate 10 AV.unk))) (els':=(List.map Entry.row (l.take i++x :: l.drop i))) (room:=none) (new:=List.map Entry.row (l.drop i)) (s:=(AV.osl 0 g 10 i (l.length - i))) ttOk kr kr kr rfl kr rfl kr kr kr (by simp [rowsIn,List.map_drop,List.take_of_length_le] <;> omega) om om om (ins2 Entry.row x _ l ow ow) om rfl:Sat Try.prog (X InsEG_ann) (mkF 95 [(0,(AV.osl 0 g 10 0 l.length)),(1,(AV.int .i64 ((i:Nat):Int))),(2,(AV.sl .clip 10 [(Entry.row x)])),(6,(AV.sl .nil 0 [])),(7,(AV.int .i64 1)),(8,(AV.int .i64 ((l.length:Nat):Int))),(9,(AV.osl 1 0 10 0 (l.length+1))),(10,(AV.osl 0 g 10 0 l.length)),(11,(AV.int .i64 ((i:Nat):Int))),(12,(AV.osl 0 g 10 i (l.length - i))),(13,(AV.sl .clip 10 [(Entry.row x)])),(14,(AV.int .i64 1)),(15,(AV.int .i64 1)),(16,(AV.bool false)),(18,(AV.osl 0 g 10 0 l.length)),(19,(AV.int .i64 ((l.length:Nat):Int))),(20,(AV.int .i64 ((i:Nat):Int))),(21,(AV.int .i64 ((l.length:Nat):Int))),(22,(AV.bool false)),(26,(AV.int .i64 ((l.length:Nat):Int))),(27,(AV.int .i64 1)),(28,(AV.int .i64 ((l.length+1:Nat):Int))),(29,(AV.osl 0 g 10 0 l.length)),(30,(AV.int .i64 ((r:Nat):Int))),(31,(AV.bool true)),(32,(AV.osl 0 g 10 0 l.length)),(33,(AV.int .i64 ((i:Nat):Int))),(34,(AV.osl 0 g 10 0 i)),(35,(AV.int .i64 ((l.length:Nat):Int))),(36,(AV.int .i64 1)),(37,(AV.int .i64 ((l.length+1:Nat):Int))),(38,(AV.int .i64 ((i:Nat):Int))),(39,(AV.int .i64 ((l.length+1 - i:Nat):Int))),(40,(AV.osl 1 0 10 0 (l.length+1))),(41,(AV.osl 1 0 10 0 (l.length+1))),(42,(AV.int .i64 ((i:Nat):Int))),(43,(AV.osl 1 0 10 i ((l.length+1) - i))),(44,(AV.sl .clip 10 [(Entry.row x)])),(45,(AV.int .i64 1)),(46,(AV.osl 1 0 10 0 (l.length+1))),(47,(AV.int .i64 ((i:Nat):Int))),(48,(AV.int .i64 1)),(49,(AV.int .i64 ((i+1:Nat):Int))),(50,(AV.osl 1 0 10 (i+1) ((l.length+1) - (i+1)))),(51,(AV.osl 0 g 10 0 l.length)),(52,(AV.int .i64 ((i:Nat):Int))),(53,(AV.osl 0 g 10 i (l.length - i)))]) (Va_4 g l r i x) 2 (opIn Try.f57 11 8) (AV.int .i64 (((l.length - i):Nat):Int)) (Va_1 g l r i x)) (.g (.r (.g (.h' (Va_1 g l r i x) (.e (AV.osl 1 0 10 0 (l.length+1))))))))))))))))))))))))))))))))))))))))))))))
def InsER_ann:Ann:={ big:=[40,60],base:=1,fin:=some 1 }
@[simp] abbrev Va_5 (v1_:Nat) (v2_:List Entry) (v3_:Nat) (v4_:Entry) (v5_:Nat):Heap:=[⟨v1_,10,(List.map Entry.row (v2_.take v3_++v4_ :: v2_.drop v3_)),some v5_⟩]
@[simp] abbrev Va_6 (v1_:Nat) (v2_:List Entry) (v3_:Nat) (v4_:Nat):Heap:=[⟨v1_,10,(List.map Entry.row (v2_.take (v3_+1)++v2_.drop v3_)),some v4_⟩]
theorem InsER_spec (l:List Entry) (x:Entry) (g i r:Nat) (hi:i < l.length) (hl:l.length < 1048576) (hr:l.length+1≤r):ACalls Try.prog 57 [(.osl 0 g 10 0 l.length),(.int .i64 ((i:Nat):Int)),(.sl .clip 10 [(Entry.row x)])] ([⟨g,10,(List.map Entry.row l),some r⟩]:Heap) ((AV.osl 0 g 10 0 (l.length+1)),(Va_5 g l i x r)) :=
 specO (fn:=Try.f57) (ann:=InsER_ann) (Has.o Try.func57) (.r (.g (.r (.so 2 0 g 10 0 l.length ((i:Nat):Int) ((l.length:Nat):Int) (AV.osl 0 g 10 i (l.length - i)) (slice_osl (l:=i) (h:=l.length) om om om om om om) (.g (.r (.g (.r (.g (.no (.r (.g (.r (.y 2 (AV.bool (((i:Nat):Int) == ((l.length:Nat):Int))) (AV.bool false) (Yes.bool om) (.g (.no (.r (.y 2 (.int .i64 (IntKind.i64.wrap (((l.length:Nat):Int)+1))) (AV.int .i64 ((l.length+1:Nat):Int)) (Yes.add ow ow ow) (.t 4 (AV.int .i64 ((r:Nat):Int)) ([⟨g,10,(List.map Entry.row l),some r⟩]:Heap) (sat_cap (o:=(opIn Try.f57 8 4)) (t:=68) (e0:=88) (ti:={ d:=.slice 88,size:=1,bytes:=24,zero:=[.sl .nil 0 []] }) (id:=0) (g:=g) (e:=0) (n:=l.length) (k:=10) (r:=r) (els:=(List.map Entry.row l)) ttOk kr kr kr rfl kr kr rfl:Sat Try.prog (X InsER_ann) (Va_2 g l i x) ([⟨g,10,(List.map Entry.row l),some r⟩]:Heap) 1 (opIn Try.f57 8 4) (AV.int .i64 ((r:Nat):Int)) ([⟨g,10,(List.map Entry.row l),some r⟩]:Heap)) (.y 5 (AV.bool (decide (((l.length+1:Nat):Int) > ((r:Nat):Int)))) (AV.bool false) (Yes.bool om) (.g (.no (.r (.y 3 (.int .i64 (IntKind.i64.wrap (((l.length:Nat):Int)+1))) (AV.int .i64 ((l.length+1:Nat):Int)) (Yes.add ow ow ow) (.t 4 (AV.osl 0 g 10 0 (l.length+1)) ([⟨g,10,(List.map Entry.row l),some r⟩]:Heap) (sat_slice (o:=(opIn Try.f57 13 4)) (t:=68) (e0:=88) (ti:={ d:=.slice 88,size:=1,bytes:=24,zero:=[.sl .nil 0 []] }) (id:=0) (g:=g) (e:=0) (n:=l.length) (te:={ d:=.struct [(39,0),(2,9)],size:=10,bytes:=96,zero:=[.str ⟨#[]⟩,.str ⟨#[]⟩,.int .i64 0,.int .i64 0,.int .i64 0,.int .i64 0,.int .i64 0,.int .i64 0,.bool false,.int .i64 0] }) (k:=10) (r:=r) (l:=0) (h:=l.length+1) (els:=(List.map Entry.row l)) ttOk kr kr kr rfl kr rfl kr kr kr kr om om om om:Sat Try.prog (X InsER_ann) (mkF 95 [(0,(.osl 0 g 10 0 l.length)),(1,(.int .i64 ((i:Nat):Int))),(2,(.sl .clip 10 [(Entry.row x)])),(6,(.sl .nil 0 [])),(7,(.int .i64 1)),(8,(.int .i64 ((l.length:Nat):Int))),(10,(.osl 0 g 10 0 l.length)),(11,(.int .i64 ((i:Nat):Int))),(12,(.osl 0 g 10 i (l.length - i))),(13,(.sl .clip 10 [(Entry.row x)])),(14,(.int .i64 1)),(15,(.int .i64 1)),(16,(.bool false)),(18,(.osl 0 g 10 0 l.length)),(19,(.int .i64 ((l.length:Nat):Int))),(20,(.int .i64 ((i:Nat):Int))),(21,(.int .i64 ((l.length:Nat):Int))),(22,(.bool false)),(26,(.int .i64 ((l.length:Nat):Int))),(27,(.int .i64 1)),(28,(.int .i64 ((l.length+1:Nat):Int))),(29,(.osl 0 g 10 0 l.length)),(30,(.int .i64 ((r:Nat):Int))),(31,(.bool false)),(56,(.osl 0 g 10 0 l.length)),(57,(.int .i64 ((l.length:Nat):Int))),(58,(.int .i64 1)),(59,(.int .i64 ((l.length+1:Nat):Int)))]) ([⟨g,10,(List.map Entry.row l),some r⟩]:Heap) 1 (opIn Try.f57 13 4) (AV.osl 0 g 10 0 (l.length+1)) ([⟨g,10,(List.map Entry.row l),some r⟩]:Heap)) (.g (.r (.y 4 (.int .i64 (IntKind.i64.wrap (((i:Nat):Int)+1))) (AV.int .i64 ((i+1:Nat):Int)) (Yes.add ow ow ow) (.so 5 0 g 10 0 (l.length+1) ((i+1:Nat):Int) (((l.length+1):Nat):Int) (AV.osl 0 g 10 (i+1) ((l.length+1) - (i+1))) (slice_osl (l:=i+1) (h:=(l.length+1)) om om om om om om) (.t 6 (AV.bool false) ([⟨g,10,(List.map Entry.row l),some r⟩]:Heap) (acalls_overlaps (tS:=68) (tR:=4) (e0:=88) (o:=⟨g,10,(List.map Entry.row l),some r⟩) (hcInsE) (tok_slice ttOk (ti:={ d:=.slice 88,size:=1,bytes:=24,zero:=[.sl .nil 0 []] }) kr rfl) (fun w=>(ttOk 88 { d:=.struct [(39,0),(2,9)],size:=10,bytes:=96,zero:=[.str ⟨#[]⟩,.str ⟨#[]⟩,.int .i64 0,.int .i64 0,.int .i64 0,.int .i64 0,.int .i64 0,.int .i64 0,.bool false,.int .i64 0] } kr).sizeOf w) (by decide) kr rfl:ACalls Try.prog 67 [(.sl .clip 10 [(Entry.row x)]),(.osl 0 g 10 (i+1) ((l.length+1) - (i+1)))] ([⟨g,10,(List.map Entry.row l),some r⟩]:Heap) ((AV.bool false),([⟨g,10,(List.map Entry.row l),some r⟩]:Heap))) (.g (.yes (.r (.y 3 (.int .i64 (IntKind.i64.wrap (((i:Nat):Int)+1))) (AV.int .i64 ((i+1:Nat):Int)) (Yes.add ow ow ow) (.so 4 0 g 10 0 (l.length+1) ((i+1:Nat):Int) (((l.length+1):Nat):Int) (AV.osl 0 g 10 (i+1) ((l.length+1) - (i+1))) (slice_osl (l:=i+1) (h:=(l.length+1)) om om om om om om) (.so 7 0 g 10 0 (l.length+1) ((i:Nat):Int) (((l.length+1):Nat):Int) (AV.osl 0 g 10 i ((l.length+1) - i)) (slice_osl (l:=i) (h:=(l.length+1)) om om om om om om) (.t 8 (AV.int .i64 ((((l.length+1) - (i+1)):Nat):Int)) (Va_6 g l i r) (sat_copyN (o:=(opIn Try.f57 15 8)) (t:=68) (e0:=88) (ti:={ d:=.slice 88,size:=1,bytes:=24,zero:=[.sl .nil 0 []] }) (id:=0) (g:=g) (e:=(i+1)) (n:=((l.length+1) - (i+1))) (t':=68) (te:={ d:=.struct [(39,0),(2,9)],size:=10,bytes:=96,zero:=[.str ⟨#[]⟩,.str ⟨#[]⟩,.int .i64 0,.int .i64 0,.int .i64 0,.int .i64 0,.int .i64 0,.int .i64 0,.bool false,.int .i64 0] }) (k:=10) (els:=(List.map Entry.row l)) (els':=(List.map Entry.row (l.take (i+1)++l.drop i))) (room:=some r) (id2:=0) (g2:=g) (e2:=i) (n2:=((l.length+1) - i)) (els2:=(List.map Entry.row l)) (room2:=some r) ttOk kr kr kr rfl kr rfl kr kr kr kr om om om om (by rw [show l.length+1 - (i+1)=l.length - i by omega]; exact ins3 Entry.row l hi) rfl rfl:Sat Try.prog (X InsER_ann) (mkF 95 [(0,(.osl 0 g 10 0 (l.length+1))),(1,(.int .i64 ((i:Nat):Int))),(2,(.sl .clip 10 [(Entry.row x)])),(6,(.sl .nil 0 [])),(7,(.int .i64 1)),(8,(.int .i64 ((l.length:Nat):Int))),(10,(.osl 0 g 10 0 l.length)),(11,(.int .i64 ((i:Nat):Int))),(12,(.osl 0 g 10 i (l.length - i))),(13,(.sl .clip 10 [(Entry.row x)])),(14,(.int .i64 1)),(15,(.int .i64 1)),(16,(.bool false)),(18,(.osl 0 g 10 0 l.length)),(19,(.int .i64 ((l.length:Nat):Int))),(20,(.int .i64 ((i:Nat):Int))),(21,(.int .i64 ((l.length:Nat):Int))),(22,(.bool false)),(26,(.int .i64 ((l.length:Nat):Int))),(27,(.int .i64 1)),(28,(.int .i64 ((l.length+1:Nat):Int))),(29,(.osl 0 g 10 0 l.length)),(30,(.int .i64 ((r:Nat):Int))),(31,(.bool false)),(56,(.osl 0 g 10 0 l.length)),(57,(.int .i64 ((l.length:Nat):Int))),(58,(.int .i64 1)),(59,(.int .i64 ((l.length+1:Nat):Int))),(60,(.osl 0 g 10 0 (l.length+1))),(61,(.sl .clip 10 [(Entry.row x)])),(62,(.osl 0 g 10 0 (l.length+1))),(63,(.int .i64 ((i:Nat):Int))),(64,(.int .i64 1)),(65,(.int .i64 ((i+1:Nat):Int))),(66,(.osl 0 g 10 (i+1) ((l.length+1) - (i+1)))),(67,(.bool false)),(68,(.bool true)),(69,(.osl 0 g 10 0 (l.length+1))),(70,(.int .i64 ((i:Nat):Int))),(71,(.int .i64 1)),(72,(.int .i64 ((i+1:Nat):Int))),(73,(.osl 0 g 10 (i+1) ((l.length+1) - (i+1)))),(74,(.osl 0 g 10 0 (l.length+1))),(75,(.int .i64 ((i:Nat):Int))),(76,(.osl 0 g 10 i ((l.length+1) - i)))]) ([⟨g,10,(List.map Entry.row l),some r⟩]:Heap) 1 (opIn Try.f57 15 8) (AV.int .i64 ((((l.length+1) - (i+1)):Nat):Int)) (Va_6 g l i r)) (.g (.r (.h' (Va_6 g l i r) (.so 2 0 g 10 0 (l.length+1) ((i:Nat):Int) (((l.length+1):Nat):Int) (AV.osl 0 g 10 i ((l.length+1) - i)) (slice_osl (l:=i) (h:=(l.length+1)) om om om om om om) (.t 4 (AV.int .i64 1) (Va_5 g l i x r) (sat_copy (o:=(opIn Try.f57 16 4)) (t:=68) (e0:=88) (ti:={ d:=.slice 88,size:=1,bytes:=24,zero:=[.sl .nil 0 []] }) (id:=0) (g:=g) (e:=i) (n:=((l.length+1) - i)) (t':=68) (te:={ d:=.struct [(39,0),(2,9)],size:=10,bytes:=96,zero:=[.str ⟨#[]⟩,.str ⟨#[]⟩,.int .i64 0,.int .i64 0,.int .i64 0,.int .i64 0,.int .i64 0,.int .i64 0,.bool false,.int .i64 0] }) (k:=10) (els:=(List.map Entry.row (l.take (i+1)++l.drop i))) (els':=(List.map Entry.row (l.take i++x :: l.drop i))) (room:=some r) (new:=[(Entry.row x)]) (s:=(AV.sl .clip 10 [(Entry.row x)])) ttOk kr kr kr rfl kr rfl kr kr kr kr om om om (ins4 Entry.row x l hi) (rfl) rfl:Sat Try.prog (X InsER_ann) (mkF 95 [(0,(.osl 0 g 10 0 (l.length+1))),(1,(.int .i64 ((i:Nat):Int))),(2,(.sl .clip 10 [(Entry.row x)])),(6,(.sl .nil 0 [])),(7,(.int .i64 1)),(8,(.int .i64 ((l.length:Nat):Int))),(10,(.osl 0 g 10 0 l.length)),(11,(.int .i64 ((i:Nat):Int))),(12,(.osl 0 g 10 i (l.length - i))),(13,(.sl .clip 10 [(Entry.row x)])),(14,(.int .i64 1)),(15,(.int .i64 1)),(16,(.bool false)),(18,(.osl 0 g 10 0 l.length)),(19,(.int .i64 ((l.length:Nat):Int))),(20,(.int .i64 ((i:Nat):Int))),(21,(.int .i64 ((l.length:Nat):Int))),(22,(.bool false)),(26,(.int .i64 ((l.length:Nat):Int))),(27,(.int .i64 1)),(28,(.int .i64 ((l.length+1:Nat):Int))),(29,(.osl 0 g 10 0 l.length)),(30,(.int .i64 ((r:Nat):Int))),(31,(.bool false)),(56,(.osl 0 g 10 0 l.length)),(57,(.int .i64 ((l.length:Nat):Int))),(58,(.int .i64 1)),(59,(.int .i64 ((l.length+1:Nat):Int))),(60,(.osl 0 g 10 0 (l.length+1))),(61,(.sl .clip 10 [(Entry.row x)])),(62,(.osl 0 g 10 0 (l.length+1))),(63,(.int .i64 ((i:Nat):Int))),(64,(.int .i64 1)),(65,(.int .i64 ((i+1:Nat):Int))),(66,(.osl 0 g 10 (i+1) ((l.length+1) - (i+1)))),(67,(.bool false)),(68,(.bool true)),(69,(.osl 0 g 10 0 (l.length+1))),(70,(.int .i64 ((i:Nat):Int))),(71,(.int .i64 1)),(72,(.int .i64 ((i+1:Nat):Int))),(73,(.osl 0 g 10 (i+1) ((l.length+1) - (i+1)))),(74,(.osl 0 g 10 0 (l.length+1))),(75,(.int .i64 ((i:Nat):Int))),(76,(.osl 0 g 10 i ((l.length+1) - i))),(77,(.int .i64 ((((l.length+1) - (i+1)):Nat):Int))),(78,(.osl 0 g 10 0 (l.length+1))),(79,(.int .i64 ((i:Nat):Int))),(80,(.osl 0 g 10 i ((l.length+1) - i))),(81,(.sl .clip 10 [(Entry.row x)]))]) (Va_6 g l i r) 1 (opIn Try.f57 16 4) (AV.int .i64 1) (Va_5 g l i x r)) (.g (.r (.g (.h' (Va_5 g l i x r) (.f 1 (AV.osl 0 g 10 0 (l.length+1)) (.e (AV.osl 0 g 10 0 (l.length+1))))))))))))))))))))))))))))))))))))))))))))))))))
@[simp] abbrev Va_7 (v1_:Nat) (v2_:List Entry) (v3_:Nat) (v4_:Entry):Heap:=[⟨(v1_+1),10,(List.map Entry.row (v2_.take v3_++v4_ :: v2_.drop v3_)),none⟩]
theorem InsE_spec (l:List Entry) (x:Entry) (g i n:Nat) (hn:n=l.length) (hi:i≤l.length) (hl:l.length < 1048576):ACalls Try.prog 57 [(.osl 0 g 10 0 n),(.int .i64 ((i:Nat):Int)),(.sl .clip 10 [(Entry.row x)])] ([⟨g,10,(List.map Entry.row l),none⟩]:Heap) ((AV.osl 0 (g+1) 10 0 (n+1)),(Va_7 g l i x)):=by
 subst hn
 exact ACalls.insert Entry.rows_bdd hi (InsEE_spec l x g hl) (fun h r hr=>InsEG_spec l x g i r h hl hr) (fun h r hr=>InsER_spec l x g i r h hl hr)
end Go.Proofs.Ytfjedpipdnlkfaa.AM

set_option maxRecDepth 100000
set_option linter.unusedVariables false
set_option linter.unusedSimpArgs false
namespace Go.Proofs.Ytfjedpipdnlkfaa.AM
open Go Go.Proofs.Ytfjedpipdnlkfaa
attribute [local irreducible] ACalls funT codeT codeQ LoopTo
attribute [local irreducible] Tp.card Tp.cardT Tp.next Tp.step Tp.key Tp.keyT sink insSort beforeK
def findP (l:List Entry) (k:Key):Nat:=(l.takeWhile fun e=>beforeK e.card.key k).length
def findB (l:List Entry) (k:Key):Bool:=decide (findP l k < l.length)&&Key.eqb (nth l (findP l k)).card.key k
theorem findP_le (l:List Entry) (k:Key):findP l k≤l.length:=by
 unfold findP
 have:=List.Sublist.length_le (List.takeWhile_sublist (l:=l) fun e=>beforeK e.card.key k)
 exact this
theorem findP_lt {l:List Entry} {k:Key}:∀ {i:Nat},i < findP l k→beforeK (nth l i).card.key k=true:=by
 unfold findP
 induction l with
 | nil=>intro i h; simp at h
 | cons e l ih =>
  intro i h
  rw [List.takeWhile_cons] at h
  by_cases hb:beforeK e.card.key k=true
  · rw [if_pos hb] at h
    cases i with
    | zero=>exact hb
    | succ i=>exact ih (by simpa using h)
  · rw [if_neg hb] at h; simp at h
theorem findP_at {l:List Entry} {k:Key} (h:findP l k < l.length):beforeK (nth l (findP l k)).card.key k=false:=by
 unfold findP at *
 induction l with
 | nil=>simp at h
 | cons e l ih =>
  rw [List.takeWhile_cons] at h ⊢
  by_cases hb:beforeK e.card.key k=true
  · rw [if_pos hb] at h ⊢
    exact ih (by simpa using h)
  · rw [if_neg hb]
    have h3:beforeK e.card.key k=false:=by simpa using hb
    exact h3
theorem findB_lt {l:List Entry} {k:Key} (h:findB l k=true):findP l k < l.length:=by
 unfold findB at h
 rw [Bool.and_eq_true] at h
 exact of_decide_eq_true h.1
theorem findP_pos {l:List Entry} {k:Key} {i:Nat} (hi:i≤l.length) (h1:∀ j,j < i→beforeK (nth l j).card.key k=true) (h2:i < l.length→beforeK (nth l i).card.key k=false):findP l k=i:=by
 rcases Nat.lt_trichotomy (findP l k) i with h | h | h
 · have:=h1 _ h
   rw [findP_at ow] at this; simp at this
 · exact h
 · have:=findP_lt h
   rw [h2 (by have:=findP_le l k; omega)] at this; simp at this
def find_ann:Ann:={ refs:=[3],base:=2,fin:=some 2,live:=[(2,[0,3,6])],out:=[(2,[0,3,6])] }
@[simp] abbrev Vb_o1 (v1_:Int) (v2_:Nat) (v3_:Nat):Ob:=⟨0,2,[[(AV.int .i64 v1_),(AV.osl 1 v2_ 10 0 v3_)]],none⟩
@[simp] abbrev Vb_1 (v1_:Int) (v2_:Nat) (v3_:Nat) (v4_:List Entry):Heap:=[Vb_o1 v1_ v2_ v3_,⟨v2_,10,(List.map Entry.row v4_),none⟩]
@[simp] abbrev Vb_2 (v1_:Key) (v2_:Nat):Fr:=(mkF 50 [(0,(AV.obj 0 0 0 0)),(3,(AV.ref (Key.row v1_) 0)),(6,(AV.int .i64 ((v2_:Nat):Int)))])
theorem find_step (most:Int) (l:List Entry) (k:Key) (g n:Nat) (i:Nat) (hn:n=l.length) (hl:l.length < 1048576) (hi:i≤l.length) {eX:Ex} {FX:Fr} {HX:Heap} (k1:(decide (((i:Nat):Int) < ((n:Nat):Int)))=true→(lessK (nth l i).card.key k)=true→LoopTo (codeQ Try.prog (X find_ann) (loopOf Try.f55 0)) (some [0,3,6]) (some [0,3,6]) (mkF 50 [(0,(.obj 0 0 0 0)),(3,(.ref (Key.row k) 0)),(6,(.int .i64 ((i+1:Nat):Int)))]) (Vb_1 most g n l) eX FX HX) (k2:(decide (((i:Nat):Int) < ((n:Nat):Int)))=true→(lessK (nth l i).card.key k)=false→((.exit 0:Ex),(Vb_2 k i),(Vb_1 most g n l))=(eX,FX,HX)) (k3:(decide (((i:Nat):Int) < ((n:Nat):Int)))=false→((.exit 0:Ex),(Vb_2 k i),(Vb_1 most g n l))=(eX,FX,HX)):LoopTo (codeQ Try.prog (X find_ann) (loopOf Try.f55 0)) (some [0,3,6]) (some [0,3,6]) (Vb_2 k i) (Vb_1 most g n l) eX FX HX :=
 stepO (.r (.two (decide (((i:Nat):Int) < ((n:Nat):Int))) (fun h1 h1'=>(.yes (.yes (.yes (.yes (.yes (.io 13 1 g 10 10 0 n ((i:Nat):Int) i (IdxOsl.mk _ ow ow) (.yes (.yes (.yes (.t 16 (AV.agg (Key.row (nth l i).card.key)) (Vb_1 most g n l) (load_row (rowAt_map (row:=Entry.row) (l:=l) (k:=10) (room:=none) kr om) kr:LoadTo tt 30 0 (Vb_1 most g n l) (rowAt (Vb_1 most g n l) 1 g i)=some ((AV.agg (Key.row (nth l i).card.key)),(Vb_1 most g n l))) (.yes (.yes (.c 18 (keyLess_at (nth l i).card.key k  (Vb_1 most g n l)) (.g (.two (lessK (nth l i).card.key k) (fun h2 h2'=>(.r (.y 1 (.int .i64 (IntKind.i64.wrap (((i:Nat):Int)+1))) (AV.int .i64 ((i+1:Nat):Int)) (Yes.add ow ow ow) (.g (.l (k1 h1 h2)))))) (fun h2 h2'=>(.l (k2 h1 h2))))))))))))))))))) (fun h1 h1'=>(.no (.no (.no (.no (.no (.no (.no (.no (.no (.no (.g (.no (.l (k3 h1)))))))))))))))))
theorem find_loop (most:Int) (l:List Entry) (k:Key) (g n:Nat) (hn:n=l.length) (hl:l.length < 1048576) (r:Nat):∀ (i:Nat),i+r=findP l k →
 LoopTo (codeQ Try.prog (X find_ann) (loopOf Try.f55 0)) (some [0,3,6]) (some [0,3,6]) (mkF 50 [(0,(.obj 0 0 0 0)),(3,(.ref (Key.row k) 0)),(6,(.int .i64 ((i:Nat):Int)))]) ([⟨0,2,[[(.int .i64 most),(.osl 1 g 10 0 n)]],none⟩,⟨g,10,(List.map Entry.row l),none⟩]:Heap) (.exit 0) (mkF 50 [(0,(.obj 0 0 0 0)),(3,(.ref (Key.row k) 0)),(6,(.int .i64 (((findP l k):Nat):Int)))]) ([⟨0,2,[[(.int .i64 most),(.osl 1 g 10 0 n)]],none⟩,⟨g,10,(List.map Entry.row l),none⟩]:Heap):=by
 have hle:=findP_le l k
 induction r with
 | zero =>
  intro i hi
  obtain rfl:i=findP l k:=by omega
  refine find_step most l k g n (findP l k) hn hl ow (fun h1 h2=>?_) (fun _ _=>rfl) (fun _=>rfl)
  rw [less_before,findP_at (by have:=of_decide_eq_true h1; omega)] at h2; simp at h2
 | succ r ih =>
  intro i hi
  refine find_step most l k g n i hn hl ow (fun _ _=>ih (i+1) ow) (fun _ h2=>?_) (fun h1=>?_)
  · rw [less_before,findP_lt (show i < findP l k by omega)] at h2; simp at h2
  · simp at h1; omega
@[simp] abbrev Vb_3 (v1_:Key) (v2_:List Entry):Fr:=(mkF 50 [(0,(AV.obj 0 0 0 0)),(3,(AV.ref (Key.row v1_) 0)),(6,(AV.int .i64 (((findP v2_ v1_):Nat):Int)))])
theorem find_spec (most : Int) (l : List Entry) (k : Key) (g n : Nat) (hn : n = l.length) (hl : l.length < 1048576) : ACalls Try.prog 55 [(.obj 0 0 0 0), (.agg (Key.row k))] (Vb_1 most g n l) ((AV.tup [(.int .i64 (((findP l k) : Nat) : Int)), (.bool (findB l k))]), (Vb_1 most g n l)) := by
  have hle := findP_le l k
  exact specO (fn := Try.f55) (ann := find_ann) (Has.o Try.func55) (.r (.g (.r (.g (.loop (Vb_3 k l) (show LoopTo (codeQ Try.prog (X find_ann) (loopOf Try.f55 0)) (some [0, 3, 6]) (some [0, 3, 6]) (mkF 50 [(0, (.obj 0 0 0 0)), (3, (.ref (Key.row k) 0)), (6, (.int .i64 0))]) (Vb_1 most g n l) (.exit 0) (Vb_3 k l) (Vb_1 most g n l) from (find_loop most l k g n hn hl (findP l k) 0 ow)) (.r (.two (decide ((((findP l k) : Nat) : Int) < ((n : Nat) : Int))) (fun h1 h1' => (.yes (.yes (.yes (.yes (.yes (.io 14 1 g 10 10 0 n (((findP l k) : Nat) : Int) (findP l k) (IdxOsl.mk _ ow ow) (.yes (.yes (.yes (.t 17 (AV.agg (Key.row (nth l (findP l k)).card.key)) (Vb_1 most g n l) (load_row (rowAt_map (row := Entry.row) (l := l) (k := 10) (room := none) kr om) kr : LoadTo tt 30 0 (Vb_1 most g n l) (rowAt (Vb_1 most g n l) 1 g (findP l k)) = some ((AV.agg (Key.row (nth l (findP l k)).card.key)), (Vb_1 most g n l))) (.yes (.yes (.g (.f 2 (AV.tup [(.int .i64 (((findP l k) : Nat) : Int)), (.bool (Key.eqb (nth l (findP l k)).card.key k))]) (.e (AV.tup [(.int .i64 (((findP l k) : Nat) : Int)), (.bool (Key.eqb (nth l (findP l k)).card.key k))]) (by
        try delta Vb_1 Vb_o1
        have hb : findB l k = Key.eqb (nth l (findP l k)).card.key k := by unfold findB; first | (simp_all; done) | (simp_all; omega) | (simp_all; intro h; omega)
        rw [hb]))))))))))))))))) (fun h1 h1' => (.no (.no (.no (.no (.no (.no (.no (.no (.no (.no (.g (.f 2 (AV.tup [(AV.int .i64 (((findP l k) : Nat) : Int)), (AV.bool false)]) (.e (AV.tup [(AV.int .i64 (((findP l k) : Nat) : Int)), (AV.bool false)]) (by
        try delta Vb_1 Vb_o1
        have hb : findB l k = false := by unfold findB; first | (simp_all; done) | (simp_all; omega) | (simp_all; intro h; omega)
        rw [hb]))))))))))))))))))))))
theorem find_at (most:Int) (l:List Entry) (k:Key) (g n:Nat) (hn:n=l.length) (hl:l.length < 1048576) (H:Heap):ACalls Try.prog 55 [(.obj 0 0 0 0),(.agg (Key.row k))] ((Vb_1 most g n l)++H) ((AV.tup [(.int .i64 (((findP l k):Nat):Int)),(.bool (findB l k))]),(Vb_1 most g n l)++H):=(find_spec most l k g n hn hl).ext kr kr ob ob kr H
def putIn_ann:Ann:={ refs:=[3],base:=2,fin:=some 2 }
@[simp] abbrev Vb_4 (v1_:Int) (v2_:Nat) (v3_:Nat) (v4_:List Entry) (v5_:Entry):Heap:=[Vb_o1 v1_ v2_ v3_,⟨v2_,10,(List.map Entry.row (v4_.set (findP v4_ v5_.card.key) v5_)),none⟩]
theorem putIn_spec (most:Int) (l:List Entry) (e:Entry) (g n:Nat) (hn:n=l.length) (hl:l.length < 1048576) (hb:findB l e.card.key=true):ACalls Try.prog 40 [(.obj 0 0 0 0),(.agg (Entry.row e))] (Vb_1 most g n l) ((AV.int .i64 0),(Vb_4 most g n l e)):=by
 have hle:=findP_le l e.card.key
 have hlt:=findB_lt hb
 exact specO (fn:=Try.f40) (ann:=putIn_ann) (Has.o Try.func40) (.r (.g (.r (.c 4 (find_at most l e.card.key g n oa oa ([]:Heap)) (.g (.r (.y 0 (AV.bool (findB l e.card.key)) (AV.bool true) (Yes.bool (hb)) (.g (.yes (.r (.io 6 1 g 10 10 0 n (((findP l e.card.key):Nat):Int) (findP l e.card.key) (IdxOsl.mk _ ow ow) (.st 7 1 g (findP l e.card.key) 10 0 (AV.agg (Entry.row e)) (Vb_4 most g n l e) (store_row (us:=(Entry.row e)) (rowAt_map (row:=Entry.row) (l:=l) (k:=10) (room:=none) kr om) kr (by simp [Entry.row]) (by simp [setAt,fillAt,List.map_set,Entry.row])) (.g (.r (.g (.f 2 (AV.int .i64 0) (.e (AV.int .i64 0))))))))))))))))))
def putFull_ann:Ann:={ refs:=[3],base:=2,fin:=some 2 }
theorem putFull_spec (most:Int) (l:List Entry) (e:Entry) (g n:Nat) (hn:n=l.length) (hl:l.length < 1048576) (hb:findB l e.card.key=false) (hm:most≤(n:Int)):ACalls Try.prog 40 [(.obj 0 0 0 0),(.agg (Entry.row e))] ([⟨0,2,[[(.int .i64 most),(.osl 1 g 10 0 n)]],none⟩,⟨g,10,(List.map Entry.row l),none⟩]:Heap) ((AV.int .i64 24),([⟨0,2,[[(.int .i64 most),(.osl 1 g 10 0 n)]],none⟩,⟨g,10,(List.map Entry.row l),none⟩]:Heap)):=by
 have hle:=findP_le l e.card.key
 exact specO (fn:=Try.f40) (ann:=putFull_ann) (Has.o Try.func40) (.r (.g (.r (.c 4 (find_at most l e.card.key g n oa oa ([]:Heap)) (.g (.r (.y 0 (AV.bool (findB l e.card.key)) (AV.bool false) (Yes.bool (hb)) (.g (.no (.r (.y 9 (AV.bool (decide (((n:Nat):Int) ≥ most))) (AV.bool true) (Yes.bool om) (.g (.yes (.r (.g (.f 2 (AV.int .i64 24) (.e (AV.int .i64 24))))))))))))))))))
def putNew_ann:Ann:={ refs:=[3],base:=2,fin:=some 2 }
theorem putNew_spec (most:Int) (l:List Entry) (e:Entry) (g n:Nat) (hn:n=l.length) (hl:l.length < 1048576) (hb:findB l e.card.key=false) (hm:(n:Int) < most):ACalls Try.prog 40 [(.obj 0 0 0 0),(.agg (Entry.row e))] ([⟨0,2,[[(.int .i64 most),(.osl 1 g 10 0 n)]],none⟩,⟨g,10,(List.map Entry.row l),none⟩]:Heap) ((AV.int .i64 0),([⟨0,2,[[(.int .i64 most),(.osl 1 (g+1) 10 0 (n+1))]],none⟩,⟨(g+1),10,(List.map Entry.row (l.take (findP l e.card.key)++e :: l.drop (findP l e.card.key))),none⟩]:Heap)):=by
 have hle:=findP_le l e.card.key
 exact specO (fn:=Try.f40) (ann:=putNew_ann) (Has.o Try.func40) (.r (.g (.r (.c 4 (find_at most l e.card.key g n oa oa ([]:Heap)) (.g (.r (.y 0 (AV.bool (findB l e.card.key)) (AV.bool false) (Yes.bool (hb)) (.g (.no (.r (.y 9 (AV.bool (decide (((n:Nat):Int) ≥ most))) (AV.bool false) (Yes.bool (by simp; omega)) (.g (.no (.r (.ch 8 ([⟨0,2,[[(AV.int .i64 most),(AV.osl 1 g 10 0 n)]],none⟩,⟨(g+1),10,(List.map Entry.row (l.take (findP l e.card.key)++e :: l.drop (findP l e.card.key))),none⟩]:Heap) (ACalls.pre (args:=[(AV.osl 1 g 10 0 n),(AV.int .i64 (((findP l e.card.key):Nat):Int)),(AV.sl .clip 10 [(Entry.row e)])]) (args':=[(AV.osl 1 g 10 0 n),(AV.int .i64 (((findP l e.card.key):Nat):Int)),(AV.sl .clip 10 [(Entry.row e)])]) (ACalls.put2 [1] ([⟨0,2,[[(AV.int .i64 most),(AV.osl 1 g 10 0 n)]],none⟩,⟨g,10,(List.map Entry.row l),none⟩]:Heap) (AV.osl 1 (g+1) 10 0 (n+1)) ([⟨0,2,[[(AV.int .i64 most),(AV.osl 1 g 10 0 n)]],none⟩,⟨(g+1),10,(List.map Entry.row (l.take (findP l e.card.key)++e :: l.drop (findP l e.card.key))),none⟩]:Heap) (InsE_spec l e g (findP l e.card.key) n oa oa oa) (⟨Ob.ren0 (Entry.rows_bdd 0 _),trivial⟩) (⟨Ob.ren0 (Entry.rows_bdd 0 _),trivial⟩)) ⟨AV.wk_refl_any _,AV.wk_refl_any _,⟨rfl,rfl,.inl rfl⟩,trivial⟩) (.g (.r (.g (.h' ([⟨0,2,[[(AV.int .i64 most),(AV.osl 1 (g+1) 10 0 (n+1))]],none⟩,⟨(g+1),10,(List.map Entry.row (l.take (findP l e.card.key)++e :: l.drop (findP l e.card.key))),none⟩]:Heap) (.f 2 (AV.int .i64 0) (.e (AV.int .i64 0))))))))))))))))))))))
def putE (most:Int) (l:List Entry) (e:Entry):Int:=if findB l e.card.key=true then 0 else if most≤(l.length:Int) then 24 else 0
def putL (most:Int) (l:List Entry) (e:Entry):List Entry:=if findB l e.card.key=true then l.set (findP l e.card.key) e else if most≤(l.length:Int) then l else l.take (findP l e.card.key)++e :: l.drop (findP l e.card.key)
def putG (most:Int) (l:List Entry) (e:Entry) (g:Nat):Nat:=if findB l e.card.key=true then g else if most≤(l.length:Int) then g else g+1
theorem putL_len (most:Int) (l:List Entry) (e:Entry):(putL most l e).length≤l.length+1:=by
 have:=findP_le l e.card.key
 unfold putL; split
 · simp
 · split
   · omega
   · simp; omega
theorem putL_most {most:Int} {l:List Entry} {e:Entry} (h:(l.length:Int)≤most):((putL most l e).length:Int)≤most:=by
 have:=findP_le l e.card.key
 unfold putL; split
 · simpa using h
 · split
   · exact h
   · simp; omega
def zE:Entry:=⟨⟨⟨⟨#[]⟩,⟨#[]⟩⟩,0,0,0,⟨0,0,0⟩,false⟩,0⟩
def getE (l:List Entry) (k:Key):Entry:=if findB l k=true then nth l (findP l k) else zE
theorem put_spec (most:Int) (l:List Entry) (e:Entry) (g n:Nat) (hn:n=l.length) (hl:l.length < 1048576):ACalls Try.prog 40 [(.obj 0 0 0 0),(.agg (Entry.row e))] ([⟨0,2,[[(.int .i64 most),(.osl 1 g 10 0 n)]],none⟩,⟨g,10,(List.map Entry.row l),none⟩]:Heap) ((AV.int .i64 (putE most l e)),([⟨0,2,[[(.int .i64 most),(.osl 1 (putG most l e g) 10 0 (List.length (putL most l e)))]],none⟩,⟨(putG most l e g),10,(List.map Entry.row (putL most l e)),none⟩]:Heap)):=by
 subst hn
 have hle:=findP_le l e.card.key
 cases hb:findB l e.card.key with
 | true =>
  have h1:putE most l e=0:=by simp [putE,hb]
  have h2:putL most l e=l.set (findP l e.card.key) e:=by simp [putL,hb]
  have h3:putG most l e g=g:=by simp [putG,hb]
  rw [h1,h2,h3,List.length_set]
  exact putIn_spec most l e g l.length rfl hl hb
 | false =>
  by_cases hm:most≤(l.length:Int)
  · have h1:putE most l e=24:=by simp [putE,hb,hm]
    have h2:putL most l e=l:=by simp [putL,hb,hm]
    have h3:putG most l e g=g:=by simp [putG,hb,hm]
    rw [h1,h2,h3]
    exact putFull_spec most l e g l.length rfl hl hb hm
  · have h1:putE most l e=0:=by simp [putE,hb,hm]
    have h2:putL most l e=l.take (findP l e.card.key)++e :: l.drop (findP l e.card.key):=by simp [putL,hb,hm]
    have h3:putG most l e g=g+1:=by simp [putG,hb,hm]
    have h4:(l.take (findP l e.card.key)++e :: l.drop (findP l e.card.key)).length=l.length+1:=by simp; omega
    rw [h1,h2,h3,h4]
    exact putNew_spec most l e g l.length rfl hl hb ow
theorem put_at (most:Int) (l:List Entry) (e:Entry) (g n:Nat) (hn:n=l.length) (hl:l.length < 1048576) (H:Heap):ACalls Try.prog 40 [(.obj 0 0 0 0),(.agg (Entry.row e))] ((Vb_1 most g n l)++H) ((AV.int .i64 (putE most l e)),([⟨0,2,[[(.int .i64 most),(.osl 1 (putG most l e g) 10 0 (List.length (putL most l e)))]],none⟩,⟨(putG most l e g),10,(List.map Entry.row (putL most l e)),none⟩]:Heap)++H):=(put_spec most l e g n hn hl).ext kr kr ob ob kr H
def getIn_ann:Ann:={ refs:=[3],base:=2,fin:=some 2 }
@[simp] abbrev Vb_o2 :Ob:=⟨0,10,[[(AV.str ⟨#[]⟩),(AV.str ⟨#[]⟩),(AV.int .i64 0),(AV.int .i64 0),(AV.int .i64 0),(AV.int .i64 0),(AV.int .i64 0),(AV.int .i64 0),(AV.bool false),(AV.int .i64 0)]],none⟩
@[simp] abbrev Vb_5 :Heap:=[Vb_o2]
@[simp] abbrev Vb_6 (v1_:Int) (v2_:Nat) (v3_:Nat) (v4_:List Entry):Heap:=[Vb_o1 v1_ v2_ v3_,⟨v2_,10,(List.map Entry.row v4_),none⟩,Vb_o2]
theorem getIn_spec (most:Int) (l:List Entry) (k:Key) (g n:Nat) (hn:n=l.length) (hl:l.length < 1048576) (hb:findB l k=true):ACalls Try.prog 36 [(.obj 0 0 0 0),(.agg (Key.row k))] (Vb_1 most g n l) ((AV.tup [(.agg (Entry.row (nth l (findP l k)))),(.bool true)]),(Vb_1 most g n l)):=by
 have hle:=findP_le l k
 have hlt:=findB_lt hb
 exact specO (fn:=Try.f36) (ann:=getIn_ann) (Has.o Try.func36) (.r (.g (.r (.c 2 (find_at most l k g n oa oa Vb_5) (.g (.r (.h' (Vb_6 most g n l) (.y 1 (AV.bool (!(findB l k))) (AV.bool false) (Yes.bool (by rw [hb]; rfl)) (.g (.no (.r (.io 5 1 g 10 10 0 n (((findP l k):Nat):Int) (findP l k) (IdxOsl.mk _ ow ow) (.t 6 (AV.agg (Entry.row (nth l (findP l k)))) (Vb_6 most g n l) (load_row (rowAt_map (row:=Entry.row) (l:=l) (k:=10) (room:=none) kr om) kr:LoadTo tt 88 0 (Vb_6 most g n l) (rowAt (Vb_6 most g n l) 1 g (findP l k))=some ((AV.agg (Entry.row (nth l (findP l k)))),(Vb_6 most g n l))) (.g (.h' (Vb_1 most g n l) (.f 2 (AV.tup [(AV.agg (Entry.row (nth l (findP l k)))),(AV.bool true)]) (.e (AV.tup [(AV.agg (Entry.row (nth l (findP l k)))),(AV.bool true)]))))))))))))))))))
def getOut_ann:Ann:={ refs:=[3],base:=2,fin:=some 2 }
theorem getOut_spec (most:Int) (l:List Entry) (k:Key) (g n:Nat) (hn:n=l.length) (hl:l.length < 1048576) (hb:findB l k=false):ACalls Try.prog 36 [(.obj 0 0 0 0),(.agg (Key.row k))] (Vb_1 most g n l) ((AV.tup [(.agg (Entry.row zE)),(.bool false)]),(Vb_1 most g n l)):=by
 have hle:=findP_le l k
 exact specO (fn:=Try.f36) (ann:=getOut_ann) (Has.o Try.func36) (.r (.g (.r (.c 2 (find_at most l k g n oa oa Vb_5) (.g (.r (.h' (Vb_6 most g n l) (.y 1 (AV.bool (!(findB l k))) (AV.bool true) (Yes.bool (by rw [hb]; rfl)) (.g (.yes (.r (.g (.h' (Vb_1 most g n l) (.f 2 (AV.tup [(AV.agg [(AV.str ⟨#[]⟩),(AV.str ⟨#[]⟩),(AV.int .i64 0),(AV.int .i64 0),(AV.int .i64 0),(AV.int .i64 0),(AV.int .i64 0),(AV.int .i64 0),(AV.bool false),(AV.int .i64 0)]),(AV.bool false)]) (.e (AV.tup [(AV.agg [(AV.str ⟨#[]⟩),(AV.str ⟨#[]⟩),(AV.int .i64 0),(AV.int .i64 0),(AV.int .i64 0),(AV.int .i64 0),(AV.int .i64 0),(AV.int .i64 0),(AV.bool false),(AV.int .i64 0)]),(AV.bool false)]))))))))))))))))
theorem get_spec (most:Int) (l:List Entry) (k:Key) (g n:Nat) (hn:n=l.length) (hl:l.length < 1048576):ACalls Try.prog 36 [(.obj 0 0 0 0),(.agg (Key.row k))] ([⟨0,2,[[(.int .i64 most),(.osl 1 g 10 0 n)]],none⟩,⟨g,10,(List.map Entry.row l),none⟩]:Heap) ((AV.tup [(.agg (Entry.row (getE l k))),(.bool (findB l k))]),([⟨0,2,[[(.int .i64 most),(.osl 1 g 10 0 n)]],none⟩,⟨g,10,(List.map Entry.row l),none⟩]:Heap)):=by
 cases hb:findB l k with
 | true =>
  have h2:getE l k=nth l (findP l k):=by simp [getE,hb]
  rw [h2]
  exact getIn_spec most l k g n hn hl hb
 | false =>
  have h2:getE l k=zE:=by simp [getE,hb]
  rw [h2]
  exact getOut_spec most l k g n hn hl hb
theorem get_at (most:Int) (l:List Entry) (k:Key) (g n:Nat) (hn:n=l.length) (hl:l.length < 1048576) (H:Heap):ACalls Try.prog 36 [(.obj 0 0 0 0),(.agg (Key.row k))] ((Vb_1 most g n l)++H) ((AV.tup [(.agg (Entry.row (getE l k))),(.bool (findB l k))]),(Vb_1 most g n l)++H):=(get_spec most l k g n hn hl).ext kr kr ob ob kr H
theorem fold_map {α β:Type} (f:α→β) (l:List α):∀ (out:List β) (k g:Nat),l.foldl (fun (s:List β × Nat × Nat) c=>(s.1++[f c],s.2.1+1,s.2.2+1)) (out,k,g)=(out++l.map f,k+l.length,g+l.length):=by
 induction l with
 | nil=>intro out k g; simp
 | cons c l ih=>intro out k g; rw [List.foldl_cons,ih]; simp; omega
def scards_ann:Ann:={ gha:=[(1,.vir 3 9),(6,.cut 3),(7,.frz 2)],base:=2,fin:=some 2,live:=[(3,[3,9,10,11])],out:=[(3,[3,9,10,11])] }
@[simp] abbrev Vb_7 (v1_:Int) (v2_:Nat) (v3_:Nat) (v4_:List Entry) (v5_:Nat) (v6_:List Card) (v7_:Nat):Heap:=[Vb_o1 v1_ v2_ v3_,⟨v2_,10,(List.map Entry.row v4_),none⟩,⟨(v5_+1),9,(List.map Card.row (v6_++[(nth v4_ v7_).card])),none⟩]
@[simp] abbrev Vb_8 (v1_:Nat) (v2_:Nat) (v3_:Nat) (v4_:Nat) (v5_:Nat):Fr:=(mkF 22 [(3,(AV.osl 2 v1_ 9 0 v2_)),(9,(AV.osl 1 v3_ 10 0 v4_)),(10,(AV.int .i64 ((v4_:Nat):Int))),(11,(AV.int .i64 ((v5_:Nat):Int)))])
@[simp] abbrev Vb_9 (v1_:Int) (v2_:Nat) (v3_:Nat) (v4_:List Entry) (v5_:Nat) (v6_:List Card):Heap:=[Vb_o1 v1_ v2_ v3_,⟨v2_,10,(List.map Entry.row v4_),none⟩,⟨v5_,9,(List.map Card.row v6_),none⟩]
@[simp] abbrev Vb_10 (v1_:Int) (v2_:Nat) (v3_:Nat) (v4_:List Entry) (v5_:Nat) (v6_:List Card):Heap:=[Vb_o1 v1_ v2_ v3_,⟨v2_,10,(List.map Entry.row v4_),none⟩,⟨v5_,9,(List.map Card.row v6_),none⟩,Vb_o2]
theorem scards_step (most:Int) (l:List Entry) (g:Nat) (n:Nat) (out:List Card) (k:Nat) (h:Nat) (i:Nat) (hn:n=l.length) (hl:l.length < 1048576) (hk:k=out.length) (hki:k≤i) (hle_:i≤n) {eX:Ex} {FX:Fr} {HX:Heap} (k1:(decide (((i:Nat):Int) < ((n:Nat):Int)))=true→LoopTo (codeQ Try.prog (X scards_ann) (loopOf Try.f53 0)) (some [3,9,10,11]) (some [3,9,10,11]) (mkF 22 [(3,(.osl 2 (h+1) 9 0 (k+1))),(9,(.osl 1 g 10 0 n)),(10,(.int .i64 ((n:Nat):Int))),(11,(.int .i64 ((i+1:Nat):Int)))]) (Vb_7 most g n l h out i) eX FX HX) (k2:(decide (((i:Nat):Int) < ((n:Nat):Int)))=false→((.exit 0:Ex),(Vb_8 h k g n i),(Vb_9 most g n l h out))=(eX,FX,HX)):LoopTo (codeQ Try.prog (X scards_ann) (loopOf Try.f53 0)) (some [3,9,10,11]) (some [3,9,10,11]) (Vb_8 h k g n i) (Vb_9 most g n l h out) eX FX HX :=
 stepO (.r (.g (.two (decide (((i:Nat):Int) < ((n:Nat):Int))) (fun h1 h1'=>(.r (.h' (Vb_10 most g n l h out) (.io 0 1 g 10 10 0 n ((i:Nat):Int) i (IdxOsl.mk _ ow ow) (.t 1 (AV.agg (Entry.row (nth l i))) (Vb_10 most g n l h out) (load_row (rowAt_map (row:=Entry.row) (l:=l) (k:=10) (room:=none) kr om) kr:LoadTo tt 88 0 (Vb_10 most g n l h out) (rowAt (Vb_10 most g n l h out) 1 g i)=some ((AV.agg (Entry.row (nth l i))),(Vb_10 most g n l h out))) (.g (.r (.h' ([⟨0,2,[[(AV.int .i64 most),(AV.osl 1 g 10 0 n)]],none⟩,⟨g,10,(List.map Entry.row l),none⟩,⟨h,9,(List.map Card.row out),none⟩,⟨0,10,[(Entry.row (nth l i))],none⟩]:Heap) (.ap 4 32 (AV.osl 2 h 9 0 k) (AV.sl .clip 9 [(Card.row (nth l i).card)]) (AV.osl 2 (h+1) 9 0 (k+1)) ([⟨0,2,[[(AV.int .i64 most),(AV.osl 1 g 10 0 n)]],none⟩,⟨g,10,(List.map Entry.row l),none⟩,⟨(h+1),9,(List.map Card.row (out++[(nth l i).card])),none⟩,⟨0,10,[(Entry.row (nth l i))],none⟩]:Heap) (evAppend_one (row:=Card.row) (l:=out) (x:=(nth l i).card) (T:=tt) (e:=39) (te:={ d:=.struct [(30,0),(3,2),(3,3),(2,4),(37,5),(4,8)],size:=9,bytes:=88,zero:=[.str ⟨#[]⟩,.str ⟨#[]⟩,.int .i64 0,.int .i64 0,.int .i64 0,.int .i64 0,.int .i64 0,.int .i64 0,.bool false] }) (z:=1) (b:=24) (y:=[.sl .nil 0 []]) kr kr rfl (by decide) (by decide) kr (by first | assumption | omega | (simp; done) | (simp; omega)) rfl rfl (by first | omega | (show _ * 88≤_; omega) | (simp; omega))) (.g (.r (.y 0 (.int .i64 (IntKind.i64.wrap (((i:Nat):Int)+1))) (AV.int .i64 ((i+1:Nat):Int)) (Yes.add ow ow ow) (.h' (Vb_7 most g n l h out i) (.b 3 (.g (.l (k1 h1))))))))))))))))) (fun h1 h1'=>(.l (k2 h1))))))
def scards_f (most:Int) (l:List Entry) (g:Nat) (n:Nat) (i:Nat) (s:(List Card) × Nat × Nat):(List Card) × Nat × Nat:=(s.1++[(nth l i).card],(s.2.1+1),(s.2.2+1))
theorem scards_loop (most:Int) (l:List Entry) (g:Nat) (n:Nat) (hn:n=l.length) (hl:l.length < 1048576)  (r_:Nat):∀ (out:List Card) (k:Nat) (h:Nat) (i:Nat) (sF:(List Card) × Nat × Nat),i+r_=n→k=out.length→k≤i→sF=iter (scards_f most l g n) r_ i (out,k,h) →
 LoopTo (codeQ Try.prog (X scards_ann) (loopOf Try.f53 0)) (some [3,9,10,11]) (some [3,9,10,11]) (Vb_8 h k g n i) (Vb_9 most g n l h out) (.exit 0) (mkF 22 [(3,(.osl 2 sF.2.2 9 0 sF.2.1)),(9,(.osl 1 g 10 0 n)),(10,(.int .i64 ((n:Nat):Int))),(11,(.int .i64 ((n:Nat):Int)))]) ([⟨0,2,[[(.int .i64 most),(.osl 1 g 10 0 n)]],none⟩,⟨g,10,(List.map Entry.row l),none⟩,⟨sF.2.2,9,(List.map Card.row sF.1),none⟩]:Heap):=by
 induction r_ with
 | zero =>
  intro out k h i sF hi_ hk hki  hF
  obtain rfl:n=i:=by omega
  have e_:sF=(out,k,h):=hF
  refine scards_step most l g n out k h n hn hl hk hki (Nat.le_refl _) (fun h=>by simp at h <;> omega) (fun _=>?_)
  first | done | rfl | (rw [e_]; done) | (rw [e_]; rfl)
 | succ r_ ih =>
  intro out k h i sF hi_ hk hki  hF
  refine scards_step most l g n out k h i hn hl hk hki ow (fun h1=>?_) (fun h=>by simp at h <;> omega)
  · exact ih (out++[(nth l i).card]) (k+1) (h+1) (i+1) sF ow (by first | omega | assumption | (simp; done) | (simp; omega) | (simp [*]; done) | (simp [*]; omega)) (by first | omega | assumption | (simp; done) | (simp; omega) | (simp [*]; done) | (simp [*]; omega))  (by rw [hF] <;> simp only [iter,scards_f,if_true,Bool.false_eq_true,if_false])
theorem scards_iter (most:Int) (l:List Entry) (g:Nat):(l.map (·.card),l.length,l.length)=iter (scards_f most l g l.length) l.length 0 ([],0,0):=by
 rw [iter_all (scards_f most l g l.length) (fun s e=>(s.1++[e.card],s.2.1+1,s.2.2+1)) l (fun i s hi=>rfl),fold_map (fun e:Entry=>e.card)]; simp
@[simp] abbrev Vb_11 (v1_:List Entry) (v2_:Nat) (v3_:Nat):Fr:=(mkF 22 [(3,(AV.osl 2 v1_.length 9 0 v1_.length)),(9,(AV.osl 1 v2_ 10 0 v3_)),(10,(AV.int .i64 ((v3_:Nat):Int))),(11,(AV.int .i64 ((v3_:Nat):Int)))])
@[simp] abbrev Vb_12 (v1_:Int) (v2_:Nat) (v3_:Nat) (v4_:List Entry):Heap:=[Vb_o1 v1_ v2_ v3_,⟨v2_,10,(List.map Entry.row v4_),none⟩,⟨v4_.length,9,(List.map Card.row (v4_.map (·.card))),none⟩]
theorem scards_spec (most:Int) (l:List Entry) (g n:Nat) (hn:n=l.length) (hl:l.length < 1048576):ACalls Try.prog 53 [(.obj 0 0 0 0)] (Vb_1 most g n l) ((AV.sl .any 9 (List.map Card.row (l.map (·.card)))),(Vb_1 most g n l)) :=
 specO (fn:=Try.f53) (ann:=scards_ann) (Has.o Try.func53) (.r (.g (.r (.g (.r (.g (.loop (Vb_11 l g n) (show LoopTo (codeQ Try.prog (X scards_ann) (loopOf Try.f53 0)) (some [3,9,10,11]) (some [3,9,10,11]) (mkF 22 [(3,(.osl 2 0 9 0 0)),(9,(.osl 1 g 10 0 n)),(10,(.int .i64 ((n:Nat):Int))),(11,(.int .i64 0))]) ([⟨0,2,[[(.int .i64 most),(.osl 1 g 10 0 n)]],none⟩,⟨g,10,(List.map Entry.row l),none⟩,⟨0,9,(List.map Card.row []),none⟩]:Heap) (.exit 0) (Vb_11 l g n) (Vb_12 most g n l) from (scards_loop most l g n hn hl n [] 0 0 0 (l.map (·.card),l.length,l.length) ow rfl ow (by subst hn; exact scards_iter most l g))) (.r (.w' 2 (List.map Card.row (l.map (·.card))) (And.intro (rowsIn_all (room:=none) kr om) (Card.rows_bdd _ _):rowsIn (Vb_12 most g n l) 9 (AV.osl 2 l.length 9 0 l.length)=some (List.map Card.row (l.map (·.card)))∧AV.bddss 0 (List.map Card.row (l.map (·.card)))=true) (.g (.h' (Vb_1 most g n l) (.f 2 (AV.sl .any 9 (List.map Card.row (l.map (·.card)))) (.e (AV.sl .any 9 (List.map Card.row (l.map (·.card)))))))))))))))))
theorem scards_at (most:Int) (l:List Entry) (g n:Nat) (hn:n=l.length) (hl:l.length < 1048576) (H:Heap):ACalls Try.prog 53 [(.obj 0 0 0 0)] ((Vb_1 most g n l)++H) ((AV.sl .any 9 (List.map Card.row (l.map (·.card)))),(Vb_1 most g n l)++H):=(scards_spec most l g n hn hl).ext kr kr ob ob kr H
end Go.Proofs.Ytfjedpipdnlkfaa.AM

set_option maxRecDepth 100000
set_option linter.unusedVariables false
set_option linter.unusedSimpArgs false
namespace Go.Proofs.Ytfjedpipdnlkfaa.AM
open Go Go.Proofs.Ytfjedpipdnlkfaa
attribute [local irreducible] ACalls funT codeT codeQ LoopTo
attribute [local irreducible] Tp.card Tp.cardT Tp.next Tp.step Tp.key Tp.keyT sink insSort beforeK
attribute [local irreducible] findP findB putL putE putG getE
def capM (most:Int):Int:=max 0 (min most 32)
def new0_ann:Ann:={ fin:=some 1 }
theorem new0_spec (most:Int) :ACalls Try.prog 10 [(.int .i64 most)] ([]:Heap) ((AV.obj 0 0 0 0),([⟨0,2,[[(.int .i64 (capM most)),(.sl .nil 0 [])]],none⟩]:Heap)) :=
 specO (fn:=Try.f10) (ann:=new0_ann) (Has.o Try.func10) (.r (.g (.r (.y 1 (.int .i64 (if 32 < most then 32 else most)) (AV.int .i64 (min most 32)) (Yes.int (by split <;> omega)) (.y 2 (.int .i64 (if (min most 32) > 0 then (min most 32) else 0)) (AV.int .i64 (max 0 (min most 32))) (Yes.int (by split <;> omega)) (.g (.h' ([⟨0,2,[[(AV.int .i64 (max 0 (min most 32))),(AV.sl .nil 0 [])]],none⟩]:Heap) (.f 1 (AV.obj 0 0 0 0) (.e (AV.obj 0 0 0 0))))))))))
theorem snew_spec (most:Int) :ACalls Try.prog 10 [(.int .i64 most)] ([]:Heap) ((AV.obj 0 0 0 0),([⟨0,2,[[(.int .i64 (capM most)),(.osl 1 0 10 0 0)]],none⟩,⟨0,10,(List.map Entry.row []),none⟩]:Heap)):=(new0_spec most).virField
end Go.Proofs.Ytfjedpipdnlkfaa.AM

set_option maxRecDepth 100000
set_option linter.unusedVariables false
set_option linter.unusedSimpArgs false
namespace Go.Proofs.Ytfjedpipdnlkfaa.AM
open Go Go.Proofs.Ytfjedpipdnlkfaa
attribute [local irreducible] ACalls funT codeT codeQ LoopTo
attribute [local irreducible] hasK lastsK recL
def cloneKN_ann:Ann:={ gha:=[(2,.vir 2 2)],fin:=some 1 }
theorem cloneKN_spec  :ACalls Try.prog 83 [(.sl .nil 0 [])] ([]:Heap) ((AV.osl 0 0 2 0 0),([⟨0,2,(List.map Key.row []),none⟩]:Heap)) :=
 specO (fn:=Try.f83) (ann:=cloneKN_ann) (Has.o Try.func83) (.r (.g (.r (.g (.yes (.r (.g (.h' ([⟨0,2,(List.map Key.row []),none⟩]:Heap) (.f 1 (AV.osl 0 0 2 0 0) (.e (AV.osl 0 0 2 0 0)))))))))))
def cloneKO_ann:Ann:={ own:=[7],fin:=some 1 }
theorem cloneKO_spec (l:List Key) (hl:l.length < 1099511627776):ACalls Try.prog 83 [(.sl .op 2 (List.map Key.row l))] ([]:Heap) ((AV.osl 0 0 2 0 l.length),([⟨0,2,(List.map Key.row l),none⟩]:Heap)) :=
 specO (fn:=Try.f83) (ann:=cloneKO_ann) (Has.o Try.func83) (.r (.g (.r (.g (.no (.r (.ao 2 33 (AV.sl .clip 2 []) (AV.sl .op 2 (List.map Key.row l)) (AV.osl 0 0 2 0 l.length) ([⟨0,2,(List.map Key.row l),none⟩]:Heap) (evAppendO_fresh (T:=tt) (e:=30) (te:={ d:=.struct [(9,0),(9,1)],size:=2,bytes:=32,zero:=[.str ⟨#[]⟩,.str ⟨#[]⟩] }) (z:=1) (b:=24) (y:=[.sl .nil 0 []]) (row:=Key.row) kr kr rfl (by decide) (by decide) (by simp) (by first | (simp [rowsIn,List.map_take,List.map_drop,List.take_of_length_le]; done) | simp [rowsIn,rU8,rI64,rStr,rBool]) rfl rfl rfl om) (.g (.f 1 (AV.osl 0 0 2 0 l.length) (.e (AV.osl 0 0 2 0 l.length)))))))))))
theorem cloneK_spec (l:List Key) (hl:l.length < 1099511627776):ACalls Try.prog 83 [(.sl .any 2 (List.map Key.row l))] ([]:Heap) ((AV.osl 0 0 2 0 l.length),([⟨0,2,(List.map Key.row l),none⟩]:Heap)):=ACalls.orNil (fun h=>by
 have h2:l=[]:=by simpa using h
 subst h2; exact cloneKN_spec) (cloneKO_spec l hl)
theorem cloneKS_spec (l:List Key) (g e n:Nat) (hn:e+n=l.length) (hl:l.length < 1099511627776):ACalls Try.prog 83 [(.osl 0 g 2 e n)] ([⟨g,2,(List.map Key.row l),none⟩]:Heap) ((AV.osl 0 (g+1) 2 0 n),([⟨(g+1),2,(List.map Key.row (l.drop e)),none⟩]:Heap)):=by
 have h:=cloneK_spec (l.drop e) (by rw [List.length_drop]; omega)
 have e1:(l.drop e).length=n:=by rw [List.length_drop]; omega
 rw [e1] at h
 have e2:((l.map Key.row).drop e).take n=(l.drop e).map Key.row:=by rw [List.map_drop]; exact List.take_of_length_le (by rw [List.length_drop,List.length_map]; omega)
 exact ACalls.reclone h (scalss_map (fun x=>rfl) _) (Key.rows_bdd _ _) ⟨.osl (by simp [rowsIn,hn,e2]) (Key.rows_bdd _ _),trivial⟩
def seq_ann:Ann:={ base:=2,fin:=some 2 }
@[simp] abbrev Wa_1 (v1_:List Key) (v2_:Nat):Heap:=[⟨0,2,[[(AV.int .i64 (((List.length v1_):Nat):Int)),(AV.osl 1 v2_ 2 0 (List.length (recL v1_)))]],none⟩,⟨v2_,2,(List.map Key.row (recL v1_)),none⟩]
theorem seq_spec (al:List Key) (g:Nat) :ACalls Try.prog 20 [(.obj 0 0 0 0)] (Wa_1 al g) ((AV.int .i64 ((al.length:Nat):Int)),(Wa_1 al g)) :=
 specO (fn:=Try.f20) (ann:=seq_ann) (Has.o Try.func20) (.r (.g (.r (.g (.f 2 (AV.int .i64 (((List.length al):Nat):Int)) (.e (AV.int .i64 (((List.length al):Nat):Int))))))))
def radd_ann:Ann:={ refs:=[3],own:=[19],base:=2,fin:=some 2 }
@[simp] abbrev Wa_2 (v1_:List Key) (v2_:Key) (v3_:Nat):Heap:=[⟨0,2,[[(AV.int .i64 (((List.length (v1_++[v2_])):Nat):Int)),(AV.osl 1 (v3_+1+1) 2 0 (List.length (recL (v1_++[v2_]))))]],none⟩,⟨(v3_+1+1),2,(List.map Key.row (recL (v1_++[v2_]))),none⟩]
@[simp] abbrev Wa_o1 (v1_:List Key) (v2_:Nat):Ob:=⟨0,2,[[(AV.int .i64 (((List.length v1_)+1:Nat):Int)),(AV.osl 1 (v2_+1) 2 0 ((List.length (recL v1_))+1))]],none⟩
@[simp] abbrev Wa_3 (v1_:List Key) (v2_:Nat) (v3_:Key):Heap:=[Wa_o1 v1_ v2_,⟨(v2_+1),2,(List.map Key.row ((recL v1_)++[v3_])),none⟩]
@[simp] abbrev Wa_4 (v1_:List Key) (v2_:Nat) (v3_:Key):Heap:=[Wa_o1 v1_ v2_,⟨((v2_+1)+1),2,(List.map Key.row (((recL v1_)++[v3_]).drop (((List.length (recL v1_))+1) - 16))),none⟩]
theorem radd_spec (al : List Key) (k : Key) (g : Nat) (ha : al.length < 1000000) : ACalls Try.prog 70 [(.obj 0 0 0 0), (.agg (Key.row k))] (Wa_1 al g) ((AV.int .i64 (((al ++ [k]).length : Nat) : Int)), (Wa_2 al k g)) := by
  have hr := recL_len al
  have h1 := recL_add al k
  have h2 : (recL al).length + 1 - ((recL al).length + 1 - 16) = (recL (al ++ [k])).length := by rw [← h1]; simp
  exact specO (fn := Try.f70) (ann := radd_ann) (Has.o Try.func70) (.r (.g (.r (.y 4 (.int .i64 (IntKind.i64.wrap ((((List.length al) : Nat) : Int) + 1))) (AV.int .i64 (((List.length al) + 1 : Nat) : Int)) (Yes.add ow ow ow) (.g (.r (.h' ([⟨0, 2, [[(AV.int .i64 (((List.length al) + 1 : Nat) : Int)), (AV.osl 1 g 2 0 (List.length (recL al)))]], none⟩, ⟨g, 2, (List.map Key.row (recL al)), none⟩] : Heap) (.ao 7 33 (AV.osl 1 g 2 0 (List.length (recL al))) (AV.sl .clip 2 [(Key.row k)]) (AV.osl 1 (g + 1) 2 0 ((List.length (recL al)) + 1)) ([⟨0, 2, [[(AV.int .i64 (((List.length al) + 1 : Nat) : Int)), (AV.osl 1 g 2 0 (List.length (recL al)))]], none⟩, ⟨(g + 1), 2, (List.map Key.row ((recL al) ++ [k])), none⟩] : Heap) (evAppendO_end (T := tt) (e := 30) (te := { d := .struct [(9, 0), (9, 1)], size := 2, bytes := 32, zero := [.str ⟨#[]⟩, .str ⟨#[]⟩] }) (z := 1) (b := 24) (y := [.sl .nil 0 []]) (row := Key.row) (l := (recL al)) kr kr rfl (by decide) (by decide) kr (by first | (simp [rowsIn, List.map_take, List.map_drop, List.take_of_length_le]; done) | simp [rowsIn, rU8, rI64, rStr, rBool]) om rfl rfl (by first | omega | (show _ * 32 ≤ _; omega) | (simp; done) | (simp; omega))) (.g (.r (.h' (Wa_3 al g k) (.y 10 (.int .i64 (IntKind.i64.wrap (((((List.length (recL al)) + 1) : Nat) : Int) - 16))) (AV.int .i64 (((((List.length (recL al)) + 1) : Nat) : Int) - 16)) (Yes.add ow ow rfl) (.y 11 (.int .i64 (if ((((List.length (recL al)) + 1) : Nat) : Int) - 16 > 0 then ((((List.length (recL al)) + 1) : Nat) : Int) - 16 else 0)) (AV.int .i64 (((((List.length (recL al)) + 1) - 16) : Nat) : Int)) (Yes.int (by split <;> omega)) (.so 12 1 (g + 1) 2 0 ((List.length (recL al)) + 1) (((((List.length (recL al)) + 1) - 16) : Nat) : Int) ((((List.length (recL al)) + 1) : Nat) : Int) (AV.osl 1 (g + 1) 2 (((List.length (recL al)) + 1) - 16) (((List.length (recL al)) + 1) - (((List.length (recL al)) + 1) - 16))) (slice_osl (l := (((List.length (recL al)) + 1) - 16)) (h := ((List.length (recL al)) + 1)) om om om om om om) (.ch 13 (Wa_4 al g k) (ACalls.pre (args := [(AV.osl 1 (g + 1) 2 (((List.length (recL al)) + 1) - 16) (((List.length (recL al)) + 1) - (((List.length (recL al)) + 1) - 16)))]) (args' := [(AV.osl 1 (g + 1) 2 (((List.length (recL al)) + 1) - 16) (((List.length (recL al)) + 1) - (((List.length (recL al)) + 1) - 16)))]) (ACalls.put2 [1] (Wa_3 al g k) (AV.osl 1 ((g + 1) + 1) 2 0 (((List.length (recL al)) + 1) - (((List.length (recL al)) + 1) - 16))) (Wa_4 al g k) (cloneKS_spec ((recL al) ++ [k]) (g + 1) (((List.length (recL al)) + 1) - 16) (((List.length (recL al)) + 1) - (((List.length (recL al)) + 1) - 16)) oa oa) (⟨Ob.ren0 (Key.rows_bdd 0 _), trivial⟩) (⟨Ob.ren0 (Key.rows_bdd 0 _), trivial⟩)) ⟨AV.wk_refl_any _, trivial⟩) (.g (.r (.g (.h' ([⟨0, 2, [[(AV.int .i64 (((List.length al) + 1 : Nat) : Int)), (AV.osl 1 ((g + 1) + 1) 2 0 (((List.length (recL al)) + 1) - (((List.length (recL al)) + 1) - 16)))]], none⟩, ⟨((g + 1) + 1), 2, (List.map Key.row (((recL al) ++ [k]).drop (((List.length (recL al)) + 1) - 16))), none⟩] : Heap) (.f 2 (AV.int .i64 (((List.length al) + 1 : Nat) : Int)) (.e (AV.int .i64 (((List.length al) + 1 : Nat) : Int)) (by
        try delta Wa_1 Wa_2 Wa_3 Wa_4 Wa_o1
        rw [h2, h1, List.length_append]; rfl))))))))))))))))))))))
end Go.Proofs.Ytfjedpipdnlkfaa.AM

set_option maxRecDepth 100000
set_option linter.unusedVariables false
set_option linter.unusedSimpArgs false
namespace Go.Proofs.Ytfjedpipdnlkfaa.AM
open Go Go.Proofs.Ytfjedpipdnlkfaa
attribute [local irreducible] ACalls funT codeT codeQ LoopTo
attribute [local irreducible] hasK lastsK recL
theorem hasKeyO_spec (l:List Key) (v:Key) (g q n:Nat) (hn:q+n=l.length) (hl:l.length < 1099511627776):ACalls Try.prog 65 [(.osl 0 g 2 q n),(.agg (Key.row v))] ([⟨g,2,(List.map Key.row l),none⟩]:Heap) ((AV.bool (hasK (l.drop q) v)),([⟨g,2,(List.map Key.row l),none⟩]:Heap)):=by
 have h:=hasKey_spec (l.drop q) v (by rw [List.length_drop]; omega)
 have e2:((l.map Key.row).drop q).take n=(l.drop q).map Key.row:=by rw [List.map_drop]; exact List.take_of_length_le (by rw [List.length_drop,List.length_map]; omega)
 exact h.borrow rfl ⟨.osl (by simp [rowsIn,hn,e2]) (Key.rows_bdd _ _),.same (by simp [AV.bdd]),trivial⟩
def since_ann:Ann:={ gh:=[(11,.frz 7)],gha:=[(2,.any 4 2),(4,.vir 7 2),(10,.cut 3)],base:=2,fin:=some 2,live:=[(6,[6,7,46,47,48])],out:=[(6,[6,7,46,47,48])] }
@[simp] abbrev Wb_o1 (v1_:List Key) (v2_:Nat):Ob:=⟨0,2,[[(AV.int .i64 (((List.length v1_):Nat):Int)),(AV.osl 1 v2_ 2 0 (List.length (recL v1_)))]],none⟩
@[simp] abbrev Wb_1 (v1_:List Key) (v2_:Nat) (v3_:Nat) (v4_:List Key) (v5_:Nat) (v6_:Nat):Heap:=[Wb_o1 v1_ v2_,⟨v2_,2,(List.map Key.row (recL v1_)),none⟩,⟨(v3_+1),2,(List.map Key.row (v4_++[(nth (recL v1_) (v5_+v6_))])),none⟩]
@[simp] abbrev Wb_2 (v1_:List Key) (v2_:Nat) (v3_:Nat) (v4_:List Key):Heap:=[Wb_o1 v1_ v2_,⟨v2_,2,(List.map Key.row (recL v1_)),none⟩,⟨v3_,2,(List.map Key.row v4_),none⟩]
@[simp] abbrev Wb_3 (v1_:Nat) (v2_:Nat) (v3_:Nat) (v4_:Nat) (v5_:Nat) (v6_:Nat):Fr:=(mkF 66 [(6,(AV.osl 1 v1_ 2 v2_ v3_)),(7,(AV.osl 2 v4_ 2 0 v5_)),(46,(AV.osl 1 v1_ 2 v2_ v3_)),(47,(AV.int .i64 ((v3_:Nat):Int))),(48,(AV.int .i64 ((v6_:Nat):Int)))])
@[simp] abbrev Wb_4 (v1_:List Key) (v2_:Nat) (v3_:Nat) (v4_:List Key):Heap:=[Wb_o1 v1_ v2_,⟨v2_,2,(List.map Key.row (recL v1_)),none⟩,⟨v3_,2,(List.map Key.row v4_),none⟩,⟨0,2,[[(AV.str ⟨#[]⟩),(AV.str ⟨#[]⟩)]],none⟩]
@[simp] abbrev Wb_5 (v1_:List Key) (v2_:Nat) (v3_:Nat) (v4_:List Key) (v5_:Nat) (v6_:Nat):Heap:=[Wb_o1 v1_ v2_,⟨v2_,2,(List.map Key.row (recL v1_)),none⟩,⟨v3_,2,(List.map Key.row v4_),none⟩,⟨0,2,[(Key.row (nth (recL v1_) (v5_+v6_)))],none⟩]
theorem since_step (al:List Key) (gq:Nat) (q:Nat) (n:Nat) (out:List Key) (k:Nat) (g:Nat) (i:Nat) (hn:q+n=(recL al).length) (hl:(recL al).length < 1048576) (hk:k=out.length) (hki:k≤i) (hle_:i≤n) {eX:Ex} {FX:Fr} {HX:Heap} (k1:(decide (((i:Nat):Int) < ((n:Nat):Int)))=true→(!(hasK ((recL al).drop (q+(i+1))) (nth (recL al) (q+i))))=true→LoopTo (codeQ Try.prog (X since_ann) (loopOf Try.f54 0)) (some [6,7,46,47,48]) (some [6,7,46,47,48]) (mkF 66 [(6,(.osl 1 gq 2 q n)),(7,(.osl 2 (g+1) 2 0 (k+1))),(46,(.osl 1 gq 2 q n)),(47,(.int .i64 ((n:Nat):Int))),(48,(.int .i64 ((i+1:Nat):Int)))]) (Wb_1 al gq g out q i) eX FX HX) (k2:(decide (((i:Nat):Int) < ((n:Nat):Int)))=true→(!(hasK ((recL al).drop (q+(i+1))) (nth (recL al) (q+i))))=false→LoopTo (codeQ Try.prog (X since_ann) (loopOf Try.f54 0)) (some [6,7,46,47,48]) (some [6,7,46,47,48]) (mkF 66 [(6,(.osl 1 gq 2 q n)),(7,(.osl 2 g 2 0 k)),(46,(.osl 1 gq 2 q n)),(47,(.int .i64 ((n:Nat):Int))),(48,(.int .i64 ((i+1:Nat):Int)))]) (Wb_2 al gq g out) eX FX HX) (k3:(decide (((i:Nat):Int) < ((n:Nat):Int)))=false→((.exit 0:Ex),(Wb_3 gq q n g k i),(Wb_2 al gq g out))=(eX,FX,HX)):LoopTo (codeQ Try.prog (X since_ann) (loopOf Try.f54 0)) (some [6,7,46,47,48]) (some [6,7,46,47,48]) (Wb_3 gq q n g k i) (Wb_2 al gq g out) eX FX HX :=
 stepO (.r (.g (.two (decide (((i:Nat):Int) < ((n:Nat):Int))) (fun h1 h1'=>(.r (.h' (Wb_4 al gq g out) (.io 1 1 gq 2 2 q n ((i:Nat):Int) (q+i) (IdxOsl.mko i _ ow ow ow) (.t 2 (AV.agg (Key.row (nth (recL al) (q+i)))) (Wb_4 al gq g out) (load_row (rowAt_map (row:=Key.row) (l:=(recL al)) (k:=2) (room:=none) kr om) kr:LoadTo tt 30 0 (Wb_4 al gq g out) (rowAt (Wb_4 al gq g out) 1 gq (q+i))=some ((AV.agg (Key.row (nth (recL al) (q+i)))),(Wb_4 al gq g out))) (.g (.r (.h' (Wb_5 al gq g out q i) (.y 2 (.int .i64 (IntKind.i64.wrap (((i:Nat):Int)+1))) (AV.int .i64 ((i+1:Nat):Int)) (Yes.add ow ow ow) (.so 3 1 gq 2 q n ((i+1:Nat):Int) ((n:Nat):Int) (AV.osl 1 gq 2 (q+(i+1)) (n - (i+1))) (slice_osl (l:=i+1) (h:=n) om om om om om om) (.c 5 (ACalls.pre (args:=[(AV.osl 1 gq 2 (q+(i+1)) (n - (i+1))),(AV.agg (Key.row (nth (recL al) (q+i))))]) (args':=[(AV.osl 1 gq 2 (q+(i+1)) (n - (i+1))),(AV.agg (Key.row (nth (recL al) (q+i))))]) (ACalls.put2 [1] (Wb_5 al gq g out q i) (AV.bool (hasK ((recL al).drop (q+(i+1))) (nth (recL al) (q+i)))) (Wb_5 al gq g out q i) (hasKeyO_spec (recL al) (nth (recL al) (q+i)) gq (q+(i+1)) (n - (i+1)) oa oa) (⟨Ob.ren0 (Key.rows_bdd 0 _),trivial⟩) (⟨Ob.ren0 (Key.rows_bdd 0 _),trivial⟩)) ⟨AV.wk_refl_any _,AV.wk_refl_any _,trivial⟩) (.g (.two (!(hasK ((recL al).drop (q+(i+1))) (nth (recL al) (q+i)))) (fun h2 h2'=>(.r (.ap 3 33 (AV.osl 2 g 2 0 k) (AV.sl .clip 2 [(Key.row (nth (recL al) (q+i)))]) (AV.osl 2 (g+1) 2 0 (k+1)) ([⟨0,2,[[(AV.int .i64 (((List.length al):Nat):Int)),(AV.osl 1 gq 2 0 (List.length (recL al)))]],none⟩,⟨gq,2,(List.map Key.row (recL al)),none⟩,⟨(g+1),2,(List.map Key.row (out++[(nth (recL al) (q+i))])),none⟩,⟨0,2,[(Key.row (nth (recL al) (q+i)))],none⟩]:Heap) (evAppend_one (row:=Key.row) (l:=out) (x:=(nth (recL al) (q+i))) (T:=tt) (e:=30) (te:={ d:=.struct [(9,0),(9,1)],size:=2,bytes:=32,zero:=[.str ⟨#[]⟩,.str ⟨#[]⟩] }) (z:=1) (b:=24) (y:=[.sl .nil 0 []]) kr kr rfl (by decide) (by decide) kr (by first | assumption | omega | (simp; done) | (simp; omega)) rfl rfl (by first | omega | (show _ * 32≤_; omega) | (simp; omega))) (.g (.r (.y 0 (.int .i64 (IntKind.i64.wrap (((i:Nat):Int)+1))) (AV.int .i64 ((i+1:Nat):Int)) (Yes.add ow ow ow) (.h' (Wb_1 al gq g out q i) (.b 3 (.g (.l (k1 h1 h2))))))))))) (fun h2 h2'=>(.r (.y 0 (.int .i64 (IntKind.i64.wrap (((i:Nat):Int)+1))) (AV.int .i64 ((i+1:Nat):Int)) (Yes.add ow ow ow) (.h' (Wb_2 al gq g out) (.b 3 (.g (.l (k2 h1 h2))))))))))))))))))))) (fun h1 h1'=>(.l (k3 h1))))))
def since_f (al:List Key) (gq:Nat) (q:Nat) (n:Nat) (i:Nat) (s:(List Key) × Nat × Nat):(List Key) × Nat × Nat:=(if (!(hasK ((recL al).drop (q+(i+1))) (nth (recL al) (q+i))))=true then (s.1++[(nth (recL al) (q+i))],(s.2.1+1),(s.2.2+1)) else (s.1,s.2.1,s.2.2))
theorem since_loop (al:List Key) (gq:Nat) (q:Nat) (n:Nat) (hn:q+n=(recL al).length) (hl:(recL al).length < 1048576)  (r_:Nat):∀ (out:List Key) (k:Nat) (g:Nat) (i:Nat) (sF:(List Key) × Nat × Nat),i+r_=n→k=out.length→k≤i→sF=iter (since_f al gq q n) r_ i (out,k,g) →
 LoopTo (codeQ Try.prog (X since_ann) (loopOf Try.f54 0)) (some [6,7,46,47,48]) (some [6,7,46,47,48]) (Wb_3 gq q n g k i) (Wb_2 al gq g out) (.exit 0) (mkF 66 [(6,(.osl 1 gq 2 q n)),(7,(.osl 2 sF.2.2 2 0 sF.2.1)),(46,(.osl 1 gq 2 q n)),(47,(.int .i64 ((n:Nat):Int))),(48,(.int .i64 ((n:Nat):Int)))]) ([⟨0,2,[[(.int .i64 (((List.length al):Nat):Int)),(.osl 1 gq 2 0 (List.length (recL al)))]],none⟩,⟨gq,2,(List.map Key.row (recL al)),none⟩,⟨sF.2.2,2,(List.map Key.row sF.1),none⟩]:Heap):=by
 induction r_ with
 | zero =>
  intro out k g i sF hi_ hk hki  hF
  obtain rfl:n=i:=by omega
  have e_:sF=(out,k,g):=hF
  refine since_step al gq q n out k g n hn hl hk hki (Nat.le_refl _) (fun h _=>by simp at h <;> omega) (fun h _=>by simp at h <;> omega) (fun _=>?_)
  first | done | rfl | (rw [e_]; done) | (rw [e_]; rfl)
 | succ r_ ih =>
  intro out k g i sF hi_ hk hki  hF
  refine since_step al gq q n out k g i hn hl hk hki ow (fun h1 h2=>?_) (fun h1 h2=>?_) (fun h=>by simp at h <;> omega)
  · exact ih (out++[(nth (recL al) (q+i))]) (k+1) (g+1) (i+1) sF ow (by first | omega | assumption | (simp; done) | (simp; omega) | (simp [*]; done) | (simp [*]; omega)) (by first | omega | assumption | (simp; done) | (simp; omega) | (simp [*]; done) | (simp [*]; omega))  (by rw [hF] <;> simp only [iter,since_f,h2,if_true,Bool.false_eq_true,if_false])
  · exact ih out k g (i+1) sF ow (by first | omega | assumption | (simp; done) | (simp; omega) | (simp [*]; done) | (simp [*]; omega)) (by first | omega | assumption | (simp; done) | (simp; omega) | (simp [*]; done) | (simp [*]; omega))  (by rw [hF] <;> simp only [iter,since_f,h2,if_true,Bool.false_eq_true,if_false])
theorem since_iter0 (al:List Key) (gq q n:Nat) (hn:q+n=(recL al).length) (r:Nat):∀ (i:Nat) (out:List Key) (k g:Nat),i+r=n →
 iter (since_f al gq q n) r i (out,k,g)=(out++lastsK ((recL al).drop (q+i)),k+(lastsK ((recL al).drop (q+i))).length,g+(lastsK ((recL al).drop (q+i))).length):=by
 induction r with
 | zero =>
  intro i out k g hi
  have:(recL al).drop (q+i)=[]:=List.drop_of_length_le ow
  rw [this]; simp [iter,lastsK]
 | succ r ih =>
  intro i out k g hi
  rw [drop_nth (show q+i < (recL al).length by omega)]
  simp only [iter,lastsK,since_f]
  have e1:q+i+1=q+(i+1):=by omega
  rw [e1]
  by_cases h:(!(hasK ((recL al).drop (q+(i+1))) (nth (recL al) (q+i))))=true
  · rw [if_pos h,if_pos h,ih (i+1) _ _ _ ow]; simp; omega
  · rw [if_neg h,if_neg h,ih (i+1) _ _ _ ow]
theorem since_iter (al:List Key) (gq q n:Nat) (hn:q+n=(recL al).length):(lastsK ((recL al).drop q),(lastsK ((recL al).drop q)).length,(lastsK ((recL al).drop q)).length)=iter (since_f al gq q n) n 0 ([],0,0):=by
 rw [since_iter0 al gq q n hn n 0 [] 0 0 ow]; simp
@[simp] abbrev Wb_6 (v1_:List Key) (v2_:Nat):Heap:=[Wb_o1 v1_ v2_,⟨v2_,2,(List.map Key.row (recL v1_)),none⟩]
@[simp] abbrev Wb_7 (v1_:Nat) (v2_:List Key) (v3_:Nat):Fr:=(mkF 66 [(6,(AV.osl 1 v1_ 2 ((List.length (recL v2_)) - ((List.length v2_) - v3_)) ((List.length (recL v2_)) - ((List.length (recL v2_)) - ((List.length v2_) - v3_))))),(7,(AV.osl 2 (lastsK ((recL v2_).drop ((List.length (recL v2_)) - ((List.length v2_) - v3_)))).length 2 0 (lastsK ((recL v2_).drop ((List.length (recL v2_)) - ((List.length v2_) - v3_)))).length)),(46,(AV.osl 1 v1_ 2 ((List.length (recL v2_)) - ((List.length v2_) - v3_)) ((List.length (recL v2_)) - ((List.length (recL v2_)) - ((List.length v2_) - v3_))))),(47,(AV.int .i64 ((((List.length (recL v2_)) - ((List.length (recL v2_)) - ((List.length v2_) - v3_))):Nat):Int))),(48,(AV.int .i64 ((((List.length (recL v2_)) - ((List.length (recL v2_)) - ((List.length v2_) - v3_))):Nat):Int)))])
@[simp] abbrev Wb_8 (v1_:List Key) (v2_:Nat) (v3_:Nat):Heap:=[Wb_o1 v1_ v2_,⟨v2_,2,(List.map Key.row (recL v1_)),none⟩,⟨(lastsK ((recL v1_).drop ((List.length (recL v1_)) - ((List.length v1_) - v3_)))).length,2,(List.map Key.row (lastsK ((recL v1_).drop ((List.length (recL v1_)) - ((List.length v1_) - v3_))))),none⟩]
theorem sinceS_spec (al : List Key) (g : Nat) (n : Nat) (ha : al.length < 1000000) (h1 : n ≤ al.length) (h2 : al.length - n ≤ 16) : ACalls Try.prog 54 [(.obj 0 0 0 0), (.int .i64 ((n : Nat) : Int))] (Wb_6 al g) ((AV.tup [(.sl .any 2 (List.map Key.row (lastsK (al.drop n)))), (.bool true)]), (Wb_6 al g)) := by
  have hr := recL_len al
  have h3 := recL_since h1 h2
  have h4 := lastsK_len (al.drop n)
  have h5 : (al.drop n).length = al.length - n := List.length_drop
  exact specO (fn := Try.f54) (ann := since_ann) (Has.o Try.func54) (.r (.g (.r (.y 1 (AV.bool (decide (((n : Nat) : Int) < 0))) (AV.bool false) (Yes.bool (by simp)) (.no (.no (.no (.no (.no (.no (.y 8 (AV.bool (decide (((n : Nat) : Int) > (((List.length al) : Nat) : Int)))) (AV.bool false) (Yes.bool (by simp; omega)) (.no (.no (.no (.no (.no (.no (.y 16 (.int .i64 (IntKind.i64.wrap ((((List.length al) : Nat) : Int) - ((n : Nat) : Int)))) (AV.int .i64 (((List.length al) - n : Nat) : Int)) (Yes.add ow ow ow) (.no (.y 17 (AV.bool (decide ((((List.length al) - n : Nat) : Int) > 16))) (AV.bool false) (Yes.bool (by simp; omega)) (.g (.no (.r (.y 14 (.int .i64 (IntKind.i64.wrap ((((List.length al) : Nat) : Int) - ((n : Nat) : Int)))) (AV.int .i64 (((List.length al) - n : Nat) : Int)) (Yes.add ow ow ow) (.y 15 (.int .i64 (IntKind.i64.wrap ((((List.length (recL al)) : Nat) : Int) - (((List.length al) - n : Nat) : Int)))) (AV.int .i64 (((List.length (recL al)) - ((List.length al) - n) : Nat) : Int)) (Yes.add ow ow ow) (.so 16 1 g 2 0 (List.length (recL al)) (((List.length (recL al)) - ((List.length al) - n) : Nat) : Int) (((List.length (recL al)) : Nat) : Int) (AV.osl 1 g 2 ((List.length (recL al)) - ((List.length al) - n)) ((List.length (recL al)) - ((List.length (recL al)) - ((List.length al) - n)))) (slice_osl (l := (List.length (recL al)) - ((List.length al) - n)) (h := (List.length (recL al))) om om om om om om) (.g (.r (.g (.r (.g (.loop (Wb_7 g al n) (show LoopTo (codeQ Try.prog (X since_ann) (loopOf Try.f54 0)) (some [6, 7, 46, 47, 48]) (some [6, 7, 46, 47, 48]) (mkF 66 [(6, (.osl 1 g 2 ((List.length (recL al)) - ((List.length al) - n)) ((List.length (recL al)) - ((List.length (recL al)) - ((List.length al) - n))))), (7, (.osl 2 0 2 0 0)), (46, (.osl 1 g 2 ((List.length (recL al)) - ((List.length al) - n)) ((List.length (recL al)) - ((List.length (recL al)) - ((List.length al) - n))))), (47, (.int .i64 (((List.length (recL al)) - ((List.length (recL al)) - ((List.length al) - n)) : Nat) : Int))), (48, (.int .i64 0))]) ([⟨0, 2, [[(.int .i64 (((List.length al) : Nat) : Int)), (.osl 1 g 2 0 (List.length (recL al)))]], none⟩, ⟨g, 2, (List.map Key.row (recL al)), none⟩, ⟨0, 2, (List.map Key.row []), none⟩] : Heap) (.exit 0) (Wb_7 g al n) (Wb_8 al g n) from (since_loop al g ((List.length (recL al)) - ((List.length al) - n)) ((List.length (recL al)) - ((List.length (recL al)) - ((List.length al) - n))) ow ow ((List.length (recL al)) - ((List.length (recL al)) - ((List.length al) - n))) [] 0 0 0 (lastsK (List.drop ((List.length (recL al)) - ((List.length al) - n)) (recL al)), (lastsK (List.drop ((List.length (recL al)) - ((List.length al) - n)) (recL al))).length, (lastsK (List.drop ((List.length (recL al)) - ((List.length al) - n)) (recL al))).length) ow rfl ow (since_iter _ _ _ _ ow))) (.r (.w 7 (List.map Key.row (lastsK ((recL al).drop ((List.length (recL al)) - ((List.length al) - n))))) (And.intro (rowsIn_all (room := none) kr (by first | omega | (simp [h3]; done) | (simp [h3]; omega))) (Key.rows_bdd _ _) : rowsIn (Wb_8 al g n) 2 (AV.osl 2 (lastsK ((recL al).drop ((List.length (recL al)) - ((List.length al) - n)))).length 2 0 (lastsK ((recL al).drop ((List.length (recL al)) - ((List.length al) - n)))).length) = some (List.map Key.row (lastsK ((recL al).drop ((List.length (recL al)) - ((List.length al) - n))))) ∧ AV.bddss 0 (List.map Key.row (lastsK ((recL al).drop ((List.length (recL al)) - ((List.length al) - n))))) = true) (.g (.h' (Wb_6 al g) (.f 2 (AV.tup [(.sl .any 2 (List.map Key.row (lastsK ((recL al).drop ((List.length (recL al)) - ((List.length al) - n)))))), (.bool true)]) (.e (AV.tup [(.sl .any 2 (List.map Key.row (lastsK ((recL al).drop ((List.length (recL al)) - ((List.length al) - n)))))), (.bool true)]) (by
        try delta Wb_6 Wb_8 Wb_o1
        rw [h3])))))))))))))))))))))))))))))))))))))))
theorem sinceN1_spec (al:List Key) (g:Nat) (n:Int) (ha:al.length < 1000000) (h:n < 0):ACalls Try.prog 54 [(.obj 0 0 0 0),(.int .i64 n)] (Wb_6 al g) ((AV.tup [(.sl .any 2 (List.map Key.row [])),(.bool false)]),(Wb_6 al g)) :=
 specO (fn:=Try.f54) (ann:=since_ann) (Has.o Try.func54) (.r (.g (.r (.y 1 (AV.bool (decide (n < 0))) (AV.bool true) (Yes.bool (by simp; omega)) (.yes (.yes (.yes (.yes (.yes (.yes (.yes (.yes (.yes (.yes (.yes (.yes (.yes (.g (.yes (.r (.g (.f 2 (AV.tup [(AV.sl .any 2 []),(AV.bool false)]) (.e (AV.tup [(AV.sl .any 2 []),(AV.bool false)]))))))))))))))))))))))))
theorem sinceN2_spec (al:List Key) (g:Nat) (n:Int) (ha:al.length < 1000000) (h:0≤n) (h1:(al.length:Int) < n):ACalls Try.prog 54 [(.obj 0 0 0 0),(.int .i64 n)] (Wb_6 al g) ((AV.tup [(.sl .any 2 (List.map Key.row [])),(.bool false)]),(Wb_6 al g)) :=
 specO (fn:=Try.f54) (ann:=since_ann) (Has.o Try.func54) (.r (.g (.r (.y 1 (AV.bool (decide (n < 0))) (AV.bool false) (Yes.bool (by simp; omega)) (.no (.no (.no (.no (.no (.no (.y 8 (AV.bool (decide (n > (((List.length al):Nat):Int)))) (AV.bool true) (Yes.bool (by simp; omega)) (.yes (.yes (.yes (.yes (.yes (.yes (.yes (.g (.yes (.r (.g (.f 2 (AV.tup [(AV.sl .any 2 []),(AV.bool false)]) (.e (AV.tup [(AV.sl .any 2 []),(AV.bool false)])))))))))))))))))))))))))
theorem sinceN3_spec (al:List Key) (g:Nat) (n:Nat) (ha:al.length < 1000000) (h1:n≤al.length) (h2:16 < al.length - n):ACalls Try.prog 54 [(.obj 0 0 0 0),(.int .i64 ((n:Nat):Int))] (Wb_6 al g) ((AV.tup [(.sl .any 2 (List.map Key.row [])),(.bool false)]),(Wb_6 al g)) :=
 specO (fn:=Try.f54) (ann:=since_ann) (Has.o Try.func54) (.r (.g (.r (.y 1 (AV.bool (decide (((n:Nat):Int) < 0))) (AV.bool false) (Yes.bool (by simp)) (.no (.no (.no (.no (.no (.no (.y 8 (AV.bool (decide (((n:Nat):Int) > (((List.length al):Nat):Int)))) (AV.bool false) (Yes.bool (by simp; omega)) (.no (.no (.no (.no (.no (.no (.y 16 (.int .i64 (IntKind.i64.wrap ((((List.length al):Nat):Int) - ((n:Nat):Int)))) (AV.int .i64 (((List.length al) - n:Nat):Int)) (Yes.add ow ow ow) (.no (.y 17 (AV.bool (decide ((((List.length al) - n:Nat):Int) > 16))) (AV.bool true) (Yes.bool (by simp; omega)) (.g (.yes (.r (.g (.f 2 (AV.tup [(AV.sl .any 2 []),(AV.bool false)]) (.e (AV.tup [(AV.sl .any 2 []),(AV.bool false)])))))))))))))))))))))))))))
theorem since_spec (al:List Key) (g:Nat) (n:Int) (ha:al.length < 1000000):ACalls Try.prog 54 [(.obj 0 0 0 0),(.int .i64 n)] ([⟨0,2,[[(.int .i64 (((List.length al):Nat):Int)),(.osl 1 g 2 0 (List.length (recL al)))]],none⟩,⟨g,2,(List.map Key.row (recL al)),none⟩]:Heap) ((AV.tup [(.sl .any 2 (List.map Key.row (sinceK al n))),(.bool (okS al n))]),([⟨0,2,[[(.int .i64 (((List.length al):Nat):Int)),(.osl 1 g 2 0 (List.length (recL al)))]],none⟩,⟨g,2,(List.map Key.row (recL al)),none⟩]:Heap)):=by
 by_cases h:n < 0∨(al.length:Int) < n∨16 < (al.length:Int) - n
 · rw [sinceK_false h,okS_false h]
   by_cases h0:n < 0
   · exact sinceN1_spec al g n ha h0
   · by_cases h1:(al.length:Int) < n
     · exact sinceN2_spec al g n ha ow h1
     · obtain ⟨m,rfl⟩:=Int.eq_ofNat_of_zero_le (show 0≤n by omega)
       exact sinceN3_spec al g m ha ow ow
 · obtain ⟨m,rfl⟩:=Int.eq_ofNat_of_zero_le (show 0≤n by omega)
   rw [sinceK_nat ow ow,okS_nat ow ow]
   exact sinceS_spec al g m ha ow ow
end Go.Proofs.Ytfjedpipdnlkfaa.AM

set_option maxRecDepth 100000
set_option linter.unusedVariables false
set_option linter.unusedSimpArgs false
namespace Go.Proofs.Ytfjedpipdnlkfaa.AM
open Go Go.Proofs.Ytfjedpipdnlkfaa
attribute [local irreducible] ACalls funT codeT codeQ LoopTo
attribute [local irreducible] Tp.card Tp.cardT Tp.next Tp.step Tp.key Tp.keyT sink insSort beforeK sortP cmpK byteB cutS textB byteAt intB showsC hereL seenK cardB sealB sumStep sumB ofB strL
end Go.Proofs.Ytfjedpipdnlkfaa.AM

set_option maxRecDepth 100000
set_option linter.unusedVariables false
set_option linter.unusedSimpArgs false
namespace Go.Proofs.Ytfjedpipdnlkfaa.AM
open Go Go.Proofs.Ytfjedpipdnlkfaa
attribute [local irreducible] ACalls funT codeT codeQ LoopTo
abbrev zRow:List AV:=[(AV.int .i64 0),(AV.int .i64 0),(AV.int .i64 0),(AV.int .i64 0),(AV.int .i64 0),(AV.int .i64 0),(AV.int .i64 0),(AV.str ⟨#[]⟩),(AV.str ⟨#[]⟩),(AV.bool false),(AV.int .u32 0),(AV.sl .nil 0 []),(AV.sl .nil 0 [])]
abbrev mRow (x b u c:AV):List AV:=[(AV.int .i64 2),(AV.int .i64 5),(AV.int .i64 0),(AV.int .i64 0),(AV.int .i64 0),(AV.int .i64 0),x,(AV.str ⟨#[]⟩),(AV.str ⟨#[]⟩),b,u,c,(AV.sl .nil 0 [])]
@[simp] theorem zRow_bdds (n:Nat):AV.bdds n zRow=true:=by simp [AV.bdds,AV.bdd]
@[simp] theorem mRow_bdds (n:Nat) (x b u c:AV):AV.bdds n (mRow x b u c)=(AV.bdd n x&&(AV.bdd n b&&(AV.bdd n u&&AV.bdd n c))):=by simp [AV.bdds,AV.bdd]
attribute [local irreducible] hasK lastsK recL okS sinceK findP findB putL putE putG getE capM seenK sealB ofB sortP hereL
def goneC (k:Key):Card:=⟨k,2,0,1,⟨0,0,0⟩,true⟩
def atC (l:List Entry) (k:Key):Card:=if findB l k=true then (getE l k).card else goneC k
theorem fold_push {α β:Type} (f:α→β) (l:List α):∀ (out:List β) (k g:Nat),l.foldl (fun (s:List β × Nat × Nat) c=>(s.1++[f c],s.2.1+1,s.2.2+1)) (out,k,g)=(out++l.map f,k+l.length,g+l.length):=by
 induction l with
 | nil=>intro out k g; simp
 | cons c l ih=>intro out k g; rw [List.foldl_cons,ih]; simp; omega
def dCards (l:List Entry) (al:List Key) (since:Int):List Card:=if okS al since=true then (sinceK al since).map (atC l) else seenK (List.map Entry.card l)
end Go.Proofs.Ytfjedpipdnlkfaa.AM

set_option maxRecDepth 100000
set_option linter.unusedVariables false
set_option linter.unusedSimpArgs false
namespace Go.Proofs.Ytfjedpipdnlkfaa.AM
open Go Go.Proofs.Ytfjedpipdnlkfaa
attribute [local irreducible] ACalls funT codeT codeQ LoopTo
attribute [local irreducible] hasK lastsK okS sinceK findP findB putL putE putG getE capM seenK sealB ofB sortP hereL dCards Tp.card Tp.cardT Tp.next Tp.step
def recnew0_ann:Ann:={ fin:=some 1 }
theorem recnew0_spec  :ACalls Try.prog 12 [] ([]:Heap) ((AV.obj 0 0 0 0),([⟨0,2,[[(.int .i64 0),(.sl .nil 0 [])]],none⟩]:Heap)) :=
 specO (fn:=Try.f12) (ann:=recnew0_ann) (Has.o Try.func12) (.r (.g (.r (.g (.h' ([⟨0,2,[[(AV.int .i64 0),(AV.sl .nil 0 [])]],none⟩]:Heap) (.f 1 (AV.obj 0 0 0 0) (.e (AV.obj 0 0 0 0))))))))
theorem recnew_spec  :ACalls Try.prog 12 [] ([]:Heap) ((AV.obj 0 0 0 0),([⟨0,2,[[(.int .i64 (((List.length ([]:List Key)):Nat):Int)),(.osl 1 0 2 0 (List.length (recL ([]:List Key))))]],none⟩,⟨0,2,(List.map Key.row (recL ([]:List Key))),none⟩]:Heap)):=(recnew0_spec).virField
attribute [local irreducible] recL
end Go.Proofs.Ytfjedpipdnlkfaa.AM

set_option maxRecDepth 100000
set_option linter.unusedVariables false
set_option linter.unusedSimpArgs false
namespace Go.Proofs.Ytfjedpipdnlkfaa.AM
open Go Go.Proofs.Ytfjedpipdnlkfaa
attribute [local irreducible] ACalls funT codeT codeQ LoopTo
attribute [local irreducible] hasK lastsK okS sinceK findP findB putL putE putG getE capM seenK sealB ofB sortP hereL dCards Tp.card Tp.cardT Tp.next Tp.step recL
def hold40 (n:Int):Int:=max 0 (min n 1099511627776)
def dheld_ann:Ann:={ fin:=some 0 }
theorem dheld_spec (now : Int)  : ACalls Try.prog 9 [(.int .i64 now)] ([] : Heap) ((AV.int .i64 (hold40 now)), ([] : Heap)) :=
  specO (fn := Try.f9) (ann := dheld_ann) (Has.o Try.func9) (.r (.g (.r (.y 1 (.int .i64 (if 1099511627776 < now then 1099511627776 else now)) (AV.int .i64 (min now 1099511627776)) (Yes.int (by split <;> omega)) (.y 2 (.int .i64 (if (min now 1099511627776) > 0 then (min now 1099511627776) else 0)) (AV.int .i64 (max 0 (min now 1099511627776))) (Yes.int (by split <;> omega)) (.g (.f 0 (AV.int .i64 (max 0 (min now 1099511627776))) (.e (AV.int .i64 (max 0 (min now 1099511627776))) (by
        simp [hold40, Int.max_comm, Int.min_comm])))))))))
theorem dheld_at (now:Int)  (H:Heap):ACalls Try.prog 9 [(.int .i64 now)] H ((AV.int .i64 (hold40 now)),H):=(dheld_spec now ).lift kr kr H
def gnew_ann:Ann:={ fin:=some 1 }
@[simp] abbrev Wg_o1 (v1_:Int):Ob:=⟨0,3,[[(AV.int .i64 v1_),(AV.int .i64 0),(AV.int .i64 0)]],none⟩
@[simp] abbrev Wg_1 (v1_:Int):Heap:=[Wg_o1 v1_]
theorem gnew_spec (now:Int) :ACalls Try.prog 11 [(.int .i64 now)] ([]:Heap) ((AV.obj 0 0 0 0),(Wg_1 now)) :=
 specO (fn:=Try.f11) (ann:=gnew_ann) (Has.o Try.func11) (.r (.g (.r (.g (.h' (Wg_1 now) (.f 1 (AV.obj 0 0 0 0) (.e (AV.obj 0 0 0 0))))))))
def dshelf_ann:Ann:={ base:=6,fin:=some 6 }
@[simp] abbrev Wg_o2 (v1_:Int) (v2_:Int) (v3_:Int):Ob:=⟨0,3,[[(AV.int .i64 v1_),(AV.int .i64 v2_),(AV.int .i64 v3_)]],none⟩
@[simp] abbrev Wg_o3 (v1_:List Key) (v2_:Nat):Ob:=⟨0,2,[[(AV.int .i64 (((List.length v1_):Nat):Int)),(AV.osl 4 v2_ 2 0 (List.length (recL v1_)))]],none⟩
@[simp] abbrev Wg_o4 (v1_:Int) (v2_:Int) (v3_:Int) (v4_:Int):Ob:=⟨0,7,[[(AV.int .i64 v1_),(AV.int .i64 v2_),(AV.int .i64 v3_),(AV.int .i64 v4_),(AV.obj 0 0 0 0),(AV.obj 2 0 0 0),(AV.obj 3 0 0 0)]],none⟩
@[simp] abbrev Wg_2 (v1_:Nat) (v2_:List Entry) (v3_:Int) (v4_:Int) (v5_:Int) (v6_:List Key) (v7_:Nat) (v8_:Int) (v9_:Int) (v10_:Int) (v11_:Int):Heap:=[⟨0,2,[[(AV.int .i64 (capM 32)),(AV.osl 1 v1_ 10 0 (List.length v2_))]],none⟩,⟨v1_,10,(List.map Entry.row v2_),none⟩,Wg_o2 v3_ v4_ v5_,Wg_o3 v6_ v7_,⟨v7_,2,(List.map Key.row (recL v6_)),none⟩,Wg_o4 v8_ v9_ v10_ v11_]
theorem dshelf_spec (l:List Entry) (g:Nat) (al:List Key) (ga:Nat) (gf gl gt nd s1 s2 s3:Int) :ACalls Try.prog 5 [(.obj 5 0 0 0)] (Wg_2 g l gf gl gt al ga nd s1 s2 s3) ((AV.obj 0 0 0 0),(Wg_2 g l gf gl gt al ga nd s1 s2 s3)) :=
 specO (fn:=Try.f5) (ann:=dshelf_ann) (Has.o Try.func5) (.r (.g (.r (.g (.f 6 (AV.obj 0 0 0 0) (.e (AV.obj 0 0 0 0)))))))
def drecent_ann:Ann:={ base:=6,fin:=some 6 }
theorem drecent_spec (l:List Entry) (g:Nat) (al:List Key) (ga:Nat) (gf gl gt nd s1 s2 s3:Int) :ACalls Try.prog 19 [(.obj 5 0 0 0)] (Wg_2 g l gf gl gt al ga nd s1 s2 s3) ((AV.obj 3 0 0 0),(Wg_2 g l gf gl gt al ga nd s1 s2 s3)) :=
 specO (fn:=Try.f19) (ann:=drecent_ann) (Has.o Try.func19) (.r (.g (.r (.g (.f 6 (AV.obj 3 0 0 0) (.e (AV.obj 3 0 0 0)))))))
def dnew_ann:Ann:={ fin:=some 6 }
@[simp] abbrev Wg_o5 :Ob:=⟨0,2,[[(AV.int .i64 (capM 32)),(AV.osl 1 0 10 0 0)]],none⟩
@[simp] abbrev Wg_3 :Heap:=[Wg_o5,⟨0,10,(List.map Entry.row []),none⟩]
@[simp] abbrev Wg_4 (v1_:Int):Heap:=[Wg_o5,⟨0,10,(List.map Entry.row []),none⟩,Wg_o1 v1_]
@[simp] abbrev Wg_5 (v1_:Int):Heap:=[Wg_o5,⟨0,10,(List.map Entry.row []),none⟩,Wg_o1 v1_,⟨0,2,[[(AV.int .i64 (((List.length ([]:List Key)):Nat):Int)),(AV.osl 4 0 2 0 (List.length (recL ([]:List Key))))]],none⟩,⟨0,2,(List.map Key.row (recL ([]:List Key))),none⟩]
theorem dnew_spec (nd now:Int) (h1:0≤nd) (h2:nd < 6) (h3:hold40 now=now):ACalls Try.prog 4 [(.int .i64 nd),(.int .i64 now)] ([]:Heap) ((AV.obj 5 0 0 0),([⟨0,2,[[(.int .i64 (capM 32)),(.osl 1 0 10 0 (List.length ([]:List Entry)))]],none⟩,⟨0,10,(List.map Entry.row ([]:List Entry)),none⟩,⟨0,3,[[(.int .i64 now),(.int .i64 0),(.int .i64 0)]],none⟩,⟨0,2,[[(.int .i64 (((List.length ([]:List Key)):Nat):Int)),(.osl 4 0 2 0 (List.length (recL ([]:List Key))))]],none⟩,⟨0,2,(List.map Key.row (recL ([]:List Key))),none⟩,⟨0,7,[[(.int .i64 nd),(.int .i64 0),(.int .i64 nd),(.int .i64 0),(.obj 0 0 0 0),(.obj 2 0 0 0),(.obj 3 0 0 0)]],none⟩]:Heap)) :=
 specO (fn:=Try.f4) (ann:=dnew_ann) (Has.o Try.func4) (.r (.g (.r (.y 1 (AV.bool (decide (nd < 0))) (AV.bool false) (Yes.bool (by simp; omega)) (.no (.no (.y 4 (AV.bool (decide (nd ≥ 6))) (AV.bool false) (Yes.bool (by simp; omega)) (.no (.no (.no (.c 9 (dheld_at now  ([]:Heap)) (.no (.y 10 (AV.bool (now != (hold40 now))) (AV.bool false) (Yes.bool (by rw [h3]; simp)) (.g (.no (.r (.ch 3 Wg_3 (ACalls.put2 [] ([]:Heap) (AV.obj 0 0 0 0) Wg_3 (snew_spec 32 ) (trivial) (⟨rfl,⟨Ob.ren0 (Entry.rows_bdd 0 _),trivial⟩⟩)) (.ch 5 (Wg_4 now) (ACalls.put2 [] Wg_3 (AV.obj 2 0 0 0) (Wg_4 now) (gnew_spec now ) (trivial) (⟨rfl,trivial⟩)) (.ch 6 (Wg_5 now) (ACalls.put2 [] (Wg_4 now) (AV.obj 3 0 0 0) (Wg_5 now) (recnew_spec  ) (trivial) (⟨rfl,⟨Ob.ren0 (Key.rows_bdd 0 _),trivial⟩⟩)) (.g (.h' ([⟨0,2,[[(AV.int .i64 (capM 32)),(AV.osl 1 0 10 0 0)]],none⟩,⟨0,10,(List.map Entry.row []),none⟩,⟨0,3,[[(AV.int .i64 now),(AV.int .i64 0),(AV.int .i64 0)]],none⟩,⟨0,2,[[(AV.int .i64 (((List.length ([]:List Key)):Nat):Int)),(AV.osl 4 0 2 0 (List.length (recL ([]:List Key))))]],none⟩,⟨0,2,(List.map Key.row (recL ([]:List Key))),none⟩,⟨0,7,[[(AV.int .i64 nd),(AV.int .i64 0),(AV.int .i64 nd),(AV.int .i64 0),(AV.obj 0 0 0 0),(AV.obj 2 0 0 0),(AV.obj 3 0 0 0)]],none⟩]:Heap) (.f 6 (AV.obj 5 0 0 0) (.e (AV.obj 5 0 0 0))))))))))))))))))))))))
def dsetY_ann:Ann:={ refs:=[3],base:=6,fin:=some 6 }
@[simp] abbrev Wg_o6 (v1_:List Entry) (v2_:Entry) (v3_:Nat):Ob:=⟨0,2,[[(AV.int .i64 (capM 32)),(AV.osl 1 (putG (capM 32) v1_ v2_ v3_) 10 0 (List.length (putL (capM 32) v1_ v2_)))]],none⟩
@[simp] abbrev Wg_o7 (v1_:List Entry) (v2_:Entry) (v3_:Nat):Ob:=⟨(putG (capM 32) v1_ v2_ v3_),10,(List.map Entry.row (putL (capM 32) v1_ v2_)),none⟩
@[simp] abbrev Wg_6 (v1_:List Entry) (v2_:Entry) (v3_:Nat) (v4_:Int) (v5_:Int) (v6_:Int) (v7_:List Key) (v8_:Nat) (v9_:Int) (v10_:Int) (v11_:Int) (v12_:Int):Heap:=[Wg_o6 v1_ v2_ v3_,Wg_o7 v1_ v2_ v3_,Wg_o2 v4_ v5_ v6_,⟨0,2,[[(AV.int .i64 (((List.length (v7_++[v2_.card.key])):Nat):Int)),(AV.osl 4 (v8_+1+1) 2 0 (List.length (recL (v7_++[v2_.card.key]))))]],none⟩,⟨(v8_+1+1),2,(List.map Key.row (recL (v7_++[v2_.card.key]))),none⟩,Wg_o4 v9_ v10_ v11_ v12_]
@[simp] abbrev Wg_7 (v1_:List Entry) (v2_:Entry) (v3_:Nat) (v4_:Int) (v5_:Int) (v6_:Int) (v7_:List Key) (v8_:Nat) (v9_:Int) (v10_:Int) (v11_:Int) (v12_:Int):Heap:=[Wg_o6 v1_ v2_ v3_,Wg_o7 v1_ v2_ v3_,Wg_o2 v4_ v5_ v6_,Wg_o3 v7_ v8_,⟨v8_,2,(List.map Key.row (recL v7_)),none⟩,Wg_o4 v9_ v10_ v11_ v12_]
@[simp] abbrev Wg_8 (v1_:Int) (v2_:Int) (v3_:Int) (v4_:List Key) (v5_:Nat) (v6_:Int) (v7_:Int) (v8_:Int) (v9_:Int):Heap:=[Wg_o2 v1_ v2_ v3_,Wg_o3 v4_ v5_,⟨v5_,2,(List.map Key.row (recL v4_)),none⟩,Wg_o4 v6_ v7_ v8_ v9_]
theorem dsetY_spec (l:List Entry) (g:Nat) (al:List Key) (ga:Nat) (gf gl gt nd s1 s2 s3:Int) (x:Entry) (hl:l.length < 1000) (ha:al.length < 100000) (h:((putE (capM 32) l x) == 0)=true):ACalls Try.prog 60 [(.obj 5 0 0 0),(.agg (Entry.row x))] (Wg_2 g l gf gl gt al ga nd s1 s2 s3) ((AV.int .i64 (putE (capM 32) l x)),(Wg_6 l x g gf gl gt al ga nd s1 s2 s3)):=by
 have p1:=putL_len (capM 32) l x
 exact specO (fn:=Try.f60) (ann:=dsetY_ann) (Has.o Try.func60) (.r (.g (.r (.ch 5 (Wg_7 l x g gf gl gt al ga nd s1 s2 s3) (put_at (capM 32) l x g (List.length l) oa oa (Wg_8 gf gl gt al ga nd s1 s2 s3)) (.g (.r (.y 1 (AV.bool ((putE (capM 32) l x) == 0)) (AV.bool true) (Yes.bool (h)) (.g (.yes (.r (.ch 7 (Wg_6 l x g gf gl gt al ga nd s1 s2 s3) (ACalls.pre (args:=[(AV.obj 3 0 0 0),(AV.agg (Key.row x.card.key))]) (args':=[(AV.obj 3 0 0 0),(AV.agg (Key.row x.card.key))]) (ACalls.put2 [3,4] (Wg_7 l x g gf gl gt al ga nd s1 s2 s3) (AV.int .i64 (((al++[x.card.key]).length:Nat):Int)) (Wg_6 l x g gf gl gt al ga nd s1 s2 s3) (radd_spec al x.card.key ga oa) (⟨rfl,⟨Ob.ren0 (Key.rows_bdd 0 _),trivial⟩⟩) (⟨rfl,⟨Ob.ren0 (Key.rows_bdd 0 _),trivial⟩⟩)) ⟨AV.wk_refl_any _,AV.wk_refl_any _,trivial⟩) (.g (.r (.g (.f 6 (AV.int .i64 (putE (capM 32) l x)) (.e (AV.int .i64 (putE (capM 32) l x))))))))))))))))))
def dsetN_ann:Ann:={ refs:=[3],base:=6,fin:=some 6 }
theorem dsetN_spec (l:List Entry) (g:Nat) (al:List Key) (ga:Nat) (gf gl gt nd s1 s2 s3:Int) (x:Entry) (hl:l.length < 1000) (ha:al.length < 100000) (h:((putE (capM 32) l x) == 0)=false):ACalls Try.prog 60 [(.obj 5 0 0 0),(.agg (Entry.row x))] (Wg_2 g l gf gl gt al ga nd s1 s2 s3) ((AV.int .i64 (putE (capM 32) l x)),(Wg_7 l x g gf gl gt al ga nd s1 s2 s3)):=by
 have p1:=putL_len (capM 32) l x
 exact specO (fn:=Try.f60) (ann:=dsetN_ann) (Has.o Try.func60) (.r (.g (.r (.ch 5 (Wg_7 l x g gf gl gt al ga nd s1 s2 s3) (put_at (capM 32) l x g (List.length l) oa oa (Wg_8 gf gl gt al ga nd s1 s2 s3)) (.g (.r (.y 1 (AV.bool ((putE (capM 32) l x) == 0)) (AV.bool false) (Yes.bool (h)) (.g (.no (.r (.g (.f 6 (AV.int .i64 (putE (capM 32) l x)) (.e (AV.int .i64 (putE (capM 32) l x)))))))))))))))
def setA (l:List Entry) (x:Entry) (al:List Key):List Key:=if (putE (capM 32) l x == 0)=true then al++[x.card.key] else al
def setG (l:List Entry) (x:Entry) (ga:Nat):Nat:=if (putE (capM 32) l x == 0)=true then ga+1+1 else ga
theorem dset_spec (l:List Entry) (g:Nat) (al:List Key) (ga:Nat) (gf gl gt nd s1 s2 s3:Int) (x:Entry) (hl:l.length < 1000) (ha:al.length < 100000):ACalls Try.prog 60 [(.obj 5 0 0 0),(.agg (Entry.row x))] ([⟨0,2,[[(.int .i64 (capM 32)),(.osl 1 g 10 0 (List.length l))]],none⟩,⟨g,10,(List.map Entry.row l),none⟩,⟨0,3,[[(.int .i64 gf),(.int .i64 gl),(.int .i64 gt)]],none⟩,⟨0,2,[[(.int .i64 (((List.length al):Nat):Int)),(.osl 4 ga 2 0 (List.length (recL al)))]],none⟩,⟨ga,2,(List.map Key.row (recL al)),none⟩,⟨0,7,[[(.int .i64 nd),(.int .i64 s1),(.int .i64 s2),(.int .i64 s3),(.obj 0 0 0 0),(.obj 2 0 0 0),(.obj 3 0 0 0)]],none⟩]:Heap) ((AV.int .i64 (putE (capM 32) l x)),([⟨0,2,[[(.int .i64 (capM 32)),(.osl 1 (putG (capM 32) l x g) 10 0 (List.length (putL (capM 32) l x)))]],none⟩,⟨(putG (capM 32) l x g),10,(List.map Entry.row (putL (capM 32) l x)),none⟩,⟨0,3,[[(.int .i64 gf),(.int .i64 gl),(.int .i64 gt)]],none⟩,⟨0,2,[[(.int .i64 (((List.length (setA l x al)):Nat):Int)),(.osl 4 (setG l x ga) 2 0 (List.length (recL (setA l x al))))]],none⟩,⟨(setG l x ga),2,(List.map Key.row (recL (setA l x al))),none⟩,⟨0,7,[[(.int .i64 nd),(.int .i64 s1),(.int .i64 s2),(.int .i64 s3),(.obj 0 0 0 0),(.obj 2 0 0 0),(.obj 3 0 0 0)]],none⟩]:Heap)):=by
 cases h:(putE (capM 32) l x == 0) with
 | true=>unfold setA setG; rw [if_pos h,if_pos h]; exact dsetY_spec l g al ga gf gl gt nd s1 s2 s3 x hl ha h
 | false=>unfold setA setG; rw [if_neg (by rw [h]; simp),if_neg (by rw [h]; simp)]; exact dsetN_spec l g al ga gf gl gt nd s1 s2 s3 x hl ha h
theorem dset_at (l:List Entry) (g:Nat) (al:List Key) (ga:Nat) (gf gl gt nd s1 s2 s3:Int) (x:Entry) (hl:l.length < 1000) (ha:al.length < 100000) (H:Heap):ACalls Try.prog 60 [(.obj 5 0 0 0),(.agg (Entry.row x))] ((Wg_2 g l gf gl gt al ga nd s1 s2 s3)++H) ((AV.int .i64 (putE (capM 32) l x)),([⟨0,2,[[(.int .i64 (capM 32)),(.osl 1 (putG (capM 32) l x g) 10 0 (List.length (putL (capM 32) l x)))]],none⟩,⟨(putG (capM 32) l x g),10,(List.map Entry.row (putL (capM 32) l x)),none⟩,⟨0,3,[[(.int .i64 gf),(.int .i64 gl),(.int .i64 gt)]],none⟩,⟨0,2,[[(.int .i64 (((List.length (setA l x al)):Nat):Int)),(.osl 4 (setG l x ga) 2 0 (List.length (recL (setA l x al))))]],none⟩,⟨(setG l x ga),2,(List.map Key.row (recL (setA l x al))),none⟩,⟨0,7,[[(.int .i64 nd),(.int .i64 s1),(.int .i64 s2),(.int .i64 s3),(.obj 0 0 0 0),(.obj 2 0 0 0),(.obj 3 0 0 0)]],none⟩]:Heap)++H):=(dset_spec l g al ga gf gl gt nd s1 s2 s3 x hl ha).ext kr kr ob ob kr H
end Go.Proofs.Ytfjedpipdnlkfaa.AM

set_option maxRecDepth 100000
set_option linter.unusedVariables false
set_option linter.unusedSimpArgs false
namespace Go.Proofs.Ytfjedpipdnlkfaa.AM
open Go Go.Proofs.Ytfjedpipdnlkfaa
attribute [local irreducible] ACalls funT codeT codeQ LoopTo
attribute [local irreducible] hasK lastsK okS sinceK findP findB putL putE putG getE capM seenK sealB ofB sortP hereL dCards Tp.card Tp.cardT Tp.next Tp.step recL nameB stR cardR cmpSt
theorem setA_len (l:List Entry) (x:Entry) (al:List Key):(setA l x al).length≤al.length+1:=by
 unfold setA; split
 · simp
 · omega
attribute [local irreducible] setA setG
end Go.Proofs.Ytfjedpipdnlkfaa.AM

set_option linter.unusedVariables false
set_option linter.unusedSimpArgs false
namespace Go.Proofs.Ytfjedpipdnlkfaa.AM
open Go
section
variable {P:Program} {X:Env} {F:Fr} {H H2:Heap} {ar:Nat} {o:Oper}
end
end Go.Proofs.Ytfjedpipdnlkfaa.AM

set_option linter.unusedVariables false
set_option linter.unusedSimpArgs false
set_option linter.unusedSectionVars false
namespace Go.Proofs.Ytfjedpipdnlkfaa.AM
open Go
section
variable {α:Type} [Inhabited α]
theorem nth_def (l:List α) (q:Nat):nth l q=l.getD q default:=rfl
theorem nth_setM (l:List α) {i:Nat} (h:i < l.length) (x:α) (q:Nat):nth (l.set i x) q=if i=q then x else nth l q:=by
 simp only [nth_def,List.getD_eq_getElem?_getD]
 by_cases e:i=q
 · subst e; rw [List.getElem?_set_self h,if_pos rfl]; rfl
 · rw [List.getElem?_set_ne e,if_neg e]
theorem nth_appM (l m:List α) (q:Nat):nth (l++m) q=if q < l.length then nth l q else nth m (q - l.length):=by
 simp only [nth_def,List.getD_eq_getElem?_getD]
 split
 · rename_i h; rw [List.getElem?_append_left h]
 · rename_i h; rw [List.getElem?_append_right (by omega)]
theorem ext_nth {l m:List α} (hl:l.length=m.length) (h:∀ q,q < l.length→nth l q=nth m q):l=m:=by
 apply List.ext_getElem hl
 intro q h1 h2
 have:=h q h1
 rwa [nth_getElem h1,nth_getElem h2] at this
def swapL (a b n:Nat) (l:List α):List α:=iter (fun i l=>(l.set (a+i) (nth l (b+i))).set (b+i) (nth l (a+i))) n 0 l
theorem swapL_all (a b n:Nat) (l:List α) (hab:a+n≤b) (hb:b+n≤l.length):∀ k,k≤n→(swapL a b k l).length=l.length∧∀ q,nth (swapL a b k l) q=if a≤q∧q < a+k then nth l (b+(q - a)) else if b≤q∧q < b+k then nth l (a+(q - b)) else nth l q:=by
 intro k
 induction k with
 | zero =>
  intro _
  refine ⟨rfl,fun q=>?_⟩
  rw [if_neg (by omega),if_neg (by omega)]
  rfl
 | succ k ih =>
  intro hk
  obtain ⟨h1,h2⟩:=ih (by omega)
  have e:swapL a b (k+1) l=((swapL a b k l).set (a+k) (nth (swapL a b k l) (b+k))).set (b+k) (nth (swapL a b k l) (a+k)):=iter_succ _ _ _
  refine ⟨by rw [e]; simp [h1],fun q=>?_⟩
  rw [e,nth_setM _ (by simp; omega),nth_setM _ (by omega),h2,h2,h2]
  by_cases c1:b+k=q
  · subst c1
    rw [if_pos rfl,if_neg (by omega),if_neg (by omega),if_neg (by omega),if_pos (by omega)]
    congr 1; omega
  · rw [if_neg c1]
    by_cases c2:a+k=q
    · subst c2
      rw [if_pos rfl,if_neg (by omega),if_neg (by omega),if_pos (by omega)]
      congr 1; omega
    · rw [if_neg c2]
      have e1:(a≤q∧q < a+(k+1))↔(a≤q∧q < a+k):=by omega
      have e2:(b≤q∧q < b+(k+1))↔(b≤q∧q < b+k):=by omega
      simp only [e1,e2]
theorem swapL_len {a b n:Nat} {l:List α} (hab:a+n≤b) (hb:b+n≤l.length):(swapL a b n l).length=l.length:=(swapL_all a b n l hab hb n (Nat.le_refl _)).1
theorem swapL_parts (X U M V Y:List α) {a b n:Nat} (ha:a=X.length) (hU:U.length=n) (hV:V.length=n) (hb:b=X.length+n+M.length) :
 swapL a b n (X++(U++(M++(V++Y))))=X++(V++(M++(U++Y))):=by
 obtain ⟨h1,h2⟩:=swapL_all a b n (X++(U++(M++(V++Y)))) (by omega) (by simp; omega) n (Nat.le_refl _)
 refine ext_nth (by rw [h1]; simp; omega) fun q hq=>?_
 rw [h2]
 simp only [nth_appM,hU,hV]
 by_cases c1:q < X.length
 · rw [if_neg (by omega),if_neg (by omega),if_pos c1,if_pos c1]
 · rw [if_neg (c:=q < X.length) c1,if_neg (c:=q < X.length) c1]
   by_cases c2:q - X.length < n
   · rw [if_pos (by omega),if_pos (c:=q - X.length < n) c2,if_neg (by omega),if_neg (by omega),if_neg (by omega),if_pos (by omega)]
     congr 1; omega
   · rw [if_neg (by omega),if_neg (c:=q - X.length < n) c2,if_neg (c:=q - X.length < n) c2]
     by_cases c3:q - X.length - n < M.length
     · rw [if_neg (by omega),if_pos c3,if_pos c3]
     · rw [if_neg (c:=q - X.length - n < M.length) c3,if_neg (c:=q - X.length - n < M.length) c3]
       by_cases c4:q - X.length - n - M.length < n
       · rw [if_pos (by omega),if_pos (c:=q - X.length - n - M.length < n) c4,if_neg (by omega),if_pos (by omega)]
         congr 1; omega
       · rw [if_neg (by omega),if_neg c4,if_neg c4]
def rotS (m:Nat):Nat→Nat→Nat→List α→List α × Nat
 | 0,i,_,l=>(l,i)
 | r+1,i,j,l=>if i=j then (l,i) else if j < i then rotS m r (i - j) j (swapL (m - i) m j l) else rotS m r i (j - i) (swapL (m - i) (m+j - i) i l)
def rotL (a m b:Nat) (l:List α):List α:=swapL (m - (rotS m (m - a+(b - m)) (m - a) (b - m) l).2) m (rotS m (m - a+(b - m)) (m - a) (b - m) l).2 (rotS m (m - a+(b - m)) (m - a) (b - m) l).1
theorem rotS_parts (m:Nat) (T:List α) (r:Nat):∀ (X U V Y:List α) (i j:Nat),i+j≤r+1→0 < i→0 < j→U.length=i→V.length=j→m=X.length+i→T=X++(V++(U++Y)) →
 0 < (rotS m r i j (X++(U++(V++Y)))).2∧(rotS m r i j (X++(U++(V++Y)))).2≤i∧(rotS m r i j (X++(U++(V++Y)))).2≤j∧(rotS m r i j (X++(U++(V++Y)))).1.length=T.length∧swapL (m - (rotS m r i j (X++(U++(V++Y)))).2) m (rotS m r i j (X++(U++(V++Y)))).2 (rotS m r i j (X++(U++(V++Y)))).1=T:=by
 induction r with
 | zero=>intro X U V Y i j h1 h2 h3; omega
 | succ r ih =>
  intro X U V Y i j h1 h2 h3 hU hV hm hT
  simp only [rotS]
  by_cases c1:i=j
  · rw [if_pos c1]
    refine ⟨h2,Nat.le_refl _,by simp only; omega,by rw [hT]; simp; omega,?_⟩
    subst c1
    have:=swapL_parts X U [] V Y (a:=m - i) (b:=m) (n:=i) (by omega) hU hV (by simp; omega)
    rw [hT]
    simpa using this
  · rw [if_neg c1]
    by_cases c2:j < i
    · rw [if_pos c2]
      have hP:(U.take j).length=j:=by simp; omega
      have hQ:(U.drop j).length=i - j:=by simp; omega
      have e:=swapL_parts X (U.take j) (U.drop j) V Y (a:=m - i) (b:=m) (n:=j) (by omega) hP hV (by omega)
      rw [← List.append_assoc (U.take j),List.take_append_drop] at e
      rw [e]
      have:=ih (X++V) (U.drop j) (U.take j) Y (i - j) j (by omega) (by omega) h3 hQ hP (by simp; omega) (by rw [hT,← List.append_assoc (U.take j),List.take_append_drop]; simp)
      simp only [List.append_assoc] at this ⊢
      exact ⟨this.1,by omega,this.2.2.1,this.2.2.2⟩
    · rw [if_neg c2]
      have hP:(V.take (j - i)).length=j - i:=by simp; omega
      have hQ:(V.drop (j - i)).length=i:=by simp; omega
      have e:=swapL_parts X U (V.take (j - i)) (V.drop (j - i)) Y (a:=m - i) (b:=m+j - i) (n:=i) (by omega) hU hQ (by omega)
      rw [← List.append_assoc (V.take (j - i)) (V.drop (j - i)),List.take_append_drop] at e
      rw [e]
      have:=ih X (V.drop (j - i)) (V.take (j - i)) (U++Y) i (j - i) (by omega) h2 (by omega) hQ hP hm (by rw [hT,← List.append_assoc (V.take (j - i)) (V.drop (j - i)),List.take_append_drop])
      exact ⟨this.1,this.2.1,by omega,this.2.2.2⟩
theorem rotL_parts (X U V Y:List α) {a m b:Nat} (ha:a=X.length) (hm:m=X.length+U.length) (hb:b=X.length+U.length+V.length) (h1:0 < U.length) (h2:0 < V.length):rotL a m b (X++(U++(V++Y)))=X++(V++(U++Y)):=by
 have e1:m - a=U.length:=by omega
 have e2:b - m=V.length:=by omega
 unfold rotL
 rw [e1,e2]
 exact (rotS_parts m _ _ X U V Y U.length V.length (by omega) h1 h2 rfl rfl hm rfl).2.2.2.2
def bsr (p:Nat→Bool):Nat→Nat→Nat→Nat
 | 0,lo,_=>lo
 | r+1,lo,hi=>if lo < hi then if p ((lo+hi) / 2)=true then bsr p r ((lo+hi) / 2+1) hi else bsr p r lo ((lo+hi) / 2) else lo
theorem bsr_spec (p:Nat→Bool) (r:Nat):∀ (lo hi:Nat),hi - lo≤r→lo≤hi→lo≤bsr p r lo hi∧bsr p r lo hi≤hi∧(lo < bsr p r lo hi→p (bsr p r lo hi - 1)=true)∧(bsr p r lo hi < hi→p (bsr p r lo hi)=false):=by
 induction r with
 | zero =>
  intro lo hi h1 h2
  simp only [bsr]
  exact ⟨Nat.le_refl _,h2,fun h=>by omega,fun h=>by omega⟩
 | succ r ih =>
  intro lo hi h1 h2
  simp only [bsr]
  by_cases c:lo < hi
  · rw [if_pos c]
    by_cases d:p ((lo+hi) / 2)=true
    · rw [if_pos d]
      obtain ⟨k1,k2,k3,k4⟩:=ih ((lo+hi) / 2+1) hi (by omega) (by omega)
      refine ⟨by omega,k2,fun _=>?_,k4⟩
      rcases Nat.lt_or_ge ((lo+hi) / 2+1) (bsr p r ((lo+hi) / 2+1) hi) with h | h
      · exact k3 h
      · have:bsr p r ((lo+hi) / 2+1) hi=(lo+hi) / 2+1:=by omega
        rw [this]; simpa using d
    · rw [if_neg d]
      obtain ⟨k1,k2,k3,k4⟩:=ih lo ((lo+hi) / 2) (by omega) (by omega)
      refine ⟨k1,by omega,k3,fun _=>?_⟩
      rcases Nat.lt_or_ge (bsr p r lo ((lo+hi) / 2)) ((lo+hi) / 2) with h | h
      · exact k4 h
      · have:bsr p r lo ((lo+hi) / 2)=(lo+hi) / 2:=by omega
        rw [this]; simpa using d
  · rw [if_neg c]
    exact ⟨Nat.le_refl _,h2,fun h=>by omega,fun h=>by omega⟩
def mgL (lt:α→α→Bool):Nat→List α→List α→List α
 | 0,L,R=>L++R
 | _+1,[],R=>R
 | _+1,L,[]=>L
 | n+1,x :: L,y :: R=>if lt y x=true then y :: mgL lt n (x :: L) R else x :: mgL lt n L (y :: R)
def mg (lt:α→α→Bool) (L R:List α):List α:=mgL lt (L.length+R.length) L R
theorem mg_nil_l (lt:α→α→Bool) (R:List α):mg lt [] R=R:=by
 unfold mg; cases h:([]:List α).length+R.length <;> simp [mgL]
theorem mg_nil_r (lt:α→α→Bool) (L:List α):mg lt L []=L:=by
 unfold mg
 cases L with
 | nil=>simp [mgL]
 | cons x L=>simp [mgL]
theorem mg_cons (lt:α→α→Bool) (x y:α) (L R:List α):mg lt (x :: L) (y :: R)=if lt y x=true then y :: mg lt (x :: L) R else x :: mg lt L (y :: R):=by
 unfold mg
 have h1:(x :: L).length+(y :: R).length=((x :: L).length+R.length)+1:=by simp; omega
 have h2:L.length+(y :: R).length=(x :: L).length+R.length:=by simp; omega
 rw [h1,h2]
 rfl
theorem mg_split (lt:α→α→Bool) {L2 R2:List α} (n:Nat):∀ (L1 R1:List α),L1.length+R1.length≤n→(∀ x∈L2,∀ y∈R1,lt y x=true)→(∀ x∈L1,∀ y∈R2,lt y x=false)→mg lt (L1++L2) (R1++R2)=mg lt L1 R1++mg lt L2 R2:=by
 induction n with
 | zero =>
  intro L1 R1 h _ _
  obtain rfl:L1=[]:=List.eq_nil_of_length_eq_zero (by omega)
  obtain rfl:R1=[]:=List.eq_nil_of_length_eq_zero (by omega)
  rw [mg_nil_l]; rfl
 | succ n ih =>
  intro L1 R1 h h1 h2
  cases L1 with
  | nil =>
   cases R1 with
   | nil=>rw [mg_nil_l]; rfl
   | cons y R1 =>
    have:=ih [] R1 (by simp at h ⊢; omega) (fun x hx y' hy'=>h1 x hx y' (List.mem_cons_of_mem _ hy')) (fun x hx=>by simp at hx)
    rw [mg_nil_l] at this ⊢
    simp only [List.nil_append,List.cons_append] at this ⊢
    cases L2 with
    | nil=>rw [mg_nil_l,mg_nil_l]
    | cons x L2=>rw [mg_cons,if_pos (h1 x (by simp) y (by simp)),this]
  | cons x L1 =>
   cases R1 with
   | nil =>
    have:=ih L1 [] (by simp at h ⊢; omega) (fun x hx y' hy'=>by simp at hy') (fun x' hx' y hy=>h2 x' (List.mem_cons_of_mem _ hx') y hy)
    rw [mg_nil_r] at this ⊢
    simp only [List.nil_append,List.cons_append] at this ⊢
    cases R2 with
    | nil=>rw [mg_nil_r,mg_nil_r]
    | cons y R2=>rw [mg_cons,if_neg (by rw [h2 x (by simp) y (by simp)]; simp),this]
   | cons y R1 =>
    simp only [List.cons_append]
    rw [mg_cons,mg_cons]
    have k1:=ih (x :: L1) R1 (by simp at h ⊢; omega) (fun x hx y' hy'=>h1 x hx y' (List.mem_cons_of_mem _ hy')) h2
    have k2:=ih L1 (y :: R1) (by simp at h ⊢; omega) h1 (fun x' hx' y hy=>h2 x' (List.mem_cons_of_mem _ hx') y hy)
    simp only [List.cons_append] at k1 k2
    split
    · rw [k1]; rfl
    · rw [k2]; rfl
theorem mg_perm (lt:α→α→Bool) (n:Nat):∀ (L R:List α),L.length+R.length≤n→List.Perm (mg lt L R) (L++R):=by
 induction n with
 | zero =>
  intro L R h
  obtain rfl:L=[]:=List.eq_nil_of_length_eq_zero (by omega)
  obtain rfl:R=[]:=List.eq_nil_of_length_eq_zero (by omega)
  rw [mg_nil_l]; exact .refl _
 | succ n ih =>
  intro L R h
  cases L with
  | nil=>rw [mg_nil_l]; exact .refl _
  | cons x L =>
   cases R with
   | nil=>rw [mg_nil_r]; simp
   | cons y R =>
    rw [mg_cons]
    split
    · refine (List.Perm.cons y (ih (x :: L) R (by simp at h ⊢; omega))).trans ?_
      exact (List.perm_middle (a:=y) (l₁:=x :: L) (l₂:=R)).symm
    · exact List.Perm.cons x (ih L (y :: R) (by simp at h ⊢; omega))
theorem mg_len (lt:α→α→Bool) (L R:List α):(mg lt L R).length=L.length+R.length:=by
 have:=(mg_perm lt _ L R (Nat.le_refl _)).length_eq
 simpa using this
end
end Go.Proofs.Ytfjedpipdnlkfaa.AM

set_option maxRecDepth 100000
set_option linter.unusedVariables false
set_option linter.unusedSimpArgs false
namespace Go.Proofs.Ytfjedpipdnlkfaa.AM
open Go Go.Proofs.Ytfjedpipdnlkfaa
attribute [local irreducible] ACalls funT codeT codeQ LoopTo
attribute [local irreducible] Tp.card Tp.cardT Tp.next Tp.step Tp.key Tp.keyT sink insSort beforeK sortP cmpK
theorem half_nat {n h:Nat} (hn:n < 4611686018427387904) (hh:h=n / 2):IntKind.i64.wrap (Int.fdiv (IntKind.u64.wrap ((n:Nat):Int)) (2 ^ (min (Int.toNat 1) 64)))=((h:Nat):Int):=by
 have h1:IntKind.u64.wrap ((n:Nat):Int)=((n:Nat):Int):=by simp [IntKind.wrap,IntKind.signed,IntKind.bits]; omega
 have h2:(2:Int) ^ (min (Int.toNat 1) 64)=2:=rfl
 rw [h1,h2,Int.fdiv_eq_ediv_of_nonneg _ ow,IntKind.wrap_i64]
 omega
section
variable {α:Type} [Inhabited α]
def ltF (cmp:α→α→Int) (x y:α):Bool:=decide (cmp x y < 0)
def mAt (lt:α→α→Bool) (a m b:Nat) (l:List α):List α:=l.take a++(mg lt ((l.drop a).take (m - a)) ((l.drop m).take (b - m))++l.drop b)
def shU (r k:Nat) (l:List α):List α:=iter (fun k l=>(l.set k (nth l (k+1))).set (k+1) (nth l k)) r k l
def shD:Nat→Nat→List α→List α
 | 0,_,l=>l
 | r+1,k,l=>shD r (k - 1) ((l.set k (nth l (k - 1))).set (k - 1) (nth l k))
end
end Go.Proofs.Ytfjedpipdnlkfaa.AM

set_option linter.unusedVariables false
set_option linter.unusedSimpArgs false
set_option linter.unusedSectionVars false
namespace Go.Proofs.Ytfjedpipdnlkfaa.AM
open Go
section
variable {α:Type} [Inhabited α]
theorem swap1 (X:List α) (x y:α) (Z:List α) {k:Nat} (hk:k=X.length):((X++x :: y :: Z).set k (nth (X++x :: y :: Z) (k+1))).set (k+1) (nth (X++x :: y :: Z) k)=X++y :: x :: Z:=by
 have:=swapL_parts X [x] [] [y] Z (a:=k) (b:=k+1) (n:=1) hk rfl rfl (by simp; omega)
 simpa [swapL,iter] using this
theorem shU_parts (x:α) (R:List α):∀ (X Y:List α) (k:Nat),k=X.length→shU R.length k (X++x :: (R++Y))=X++(R++x :: Y):=by
 induction R with
 | nil=>intro X Y k hk; rfl
 | cons y R ih =>
  intro X Y k hk
  have h1:shU (y :: R).length k (X++x :: ((y :: R)++Y))=shU R.length (k+1) (((X++x :: y :: (R++Y)).set k (nth (X++x :: y :: (R++Y)) (k+1))).set (k+1) (nth (X++x :: y :: (R++Y)) k)):=rfl
  rw [h1,swap1 X x y (R++Y) hk]
  have:=ih (X++[y]) Y (k+1) (by simp [hk])
  simpa using this
theorem shD_parts (y:α) (r:Nat):∀ (X L Y:List α) (k:Nat),L.length=r→k=X.length+r→shD r k (X++(L++y :: Y))=X++y :: (L++Y):=by
 induction r with
 | zero =>
  intro X L Y k hL hk
  obtain rfl:L=[]:=List.eq_nil_of_length_eq_zero hL
  rfl
 | succ r ih =>
  intro X L Y k hL hk
  rcases List.eq_nil_or_concat L with rfl | ⟨L',z,rfl⟩
  · simp at hL
  · rw [List.concat_eq_append] at *
    have hL':L'.length=r:=by simpa using hL
    simp only [shD]
    have e0:X++((L'++[z])++y :: Y)=(X++L')++z :: y :: Y:=by simp
    obtain ⟨k',rfl⟩:∃ k',k=k'+1:=⟨k - 1,by omega⟩
    rw [e0,Nat.add_sub_cancel,List.set_comm _ _ (by omega),swap1 (X++L') z y Y (k:=k') (by simp; omega)]
    have:=ih X L' (z :: Y) k' hL' (by omega)
    simpa using this
theorem piece (A L Z:List α) {a k:Nat} (ha:a=A.length) (hk:k=L.length):((A++(L++Z)).drop a).take k=L:=by
 subst ha hk
 rw [List.drop_append_of_le_length (Nat.le_refl _),List.drop_length,List.nil_append,List.take_append_of_le_length (Nat.le_refl _),List.take_length]
theorem mAt_parts (lt:α→α→Bool) (A L R B:List α) {a m b:Nat} (ha:a=A.length) (hm:m=A.length+L.length) (hb:b=A.length+L.length+R.length):mAt lt a m b (A++(L++(R++B)))=A++(mg lt L R++B):=by
 unfold mAt
 have h1:(A++(L++(R++B))).take a=A:=by subst ha; rw [List.take_append_of_le_length (Nat.le_refl _),List.take_length]
 have h2:((A++(L++(R++B))).drop a).take (m - a)=L:=piece A L (R++B) ha (by omega)
 have h3:((A++(L++(R++B))).drop m).take (b - m)=R:=by
  have:=piece (A++L) R B (a:=m) (k:=b - m) (by simp; omega) (by omega)
  simpa using this
 have h4:(A++(L++(R++B))).drop b=B:=by
  have e:A++(L++(R++B))=(A++(L++R))++B:=by simp
  rw [e,List.drop_append_of_le_length (by simp; omega),List.drop_of_length_le (by simp; omega),List.nil_append]
 rw [h1,h2,h3,h4]
theorem sm1 (A L1 L2 R1 R2 B:List α) {l:List α} (hl:l=A++(L1++(L2++(R1++(R2++B))))) {s m e:Nat} (hs:s=A.length+L1.length) (hm:m=s+L2.length) (he:e=m+R1.length) :
 (if s < m∧m < e then rotL s m e l else l)=A++(L1++(R1++(L2++(R2++B)))):=by
 subst hl
 split
 · rename_i h
   have:=rotL_parts (A++L1) L2 R1 (R2++B) (a:=s) (m:=m) (b:=e) (by simp; omega) (by simp; omega) (by simp; omega) (by omega) (by omega)
   simpa using this
 · rename_i h
   rcases Nat.eq_zero_or_pos L2.length with h1 | h1
   · obtain rfl:L2=[]:=List.eq_nil_of_length_eq_zero h1
     rfl
   · obtain rfl:R1=[]:=List.eq_nil_of_length_eq_zero (by omega)
     rfl
theorem sm2 (lt:α→α→Bool) (A L1 R1 Z:List α) {a s mid:Nat} (ha:a=A.length) (hs:s=a+L1.length) (hmid:mid=s+R1.length) :
 (if a < s∧s < mid then mAt lt a s mid (A++(L1++(R1++Z))) else A++(L1++(R1++Z)))=A++(mg lt L1 R1++Z):=by
 split
 · exact mAt_parts lt A L1 R1 Z ha (by omega) (by omega)
 · rename_i h
   rcases Nat.eq_zero_or_pos L1.length with h1 | h1
   · obtain rfl:L1=[]:=List.eq_nil_of_length_eq_zero h1
     rw [mg_nil_l]; rfl
   · obtain rfl:R1=[]:=List.eq_nil_of_length_eq_zero (by omega)
     rw [mg_nil_r]; rfl
theorem sm3 (lt:α→α→Bool) (A M L2 R2 B:List α) {mid e b:Nat} (hm:mid=A.length+M.length) (he:e=mid+L2.length) (hb:b=e+R2.length) :
 (if mid < e∧e < b then mAt lt mid e b (A++(M++(L2++(R2++B)))) else A++(M++(L2++(R2++B))))=A++(M++(mg lt L2 R2++B)):=by
 have:=sm2 lt (A++M) L2 R2 B (a:=mid) (s:=e) (mid:=b) (by simp; omega) he hb
 simpa using this
theorem rot_facts (X U V Y:List α) {l:List α} (hl:l=X++(U++(V++Y))) {a m b:Nat} (ha:a=X.length) (hm:m=a+U.length) (hb:b=m+V.length) (h1:0 < U.length) (h2:0 < V.length) :
 (rotS m (m - a+(b - m)) (m - a) (b - m) l).1.length=l.length∧(rotS m (m - a+(b - m)) (m - a) (b - m) l).2≤m - a∧(rotS m (m - a+(b - m)) (m - a) (b - m) l).2≤b - m:=by
 have e1:m - a=U.length:=by omega
 have e2:b - m=V.length:=by omega
 rw [e1,e2,hl]
 obtain ⟨_,k2,k3,k4,_⟩:=rotS_parts m _ (U.length+V.length) X U V Y U.length V.length (by omega) h1 h2 rfl rfl (by omega) rfl
 exact ⟨by rw [k4]; simp; omega,k2,k3⟩
end
end Go.Proofs.Ytfjedpipdnlkfaa.AM

set_option maxRecDepth 100000
set_option linter.unusedVariables false
set_option linter.unusedSimpArgs false
namespace Go.Proofs.Ytfjedpipdnlkfaa.AM
open Go Go.Proofs.Ytfjedpipdnlkfaa
attribute [local irreducible] ACalls funT codeT codeQ LoopTo
attribute [local irreducible] Tp.card Tp.cardT Tp.next Tp.step Tp.key Tp.keyT sink insSort beforeK sortP cmpK
def mCw_ann:Ann:={ base:=1,fin:=some 1,live:=[(1,[0,1,2,3,10])],out:=[(1,[0,1,2,3,10])] }
@[simp] abbrev Vic_1 (v1_:Nat) (v2_:List Card) (v3_:Nat) (v4_:Nat) (v5_:Nat):Heap:=[⟨v1_,9,(List.map Card.row ((v2_.set (v3_+v4_) (nth v2_ (v5_+v4_))).set (v5_+v4_) (nth v2_ (v3_+v4_)))),none⟩]
@[simp] abbrev Vic_2 (v1_:Nat) (v2_:Nat) (v3_:Nat) (v4_:Nat) (v5_:Nat) (v6_:Nat):Fr:=(mkF 38 [(0,(AV.osl 0 v1_ 9 0 v2_)),(1,(AV.int .i64 ((v3_:Nat):Int))),(2,(AV.int .i64 ((v4_:Nat):Int))),(3,(AV.int .i64 ((v5_:Nat):Int))),(10,(AV.int .i64 ((v6_:Nat):Int)))])
theorem mCw_step (a:Nat) (b:Nat) (k:Nat) (n:Nat) (g:Nat) (l:List Card) (i:Nat) (hab:a+k≤b) (hb:b+k≤n) (hnb:n < 1048576) (hn:n=l.length) (hle_:i≤k) {eX:Ex} {FX:Fr} {HX:Heap} (k1:(decide (((i:Nat):Int) < ((k:Nat):Int)))=true→LoopTo (codeQ Try.prog (X mCw_ann) (loopOf Try.f99 0)) (some [0,1,2,3,10]) (some [0,1,2,3,10]) (mkF 38 [(0,(.osl 0 g 9 0 n)),(1,(.int .i64 ((a:Nat):Int))),(2,(.int .i64 ((b:Nat):Int))),(3,(.int .i64 ((k:Nat):Int))),(10,(.int .i64 ((i+1:Nat):Int)))]) (Vic_1 g l a i b) eX FX HX) (k2:(decide (((i:Nat):Int) < ((k:Nat):Int)))=false→((.exit 0:Ex),(Vic_2 g n a b k i),([⟨g,9,(List.map Card.row l),none⟩]:Heap))=(eX,FX,HX)):LoopTo (codeQ Try.prog (X mCw_ann) (loopOf Try.f99 0)) (some [0,1,2,3,10]) (some [0,1,2,3,10]) (Vic_2 g n a b k i) ([⟨g,9,(List.map Card.row l),none⟩]:Heap) eX FX HX :=
 stepO (.r (.g (.two (decide (((i:Nat):Int) < ((k:Nat):Int))) (fun h1 h1'=>(.r (.y 3 (.int .i64 (IntKind.i64.wrap (((a:Nat):Int)+((i:Nat):Int)))) (AV.int .i64 ((a+i:Nat):Int)) (Yes.add ow ow ow) (.y 7 (.int .i64 (IntKind.i64.wrap (((b:Nat):Int)+((i:Nat):Int)))) (AV.int .i64 ((b+i:Nat):Int)) (Yes.add ow ow ow) (.y 11 (.int .i64 (IntKind.i64.wrap (((b:Nat):Int)+((i:Nat):Int)))) (AV.int .i64 ((b+i:Nat):Int)) (Yes.add ow ow ow) (.io 12 0 g 9 9 0 n ((b+i:Nat):Int) (b+i) (IdxOsl.mk _ ow ow) (.t 13 (AV.agg (Card.row (nth l (b+i)))) ([⟨g,9,(List.map Card.row l),none⟩]:Heap) (load_row (rowAt_map (row:=Card.row) (l:=l) (k:=9) (room:=none) kr om) kr:LoadTo tt 39 0 ([⟨g,9,(List.map Card.row l),none⟩]:Heap) (rowAt ([⟨g,9,(List.map Card.row l),none⟩]:Heap) 0 g (b+i))=some ((AV.agg (Card.row (nth l (b+i)))),([⟨g,9,(List.map Card.row l),none⟩]:Heap))) (.y 17 (.int .i64 (IntKind.i64.wrap (((a:Nat):Int)+((i:Nat):Int)))) (AV.int .i64 ((a+i:Nat):Int)) (Yes.add ow ow ow) (.io 18 0 g 9 9 0 n ((a+i:Nat):Int) (a+i) (IdxOsl.mk _ ow ow) (.t 19 (AV.agg (Card.row (nth l (a+i)))) ([⟨g,9,(List.map Card.row l),none⟩]:Heap) (load_row (rowAt_map (row:=Card.row) (l:=l) (k:=9) (room:=none) kr om) kr:LoadTo tt 39 0 ([⟨g,9,(List.map Card.row l),none⟩]:Heap) (rowAt ([⟨g,9,(List.map Card.row l),none⟩]:Heap) 0 g (a+i))=some ((AV.agg (Card.row (nth l (a+i)))),([⟨g,9,(List.map Card.row l),none⟩]:Heap))) (.io 20 0 g 9 9 0 n ((a+i:Nat):Int) (a+i) (IdxOsl.mk _ ow ow) (.st 21 0 g (a+i) 9 0 (AV.agg (Card.row (nth l (b+i)))) ([⟨g,9,(List.map Card.row (l.set (a+i) (nth l (b+i)))),none⟩]:Heap) (store_row (us:=(Card.row (nth l (b+i)))) (rowAt_map (row:=Card.row) (l:=l) (k:=9) (room:=none) kr om) kr (by simp [Card.row]) (by simp [setAt,fillAt,List.map_set,Card.row])) (.io 22 0 g 9 9 0 n ((b+i:Nat):Int) (b+i) (IdxOsl.mk _ ow ow) (.st 23 0 g (b+i) 9 0 (AV.agg (Card.row (nth l (a+i)))) (Vic_1 g l a i b) (store_row (us:=(Card.row (nth l (a+i)))) (rowAt_map (row:=Card.row) (l:=l.set (a+i) (nth l (b+i))) (k:=9) (room:=none) kr om) kr (by simp [Card.row]) (by simp [setAt,fillAt,List.map_set,Card.row])) (.g (.r (.y 1 (.int .i64 (IntKind.i64.wrap (((i:Nat):Int)+1))) (AV.int .i64 ((i+1:Nat):Int)) (Yes.add ow ow ow) (.g (.l (k1 h1)))))))))))))))))))) (fun h1 h1'=>(.l (k2 h1))))))
def mCw_f (a:Nat) (b:Nat) (k:Nat) (n:Nat) (g:Nat) (i:Nat) (s:(List Card)):(List Card):=((s.set (a+i) (nth s (b+i))).set (b+i) (nth s (a+i)))
@[simp] abbrev Vic_3 (v1_:Nat) (v2_:Nat) (v3_:Nat) (v4_:Nat) (v5_:Nat):Fr:=(mkF 38 [(0,(AV.osl 0 v1_ 9 0 v2_)),(1,(AV.int .i64 ((v3_:Nat):Int))),(2,(AV.int .i64 ((v4_:Nat):Int))),(3,(AV.int .i64 ((v5_:Nat):Int))),(10,(AV.int .i64 ((v5_:Nat):Int)))])
theorem mCw_loop (a:Nat) (b:Nat) (k:Nat) (n:Nat) (g:Nat) (hab:a+k≤b) (hb:b+k≤n) (hnb:n < 1048576)  (r_:Nat):∀ (l:List Card) (i:Nat) (sF:(List Card)),i+r_=k→n=l.length→sF=iter (mCw_f a b k n g) r_ i (l) →
 LoopTo (codeQ Try.prog (X mCw_ann) (loopOf Try.f99 0)) (some [0,1,2,3,10]) (some [0,1,2,3,10]) (Vic_2 g n a b k i) ([⟨g,9,(List.map Card.row l),none⟩]:Heap) (.exit 0) (Vic_3 g n a b k) ([⟨g,9,(List.map Card.row sF),none⟩]:Heap):=by
 induction r_ with
 | zero =>
  intro l i sF hi_ hn  hF
  obtain rfl:k=i:=by omega
  have e_:sF=(l):=hF
  refine mCw_step a b k n g l k hab hb hnb hn (Nat.le_refl _) (fun h=>by simp at h <;> omega) (fun _=>?_)
  first | done | rfl | (rw [e_]; done) | (rw [e_]; rfl)
 | succ r_ ih =>
  intro l i sF hi_ hn  hF
  refine mCw_step a b k n g l i hab hb hnb hn ow (fun h1=>?_) (fun h=>by simp at h <;> omega)
  · exact ih ((l.set (a+i) (nth l (b+i))).set (b+i) (nth l (a+i))) (i+1) sF ow (by first | omega | assumption | (simp; done) | (simp; omega) | (simp [*]; done) | (simp [*]; omega))  (by rw [hF] <;> simp only [iter,mCw_f,if_true,Bool.false_eq_true,if_false])
theorem mCw_spec (f:Nat) (xs:List AV) (a b k n g:Nat) (l:List Card) (hxs:AV.bdds 1 xs=true) (hn:n=l.length) (hnb:n < 1048576) (hab:a+k≤b) (hb:b+k≤n):ACalls Try.prog 99 [(.osl 0 g 9 0 n),(.int .i64 ((a:Nat):Int)),(.int .i64 ((b:Nat):Int)),(.int .i64 ((k:Nat):Int)),(.func f xs)] ([⟨g,9,(List.map Card.row l),none⟩]:Heap) ((AV.tup []),([⟨g,9,(List.map Card.row (swapL a b k l)),none⟩]:Heap)) :=
 specO (fn:=Try.f99) (ann:=mCw_ann) (Has.o Try.func99) (.r (.g (.loop (Vic_3 g n a b k) (show LoopTo (codeQ Try.prog (X mCw_ann) (loopOf Try.f99 0)) (some [0,1,2,3,10]) (some [0,1,2,3,10]) (mkF 38 [(0,(.osl 0 g 9 0 n)),(1,(.int .i64 ((a:Nat):Int))),(2,(.int .i64 ((b:Nat):Int))),(3,(.int .i64 ((k:Nat):Int))),(10,(.int .i64 0))]) ([⟨g,9,(List.map Card.row l),none⟩]:Heap) (.exit 0) (Vic_3 g n a b k) ([⟨g,9,(List.map Card.row (swapL a b k l)),none⟩]:Heap) from (mCw_loop a b k n g hab hb hnb k l 0 (swapL a b k l) ow hn rfl)) (.f 1 (AV.tup []) (.e (AV.tup []))))))
theorem mCw_at (f:Nat) (xs:List AV) (a b k n g:Nat) (l:List Card) (hxs:AV.bdds 1 xs=true) (hn:n=l.length) (hnb:n < 1048576) (hab:a+k≤b) (hb:b+k≤n) (H:Heap):ACalls Try.prog 99 [(.osl 0 g 9 0 n),(.int .i64 ((a:Nat):Int)),(.int .i64 ((b:Nat):Int)),(.int .i64 ((k:Nat):Int)),(.func f xs)] (([⟨g,9,(List.map Card.row l),none⟩]:Heap)++H) ((AV.tup []),([⟨g,9,(List.map Card.row (swapL a b k l)),none⟩]:Heap)++H):=(mCw_spec f xs a b k n g l hxs hn hnb hab hb).ext (by simp [AV.bdds,AV.bdd, *]) kr ob ob kr H
def mCr_ann:Ann:={ base:=1,fin:=some 1,live:=[(2,[0,2,4,10,11])],out:=[(2,[0,2,4,10,11])] }
@[simp] abbrev Vic_4 (v1_:Nat) (v2_:Nat) (v3_:Nat) (v4_:Nat) (v5_:List Card):Heap:=[⟨v1_,9,(List.map Card.row (swapL (v2_ - v3_) (v2_+v4_ - v3_) v3_ v5_)),none⟩]
@[simp] abbrev Vic_5 (v1_:Nat) (v2_:Nat) (v3_:Nat) (v4_:Nat) (v5_:List AV) (v6_:Nat) (v7_:Nat):Fr:=(mkF 58 [(0,(AV.osl 0 v1_ 9 0 v2_)),(2,(AV.int .i64 ((v3_:Nat):Int))),(4,(AV.func v4_ v5_)),(10,(AV.int .i64 ((v6_:Nat):Int))),(11,(AV.int .i64 ((v7_:Nat):Int)))])
theorem mCr_step (f:Nat) (xs:List AV) (p n g:Nat) (i j:Nat) (l:List Card) (hxs:AV.bdds 1 xs=true) (hn:n=l.length) (hnb:n < 1048576) (hi:0 < i) (hj:0 < j) (hip:i≤p) (hjp:p+j≤n) {eX:Ex} {FX:Fr} {HX:Heap} (k1:(((i:Nat):Int) != ((j:Nat):Int))=true→(decide (((i:Nat):Int) > ((j:Nat):Int)))=true→LoopTo (codeQ Try.prog (X mCr_ann) (loopOf Try.f98 0)) (some [0,2,4,10,11]) (some [0,2,4,10,11]) (mkF 58 [(0,(.osl 0 g 9 0 n)),(2,(.int .i64 ((p:Nat):Int))),(4,(.func f xs)),(10,(.int .i64 ((i - j:Nat):Int))),(11,(.int .i64 ((j:Nat):Int)))]) ([⟨g,9,(List.map Card.row (swapL (p - i) p j l)),none⟩]:Heap) eX FX HX) (k2:(((i:Nat):Int) != ((j:Nat):Int))=true→(decide (((i:Nat):Int) > ((j:Nat):Int)))=false→LoopTo (codeQ Try.prog (X mCr_ann) (loopOf Try.f98 0)) (some [0,2,4,10,11]) (some [0,2,4,10,11]) (mkF 58 [(0,(.osl 0 g 9 0 n)),(2,(.int .i64 ((p:Nat):Int))),(4,(.func f xs)),(10,(.int .i64 ((i:Nat):Int))),(11,(.int .i64 ((j - i:Nat):Int)))]) (Vic_4 g p i j l) eX FX HX) (k3:(((i:Nat):Int) != ((j:Nat):Int))=false→((.exit 0:Ex),(Vic_5 g n p f xs i j),([⟨g,9,(List.map Card.row l),none⟩]:Heap))=(eX,FX,HX)):LoopTo (codeQ Try.prog (X mCr_ann) (loopOf Try.f98 0)) (some [0,2,4,10,11]) (some [0,2,4,10,11]) (Vic_5 g n p f xs i j) ([⟨g,9,(List.map Card.row l),none⟩]:Heap) eX FX HX :=
 stepO (.r (.g (.two (((i:Nat):Int) != ((j:Nat):Int)) (fun h1 h1'=>(.r (.g (.two (decide (((i:Nat):Int) > ((j:Nat):Int))) (fun h2 h2'=>(.r (.y 3 (.int .i64 (IntKind.i64.wrap (((p:Nat):Int) - ((i:Nat):Int)))) (AV.int .i64 ((p - i:Nat):Int)) (Yes.add ow ow ow) (.ch 7 ([⟨g,9,(List.map Card.row (swapL (p - i) p j l)),none⟩]:Heap) (mCw_at f xs (p - i) p j n g l (by first | exact hxs | omega) (by first | exact hxs | omega) (by first | exact hxs | omega) (by first | exact hxs | omega) (by first | exact hxs | omega) ([]:Heap)) (.g (.r (.y 2 (.int .i64 (IntKind.i64.wrap (((i:Nat):Int) - ((j:Nat):Int)))) (AV.int .i64 ((i - j:Nat):Int)) (Yes.add ow ow ow) (.g (.l (k1 h1 h2)))))))))) (fun h2 h2'=>(.r (.y 3 (.int .i64 (IntKind.i64.wrap (((p:Nat):Int) - ((i:Nat):Int)))) (AV.int .i64 ((p - i:Nat):Int)) (Yes.add ow ow ow) (.y 6 (.int .i64 (IntKind.i64.wrap (((p:Nat):Int)+((j:Nat):Int)))) (AV.int .i64 ((p+j:Nat):Int)) (Yes.add ow ow ow) (.y 8 (.int .i64 (IntKind.i64.wrap (((p+j:Nat):Int) - ((i:Nat):Int)))) (AV.int .i64 ((p+j - i:Nat):Int)) (Yes.add ow ow ow) (.ch 11 (Vic_4 g p i j l) (mCw_at f xs (p - i) (p+j - i) i n g l (by first | exact hxs | omega) (by first | exact hxs | omega) (by first | exact hxs | omega) (by first | exact hxs | omega) (by first | exact hxs | omega) ([]:Heap)) (.g (.r (.y 2 (.int .i64 (IntKind.i64.wrap (((j:Nat):Int) - ((i:Nat):Int)))) (AV.int .i64 ((j - i:Nat):Int)) (Yes.add ow ow ow) (.g (.l (k2 h1 h2)))))))))))))))) (fun h1 h1'=>(.l (k3 h1))))))
theorem mCr_loop (f:Nat) (xs:List AV) (p n g:Nat) (hxs:AV.bdds 1 xs=true) (r:Nat):∀ (i j:Nat) (l:List Card),i+j≤r+1→n=l.length→n < 1048576→0 < i→0 < j→i≤p→p+j≤n →
 LoopTo (codeQ Try.prog (X mCr_ann) (loopOf Try.f98 0)) (some [0,2,4,10,11]) (some [0,2,4,10,11]) (mkF 58 [(0,(.osl 0 g 9 0 n)),(2,(.int .i64 ((p:Nat):Int))),(4,(.func f xs)),(10,(.int .i64 ((i:Nat):Int))),(11,(.int .i64 ((j:Nat):Int)))]) ([⟨g,9,(List.map Card.row l),none⟩]:Heap) (.exit 0) (mkF 58 [(0,(.osl 0 g 9 0 n)),(2,(.int .i64 ((p:Nat):Int))),(4,(.func f xs)),(10,(.int .i64 (((rotS p r i j l).2:Nat):Int))),(11,(.int .i64 (((rotS p r i j l).2:Nat):Int)))]) ([⟨g,9,(List.map Card.row (rotS p r i j l).1),none⟩]:Heap):=by
 induction r with
 | zero=>intro i j l h1 hn hnb hi hj; omega
 | succ r ih =>
  intro i j l h1 hn hnb hi hj hip hjp
  refine mCr_step f xs p n g i j l hxs hn hnb hi hj hip hjp (fun h2 h3=>?_) (fun h2 h3=>?_) (fun h2=>?_)
  · have h2':i≠j:=by simp at h2; omega
    have h3':j < i:=by simp at h3; omega
    simp only [rotS,if_neg h2',if_pos h3']
    exact ih (i - j) j _ ow (by rw [swapL_len ow ow]; exact hn) hnb ow hj ow hjp
  · have h2':i≠j:=by simp at h2; omega
    have h3':¬ j < i:=by simp at h3; omega
    simp only [rotS,if_neg h2',if_neg h3']
    exact ih i (j - i) _ ow (by rw [swapL_len ow ow]; exact hn) hnb hi ow hip ow
  · have h2':i=j:=by simp at h2; omega
    simp only [rotS,if_pos h2']
    subst h2'
    rfl
@[simp] abbrev Vic_6 (v1_:Nat) (v2_:Nat) (v3_:Nat) (v4_:Nat) (v5_:List AV) (v6_:Nat) (v7_:Nat) (v8_:List Card):Fr:=(mkF 58 [(0,(AV.osl 0 v1_ 9 0 v2_)),(2,(AV.int .i64 ((v3_:Nat):Int))),(4,(AV.func v4_ v5_)),(10,(AV.int .i64 (((rotS v3_ (v3_ - v6_+(v7_ - v3_)) (v3_ - v6_) (v7_ - v3_) v8_).2:Nat):Int))),(11,(AV.int .i64 (((rotS v3_ (v3_ - v6_+(v7_ - v3_)) (v3_ - v6_) (v7_ - v3_) v8_).2:Nat):Int)))])
theorem mCr_spec (f:Nat) (xs:List AV) (a p b n g:Nat) (l:List Card) (hxs:AV.bdds 1 xs=true) (hn:n=l.length) (hnb:n < 1048576) (hap:a < p) (hpb:p < b) (hbn:b≤n) (hl2:(rotS p (p - a+(b - p)) (p - a) (b - p) l).1.length=l.length) (hk:(rotS p (p - a+(b - p)) (p - a) (b - p) l).2≤p - a) (hk2:(rotS p (p - a+(b - p)) (p - a) (b - p) l).2≤b - p):ACalls Try.prog 98 [(.osl 0 g 9 0 n),(.int .i64 ((a:Nat):Int)),(.int .i64 ((p:Nat):Int)),(.int .i64 ((b:Nat):Int)),(.func f xs)] ([⟨g,9,(List.map Card.row l),none⟩]:Heap) ((AV.tup []),([⟨g,9,(List.map Card.row (rotL a p b l)),none⟩]:Heap)) :=
 specO (fn:=Try.f98) (ann:=mCr_ann) (Has.o Try.func98) (.r (.y 2 (.int .i64 (IntKind.i64.wrap (((p:Nat):Int) - ((a:Nat):Int)))) (AV.int .i64 ((p - a:Nat):Int)) (Yes.add ow ow ow) (.g (.r (.y 2 (.int .i64 (IntKind.i64.wrap (((b:Nat):Int) - ((p:Nat):Int)))) (AV.int .i64 ((b - p:Nat):Int)) (Yes.add ow ow ow) (.g (.loop (Vic_6 g n p f xs a b l) (show LoopTo (codeQ Try.prog (X mCr_ann) (loopOf Try.f98 0)) (some [0,2,4,10,11]) (some [0,2,4,10,11]) (mkF 58 [(0,(.osl 0 g 9 0 n)),(2,(.int .i64 ((p:Nat):Int))),(4,(.func f xs)),(10,(.int .i64 ((p - a:Nat):Int))),(11,(.int .i64 ((b - p:Nat):Int)))]) ([⟨g,9,(List.map Card.row l),none⟩]:Heap) (.exit 0) (Vic_6 g n p f xs a b l) ([⟨g,9,(List.map Card.row (rotS p (p - a+(b - p)) (p - a) (b - p) l).1),none⟩]:Heap) from (mCr_loop f xs p n g hxs (p - a+(b - p)) (p - a) (b - p) l ow hn hnb ow ow ow ow)) (.r (.y 3 (.int .i64 (IntKind.i64.wrap (((p:Nat):Int) - (((rotS p (p - a+(b - p)) (p - a) (b - p) l).2:Nat):Int)))) (AV.int .i64 ((p - (rotS p (p - a+(b - p)) (p - a) (b - p) l).2:Nat):Int)) (Yes.add ow ow ow) (.ch 7 ([⟨g,9,(List.map Card.row (swapL (p - (rotS p (p - a+(b - p)) (p - a) (b - p) l).2) p (rotS p (p - a+(b - p)) (p - a) (b - p) l).2 (rotS p (p - a+(b - p)) (p - a) (b - p) l).1)),none⟩]:Heap) (mCw_at f xs (p - (rotS p (p - a+(b - p)) (p - a) (b - p) l).2) p (rotS p (p - a+(b - p)) (p - a) (b - p) l).2 n g (rotS p (p - a+(b - p)) (p - a) (b - p) l).1 (by first | exact hxs | omega) (by first | exact hxs | omega) (by first | exact hxs | omega) (by first | exact hxs | omega) (by first | exact hxs | omega) ([]:Heap)) (.g (.f 1 (AV.tup []) (.e (AV.tup []))))))))))))))
theorem mCr_at (f:Nat) (xs:List AV) (a p b n g:Nat) (l:List Card) (hxs:AV.bdds 1 xs=true) (hn:n=l.length) (hnb:n < 1048576) (hap:a < p) (hpb:p < b) (hbn:b≤n) (hl2:(rotS p (p - a+(b - p)) (p - a) (b - p) l).1.length=l.length) (hk:(rotS p (p - a+(b - p)) (p - a) (b - p) l).2≤p - a) (hk2:(rotS p (p - a+(b - p)) (p - a) (b - p) l).2≤b - p) (H:Heap):ACalls Try.prog 98 [(.osl 0 g 9 0 n),(.int .i64 ((a:Nat):Int)),(.int .i64 ((p:Nat):Int)),(.int .i64 ((b:Nat):Int)),(.func f xs)] (([⟨g,9,(List.map Card.row l),none⟩]:Heap)++H) ((AV.tup []),([⟨g,9,(List.map Card.row (rotL a p b l)),none⟩]:Heap)++H):=(mCr_spec f xs a p b n g l hxs hn hnb hap hpb hbn hl2 hk hk2).ext (by simp [AV.bdds,AV.bdd, *]) kr ob ob kr H
def sC_ann:Ann:={ base:=1,fin:=some 1,live:=[(3,[0,1,4,10,11]),(9,[0,10,13]),(15,[0,2,4,14,15]),(21,[0,14,17]),(33,[0,1,2,3,4,18,19,20,21,22])],out:=[(3,[0,1,10]),(9,[0,10,13]),(15,[0,2,14]),(21,[0,14,17]),(33,[0,1,2,3,4,18,19,20])] }
theorem sCa_step (cmp:Card→Card→Int) (f:Nat) (xs:List AV) (hc:∀ (x y:Card) (H:Heap),ACalls Try.prog f ([AV.agg (Card.row x),AV.agg (Card.row y)]++xs) H (AV.int .i64 (cmp x y),H)) (a n g:Nat) (l:List Card) (lo hi:Nat) (hn:n=l.length) (hnb:n < 1048576) (ha:a < n) (hlh:lo≤hi) (hhi:hi≤n) {eX:Ex} {FX:Fr} {HX:Heap} (k1:(decide (((lo:Nat):Int) < ((hi:Nat):Int)))=true→(decide ((cmp (nth l ((lo+hi) / 2)) (nth l a)) < 0))=true→LoopTo (codeQ Try.prog (X sC_ann) (loopOf Try.f96 0)) (some [0,1,4,10,11]) (some [0,1,10]) (mkF 220 [(0,(.osl 0 g 9 0 n)),(1,(.int .i64 ((a:Nat):Int))),(4,(.func f xs)),(10,(.int .i64 ((((lo+hi) / 2)+1:Nat):Int))),(11,(.int .i64 ((hi:Nat):Int)))]) ([⟨g,9,(List.map Card.row l),none⟩]:Heap) eX FX HX) (k2:(decide (((lo:Nat):Int) < ((hi:Nat):Int)))=true→(decide ((cmp (nth l ((lo+hi) / 2)) (nth l a)) < 0))=false→LoopTo (codeQ Try.prog (X sC_ann) (loopOf Try.f96 0)) (some [0,1,4,10,11]) (some [0,1,10]) (mkF 220 [(0,(.osl 0 g 9 0 n)),(1,(.int .i64 ((a:Nat):Int))),(4,(.func f xs)),(10,(.int .i64 ((lo:Nat):Int))),(11,(.int .i64 ((((lo+hi) / 2):Nat):Int)))]) ([⟨g,9,(List.map Card.row l),none⟩]:Heap) eX FX HX) (k3:(decide (((lo:Nat):Int) < ((hi:Nat):Int)))=false→((.exit 0:Ex),(mkF 220 [(0,(.osl 0 g 9 0 n)),(1,(.int .i64 ((a:Nat):Int))),(10,(.int .i64 ((lo:Nat):Int)))]),([⟨g,9,(List.map Card.row l),none⟩]:Heap))=(eX,FX,HX)):LoopTo (codeQ Try.prog (X sC_ann) (loopOf Try.f96 0)) (some [0,1,4,10,11]) (some [0,1,10]) (mkF 220 [(0,(.osl 0 g 9 0 n)),(1,(.int .i64 ((a:Nat):Int))),(4,(.func f xs)),(10,(.int .i64 ((lo:Nat):Int))),(11,(.int .i64 ((hi:Nat):Int)))]) ([⟨g,9,(List.map Card.row l),none⟩]:Heap) eX FX HX :=
 stepO (.r (.g (.two (decide (((lo:Nat):Int) < ((hi:Nat):Int))) (fun h1 h1'=>(.r (.y 2 (.int .i64 (IntKind.i64.wrap (((lo:Nat):Int)+((hi:Nat):Int)))) (AV.int .i64 ((lo+hi:Nat):Int)) (Yes.add ow ow ow) (.y 5 (AV.int .i64 (IntKind.i64.wrap (Int.fdiv (IntKind.u64.wrap ((lo+hi:Nat):Int)) (2 ^ (min (Int.toNat 1) 64))))) (AV.int .i64 ((((lo+hi) / 2):Nat):Int)) (Yes.int (half_nat ow (rfl))) (.g (.r (.io 3 0 g 9 9 0 n ((((lo+hi) / 2):Nat):Int) ((lo+hi) / 2) (IdxOsl.mk _ ow ow) (.t 4 (AV.agg (Card.row (nth l ((lo+hi) / 2)))) ([⟨g,9,(List.map Card.row l),none⟩]:Heap) (load_row (rowAt_map (row:=Card.row) (l:=l) (k:=9) (room:=none) kr om) kr:LoadTo tt 39 0 ([⟨g,9,(List.map Card.row l),none⟩]:Heap) (rowAt ([⟨g,9,(List.map Card.row l),none⟩]:Heap) 0 g ((lo+hi) / 2))=some ((AV.agg (Card.row (nth l ((lo+hi) / 2)))),([⟨g,9,(List.map Card.row l),none⟩]:Heap))) (.io 7 0 g 9 9 0 n ((a:Nat):Int) a (IdxOsl.mk _ ow ow) (.t 8 (AV.agg (Card.row (nth l a))) ([⟨g,9,(List.map Card.row l),none⟩]:Heap) (load_row (rowAt_map (row:=Card.row) (l:=l) (k:=9) (room:=none) kr om) kr:LoadTo tt 39 0 ([⟨g,9,(List.map Card.row l),none⟩]:Heap) (rowAt ([⟨g,9,(List.map Card.row l),none⟩]:Heap) 0 g a)=some ((AV.agg (Card.row (nth l a))),([⟨g,9,(List.map Card.row l),none⟩]:Heap))) (.c 9 (hc (nth l ((lo+hi) / 2)) (nth l a) ([⟨g,9,(List.map Card.row l),none⟩]:Heap)) (.g (.two (decide ((cmp (nth l ((lo+hi) / 2)) (nth l a)) < 0)) (fun h2 h2'=>(.r (.y 1 (.int .i64 (IntKind.i64.wrap (((((lo+hi) / 2):Nat):Int)+1))) (AV.int .i64 ((((lo+hi) / 2)+1:Nat):Int)) (Yes.add ow ow ow) (.g (.l (k1 h1 h2)))))) (fun h2 h2'=>(.r (.g (.l (k2 h1 h2)))))))))))))))))) (fun h1 h1'=>(.l (k3 h1))))))
theorem sCa_loop (cmp:Card→Card→Int) (f:Nat) (xs:List AV) (hc:∀ (x y:Card) (H:Heap),ACalls Try.prog f ([AV.agg (Card.row x),AV.agg (Card.row y)]++xs) H (AV.int .i64 (cmp x y),H)) (a n g:Nat) (l:List Card) (hn:n=l.length) (hnb:n < 1048576) (ha:a < n) (r:Nat):∀ (lo hi:Nat),hi - lo≤r→lo≤hi→hi≤n →
 LoopTo (codeQ Try.prog (X sC_ann) (loopOf Try.f96 0)) (some [0,1,4,10,11]) (some [0,1,10]) (mkF 220 [(0,(.osl 0 g 9 0 n)),(1,(.int .i64 ((a:Nat):Int))),(4,(.func f xs)),(10,(.int .i64 ((lo:Nat):Int))),(11,(.int .i64 ((hi:Nat):Int)))]) ([⟨g,9,(List.map Card.row l),none⟩]:Heap) (.exit 0) (mkF 220 [(0,(.osl 0 g 9 0 n)),(1,(.int .i64 ((a:Nat):Int))),(10,(.int .i64 (((bsr (fun c=>decide (cmp (nth l c) (nth l a) < 0)) r lo hi):Nat):Int)))]) ([⟨g,9,(List.map Card.row l),none⟩]:Heap):=by
 induction r with
 | zero =>
  intro lo hi h1 h2 h3
  obtain rfl:lo=hi:=by omega
  refine sCa_step cmp f xs hc a n g l lo lo hn hnb ha h2 h3 (fun h _=>by simp at h) (fun h _=>by simp at h) (fun _=>?_)
  simp only [bsr]
 | succ r ih =>
  intro lo hi h1 h2 h3
  refine sCa_step cmp f xs hc a n g l lo hi hn hnb ha h2 h3 (fun h4 h5=>?_) (fun h4 h5=>?_) (fun h4=>?_)
  · have h4':lo < hi:=by simp at h4; omega
    simp only [bsr,if_pos h4']
    rw [if_pos (by simpa using h5)]
    exact ih ((lo+hi) / 2+1) hi ow ow ow
  · have h4':lo < hi:=by simp at h4; omega
    simp only [bsr,if_pos h4']
    rw [if_neg (by simpa using h5)]
    exact ih lo ((lo+hi) / 2) ow ow ow
  · have h4':¬ lo < hi:=by simp at h4; omega
    simp only [bsr,if_neg h4']
theorem sCb_step (cmp:Card→Card→Int) (f:Nat) (xs:List AV) (hc:∀ (x y:Card) (H:Heap),ACalls Try.prog f ([AV.agg (Card.row x),AV.agg (Card.row y)]++xs) H (AV.int .i64 (cmp x y),H)) (p n g:Nat) (l:List Card) (lo hi:Nat) (hn:n=l.length) (hnb:n < 1048576) (ha:p < n) (hlh:lo≤hi) (hhi:hi≤n) {eX:Ex} {FX:Fr} {HX:Heap} (k1:(decide (((lo:Nat):Int) < ((hi:Nat):Int)))=true→(!(decide ((cmp (nth l p) (nth l ((lo+hi) / 2))) < 0)))=true→LoopTo (codeQ Try.prog (X sC_ann) (loopOf Try.f96 2)) (some [0,2,4,14,15]) (some [0,2,14]) (mkF 220 [(0,(.osl 0 g 9 0 n)),(2,(.int .i64 ((p:Nat):Int))),(4,(.func f xs)),(14,(.int .i64 ((((lo+hi) / 2)+1:Nat):Int))),(15,(.int .i64 ((hi:Nat):Int)))]) ([⟨g,9,(List.map Card.row l),none⟩]:Heap) eX FX HX) (k2:(decide (((lo:Nat):Int) < ((hi:Nat):Int)))=true→(!(decide ((cmp (nth l p) (nth l ((lo+hi) / 2))) < 0)))=false→LoopTo (codeQ Try.prog (X sC_ann) (loopOf Try.f96 2)) (some [0,2,4,14,15]) (some [0,2,14]) (mkF 220 [(0,(.osl 0 g 9 0 n)),(2,(.int .i64 ((p:Nat):Int))),(4,(.func f xs)),(14,(.int .i64 ((lo:Nat):Int))),(15,(.int .i64 ((((lo+hi) / 2):Nat):Int)))]) ([⟨g,9,(List.map Card.row l),none⟩]:Heap) eX FX HX) (k3:(decide (((lo:Nat):Int) < ((hi:Nat):Int)))=false→((.exit 4:Ex),(mkF 220 [(0,(.osl 0 g 9 0 n)),(2,(.int .i64 ((p:Nat):Int))),(14,(.int .i64 ((lo:Nat):Int)))]),([⟨g,9,(List.map Card.row l),none⟩]:Heap))=(eX,FX,HX)):LoopTo (codeQ Try.prog (X sC_ann) (loopOf Try.f96 2)) (some [0,2,4,14,15]) (some [0,2,14]) (mkF 220 [(0,(.osl 0 g 9 0 n)),(2,(.int .i64 ((p:Nat):Int))),(4,(.func f xs)),(14,(.int .i64 ((lo:Nat):Int))),(15,(.int .i64 ((hi:Nat):Int)))]) ([⟨g,9,(List.map Card.row l),none⟩]:Heap) eX FX HX :=
 stepO (.r (.g (.two (decide (((lo:Nat):Int) < ((hi:Nat):Int))) (fun h1 h1'=>(.r (.y 2 (.int .i64 (IntKind.i64.wrap (((lo:Nat):Int)+((hi:Nat):Int)))) (AV.int .i64 ((lo+hi:Nat):Int)) (Yes.add ow ow ow) (.y 5 (AV.int .i64 (IntKind.i64.wrap (Int.fdiv (IntKind.u64.wrap ((lo+hi:Nat):Int)) (2 ^ (min (Int.toNat 1) 64))))) (AV.int .i64 ((((lo+hi) / 2):Nat):Int)) (Yes.int (half_nat ow (rfl))) (.g (.r (.io 3 0 g 9 9 0 n ((p:Nat):Int) p (IdxOsl.mk _ ow ow) (.t 4 (AV.agg (Card.row (nth l p))) ([⟨g,9,(List.map Card.row l),none⟩]:Heap) (load_row (rowAt_map (row:=Card.row) (l:=l) (k:=9) (room:=none) kr om) kr:LoadTo tt 39 0 ([⟨g,9,(List.map Card.row l),none⟩]:Heap) (rowAt ([⟨g,9,(List.map Card.row l),none⟩]:Heap) 0 g p)=some ((AV.agg (Card.row (nth l p))),([⟨g,9,(List.map Card.row l),none⟩]:Heap))) (.io 7 0 g 9 9 0 n ((((lo+hi) / 2):Nat):Int) ((lo+hi) / 2) (IdxOsl.mk _ ow ow) (.t 8 (AV.agg (Card.row (nth l ((lo+hi) / 2)))) ([⟨g,9,(List.map Card.row l),none⟩]:Heap) (load_row (rowAt_map (row:=Card.row) (l:=l) (k:=9) (room:=none) kr om) kr:LoadTo tt 39 0 ([⟨g,9,(List.map Card.row l),none⟩]:Heap) (rowAt ([⟨g,9,(List.map Card.row l),none⟩]:Heap) 0 g ((lo+hi) / 2))=some ((AV.agg (Card.row (nth l ((lo+hi) / 2)))),([⟨g,9,(List.map Card.row l),none⟩]:Heap))) (.c 9 (hc (nth l p) (nth l ((lo+hi) / 2)) ([⟨g,9,(List.map Card.row l),none⟩]:Heap)) (.g (.two (!(decide ((cmp (nth l p) (nth l ((lo+hi) / 2))) < 0))) (fun h2 h2'=>(.r (.y 1 (.int .i64 (IntKind.i64.wrap (((((lo+hi) / 2):Nat):Int)+1))) (AV.int .i64 ((((lo+hi) / 2)+1:Nat):Int)) (Yes.add ow ow ow) (.g (.l (k1 h1 h2)))))) (fun h2 h2'=>(.r (.g (.l (k2 h1 h2)))))))))))))))))) (fun h1 h1'=>(.l (k3 h1))))))
theorem sCb_loop (cmp:Card→Card→Int) (f:Nat) (xs:List AV) (hc:∀ (x y:Card) (H:Heap),ACalls Try.prog f ([AV.agg (Card.row x),AV.agg (Card.row y)]++xs) H (AV.int .i64 (cmp x y),H)) (p n g:Nat) (l:List Card) (hn:n=l.length) (hnb:n < 1048576) (ha:p < n) (r:Nat):∀ (lo hi:Nat),hi - lo≤r→lo≤hi→hi≤n →
 LoopTo (codeQ Try.prog (X sC_ann) (loopOf Try.f96 2)) (some [0,2,4,14,15]) (some [0,2,14]) (mkF 220 [(0,(.osl 0 g 9 0 n)),(2,(.int .i64 ((p:Nat):Int))),(4,(.func f xs)),(14,(.int .i64 ((lo:Nat):Int))),(15,(.int .i64 ((hi:Nat):Int)))]) ([⟨g,9,(List.map Card.row l),none⟩]:Heap) (.exit 4) (mkF 220 [(0,(.osl 0 g 9 0 n)),(2,(.int .i64 ((p:Nat):Int))),(14,(.int .i64 (((bsr (fun c=>!decide (cmp (nth l p) (nth l c) < 0)) r lo hi):Nat):Int)))]) ([⟨g,9,(List.map Card.row l),none⟩]:Heap):=by
 induction r with
 | zero =>
  intro lo hi h1 h2 h3
  obtain rfl:lo=hi:=by omega
  refine sCb_step cmp f xs hc p n g l lo lo hn hnb ha h2 h3 (fun h _=>by simp at h) (fun h _=>by simp at h) (fun _=>?_)
  simp only [bsr]
 | succ r ih =>
  intro lo hi h1 h2 h3
  refine sCb_step cmp f xs hc p n g l lo hi hn hnb ha h2 h3 (fun h4 h5=>?_) (fun h4 h5=>?_) (fun h4=>?_)
  · have h4':lo < hi:=by simp at h4; omega
    simp only [bsr,if_pos h4']
    rw [if_pos (by simpa using h5)]
    exact ih ((lo+hi) / 2+1) hi ow ow ow
  · have h4':lo < hi:=by simp at h4; omega
    simp only [bsr,if_pos h4']
    rw [if_neg (by simpa using h5)]
    exact ih lo ((lo+hi) / 2) ow ow ow
  · have h4':¬ lo < hi:=by simp at h4; omega
    simp only [bsr,if_neg h4']
theorem sCc_step (cmp:Card→Card→Int) (f:Nat) (xs:List AV) (hc:∀ (x y:Card) (H:Heap),ACalls Try.prog f ([AV.agg (Card.row x),AV.agg (Card.row y)]++xs) H (AV.int .i64 (cmp x y),H)) (a p b mid nn q n g:Nat) (l:List Card) (lo hi:Nat) (hn:n=l.length) (hnb:n < 1048576) (hlh:lo≤hi) (hhi:hi≤n∧hi≤q+1∧q < n+lo) {eX:Ex} {FX:Fr} {HX:Heap} (k1:(decide (((lo:Nat):Int) < ((hi:Nat):Int)))=true→(!(decide ((cmp (nth l (q - ((lo+hi) / 2))) (nth l ((lo+hi) / 2))) < 0)))=true→LoopTo (codeQ Try.prog (X sC_ann) (loopOf Try.f96 4)) (some [0,1,2,3,4,18,19,20,21,22]) (some [0,1,2,3,4,18,19,20]) (mkF 220 [(0,(.osl 0 g 9 0 n)),(1,(.int .i64 ((a:Nat):Int))),(2,(.int .i64 ((p:Nat):Int))),(3,(.int .i64 ((b:Nat):Int))),(4,(.func f xs)),(18,(.int .i64 ((mid:Nat):Int))),(19,(.int .i64 ((nn:Nat):Int))),(20,(.int .i64 ((((lo+hi) / 2)+1:Nat):Int))),(21,(.int .i64 ((hi:Nat):Int))),(22,(.int .i64 ((q:Nat):Int)))]) ([⟨g,9,(List.map Card.row l),none⟩]:Heap) eX FX HX) (k2:(decide (((lo:Nat):Int) < ((hi:Nat):Int)))=true→(!(decide ((cmp (nth l (q - ((lo+hi) / 2))) (nth l ((lo+hi) / 2))) < 0)))=false→LoopTo (codeQ Try.prog (X sC_ann) (loopOf Try.f96 4)) (some [0,1,2,3,4,18,19,20,21,22]) (some [0,1,2,3,4,18,19,20]) (mkF 220 [(0,(.osl 0 g 9 0 n)),(1,(.int .i64 ((a:Nat):Int))),(2,(.int .i64 ((p:Nat):Int))),(3,(.int .i64 ((b:Nat):Int))),(4,(.func f xs)),(18,(.int .i64 ((mid:Nat):Int))),(19,(.int .i64 ((nn:Nat):Int))),(20,(.int .i64 ((lo:Nat):Int))),(21,(.int .i64 ((((lo+hi) / 2):Nat):Int))),(22,(.int .i64 ((q:Nat):Int)))]) ([⟨g,9,(List.map Card.row l),none⟩]:Heap) eX FX HX) (k3:(decide (((lo:Nat):Int) < ((hi:Nat):Int)))=false→((.exit 8:Ex),(mkF 220 [(0,(.osl 0 g 9 0 n)),(1,(.int .i64 ((a:Nat):Int))),(2,(.int .i64 ((p:Nat):Int))),(3,(.int .i64 ((b:Nat):Int))),(4,(.func f xs)),(18,(.int .i64 ((mid:Nat):Int))),(19,(.int .i64 ((nn:Nat):Int))),(20,(.int .i64 ((lo:Nat):Int)))]),([⟨g,9,(List.map Card.row l),none⟩]:Heap))=(eX,FX,HX)):LoopTo (codeQ Try.prog (X sC_ann) (loopOf Try.f96 4)) (some [0,1,2,3,4,18,19,20,21,22]) (some [0,1,2,3,4,18,19,20]) (mkF 220 [(0,(.osl 0 g 9 0 n)),(1,(.int .i64 ((a:Nat):Int))),(2,(.int .i64 ((p:Nat):Int))),(3,(.int .i64 ((b:Nat):Int))),(4,(.func f xs)),(18,(.int .i64 ((mid:Nat):Int))),(19,(.int .i64 ((nn:Nat):Int))),(20,(.int .i64 ((lo:Nat):Int))),(21,(.int .i64 ((hi:Nat):Int))),(22,(.int .i64 ((q:Nat):Int)))]) ([⟨g,9,(List.map Card.row l),none⟩]:Heap) eX FX HX :=
 stepO (.r (.g (.two (decide (((lo:Nat):Int) < ((hi:Nat):Int))) (fun h1 h1'=>(.r (.y 2 (.int .i64 (IntKind.i64.wrap (((lo:Nat):Int)+((hi:Nat):Int)))) (AV.int .i64 ((lo+hi:Nat):Int)) (Yes.add ow ow ow) (.y 5 (AV.int .i64 (IntKind.i64.wrap (Int.fdiv (IntKind.u64.wrap ((lo+hi:Nat):Int)) (2 ^ (min (Int.toNat 1) 64))))) (AV.int .i64 ((((lo+hi) / 2):Nat):Int)) (Yes.int (half_nat ow (rfl))) (.g (.r (.y 4 (.int .i64 (IntKind.i64.wrap (((q:Nat):Int) - ((((lo+hi) / 2):Nat):Int)))) (AV.int .i64 ((q - ((lo+hi) / 2):Nat):Int)) (Yes.add ow ow ow) (.io 5 0 g 9 9 0 n ((q - ((lo+hi) / 2):Nat):Int) (q - ((lo+hi) / 2)) (IdxOsl.mk _ ow ow) (.t 6 (AV.agg (Card.row (nth l (q - ((lo+hi) / 2))))) ([⟨g,9,(List.map Card.row l),none⟩]:Heap) (load_row (rowAt_map (row:=Card.row) (l:=l) (k:=9) (room:=none) kr om) kr:LoadTo tt 39 0 ([⟨g,9,(List.map Card.row l),none⟩]:Heap) (rowAt ([⟨g,9,(List.map Card.row l),none⟩]:Heap) 0 g (q - ((lo+hi) / 2)))=some ((AV.agg (Card.row (nth l (q - ((lo+hi) / 2))))),([⟨g,9,(List.map Card.row l),none⟩]:Heap))) (.io 9 0 g 9 9 0 n ((((lo+hi) / 2):Nat):Int) ((lo+hi) / 2) (IdxOsl.mk _ ow ow) (.t 10 (AV.agg (Card.row (nth l ((lo+hi) / 2)))) ([⟨g,9,(List.map Card.row l),none⟩]:Heap) (load_row (rowAt_map (row:=Card.row) (l:=l) (k:=9) (room:=none) kr om) kr:LoadTo tt 39 0 ([⟨g,9,(List.map Card.row l),none⟩]:Heap) (rowAt ([⟨g,9,(List.map Card.row l),none⟩]:Heap) 0 g ((lo+hi) / 2))=some ((AV.agg (Card.row (nth l ((lo+hi) / 2)))),([⟨g,9,(List.map Card.row l),none⟩]:Heap))) (.c 11 (hc (nth l (q - ((lo+hi) / 2))) (nth l ((lo+hi) / 2)) ([⟨g,9,(List.map Card.row l),none⟩]:Heap)) (.g (.two (!(decide ((cmp (nth l (q - ((lo+hi) / 2))) (nth l ((lo+hi) / 2))) < 0))) (fun h2 h2'=>(.r (.y 1 (.int .i64 (IntKind.i64.wrap (((((lo+hi) / 2):Nat):Int)+1))) (AV.int .i64 ((((lo+hi) / 2)+1:Nat):Int)) (Yes.add ow ow ow) (.g (.l (k1 h1 h2)))))) (fun h2 h2'=>(.r (.g (.l (k2 h1 h2))))))))))))))))))) (fun h1 h1'=>(.l (k3 h1))))))
theorem sCc_loop (cmp:Card→Card→Int) (f:Nat) (xs:List AV) (hc:∀ (x y:Card) (H:Heap),ACalls Try.prog f ([AV.agg (Card.row x),AV.agg (Card.row y)]++xs) H (AV.int .i64 (cmp x y),H)) (a p b mid nn q n g:Nat) (l:List Card) (hn:n=l.length) (hnb:n < 1048576) (r:Nat):∀ (lo hi:Nat),hi - lo≤r→lo≤hi→hi≤n∧hi≤q+1∧q < n+lo →
 LoopTo (codeQ Try.prog (X sC_ann) (loopOf Try.f96 4)) (some [0,1,2,3,4,18,19,20,21,22]) (some [0,1,2,3,4,18,19,20]) (mkF 220 [(0,(.osl 0 g 9 0 n)),(1,(.int .i64 ((a:Nat):Int))),(2,(.int .i64 ((p:Nat):Int))),(3,(.int .i64 ((b:Nat):Int))),(4,(.func f xs)),(18,(.int .i64 ((mid:Nat):Int))),(19,(.int .i64 ((nn:Nat):Int))),(20,(.int .i64 ((lo:Nat):Int))),(21,(.int .i64 ((hi:Nat):Int))),(22,(.int .i64 ((q:Nat):Int)))]) ([⟨g,9,(List.map Card.row l),none⟩]:Heap) (.exit 8) (mkF 220 [(0,(.osl 0 g 9 0 n)),(1,(.int .i64 ((a:Nat):Int))),(2,(.int .i64 ((p:Nat):Int))),(3,(.int .i64 ((b:Nat):Int))),(4,(.func f xs)),(18,(.int .i64 ((mid:Nat):Int))),(19,(.int .i64 ((nn:Nat):Int))),(20,(.int .i64 (((bsr (fun c=>!decide (cmp (nth l (q - c)) (nth l c) < 0)) r lo hi):Nat):Int)))]) ([⟨g,9,(List.map Card.row l),none⟩]:Heap):=by
 induction r with
 | zero =>
  intro lo hi h1 h2 h3
  obtain rfl:lo=hi:=by omega
  refine sCc_step cmp f xs hc a p b mid nn q n g l lo lo hn hnb h2 h3 (fun h _=>by simp at h) (fun h _=>by simp at h) (fun _=>?_)
  simp only [bsr]
 | succ r ih =>
  intro lo hi h1 h2 h3
  refine sCc_step cmp f xs hc a p b mid nn q n g l lo hi hn hnb h2 h3 (fun h4 h5=>?_) (fun h4 h5=>?_) (fun h4=>?_)
  · have h4':lo < hi:=by simp at h4; omega
    simp only [bsr,if_pos h4']
    rw [if_pos (by simpa using h5)]
    exact ih ((lo+hi) / 2+1) hi ow ow ow
  · have h4':lo < hi:=by simp at h4; omega
    simp only [bsr,if_pos h4']
    rw [if_neg (by simpa using h5)]
    exact ih lo ((lo+hi) / 2) ow ow ow
  · have h4':¬ lo < hi:=by simp at h4; omega
    simp only [bsr,if_neg h4']
@[simp] abbrev Vic_7 (v1_:Nat) (v2_:List Card) (v3_:Nat):Heap:=[⟨v1_,9,(List.map Card.row ((v2_.set v3_ (nth v2_ (v3_+1))).set (v3_+1) (nth v2_ v3_))),none⟩]
@[simp] abbrev Vic_8 (v1_:Nat) (v2_:Nat) (v3_:Nat) (v4_:Nat):Fr:=(mkF 220 [(0,(AV.osl 0 v1_ 9 0 v2_)),(10,(AV.int .i64 ((v3_:Nat):Int))),(13,(AV.int .i64 ((v4_:Nat):Int)))])
theorem sCu_step (i:Nat) (n:Nat) (g:Nat) (l:List Card) (kk:Nat) (hi1:1≤i) (hin:i≤n) (hnb:n < 1048576) (hn:n=l.length) (hle_:kk≤(i - 1)) {eX:Ex} {FX:Fr} {HX:Heap} (k1:(decide (((kk:Nat):Int) < ((i - 1:Nat):Int)))=true→LoopTo (codeQ Try.prog (X sC_ann) (loopOf Try.f96 1)) (some [0,10,13]) (some [0,10,13]) (mkF 220 [(0,(.osl 0 g 9 0 n)),(10,(.int .i64 ((i:Nat):Int))),(13,(.int .i64 ((kk+1:Nat):Int)))]) (Vic_7 g l kk) eX FX HX) (k2:(decide (((kk:Nat):Int) < ((i - 1:Nat):Int)))=false→((.exit 2:Ex),(Vic_8 g n i kk),([⟨g,9,(List.map Card.row l),none⟩]:Heap))=(eX,FX,HX)):LoopTo (codeQ Try.prog (X sC_ann) (loopOf Try.f96 1)) (some [0,10,13]) (some [0,10,13]) (Vic_8 g n i kk) ([⟨g,9,(List.map Card.row l),none⟩]:Heap) eX FX HX :=
 stepO (.r (.y 2 (.int .i64 (IntKind.i64.wrap (((i:Nat):Int) - 1))) (AV.int .i64 ((i - 1:Nat):Int)) (Yes.add ow ow ow) (.g (.two (decide (((kk:Nat):Int) < ((i - 1:Nat):Int))) (fun h1 h1'=>(.r (.y 4 (.int .i64 (IntKind.i64.wrap (((kk:Nat):Int)+1))) (AV.int .i64 ((kk+1:Nat):Int)) (Yes.add ow ow ow) (.y 7 (.int .i64 (IntKind.i64.wrap (((kk:Nat):Int)+1))) (AV.int .i64 ((kk+1:Nat):Int)) (Yes.add ow ow ow) (.io 8 0 g 9 9 0 n ((kk+1:Nat):Int) (kk+1) (IdxOsl.mk _ ow ow) (.t 9 (AV.agg (Card.row (nth l (kk+1)))) ([⟨g,9,(List.map Card.row l),none⟩]:Heap) (load_row (rowAt_map (row:=Card.row) (l:=l) (k:=9) (room:=none) kr om) kr:LoadTo tt 39 0 ([⟨g,9,(List.map Card.row l),none⟩]:Heap) (rowAt ([⟨g,9,(List.map Card.row l),none⟩]:Heap) 0 g (kk+1))=some ((AV.agg (Card.row (nth l (kk+1)))),([⟨g,9,(List.map Card.row l),none⟩]:Heap))) (.io 12 0 g 9 9 0 n ((kk:Nat):Int) kk (IdxOsl.mk _ ow ow) (.t 13 (AV.agg (Card.row (nth l kk))) ([⟨g,9,(List.map Card.row l),none⟩]:Heap) (load_row (rowAt_map (row:=Card.row) (l:=l) (k:=9) (room:=none) kr om) kr:LoadTo tt 39 0 ([⟨g,9,(List.map Card.row l),none⟩]:Heap) (rowAt ([⟨g,9,(List.map Card.row l),none⟩]:Heap) 0 g kk)=some ((AV.agg (Card.row (nth l kk))),([⟨g,9,(List.map Card.row l),none⟩]:Heap))) (.io 14 0 g 9 9 0 n ((kk:Nat):Int) kk (IdxOsl.mk _ ow ow) (.st 15 0 g kk 9 0 (AV.agg (Card.row (nth l (kk+1)))) ([⟨g,9,(List.map Card.row (l.set kk (nth l (kk+1)))),none⟩]:Heap) (store_row (us:=(Card.row (nth l (kk+1)))) (rowAt_map (row:=Card.row) (l:=l) (k:=9) (room:=none) kr om) kr (by simp [Card.row]) (by simp [setAt,fillAt,List.map_set,Card.row])) (.io 16 0 g 9 9 0 n ((kk+1:Nat):Int) (kk+1) (IdxOsl.mk _ ow ow) (.st 17 0 g (kk+1) 9 0 (AV.agg (Card.row (nth l kk))) (Vic_7 g l kk) (store_row (us:=(Card.row (nth l kk))) (rowAt_map (row:=Card.row) (l:=l.set kk (nth l (kk+1))) (k:=9) (room:=none) kr om) kr (by simp [Card.row]) (by simp [setAt,fillAt,List.map_set,Card.row])) (.g (.r (.y 1 (.int .i64 (IntKind.i64.wrap (((kk:Nat):Int)+1))) (AV.int .i64 ((kk+1:Nat):Int)) (Yes.add ow ow ow) (.g (.l (k1 h1)))))))))))))))))) (fun h1 h1'=>(.l (k2 h1)))))))
def sCu_f (i:Nat) (n:Nat) (g:Nat) (kk:Nat) (s:(List Card)):(List Card):=((s.set kk (nth s (kk+1))).set (kk+1) (nth s kk))
theorem sCu_loop (i:Nat) (n:Nat) (g:Nat) (hi1:1≤i) (hin:i≤n) (hnb:n < 1048576)  (r_:Nat):∀ (l:List Card) (kk:Nat) (sF:(List Card)),kk+r_=(i - 1)→n=l.length→sF=iter (sCu_f i n g) r_ kk (l) →
 LoopTo (codeQ Try.prog (X sC_ann) (loopOf Try.f96 1)) (some [0,10,13]) (some [0,10,13]) (Vic_8 g n i kk) ([⟨g,9,(List.map Card.row l),none⟩]:Heap) (.exit 2) (mkF 220 [(0,(.osl 0 g 9 0 n)),(10,(.int .i64 ((i:Nat):Int))),(13,(.int .i64 (((i - 1):Nat):Int)))]) ([⟨g,9,(List.map Card.row sF),none⟩]:Heap):=by
 induction r_ with
 | zero =>
  intro l kk sF hi_ hn  hF
  obtain rfl:(i - 1)=kk:=by omega
  have e_:sF=(l):=hF
  refine sCu_step i n g l (i - 1) hi1 hin hnb hn (Nat.le_refl _) (fun h=>by simp at h <;> omega) (fun _=>?_)
  first | done | rfl | (rw [e_]; done) | (rw [e_]; rfl)
 | succ r_ ih =>
  intro l kk sF hi_ hn  hF
  refine sCu_step i n g l kk hi1 hin hnb hn ow (fun h1=>?_) (fun h=>by simp at h <;> omega)
  · exact ih ((l.set kk (nth l (kk+1))).set (kk+1) (nth l kk)) (kk+1) sF ow (by first | omega | assumption | (simp; done) | (simp; omega) | (simp [*]; done) | (simp [*]; omega))  (by rw [hF] <;> simp only [iter,sCu_f,if_true,Bool.false_eq_true,if_false])
theorem sCu_iter (i n g r k:Nat) (l:List Card):shU r k l=iter (sCu_f i n g) r k l:=rfl
@[simp] abbrev Vic_9 (v1_:Nat) (v2_:List Card) (v3_:Nat):Heap:=[⟨v1_,9,(List.map Card.row ((v2_.set v3_ (nth v2_ (v3_ - 1))).set (v3_ - 1) (nth v2_ v3_))),none⟩]
@[simp] abbrev Vic_10 (v1_:Nat) (v2_:Nat) (v3_:Nat) (v4_:Nat):Fr:=(mkF 220 [(0,(AV.osl 0 v1_ 9 0 v2_)),(14,(AV.int .i64 ((v3_:Nat):Int))),(17,(AV.int .i64 ((v4_:Nat):Int)))])
theorem sCd_step (i kk n g:Nat) (l:List Card) (hn:n=l.length) (hnb:n < 1048576) (hk:kk < n) {eX:Ex} {FX:Fr} {HX:Heap} (k1:(decide (((kk:Nat):Int) > ((i:Nat):Int)))=true→LoopTo (codeQ Try.prog (X sC_ann) (loopOf Try.f96 3)) (some [0,14,17]) (some [0,14,17]) (mkF 220 [(0,(.osl 0 g 9 0 n)),(14,(.int .i64 ((i:Nat):Int))),(17,(.int .i64 ((kk - 1:Nat):Int)))]) (Vic_9 g l kk) eX FX HX) (k2:(decide (((kk:Nat):Int) > ((i:Nat):Int)))=false→((.exit 6:Ex),(Vic_10 g n i kk),([⟨g,9,(List.map Card.row l),none⟩]:Heap))=(eX,FX,HX)):LoopTo (codeQ Try.prog (X sC_ann) (loopOf Try.f96 3)) (some [0,14,17]) (some [0,14,17]) (Vic_10 g n i kk) ([⟨g,9,(List.map Card.row l),none⟩]:Heap) eX FX HX :=
 stepO (.r (.g (.two (decide (((kk:Nat):Int) > ((i:Nat):Int))) (fun h1 h1'=>(.r (.y 4 (.int .i64 (IntKind.i64.wrap (((kk:Nat):Int) - 1))) (AV.int .i64 ((kk - 1:Nat):Int)) (Yes.add ow ow ow) (.y 7 (.int .i64 (IntKind.i64.wrap (((kk:Nat):Int) - 1))) (AV.int .i64 ((kk - 1:Nat):Int)) (Yes.add ow ow ow) (.io 8 0 g 9 9 0 n ((kk - 1:Nat):Int) (kk - 1) (IdxOsl.mk _ ow ow) (.t 9 (AV.agg (Card.row (nth l (kk - 1)))) ([⟨g,9,(List.map Card.row l),none⟩]:Heap) (load_row (rowAt_map (row:=Card.row) (l:=l) (k:=9) (room:=none) kr om) kr:LoadTo tt 39 0 ([⟨g,9,(List.map Card.row l),none⟩]:Heap) (rowAt ([⟨g,9,(List.map Card.row l),none⟩]:Heap) 0 g (kk - 1))=some ((AV.agg (Card.row (nth l (kk - 1)))),([⟨g,9,(List.map Card.row l),none⟩]:Heap))) (.io 12 0 g 9 9 0 n ((kk:Nat):Int) kk (IdxOsl.mk _ ow ow) (.t 13 (AV.agg (Card.row (nth l kk))) ([⟨g,9,(List.map Card.row l),none⟩]:Heap) (load_row (rowAt_map (row:=Card.row) (l:=l) (k:=9) (room:=none) kr om) kr:LoadTo tt 39 0 ([⟨g,9,(List.map Card.row l),none⟩]:Heap) (rowAt ([⟨g,9,(List.map Card.row l),none⟩]:Heap) 0 g kk)=some ((AV.agg (Card.row (nth l kk))),([⟨g,9,(List.map Card.row l),none⟩]:Heap))) (.io 14 0 g 9 9 0 n ((kk:Nat):Int) kk (IdxOsl.mk _ ow ow) (.st 15 0 g kk 9 0 (AV.agg (Card.row (nth l (kk - 1)))) ([⟨g,9,(List.map Card.row (l.set kk (nth l (kk - 1)))),none⟩]:Heap) (store_row (us:=(Card.row (nth l (kk - 1)))) (rowAt_map (row:=Card.row) (l:=l) (k:=9) (room:=none) kr om) kr (by simp [Card.row]) (by simp [setAt,fillAt,List.map_set,Card.row])) (.io 16 0 g 9 9 0 n ((kk - 1:Nat):Int) (kk - 1) (IdxOsl.mk _ ow ow) (.st 17 0 g (kk - 1) 9 0 (AV.agg (Card.row (nth l kk))) (Vic_9 g l kk) (store_row (us:=(Card.row (nth l kk))) (rowAt_map (row:=Card.row) (l:=l.set kk (nth l (kk - 1))) (k:=9) (room:=none) kr om) kr (by simp [Card.row]) (by simp [setAt,fillAt,List.map_set,Card.row])) (.g (.r (.y 1 (.int .i64 (IntKind.i64.wrap (((kk:Nat):Int) - 1))) (AV.int .i64 ((kk - 1:Nat):Int)) (Yes.add ow ow ow) (.g (.l (k1 h1)))))))))))))))))) (fun h1 h1'=>(.l (k2 h1))))))
theorem sCd_loop (i n g:Nat) (hnb:n < 1048576) (r:Nat):∀ (kk:Nat) (l:List Card),kk=i+r→n=l.length→kk < n →
 LoopTo (codeQ Try.prog (X sC_ann) (loopOf Try.f96 3)) (some [0,14,17]) (some [0,14,17]) (mkF 220 [(0,(.osl 0 g 9 0 n)),(14,(.int .i64 ((i:Nat):Int))),(17,(.int .i64 ((kk:Nat):Int)))]) ([⟨g,9,(List.map Card.row l),none⟩]:Heap) (.exit 6) (mkF 220 [(0,(.osl 0 g 9 0 n)),(14,(.int .i64 ((i:Nat):Int))),(17,(.int .i64 ((i:Nat):Int)))]) ([⟨g,9,(List.map Card.row (shD r kk l)),none⟩]:Heap):=by
 induction r with
 | zero =>
  intro kk l h1 hn hk
  obtain rfl:kk=i:=by omega
  exact sCd_step kk kk n g l hn hnb hk (fun h=>by simp at h) (fun _=>rfl)
 | succ r ih =>
  intro kk l h1 hn hk
  refine sCd_step i kk n g l hn hnb hk (fun _=>?_) (fun h=>by simp at h; omega)
  simp only [shD]
  exact ih (kk - 1) _ ow (by simpa using hn) ow
end Go.Proofs.Ytfjedpipdnlkfaa.AM
