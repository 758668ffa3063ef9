/-
  Texts of this claim, part 3 of 7: an abstract machine over the model; what functions come to; plain laws.
-/
import Derived.Test.YteajpacajikaaaaMAgentBeats2
import Derived.Test.YteajpacajikaaaaChecked
import Derived.Laws.Externs
set_option linter.unusedVariables false
set_option linter.unusedSimpArgs false
namespace Go.Proofs.Yteajpacajikaaaa.AM
open Go
section
variable {P : Program} {f : FuncId} {args args' : List AV} {a a' : AV} {H H' : Heap}
theorem ACalls.pre (h : ACalls P f args H (a, H')) (hw : AV.wks args' args) : ACalls P f args' H (a, H') := by
  intro G w C vs hsz hargs hH
  obtain ⟨h1, h2⟩ := AV.wks_get hw
  exact h G w C vs (by omega) (fun i hi => (hargs i (by omega)).wk (h2 i (by omega))) hH
theorem ACalls.post (h : ACalls P f args H (a, H')) (hw : AV.wk a a') : ACalls P f args H (a', H') := by
  intro G w C vs hsz hargs hH
  exact (h G w C vs hsz hargs hH).mono fun v w' ⟨G', C', h1, h2, h3, h4⟩ => ⟨G', C', h1, h2, h3.wk hw, h4⟩
end
def mkF (n : Nat) (l : List (Nat × AV)) : Fr := (List.range n).map fun i => assoc i l
def loopsOf : Code → List Code
  | .seq a b => loopsOf a ++ loopsOf b
  | .cond _ a b => loopsOf a ++ loopsOf b
  | .block _ c => loopsOf c
  | .loop c => c :: loopsOf c
  | _ => []
def loopOf (fn : Func) (i : Nat) : Code := ((fn.body.map loopsOf).getD []).getD i .skip
abbrev Yes (a : AV) (H : Heap) (b : AV) : Prop := some (a, H) = some (b, H)
theorem i64_id {n : Int} (h1 : -9223372036854775808 ≤ n) (h2 : n ≤ 9223372036854775807) : IntKind.i64.wrap n = n := by
  simp only [IntKind.wrap, IntKind.bits, IntKind.signed]
  simp
  split <;> omega
theorem Yes.int {k : IntKind} {m n : Int} {H : Heap} (h : m = n) : Yes (.int k m) H (.int k n) := by rw [h]
theorem Yes.add {m n : Int} {H : Heap} (h1 : -9223372036854775808 ≤ n) (h2 : n ≤ 9223372036854775807) (h : m = n) : Yes (.int .i64 (IntKind.i64.wrap m)) H (.int .i64 n) := by rw [h, i64_id h1 h2]
theorem Yes.bool {b c : Bool} {H : Heap} (h : b = c) : Yes (.bool b) H (.bool c) := by rw [h]
theorem Yes.len {α : Type} (l : List α) (row : α → List AV) (H : Heap) : Yes (.int .i64 ((l.map row).length : Nat)) H (.int .i64 (l.length : Nat)) := by simp
def nth {α : Type} [Inhabited α] (l : List α) (i : Nat) : α := l.getD i default
theorem nth_eq {α : Type} [Inhabited α] {l : List α} {i : Nat} {x : α} (h : l[i]? = some x) : nth l i = x := by simp [nth, List.getD_eq_getElem?_getD, h]
theorem nth_get {α : Type} [Inhabited α] {l : List α} {i : Nat} (h : i < l.length) : l[i]? = some (nth l i) := by simp [nth, List.getD_eq_getElem?_getD, List.getElem?_eq_getElem h]
abbrev IdxSl (k k' : Nat) (rows : List (List AV)) (i : Int) (H : Heap) (cs : List AV) : Prop := Option.map (fun a => (a, H)) (if 0 ≤ i ∧ k = k' then (rows[i.toNat]?).map fun cs => AV.ref cs 0 else none) = some (.ref cs 0, H)
theorem IdxSl.mk {α : Type} [Inhabited α] {l : List α} {row : α → List AV} {k : Nat} {i : Int} {j : Nat} (H : Heap) (hi : i = (j : Int)) (hj : j < l.length) : IdxSl k k (l.map row) i H (row (nth l j)) := by
  subst hi
  simp [IdxSl, nth_get hj]
abbrev IdxOsl (id g k k' e0 n : Nat) (i : Int) (H : Heap) (j : Nat) : Prop := Option.map (fun a => (a, H)) (if 0 ≤ i ∧ i < (n : Int) ∧ k = k' then some (AV.obj id g (e0 + i.toNat) 0) else none) = some (.obj id g j 0, H)
theorem IdxOsl.mk {id g k n : Nat} {i : Int} {j : Nat} (H : Heap) (hi : i = (j : Int)) (hj : j < n) : IdxOsl id g k k 0 n i H j := by
  subst hi
  have : (j : Int) < (n : Int) := by omega
  simp [IdxOsl, this]
theorem nth_append_len {α : Type} [Inhabited α] (l : List α) (x : α) (m : List α) : nth (l ++ x :: m) l.length = x := by simp [nth, List.getD_eq_getElem?_getD]
theorem evAppend_one {T : TT} {H H' : Heap} {t e : TypeId} {te : TI} {α : Type} {row : α → List AV} {id g k n n' : Nat} {l : List α} {x : α} {z : Nat} {b : Nat} {y : List AV}
    (ht : T t = some { d := .slice e, size := z, bytes := b, zero := y }) (hte : T e = some te) (hsz : te.size = k) (hk : 0 < k) (hb : 0 < te.bytes)
    (ho : H[id]? = some ⟨g, k, l.map row, none⟩) (hn : n = l.length) (hn' : n' = n + 1) (hH' : H' = H.set id ⟨g + 1, k, (l ++ [x]).map row, none⟩) (hlen : (n + 1) * te.bytes ≤ 140737488355328) :
    evAppend T H t (.osl id g k 0 n) (.sl .clip k [row x]) = some (.osl id (g + 1) k 0 n', H') := by
  subst hn hn' hH' hsz
  simp only [evAppend, ht, hte, rowsIn, true_or, if_true]
  simp only [ho, hk, and_self, if_true, List.length_map, Nat.zero_add]
  simp [most, hlen, hb]
theorem evAppendO_fresh {T : TT} {H H' : Heap} {t e : TypeId} {te : TI} {α : Type} {row : α → List AV} {g : Tg} {id k k0 n : Nat} {l : List α} {x : AV} {z : Nat} {b : Nat} {y : List AV}
    (ht : T t = some { d := .slice e, size := z, bytes := b, zero := y }) (hte : T e = some te) (hsz : te.size = k) (hk : 0 < k) (hb : 0 < te.bytes) (hg : g = .nil ∨ g = .clip ∨ g = .cn)
    (hx : rowsIn H k x = some (l.map row)) (hn : n = l.length) (hid : id = H.length) (hH' : H' = H ++ [⟨0, k, l.map row, none⟩]) (hlen : l.length * te.bytes ≤ 140737488355328) :
    evAppendO T H t (.sl g k0 []) x = some (.osl id 0 k 0 n, H') := by
  subst hn hid hH' hsz
  simp only [evAppendO, ht, hte, hx]
  rcases hg with rfl | rfl | rfl <;> simp [most, hlen, hb, hk]
theorem evAppendO_end {T : TT} {H H' : Heap} {t e : TypeId} {te : TI} {α : Type} {row : α → List AV} {id g k n n' : Nat} {l m : List α} {x : AV} {z : Nat} {b : Nat} {y : List AV}
    (ht : T t = some { d := .slice e, size := z, bytes := b, zero := y }) (hte : T e = some te) (hsz : te.size = k) (hk : 0 < k) (hb : 0 < te.bytes)
    (ho : H[id]? = some ⟨g, k, l.map row, none⟩) (hx : rowsIn H k x = some (m.map row)) (hn : n = l.length) (hn' : n' = n + m.length) (hH' : H' = H.set id ⟨g + 1, k, (l ++ m).map row, none⟩) (hlen : (n + m.length) * te.bytes ≤ 140737488355328) :
    evAppendO T H t (.osl id g k 0 n) x = some (.osl id (g + 1) k 0 n', H') := by
  subst hn hn' hH' hsz
  simp only [evAppendO, ht, hte, hx, ho]
  simp [most, hlen, hb, hk]
theorem rowsIn_all {α : Type} {row : α → List AV} {H : Heap} {id g k n : Nat} {l : List α} {room : Option Nat} (ho : H[id]? = some ⟨g, k, l.map row, room⟩) (hn : n = l.length) : rowsIn H k (.osl id g k 0 n) = some (l.map row) := by
  subst hn
  simp [rowsIn, ho, List.take_of_length_le]
def maskN (x : Int) (m : Nat) : Nat := (BitVec.ofInt 64 x &&& BitVec.ofInt 64 m).toNat
theorem maskN_le (x : Int) (m : Nat) (h : m < 4611686018427387904) : maskN x m ≤ m := by
  unfold maskN
  rw [BitVec.toNat_and]
  have h1 : (BitVec.ofInt 64 (m : Int)).toNat = m := by
    simp [BitVec.toNat_ofInt]
    omega
  rw [h1]
  exact Nat.and_le_right
theorem Yes.mask {x : Int} {m : Nat} {H : Heap} (h : m < 4611686018427387904) : Yes (.int .i64 (IntKind.i64.wrap ((BitVec.ofInt 64 x &&& BitVec.ofInt 64 (m : Int)).toNat))) H (.int .i64 ((maskN x m : Nat) : Int)) := by
  have h1 := maskN_le x m h
  rw [i64_id]
  · rfl
  · omega
  · have : (BitVec.ofInt 64 x &&& BitVec.ofInt 64 (m : Int)).toNat ≤ m := h1
    omega
def iter {σ : Type} (f : Nat → σ → σ) : Nat → Nat → σ → σ
  | 0, _, s => s
  | r + 1, i, s => iter f r (i + 1) (f i s)
theorem iter_step {σ : Type} (f : Nat → σ → σ) (r : Nat) : ∀ (i : Nat) (s : σ), iter f (r + 1) i s = f (i + r) (iter f r i s) := by
  induction r with
  | zero => intro i s; rfl
  | succ r ih =>
    intro i s
    show iter f (r + 1) (i + 1) (f i s) = _
    rw [ih (i + 1) (f i s), Nat.add_assoc, Nat.add_comm 1 r]
    rfl
theorem iter_succ {σ : Type} (f : Nat → σ → σ) (r : Nat) (s : σ) : iter f (r + 1) 0 s = f r (iter f r 0 s) := by
  rw [iter_step, Nat.zero_add]
theorem iter_foldl {α σ : Type} [Inhabited α] (f : Nat → σ → σ) (g : σ → α → σ) (l : List α) (h : ∀ i s, i < l.length → f i s = g s (nth l i)) (r : Nat) : ∀ (i : Nat) (s : σ), i + r = l.length → iter f r i s = (l.drop i).foldl g s := by
  induction r with
  | zero =>
    intro i s hi
    rw [List.drop_of_length_le (by omega)]
    rfl
  | succ r ih =>
    intro i s hi
    have hd : l.drop i = nth l i :: l.drop (i + 1) := by
      rw [List.drop_eq_getElem_cons (by omega)]
      congr 1
      simp [nth, List.getD_eq_getElem?_getD, List.getElem?_eq_getElem (show i < l.length by omega)]
    rw [hd, List.foldl_cons, ← h i s (by omega)]
    exact ih (i + 1) (f i s) (by omega)
theorem iter_all {α σ : Type} [Inhabited α] (f : Nat → σ → σ) (g : σ → α → σ) (l : List α) (h : ∀ i s, i < l.length → f i s = g s (nth l i)) (s : σ) : iter f l.length 0 s = l.foldl g s := by
  simpa using iter_foldl f g l h l.length 0 s (by omega)
mutual
theorem ren_fix {τ : Nat → Nat} {b : Nat} (hτ : ∀ i, i < b → τ i = i) : ∀ (a : AV), AV.bdd b a = true → AV.ren τ a = a
  | .func _ xs, ha => by simp only [AV.bdd] at ha; simp only [AV.ren]; rw [rens_fix hτ xs ha]
  | .iface _ v, ha => by simp only [AV.bdd] at ha; simp only [AV.ren]; rw [ren_fix hτ v ha]
  | .agg cs, ha => by simp only [AV.bdd] at ha; simp only [AV.ren]; rw [rens_fix hτ cs ha]
  | .tup vs, ha => by simp only [AV.bdd] at ha; simp only [AV.ren]; rw [rens_fix hτ vs ha]
  | .obj id _ _ _, ha => by simp only [AV.bdd, decide_eq_true_eq] at ha; simp only [AV.ren]; rw [hτ _ ha]
  | .osl id _ _ _ _, ha => by simp only [AV.bdd, decide_eq_true_eq] at ha; simp only [AV.ren]; rw [hτ _ ha]
  | .skip, _ => rfl
  | .unk, _ => rfl
  | .bool _, _ => rfl
  | .int _ _, _ => rfl
  | .str _, _ => rfl
  | .nilp, _ => rfl
  | .nilf, _ => rfl
  | .nili, _ => rfl
  | .ref _ _, _ => rfl
  | .sl _ _ _, _ => rfl
theorem rens_fix {τ : Nat → Nat} {b : Nat} (hτ : ∀ i, i < b → τ i = i) : ∀ (as_ : List AV), AV.bdds b as_ = true → AV.rens τ as_ = as_
  | [], _ => rfl
  | a :: as_, ha => by
    simp only [AV.bdds, Bool.and_eq_true] at ha
    simp only [AV.rens]
    rw [ren_fix hτ a ha.1, rens_fix hτ as_ ha.2]
end
theorem renss_fix {τ : Nat → Nat} {b : Nat} (hτ : ∀ i, i < b → τ i = i) : ∀ (xs : List (List AV)), AV.bddss b xs = true → xs.map (AV.rens τ) = xs
  | [], _ => rfl
  | x :: xs, h => by
    simp only [AV.bddss, Bool.and_eq_true] at h
    rw [List.map_cons, rens_fix hτ x h.1, renss_fix hτ xs h.2]
theorem Ob.ren_fix {τ : Nat → Nat} {b : Nat} (hτ : ∀ i, i < b → τ i = i) (o : Ob) (h : AV.bddss b o.els = true) : o.ren τ = o := by
  obtain ⟨g, k, els, room⟩ := o
  simp only [Ob.ren]
  rw [renss_fix hτ els h]
theorem ACalls.ext {P : Program} {f : FuncId} {args : List AV} {a : AV} {Hs Hs' : Heap} (h : ACalls P f args Hs (a, Hs')) (hargs : AV.bdds Hs.length args = true) (ha : AV.bdd Hs.length a = true) (hbs : obsB Hs.length Hs = true) (hbs' : obsB Hs.length Hs' = true) (hlen : Hs'.length = Hs.length) (E : Heap) :
    ACalls P f args (Hs ++ E) (a, Hs' ++ E) := by
  have hτ : ∀ i, i < Hs.length → (fun i => if i < Hs.length then i else i + E.length) i = i := fun i hi => by simp [hi]
  have lt_of : ∀ {l : Heap} {i : Nat} {o : Ob}, l[i]? = some o → i < l.length := fun {l i o} ho => by
    rcases Nat.lt_or_ge i l.length with h' | h'
    · exact h'
    · rw [List.getElem?_eq_none h'] at ho; simp at ho
  have := h.frame (τ := fun i => if i < Hs.length then i else i + E.length) (Hb := Hs ++ E) (Hb' := Hs' ++ E)
    ⟨fun i hi => by simp [hi]; omega, fun i hi => by have : ¬ i < Hs.length := by omega
                                                     simp [this]; omega, fun i j hi hj e => by simpa [hi, hj] using e, fun i o ho => by
      have hi := lt_of ho
      simp only [hi, if_true]
      rw [List.getElem?_append_left hi, Ob.ren_fix hτ o (obsB_get hbs ho)]
      exact ho⟩ hargs (fun i o ho => obsB_get hbs ho) (by simp [hlen]) (fun i o ho => by
      have hi : i < Hs.length := by have := lt_of ho; omega
      simp only [hi, if_true]
      rw [List.getElem?_append_left (by omega), Ob.ren_fix hτ o (obsB_get hbs' ho)]
      exact ho) fun j hj hn => by
      have hj' : Hs.length ≤ j := by
        rcases Nat.lt_or_ge j Hs.length with h' | h'
        · exact absurd (hτ j h') (hn j h')
        · exact h'
      rw [List.getElem?_append_right (by omega), List.getElem?_append_right (by omega), hlen]
  rwa [rens_fix hτ args hargs, ren_fix hτ a ha] at this
theorem nth_map {α β : Type} [Inhabited α] {l : List α} (f : α → β) {i : Nat} (h : i < l.length) : (l.map f)[i]? = some (f (nth l i)) := by
  rw [List.getElem?_map, nth_get h]; rfl
def LoadTo (T : TT) (t : TypeId) (c : Nat) (H : Heap) (r : Option (List AV)) : Option (AV × Heap) :=
  match r with
  | some cs => Option.map (fun a => (a, H)) (AM.part T t cs c)
  | none => none
def StoreTo (H : Heap) (id e k c : Nat) (r u : Option (List AV)) : Option (AV × Heap) :=
  match r, u with
  | some cs, some us => if c + k ≤ cs.length then some (AV.skip, setAt H id e (fillAt cs c us)) else none
  | _, _ => none
theorem load_row {H : Heap} {t : TypeId} {T : TT} {c : Nat} {cs : List AV} {a : AV} {r : Option (List AV)} (h : r = some cs) (hp : AM.part T t cs c = some a) : LoadTo T t c H r = some (a, H) := by
  subst h
  simp [LoadTo, hp]
theorem store_row {H H' : Heap} {id e k c : Nat} {cs us : List AV} {r u : Option (List AV)} (h : r = some cs) (hu : u = some us) (hc : c + k ≤ cs.length) (hH : H' = setAt H id e (fillAt cs c us)) : StoreTo H id e k c r u = some (AV.skip, H') := by
  subst h hu hH
  simp [StoreTo, hc]
theorem rowAt_map {α : Type} [Inhabited α] {row : α → List AV} {H : Heap} {id g k e : Nat} {l : List α} {room : Option Nat} (hid : H[id]? = some ⟨g, k, l.map row, room⟩) (h : e < l.length) : rowAt H id g e = some (row (nth l e)) := by
  simp only [rowAt, hid, if_true]
  exact nth_map _ h
theorem Yes.rem {k : IntKind} {x y : Nat} {H : Heap} : Yes (.int k (Int.tmod (x : Int) (y : Int))) H (.int k ((x % y : Nat) : Int)) := by
  rw [Int.ofNat_tmod]
theorem rem_nat {k : IntKind} {x y : Nat} {H : Heap} (h : (y : Int) ≠ 0) : Option.map (fun a => (a, H)) (if (y : Int) = 0 then none else some (AV.int k (Int.tmod (x : Int) (y : Int)))) = some (.int k ((x % y : Nat) : Int), H) := by
  rw [if_neg h, Option.map_some, Int.ofNat_tmod]
theorem Yes.quo {x y : Nat} {H : Heap} (h : (x : Int) ≤ 9223372036854775807) : Yes (.int .i64 (IntKind.i64.wrap (Int.tdiv (x : Int) (y : Int)))) H (.int .i64 ((x / y : Nat) : Int)) := by
  have h1 : x / y ≤ x := Nat.div_le_self ..
  rw [← Int.ofNat_tdiv]
  generalize x / y = q at *
  rw [i64_id (by omega) (by omega)]
theorem quo_some {k : IntKind} {y z r : Int} {H : Heap} (h : y ≠ 0) (e : z = r) : Option.map (fun a => (a, H)) (if y = 0 then none else some (AV.int k z)) = some (.int k r, H) := by
  rw [if_neg h, e]; rfl
theorem slice_sl {H : Heap} {k : Nat} {rows xs : List (List AV)} {g : Tg} {lo hi : Int} {l h : Nat} (hlo : lo = (l : Int)) (hhi : hi = (h : Int)) (h1 : l ≤ h) (h2 : h ≤ rows.length) (hx : (rows.take h).drop l = xs) :
    Option.map (fun a => (a, H)) (if k = k ∨ rows.isEmpty = true then (bounds lo hi rows.length).map fun p => AV.sl g k ((List.take p.2 rows).drop p.1) else none) = some (.sl g k xs, H) := by
  subst hlo hhi hx
  rw [if_pos (.inl rfl)]
  unfold bounds
  rw [if_pos ⟨by omega, by omega, by omega⟩]
  simp
theorem slice_osl {H : Heap} {id g k e n e2 n2 : Nat} {lo hi : Int} {l h : Nat} (hlo : lo = (l : Int)) (hhi : hi = (h : Int)) (h1 : l ≤ h) (h2 : h ≤ n) (he : e2 = e + l) (hn : n2 = h - l) :
    Option.map (fun a => (a, H)) ((bounds lo hi n).map fun p => AV.osl id g k (e + p.1) (p.2 - p.1)) = some (.osl id g k e2 n2, H) := by
  subst hlo hhi he hn
  unfold bounds
  rw [if_pos ⟨by omega, by omega, by omega⟩]
  simp
end Go.Proofs.Yteajpacajikaaaa.AM

namespace Go.Proofs.Yteajpacajikaaaa.AM
open Go Go.Proofs.Yteajpacajikaaaa
theorem ttOk : TOk Try.prog tt := TOk.of (l := ttl) (by kernel_rfl)
theorem mo : Try.prog.follows .mixedOrders = true := by kernel_rfl
def noM : TypeId → String → Option FuncId := fun _ _ => none
theorem noMok : Mok Try.prog noM := fun t m f h => by simp [noM] at h
def X (ann : Ann) : Env := { T := tt, M := noM, ann := ann }
theorem spec {f : FuncId} {fn : Func} {ann : Ann} {t : Tr} {args : List AV} {H : Heap} {r : AV × Heap} (hb : H.length ≤ ann.base) (hf : Has Try.prog f fn) (h : funT Try.prog (X ann) fn t args H r) : ACalls Try.prog f args H r :=
  @funT_sound Try.prog (X ann) f fn ttOk noMok mo hf t args H r hb h
end Go.Proofs.Yteajpacajikaaaa.AM

set_option linter.unusedVariables false
set_option linter.unusedSimpArgs false
namespace Go.Proofs.Yteajpacajikaaaa.AM
open Go
theorem ACalls.orNil {P : Program} {f : FuncId} {k : Nat} {xs : List (List AV)} {as_ : List AV} {H : Heap} {r : AV × Heap} (h1 : xs = [] → ACalls P f (.sl .nil 0 [] :: as_) H r) (h2 : ACalls P f (.sl .op k xs :: as_) H r) :
    ACalls P f (.sl .any k xs :: as_) H r := by
  intro G w C vs hsz hargs hH
  have h0 := hargs 0 (by simp)
  have hr : ∀ i, 0 < i → i < as_.length + 1 → ∀ v : AV, (v :: as_).getD i .skip = (AV.sl .any k xs :: as_).getD i .skip := by
    intro i hi _ v
    cases i with
    | zero => omega
    | succ i => rfl
  have key : ∀ v : AV, VR G w C v (vs.getD 0 undef) → ∀ i, i < (v :: as_).length → VR G w C ((v :: as_).getD i .skip) (vs.getD i undef) := by
    intro v hv i hi
    cases i with
    | zero => exact hv
    | succ i =>
      have := hargs (i + 1) (by simpa using hi)
      rw [hr (i + 1) (by omega) (by simpa using hi) v]
      exact this
  simp only [List.getD_cons_zero] at h0
  generalize hv0 : vs.getD 0 undef = v0 at h0
  cases h0 with
  | nils _ _ _ hg => exact h1 rfl G w C vs (by simpa using hsz) (key _ (by rw [hv0]; exact .nils _ _ _ (.inl rfl))) hH
  | sl _ _ _ _ ad cap hg hclip hle hs cv hk hc h1' h => exact h2 G w C vs (by simpa using hsz) (key _ (by rw [hv0]; exact .sl _ _ _ _ ad cap (by simp) (by simp) hle hs cv hk hc h1' h)) hH
theorem slice_max {H : Heap} {k : Nat} {rows xs : List (List AV)} {g : Tg} {lo hi mx : Int} {l h : Nat} (hlo : lo = (l : Int)) (hhi : hi = (h : Int)) (h1 : l ≤ h) (h2 : h ≤ rows.length) (hx : (rows.take h).drop l = xs) (hm : hi = mx) :
    Option.map (fun a => (a, H)) (if k = k ∨ rows.isEmpty = true then (if hi = mx then (bounds lo hi rows.length).map fun p => AV.sl g k ((List.take p.2 rows).drop p.1) else none) else none) = some (.sl g k xs, H) := by
  rw [if_pos hm]
  exact slice_sl hlo hhi h1 h2 hx
def Br (H : Heap) (a' a : AV) : Prop := (a' = a ∧ AV.bdd 0 a = true) ∨ ∃ id g k e n rows, a' = .osl id g k e n ∧ a = .sl .any k rows ∧ rowsIn H k (.osl id g k e n) = some rows ∧ AV.bddss 0 rows = true
theorem Br.same {H : Heap} {a : AV} (h : AV.bdd 0 a = true) : Br H a a := .inl ⟨rfl, h⟩
theorem Br.osl {H : Heap} {id g k e n : Nat} {rows : List (List AV)} (h : rowsIn H k (.osl id g k e n) = some rows) (hb : AV.bddss 0 rows = true) : Br H (.osl id g k e n) (.sl .any k rows) := .inr ⟨id, g, k, e, n, rows, rfl, rfl, h, hb⟩
def Brs (H : Heap) : List AV → List AV → Prop
  | [], [] => True
  | a :: l, b :: m => Br H a b ∧ Brs H l m
  | _, _ => False
theorem Brs.get {H : Heap} : ∀ {l m : List AV}, Brs H l m → l.length = m.length ∧ ∀ i, i < m.length → Br H (l.getD i .skip) (m.getD i .skip)
  | [], [], _ => ⟨rfl, fun i hi => by simp at hi⟩
  | [], _ :: _, h => h.elim
  | _ :: _, [], h => h.elim
  | a :: l, b :: m, h => by
    obtain ⟨h1, h2⟩ := Brs.get h.2
    refine ⟨by simp [h1], fun i hi => ?_⟩
    cases i with
    | zero => simpa using h.1
    | succ i => simpa using h2 i (by simpa using hi)
end Go.Proofs.Yteajpacajikaaaa.AM

set_option linter.unusedVariables false
set_option linter.unusedSimpArgs false
namespace Go.Proofs.Yteajpacajikaaaa.AM
open Go
theorem ACalls.room {P : Program} {f : FuncId} {args : List AV} {H : Heap} {r : AV × Heap} {id i g k e n : Nat} {els : List (List AV)} (ho : H[id]? = some ⟨g, k, els, none⟩) (hi : args[i]? = some (.osl id g k e n))
    (h : ∀ rm, els.length ≤ rm → ACalls P f args (H.set id ⟨g, k, els, some rm⟩) r) : ACalls P f args H r := by
  intro G w C vs hsz hargs hH
  have hlt : i < args.length := by
    rcases Nat.lt_or_ge i args.length with h' | h'
    · exact h'
    · rw [List.getElem?_eq_none h'] at hi; simp at hi
  have hv := hargs i hlt
  rw [List.getD_eq_getElem?_getD, hi] at hv
  have hgen := hH.gen id _ ho
  obtain ⟨l, hl, _⟩ := osl_alive hv hgen
  have hob := hH.ob id _ l ho hl
  have hH2 : HR G w C (H.set id ⟨g, k, els, some l.room⟩) := hH.set_ob ho rfl fun l' hl' hx => by
    obtain rfl : l = l' := by rw [hl] at hl'; simpa using hl'
    exact ⟨hx.k, fun r hr => by simpa using hr, hx.no, hx.len, hx.row, hx.cells⟩
  refine (h l.room hob.len G w C vs hsz hargs hH2).mono fun v w' ⟨G', C', he, hh, hv', hp⟩ => ⟨G', C', he, hh, hv', by simpa using hp.1, fun j hj hs hι => ?_⟩
  obtain ⟨h1, h2, h3⟩ := hp.2 j (by simpa using hj) hs hι
  have hne : id ≠ j := fun e => by subst e; rw [hl] at hι; simp at hι
  rw [List.getElem?_set_ne hne] at h3
  exact ⟨h1, h2, h3⟩
end Go.Proofs.Yteajpacajikaaaa.AM

set_option linter.unusedVariables false
set_option linter.unusedSimpArgs false
namespace Go.Proofs.Yteajpacajikaaaa.AM
open Go
end Go.Proofs.Yteajpacajikaaaa.AM

set_option linter.unusedVariables false
set_option linter.unusedSimpArgs false
namespace Go.Proofs.Yteajpacajikaaaa.AM
open Go
end Go.Proofs.Yteajpacajikaaaa.AM

set_option linter.unusedVariables false
set_option linter.unusedSimpArgs false
namespace Go.Proofs.Yteajpacajikaaaa.AM
open Go
end Go.Proofs.Yteajpacajikaaaa.AM

set_option linter.unusedVariables false
set_option linter.unusedSimpArgs false
namespace Go.Proofs.Yteajpacajikaaaa.AM
open Go
end Go.Proofs.Yteajpacajikaaaa.AM

set_option linter.unusedVariables false
set_option linter.unusedSimpArgs false
namespace Go.Proofs.Yteajpacajikaaaa.AM
open Go
section
variable {P : Program} {G : Nat → Prop} {w : World} {C : Cx} {H : Heap}
end
def tauOf (ids : List Nat) (n : Nat) (i : Nat) : Nat := if i < ids.length then ids.getD i 0 else n + (i - ids.length)
def RenL (τ : Nat → Nat) : Heap → Heap → Prop
  | [], [] => True
  | o :: l, o' :: l' => o.ren τ = o' ∧ RenL τ l l'
  | _, _ => False
theorem RenL.get {τ : Nat → Nat} : ∀ {l l' : Heap}, RenL τ l l' → l.length = l'.length ∧ ∀ (i : Nat) (o : Ob), l[i]? = some o → l'[i]? = some (o.ren τ)
  | [], [], _ => ⟨rfl, fun i o h => by simp at h⟩
  | o :: l, o' :: l', h => by
    obtain ⟨h1, h2⟩ := RenL.get h.2
    refine ⟨by simp [h1], fun i oi hi => ?_⟩
    cases i with
    | zero => simp at hi; subst hi; simp [h.1]
    | succ i => simpa using h2 i oi (by simpa using hi)
def setAll (H : Heap) : List Nat → Heap → Heap
  | i :: ids, o :: os => setAll (H.set i o) ids os
  | _, _ => H
theorem setAll_len : ∀ (ids : List Nat) (os : Heap) (H : Heap), (setAll H ids os).length = H.length
  | [], _, H => by simp [setAll]
  | _ :: _, [], H => by simp [setAll]
  | i :: ids, o :: os, H => by rw [setAll, setAll_len ids os]; simp
theorem setAll_other : ∀ (ids : List Nat) (os : Heap) (H : Heap) (j : Nat), (∀ i ∈ ids, i ≠ j) → (setAll H ids os)[j]? = H[j]?
  | [], _, H, j, _ => by simp [setAll]
  | _ :: _, [], H, j, _ => by simp [setAll]
  | i :: ids, o :: os, H, j, h => by
    rw [setAll, setAll_other ids os _ j (fun i hi => h i (by simp [hi])), List.getElem?_set_ne (h i (by simp))]
def nodupB : List Nat → Bool
  | [] => true
  | i :: ids => !ids.contains i && nodupB ids
theorem setAll_get : ∀ (ids : List Nat) (os : Heap) (H : Heap), nodupB ids = true → (∀ i ∈ ids, i < H.length) → ids.length = os.length → ∀ (q : Nat) (o : Ob), os[q]? = some o → (setAll H ids os)[ids.getD q 0]? = some o
  | [], [], H, _, _, _, q, o, hq => by simp at hq
  | i :: ids, o :: os, H, hn, hlt, hlen, q, o', hq => by
    simp only [nodupB, Bool.and_eq_true, Bool.not_eq_true', List.contains_eq_mem, decide_eq_false_iff_not] at hn
    simp only [setAll]
    cases q with
    | zero =>
      simp at hq; subst hq
      simp only [List.getD_cons_zero]
      rw [setAll_other ids os _ i (fun j hj e => hn.1 (e ▸ hj)), List.getElem?_set_self (hlt i (by simp))]
    | succ q =>
      simp only [List.getD_cons_succ]
      exact setAll_get ids os _ hn.2 (fun j hj => by simpa using hlt j (by simp [hj])) (by simpa using hlen) q o' (by simpa using hq)
theorem nodup_get : ∀ (ids : List Nat), nodupB ids = true → ∀ i j, i < ids.length → j < ids.length → ids.getD i 0 = ids.getD j 0 → i = j
  | [], _, i, _, hi, _, _ => by simp at hi
  | a :: ids, hn, i, j, hi, hj, e => by
    simp only [nodupB, Bool.and_eq_true, Bool.not_eq_true', List.contains_eq_mem, decide_eq_false_iff_not] at hn
    have hmem : ∀ q, q < ids.length → ids.getD q 0 ∈ ids := fun q hq => by
      rw [List.getD_eq_getElem?_getD, List.getElem?_eq_getElem hq]; exact List.getElem_mem _
    cases i with
    | zero =>
      cases j with
      | zero => rfl
      | succ j => simp only [List.getD_cons_zero, List.getD_cons_succ] at e; exact absurd (e ▸ hmem j (by simpa using hj)) hn.1
    | succ i =>
      cases j with
      | zero => simp only [List.getD_cons_zero, List.getD_cons_succ] at e; exact absurd (e.symm ▸ hmem i (by simpa using hi)) hn.1
      | succ j => simp only [List.getD_cons_succ] at e; rw [nodup_get ids hn.2 i j (by simpa using hi) (by simpa using hj) e]
theorem Ob.ren0 {τ : Nat → Nat} {o : Ob} (h : AV.bddss 0 o.els = true) : o.ren τ = o := Ob.ren_fix (fun i hi => absurd hi (Nat.not_lt_zero i)) o h
theorem ACalls.put {P : Program} {f : FuncId} {args args' : List AV} {a a' : AV} {Hs H1 N Hb Hg H1' N' : Heap} (ids : List Nat) (h : ACalls P f args Hs (a, H1 ++ N)) (hids : (nodupB ids && ids.all (fun i => decide (i < Hb.length))) = true)
    (hlen : ids.length = Hs.length) (hn : H1.length = Hs.length) (hargs : AV.bdds Hs.length args = true) (hbs : obsB Hs.length Hs = true) (hg : (ids.map fun i => Hb.getD i default) = Hg) (hget : RenL (tauOf ids Hb.length) Hs Hg)
    (h1 : RenL (tauOf ids Hb.length) H1 H1') (h2 : RenL (tauOf ids Hb.length) N N') (ha : AV.rens (tauOf ids Hb.length) args = args') (hr : a.ren (tauOf ids Hb.length) = a') : ACalls P f args' Hb (a', setAll Hb ids H1' ++ N') := by
  simp only [Bool.and_eq_true, List.all_eq_true, decide_eq_true_eq] at hids
  obtain ⟨hnd, hlt⟩ := hids
  subst ha hr hg
  have hτ : ∀ i, i < Hs.length → tauOf ids Hb.length i = ids.getD i 0 := fun i hi => by simp [tauOf, hlen, hi]
  have hτ2 : ∀ i, Hs.length ≤ i → tauOf ids Hb.length i = Hb.length + (i - Hs.length) := fun i hi => by
    have : ¬ i < Hs.length := by omega
    simp [tauOf, hlen, this]
  have hmem : ∀ q, q < Hs.length → ids.getD q 0 ∈ ids := fun q hq => by
    rw [List.getD_eq_getElem?_getD, List.getElem?_eq_getElem (by omega)]; exact List.getElem_mem _
  obtain ⟨g1, g2⟩ := hget.get
  obtain ⟨p1, p2⟩ := h1.get
  obtain ⟨n1, n2⟩ := h2.get
  refine h.frame (τ := tauOf ids Hb.length) (Hb := Hb) (Hb' := setAll Hb ids H1' ++ N') ⟨fun i hi => by rw [hτ i hi]; exact hlt _ (hmem i hi), hτ2, fun i j hi hj e => by
      rw [hτ i hi, hτ j hj] at e; exact nodup_get ids hnd i j (by omega) (by omega) e, fun i o ho => ?_⟩ hargs (fun i o ho => obsB_get hbs ho) (by simp [setAll_len, hn, n1]) (fun i o ho => ?_) fun j hj hj2 => ?_
  · have hi := heap_lt ho
    rw [hτ i hi]
    have := g2 i o ho
    rw [List.getElem?_map] at this
    have hi' : i < ids.length := by omega
    rw [List.getElem?_eq_getElem hi'] at this
    simp only [Option.map_some, Option.some.injEq] at this
    have hlt' := hlt _ (List.getElem_mem hi')
    rw [List.getD_eq_getElem?_getD (l := ids), List.getElem?_eq_getElem hi', Option.getD_some, ← this, List.getD_eq_getElem?_getD, List.getElem?_eq_getElem hlt', Option.getD_some]
  · rcases Nat.lt_or_ge i H1.length with hi | hi
    · rw [List.getElem?_append_left hi] at ho
      rw [hτ i (by omega), List.getElem?_append_left (by rw [setAll_len]; exact hlt _ (hmem i (by omega)))]
      exact setAll_get ids H1' Hb hnd hlt (by omega) i _ (p2 i o ho)
    · rw [List.getElem?_append_right hi] at ho
      rw [hτ2 i (by omega), List.getElem?_append_right (by rw [setAll_len]; omega), setAll_len]
      have : Hb.length + (i - Hs.length) - Hb.length = i - H1.length := by omega
      rw [this]
      exact n2 _ o ho
  · rw [List.getElem?_append_left (by rw [setAll_len]; exact hj)]
    refine setAll_other ids H1' Hb j fun i hi e => ?_
    obtain ⟨q, hq, e2⟩ := List.getElem_of_mem hi
    refine hj2 q (by omega) ?_
    rw [hτ q (by omega), List.getD_eq_getElem?_getD, List.getElem?_eq_getElem hq, Option.getD_some, e2, e]
end Go.Proofs.Yteajpacajikaaaa.AM

set_option linter.unusedVariables false
set_option linter.unusedSimpArgs false
namespace Go.Proofs.Yteajpacajikaaaa.AM
open Go Go.Proofs.Yteajpacajikaaaa
theorem om {p : Prop} (h : p := by first | omega | (simp; done) | (simp; omega)) : p := h
theorem oa {p : Prop} (h : p := by first | omega | assumption | (simp; done) | (simp; omega) | (simp_all; done) | (simp_all; omega)) : p := h
theorem ow {p : Prop} (h : p := by omega) : p := h
theorem kr {α : Sort _} {a b : α} (h : a = b := by kernel_rfl) : a = b := h
theorem ob {p : Prop} (h : p := by first | (simp [obsB, AV.bddss, AV.bdds, AV.bdd]; done) | simp [obsB, AV.bddss, AV.bdds, AV.bdd, -List.map_append, -List.map_set, -List.map_take, -List.map_drop, -List.map_cons, -List.map_map]) : p := h
theorem Has.o {P : Program} {f : FuncId} {fn : Func} (h1 : P.funcs[f]? = some fn) (h2 : fn.body.isNone = false := by kernel_rfl) (h3 : (fn.name == "runtime.NumGoroutine") = false := by kernel_rfl) (h4 : fn.body.all codeOk = true := by kernel_rfl) : Has P f fn := ⟨h1, h2, h3, h4⟩
class IsP (c : Bool) (p q : outParam Prop) : Prop where
  t : c = true → p
  f : c = false → q
instance (priority := 10) isP0 (c : Bool) : IsP c (c = true) (c = false) := ⟨id, id⟩
instance isPd (p : Prop) [Decidable p] : IsP (decide p) p (¬ p) := ⟨decide_eq_true_iff.1, decide_eq_false_iff_not.1⟩
instance isPe (x y : Int) : IsP (x == y) (x = y) (¬ x = y) := ⟨beq_iff_eq.1, beq_eq_false_iff_ne.1⟩
instance isPne (x y : Int) : IsP (x != y) (¬ x = y) (x = y) := ⟨bne_iff_ne.1, fun h => by simpa using h⟩
instance isPn (c : Bool) (p q : Prop) [h : IsP c p q] : IsP (!c) q p := ⟨fun e => h.f (by simpa using e), fun e => h.t (by simpa using e)⟩
instance isPa (c d : Bool) (p q p' q' : Prop) [h : IsP c p q] [k : IsP d p' q'] : IsP (c && d) (p ∧ p') (q ∨ q') := ⟨fun e => by rw [Bool.and_eq_true] at e; exact ⟨h.t e.1, k.t e.2⟩, fun e => by rw [Bool.and_eq_false_iff] at e; exact e.imp h.f k.f⟩
instance isPo (c d : Bool) (p q p' q' : Prop) [h : IsP c p q] [k : IsP d p' q'] : IsP (c || d) (p ∨ p') (q ∧ q') := ⟨fun e => by rw [Bool.or_eq_true] at e; exact e.imp h.t k.t, fun e => by rw [Bool.or_eq_false_iff] at e; exact ⟨h.f e.1, k.f e.2⟩⟩
structure OK (H : Heap) (r : AV × Heap) (t : Tr) (p : Prop) : Prop where
  h : p
structure RK (H : Heap) (r : AV × Heap) (hs : Hs) (a b : List (Nat × List (List AV))) (t : Tr) (p : Prop) : Prop where
  h : p
section
variable {H H' H0 : Heap} {zr : AV × Heap} {tr tA tB : Tr} {p pA pB q : Prop} {hs hs' : Hs} {ra rb ra' rb' : List (Nat × List (List AV))}
theorem OK.l (h : p) : OK H zr .nil p := ⟨h⟩
theorem OK.e (v : AV) (h : (v, H) = zr := by rfl) : OK H zr .nil ((v, H) = zr) := ⟨h⟩
theorem OK.f (n : Nat) (v : AV) (k : OK H zr tr p) (h : AV.bdd n v = true ∧ obsB n H = true := by exact ob) : OK H zr tr ((AV.bdd n v = true ∧ obsB n H = true) ∧ p) := ⟨⟨h, k.h⟩⟩
theorem OK.h' (H' : Heap) (k : OK H' zr tr p) : OK H zr tr p := ⟨k.h⟩
theorem OK.o (h : q) (k : OK H zr tr p) : OK H zr tr (q ∧ p) := ⟨⟨h, k.h⟩⟩
theorem OK.two (c : Bool) {u u' : Prop} [i : IsP c u u'] (x : c = true → u → OK H zr tA pA) (y : c = false → u' → OK H zr tB pB) : OK H zr (.two tA tB) (cond c pA pB) := by
  cases hc : c with
  | true => exact ⟨(x hc (i.t hc)).h⟩
  | false => exact ⟨(y hc (i.f hc)).h⟩
theorem OK.yes (k : OK H zr tr p) : OK H zr (.two tr .nil) p := ⟨k.h⟩
theorem OK.no (k : OK H zr tr p) : OK H zr (.two .nil tr) p := ⟨k.h⟩
theorem OK.roll (n : Nat) (k : OK H zr tr p) : OK H zr (.roll n tr) p := ⟨k.h⟩
theorem OK.loop {Q : (Ex → Fr → Heap → Prop) → Fr → Heap → Prop} {l o : Option (List Nat)} {F F' : Fr} {e : Ex} (F'' : Fr) (h : LoopTo Q l o F H0 e F' H') (k : OK H' zr tr p) : OK H zr (.loop e F'' H' tr) (LoopTo Q l o F H0 e F' H' ∧ p) := ⟨⟨h, k.h⟩⟩
theorem OK.r (k : RK H zr hs ra rb tr p) : OK H zr (.reg hs ra rb tr) p := ⟨k.h⟩
theorem RK.g (k : OK H zr tr p) : RK H zr [] [] [] tr p := ⟨k.h⟩
theorem RK.h' (H' : Heap) (k : RK H' zr hs ra rb tr p) : RK H zr hs ra rb tr p := ⟨k.h⟩
theorem RK.o (h : q) (k : RK H zr hs ra rb tr p) : RK H zr hs ra rb tr (q ∧ p) := ⟨⟨h, k.h⟩⟩
theorem RK.t (i : Nat) (v : AV) (H' : Heap) (h : q) (k : RK H zr hs ra rb tr p) : RK H zr ((i, (v, H')) :: hs) ra rb tr (q ∧ p) := ⟨⟨h, k.h⟩⟩
theorem RK.c (i : Nat) {P : Program} {f : FuncId} {args : List AV} {v : AV} (h : ACalls P f args H0 (v, H')) (k : RK H zr hs ra rb tr p) : RK H zr ((i, (v, H')) :: hs) ra rb tr (ACalls P f args H0 (v, H') ∧ p) := ⟨⟨h, k.h⟩⟩
theorem RK.ch (i : Nat) (H1 : Heap) {P : Program} {f : FuncId} {args : List AV} {v : AV} (h : ACalls P f args H0 (v, H')) (k : RK H1 zr hs ra rb tr p) : RK H zr ((i, (v, H1)) :: hs) ra rb tr (ACalls P f args H0 (v, H') ∧ p) := ⟨⟨h, k.h⟩⟩
theorem RK.y (i : Nat) (v w : AV) (h : Yes v H w) (k : RK H zr hs ra rb tr p) : RK H zr ((i, (w, H)) :: hs) ra rb tr (Yes v H w ∧ p) := ⟨⟨h, k.h⟩⟩
theorem RK.rd (v : AV) (H' : Heap) (k : RK H zr hs ra rb tr p) : RK H zr hs ra rb tr ((some (v, H') = some (v, H')) ∧ p) := ⟨⟨rfl, k.h⟩⟩
theorem RK.b (n : Nat) (k : RK H zr hs ra rb tr p) (h : obsB n H = true := by exact ob) : RK H zr hs ra rb tr ((obsB n H = true) ∧ p) := ⟨⟨h, k.h⟩⟩
theorem RK.is (i k' k2 : Nat) (rows : List (List AV)) (e : Int) (cs : List AV) (h : IdxSl k' k2 rows e H cs) (k : RK H zr hs ra rb tr p) : RK H zr ((i, (.ref cs 0, H)) :: hs) ra rb tr (IdxSl k' k2 rows e H cs ∧ p) := ⟨⟨h, k.h⟩⟩
theorem RK.io (i id g k' k2 e0 n : Nat) (e : Int) (j : Nat) (h : IdxOsl id g k' k2 e0 n e H j) (k : RK H zr hs ra rb tr p) : RK H zr ((i, (.obj id g j 0, H)) :: hs) ra rb tr (IdxOsl id g k' k2 e0 n e H j ∧ p) := ⟨⟨h, k.h⟩⟩
theorem RK.st (i id g j n c : Nat) (u : AV) (H' : Heap) (h : StoreTo H id j n c (rowAt H id g j) (AV.fit u n) = some (AV.skip, H')) (k : RK H' zr hs ra rb tr p) : RK H zr ((i, (AV.skip, H')) :: hs) ra rb tr (StoreTo H id j n c (rowAt H id g j) (AV.fit u n) = some (AV.skip, H') ∧ p) := ⟨⟨h, k.h⟩⟩
theorem RK.ap (i : Nat) (T : TypeId) (u v w : AV) (H' : Heap) (h : evAppend tt H T u v = some (w, H')) (k : RK H' zr hs ra rb tr p) : RK H zr ((i, (w, H')) :: hs) ra rb tr (evAppend tt H T u v = some (w, H') ∧ p) := ⟨⟨h, k.h⟩⟩
theorem RK.ao (i : Nat) (T : TypeId) (u v w : AV) (H' : Heap) (h : evAppendO tt H T u v = some (w, H')) (k : RK H' zr hs ra rb tr p) : RK H zr ((i, (w, H')) :: hs) ra rb tr (evAppendO tt H T u v = some (w, H') ∧ p) := ⟨⟨h, k.h⟩⟩
theorem RK.so (i id g n e m : Nat) (lo hi : Int) (w : AV) (h : Option.map (fun a => (a, H)) ((bounds lo hi m).map fun p => AV.osl id g n (e + p.1) (p.2 - p.1)) = some (w, H)) (k : RK H zr hs ra rb tr p) : RK H zr ((i, (w, H)) :: hs) ra rb tr (Option.map (fun a => (a, H)) ((bounds lo hi m).map fun p => AV.osl id g n (e + p.1) (p.2 - p.1)) = some (w, H) ∧ p) := ⟨⟨h, k.h⟩⟩
theorem RK.two (c : Bool) {u u' : Prop} [i : IsP c u u'] (x : c = true → u → RK H zr hs ra rb tA pA) (y : c = false → u' → RK H zr hs' ra' rb' tB pB) : RK H zr (hs ++ hs') (ra ++ ra') (rb ++ rb') (.two tA tB) (cond c pA pB) := by
  cases hc : c with
  | true => exact ⟨(x hc (i.t hc)).h⟩
  | false => exact ⟨(y hc (i.f hc)).h⟩
theorem RK.yes (k : RK H zr hs ra rb tr p) : RK H zr hs ra rb (.two tr .nil) p := ⟨k.h⟩
theorem RK.no (k : RK H zr hs ra rb tr p) : RK H zr hs ra rb (.two .nil tr) p := ⟨k.h⟩
theorem RK.w (s : Nat) (xs : List (List AV)) (h : q) (k : RK H zr hs ra rb tr p) : RK H zr hs ((s, xs) :: ra) rb tr (q ∧ p) := ⟨⟨h, k.h⟩⟩
theorem RK.w' (s : Nat) (xs : List (List AV)) (h : q) (k : RK H zr hs ra rb tr p) : RK H zr hs ra ((s, xs) :: rb) tr (q ∧ p) := ⟨⟨h, k.h⟩⟩
end
theorem RenL.split {τ : Nat → Nat} : ∀ {l a b : Heap}, RenL τ l (a ++ b) → RenL τ (l.take a.length) a ∧ RenL τ (l.drop a.length) b
  | l, [], b, h => by simpa [RenL] using h
  | [], o :: a, b, h => by simp [RenL] at h
  | x :: l, o :: a, b, h => by
    simp only [List.cons_append, RenL] at h
    obtain ⟨h1, h2⟩ := RenL.split h.2
    exact ⟨⟨h.1, h1⟩, h2⟩
theorem ACalls.put2 {P : Program} {f : FuncId} {args : List AV} {v : AV} {Hs HsR : Heap} (ids : List Nat) (Hb : Heap) (v' : AV) (Hb' : Heap) (h : ACalls P f args Hs (v, HsR))
    (hget : RenL (tauOf ids Hb.length) Hs (ids.map fun i => Hb.getD i default)) (hnew : RenL (tauOf ids Hb.length) HsR ((ids.map fun i => Hb'.getD i default) ++ Hb'.drop Hb.length))
    (hids : (nodupB ids && ids.all (fun i => decide (i < Hb.length))) = true := by kernel_rfl) (hlen : ids.length = Hs.length := by kernel_rfl) (hargs : AV.bdds Hs.length args = true := by kernel_rfl)
    (hbs : obsB Hs.length Hs = true := by exact ob) (hr : v.ren (tauOf ids Hb.length) = v' := by rfl) (hH : setAll Hb ids (ids.map fun i => Hb'.getD i default) ++ Hb'.drop Hb.length = Hb' := by kernel_rfl) :
    ACalls P f (AV.rens (tauOf ids Hb.length) args) Hb (v', Hb') := by
  obtain ⟨h1, h2⟩ := RenL.split hnew
  have e : HsR.take (ids.map fun i => Hb'.getD i default).length ++ HsR.drop (ids.map fun i => Hb'.getD i default).length = HsR := List.take_append_drop _ _
  rw [← e] at h
  have hl := h1.get.1
  rw [← hH]
  exact ACalls.put ids h hids hlen (by rw [hl]; simpa using hlen) hargs hbs rfl hget h1 h2 rfl hr
attribute [local irreducible] ACalls funT codeT codeQ LoopTo
theorem specO {f : FuncId} {fn : Func} {ann : Ann} {t : Tr} {args : List AV} {H : Heap} {r : AV × Heap} {p : Prop} (hf : Has Try.prog f fn) (k : OK H r t p) (e : p = funT Try.prog (X ann) fn t args H r := by kernel_rfl) (hb : H.length ≤ ann.base := by exact Nat.le_of_ble_eq_true (by kernel_rfl)) : ACalls Try.prog f args H r :=
  spec hb hf (Eq.mp e k.h)
theorem stepO {P : Program} {X : Env} {c : Code} {live out : Option (List Nat)} {F F' : Fr} {H H' : Heap} {e : Ex} {t : Tr} {p : Prop} (k : OK H (.skip, []) t p)
    (h : p = codeT P X c (fun _ e2 F2 H2 => match e2 with | .normal => LoopTo (codeQ P X c) live out (cutF live F2) H2 e F' H' | e2 => (e2, cutF out F2, H2) = (e, F', H')) t F H := by kernel_rfl) : LoopTo (codeQ P X c) live out F H e F' H' :=
  LoopTo.step t (Eq.mp h k.h)
end Go.Proofs.Yteajpacajikaaaa.AM

set_option maxRecDepth 100000
set_option linter.unusedVariables false
set_option linter.unusedSimpArgs false
namespace Go.Proofs.Yteajpacajikaaaa.AM
open Go Go.Proofs.Yteajpacajikaaaa
attribute [local irreducible] ACalls funT codeT codeQ LoopTo
structure Key where
  app : ByteArray
  id : ByteArray
  deriving Inhabited
def Key.row (x : Key) : List AV := [(AV.str x.app), (AV.str x.id)]
@[simp] theorem Key.row_bdd (n : Nat) (x : Key) : AV.bdds n x.row = true := by simp [Key.row, AV.bdds, AV.bdd]
@[simp] theorem Key.rows_bdd (n : Nat) (l : List Key) : AV.bddss n (l.map Key.row) = true := by induction l with | nil => rfl | cons x l ih => simp [AV.bddss, Key.row_bdd, ih]
structure Stamp where
  t : Int
  node : Int
  n : Int
  deriving Inhabited
def Stamp.row (x : Stamp) : List AV := [(AV.int .i64 x.t), (AV.int .i64 x.node), (AV.int .i64 x.n)]
@[simp] theorem Stamp.row_bdd (n : Nat) (x : Stamp) : AV.bdds n x.row = true := by simp [Stamp.row, AV.bdds, AV.bdd]
@[simp] theorem Stamp.rows_bdd (n : Nat) (l : List Stamp) : AV.bddss n (l.map Stamp.row) = true := by induction l with | nil => rfl | cons x l ih => simp [AV.bddss, Stamp.row_bdd, ih]
structure Card where
  key : Key
  status : Int
  over : Int
  lease : Int
  stamp : Stamp
  gone : Bool
  deriving Inhabited
def Card.row (x : Card) : List AV := [(AV.str x.key.app), (AV.str x.key.id), (AV.int .i64 x.status), (AV.int .i64 x.over), (AV.int .i64 x.lease), (AV.int .i64 x.stamp.t), (AV.int .i64 x.stamp.node), (AV.int .i64 x.stamp.n), (AV.bool x.gone)]
@[simp] theorem Card.row_bdd (n : Nat) (x : Card) : AV.bdds n x.row = true := by simp [Card.row, AV.bdds, AV.bdd]
@[simp] theorem Card.rows_bdd (n : Nat) (l : List Card) : AV.bddss n (l.map Card.row) = true := by induction l with | nil => rfl | cons x l ih => simp [AV.bddss, Card.row_bdd, ih]
structure Entry where
  card : Card
  seen : Int
  deriving Inhabited
def Entry.row (x : Entry) : List AV := [(AV.str x.card.key.app), (AV.str x.card.key.id), (AV.int .i64 x.card.status), (AV.int .i64 x.card.over), (AV.int .i64 x.card.lease), (AV.int .i64 x.card.stamp.t), (AV.int .i64 x.card.stamp.node), (AV.int .i64 x.card.stamp.n), (AV.bool x.card.gone), (AV.int .i64 x.seen)]
@[simp] theorem Entry.row_bdd (n : Nat) (x : Entry) : AV.bdds n x.row = true := by simp [Entry.row, AV.bdds, AV.bdd]
@[simp] theorem Entry.rows_bdd (n : Nat) (l : List Entry) : AV.bddss n (l.map Entry.row) = true := by induction l with | nil => rfl | cons x l ih => simp [AV.bddss, Entry.row_bdd, ih]
def rI64 (n : Int) : List AV := [.int .i64 n]
def rU8 (n : Int) : List AV := [.int .u8 n]
def rStr (s : ByteArray) : List AV := [.str s]
def rBool (b : Bool) : List AV := [.bool b]
@[simp] theorem rI64_bdd (n : Nat) (l : List Int) : AV.bddss n (l.map rI64) = true := by induction l with | nil => rfl | cons x l ih => simp [AV.bddss, rI64, AV.bdds, AV.bdd, ih]
@[simp] theorem rU8_bdd (n : Nat) (l : List Int) : AV.bddss n (l.map rU8) = true := by induction l with | nil => rfl | cons x l ih => simp [AV.bddss, rU8, AV.bdds, AV.bdd, ih]
@[simp] theorem rStr_bdd (n : Nat) (l : List ByteArray) : AV.bddss n (l.map rStr) = true := by induction l with | nil => rfl | cons x l ih => simp [AV.bddss, rStr, AV.bdds, AV.bdd, ih]
@[simp] theorem rBool_bdd (n : Nat) (l : List Bool) : AV.bddss n (l.map rBool) = true := by induction l with | nil => rfl | cons x l ih => simp [AV.bddss, rBool, AV.bdds, AV.bdd, ih]
def Key.eqb (a b : Key) : Bool := (a.app.toList == b.app.toList) && ((a.id.toList == b.id.toList) && true)
def cmpS (a b : ByteArray) : Int := if Op.bytesLess a.toList b.toList then -1 else if a.toList == b.toList then 0 else 1
def cmpK (a b : Key) : Int := if cmpS a.app b.app = 0 then cmpS a.id b.id else cmpS a.app b.app
def lessK (a b : Key) : Bool := decide (cmpK a b < 0)
def isNaNs_ann : Ann := { fin := some 0 }
set_option maxRecDepth 100000 in
theorem isNaNs_spec (s : ByteArray)  : ACalls Try.prog 112 [(.str s)] ([] : Heap) ((AV.bool false), ([] : Heap)) :=
  specO (fn := Try.f112) (ann := isNaNs_ann) (Has.o Try.func112) (.r (.g (.r (.g (.f 0 (AV.bool (!(s.toList == s.toList))) (.e (AV.bool (!(s.toList == s.toList))) (by
        simp)))))))
theorem isNaNs_at (s : ByteArray)  (H : Heap) : ACalls Try.prog 112 [(.str s)] H ((AV.bool false), H) := (isNaNs_spec s ).lift kr kr H
def compareS_ann : Ann := { fin := some 0 }
set_option maxRecDepth 100000 in
theorem compareS_spec (a b : ByteArray)  : ACalls Try.prog 99 [(.str a), (.str b)] ([] : Heap) ((AV.int .i64 (cmpS a b)), ([] : Heap)) :=
  specO (fn := Try.f99) (ann := compareS_ann) (Has.o Try.func99) (.r (.g (.r (.c 1 (isNaNs_at a  ([] : Heap)) (.g (.r (.c 1 (isNaNs_at b  ([] : Heap)) (.g (.r (.g (.no (.r (.g (.no (.r (.g (.two (Op.bytesLess a.toList b.toList) (fun h1 h1' => (.r (.g (.f 0 (AV.int .i64 (-1)) (.e (AV.int .i64 (-1)) (by
        simp_all [cmpS])))))) (fun h1 h1' => (.r (.g (.two (!(Op.bytesLess a.toList b.toList || a.toList == b.toList)) (fun h2 h2' => (.r (.g (.f 0 (AV.int .i64 1) (.e (AV.int .i64 1) (by
        simp_all [cmpS])))))) (fun h2 h2' => (.r (.g (.f 0 (AV.int .i64 0) (.e (AV.int .i64 0) (by
        simp_all [cmpS])))))))))))))))))))))))))))
theorem compareS_at (a b : ByteArray)  (H : Heap) : ACalls Try.prog 99 [(.str a), (.str b)] H ((AV.int .i64 (cmpS a b)), H) := (compareS_spec a b ).lift kr kr H
def or2_ann : Ann := { fin := some 0 }
set_option maxRecDepth 100000 in
theorem or2_spec (x y : Int)  : ACalls Try.prog 98 [(.sl .any 1 [[(.int .i64 x)], [(.int .i64 y)]])] ([] : Heap) ((AV.int .i64 (if x = 0 then y else x)), ([] : Heap)) :=
  specO (fn := Try.f98) (ann := or2_ann) (Has.o Try.func98) (.r (.g (.r (.g (.r (.g (.roll 3 (.r (.g (.yes (.r (.g (.r (.g (.two (x != 0) (fun h1 h1' => (.r (.g (.f 0 (AV.int .i64 x) (.e (AV.int .i64 x) (by
        simp_all)))))) (fun h1 h1' => (.r (.g (.r (.g (.yes (.r (.g (.r (.g (.two (y != 0) (fun h2 h2' => (.r (.g (.f 0 (AV.int .i64 y) (.e (AV.int .i64 y) (by
        simp_all)))))) (fun h2 h2' => (.r (.g (.r (.g (.no (.r (.g (.f 0 (AV.int .i64 0) (.e (AV.int .i64 0) (by
        simp_all)))))))))))))))))))))))))))))))))))))
theorem or2_at (x y : Int)  (H : Heap) : ACalls Try.prog 98 [(.sl .any 1 [[(.int .i64 x)], [(.int .i64 y)]])] H ((AV.int .i64 (if x = 0 then y else x)), H) := (or2_spec x y ).lift kr kr H
def keyCmp_ann : Ann := { refs := [2, 3], fin := some 0 }
set_option maxRecDepth 100000 in
theorem keyCmp_spec (a b : Key)  : ACalls Try.prog 81 [(.agg (Key.row a)), (.agg (Key.row b))] ([] : Heap) ((AV.int .i64 (cmpK a b)), ([] : Heap)) :=
  specO (fn := Try.f81) (ann := keyCmp_ann) (Has.o Try.func81) (.r (.g (.r (.c 4 (compareS_at a.app b.app  ([] : Heap)) (.c 9 (compareS_at a.id b.id  ([] : Heap)) (.c 11 (ACalls.pre (args := [(AV.sl .any 1 [[(AV.int .i64 (cmpS a.app b.app))], [(AV.int .i64 (cmpS a.id b.id))]])]) (args' := [(AV.sl .clip 1 [[(AV.int .i64 (cmpS a.app b.app))], [(AV.int .i64 (cmpS a.id b.id))]])]) (or2_at (cmpS a.app b.app) (cmpS a.id b.id)  ([] : Heap)) ⟨⟨rfl, rfl, .inl rfl⟩, trivial⟩) (.g (.f 0 (AV.int .i64 (if (cmpS a.app b.app) = 0 then (cmpS a.id b.id) else (cmpS a.app b.app))) (.e (AV.int .i64 (if (cmpS a.app b.app) = 0 then (cmpS a.id b.id) else (cmpS a.app b.app))) (by
        simp [cmpK]))))))))))
theorem keyCmp_at (a b : Key)  (H : Heap) : ACalls Try.prog 81 [(.agg (Key.row a)), (.agg (Key.row b))] H ((AV.int .i64 (cmpK a b)), H) := (keyCmp_spec a b ).lift kr kr H
end Go.Proofs.Yteajpacajikaaaa.AM

set_option maxRecDepth 100000
set_option linter.unusedVariables false
set_option linter.unusedSimpArgs false
namespace Go.Proofs.Yteajpacajikaaaa.AM
open Go Go.Proofs.Yteajpacajikaaaa
attribute [local irreducible] ACalls funT codeT codeQ LoopTo
structure Tp where
  l : List Int
  pos : Nat
  deriving Inhabited
def Tp.row (x : Tp) : List AV := [(AV.sl .any 1 (List.map rI64 x.l)), (AV.int .i64 ((x.pos : Nat) : Int))]
@[simp] theorem Tp.row_bdd (n : Nat) (x : Tp) : AV.bdds n x.row = true := by simp [Tp.row, AV.bdds, AV.bdd]
@[simp] theorem Tp.rows_bdd (n : Nat) (l : List Tp) : AV.bddss n (l.map Tp.row) = true := by induction l with | nil => rfl | cons x l ih => simp [AV.bddss, Tp.row_bdd, ih]
def held (n : Int) : Int := max 0 (min n 4611686018427387904)
def wN (x : Int) (hi : Nat) : Nat := if 0 ≤ x ∧ x ≤ hi then x.toNat else if Int.tmod x (((hi + 1 : Nat) : Int)) < 0 then (Int.tmod x (((hi + 1 : Nat) : Int)) + hi + 1).toNat else (Int.tmod x (((hi + 1 : Nat) : Int))).toNat
theorem tmod_bd (x : Int) (n : Nat) (h : 0 < n) : -(n : Int) < Int.tmod x n ∧ Int.tmod x n < n := by
  have h1 := Int.tmod_lt_of_pos x (show (0 : Int) < n by omega)
  have h2 := Int.tmod_lt_of_pos (-x) (show (0 : Int) < n by omega)
  rw [Int.neg_tmod] at h2
  omega
def within_ann : Ann := { fin := some 0 }
set_option maxRecDepth 100000 in
theorem within_spec (x : Int) (hi : Nat) (hh : hi < 1099511627776) : ACalls Try.prog 14 [(.int .i64 x), (.int .i64 0), (.int .i64 ((hi : Nat) : Int))] ([] : Heap) ((AV.int .i64 ((wN x hi : Nat) : Int)), ([] : Heap)) := by
  have hb := tmod_bd x (hi + 1) ow
  exact specO (fn := Try.f14) (ann := within_ann) (Has.o Try.func14) (.r (.g (.r (.two (decide (x ≥ 0)) (fun h1 h1' => (.yes (.yes (.g (.two (decide (x ≤ ((hi : Nat) : Int))) (fun h2 h2' => (.r (.g (.f 0 (AV.int .i64 x) (.e (AV.int .i64 x) (by
        simp_all [wN]
        all_goals first | done | omega | (split <;> omega) | (split <;> first | omega | (split <;> omega)))))))) (fun h2 h2' => (.r (.y 3 (.int .i64 (IntKind.i64.wrap (((hi : Nat) : Int) - 0))) (AV.int .i64 ((hi : Nat) : Int)) (Yes.add ow ow ow) (.y 4 (.int .i64 (IntKind.i64.wrap (((hi : Nat) : Int) + 1))) (AV.int .i64 ((hi + 1 : Nat) : Int)) (Yes.add ow ow ow) (.t 5 (AV.int .i64 (Int.tmod x ((hi + 1 : Nat) : Int))) ([] : Heap) (quo_some ow rfl : Option.map (fun a => (a, ([] : Heap))) (if (((hi + 1 : Nat) : Int) : Int) = 0 then none else some (AV.int .i64 (Int.tmod x ((hi + 1 : Nat) : Int)))) = some ((AV.int .i64 (Int.tmod x ((hi + 1 : Nat) : Int))), ([] : Heap))) (.g (.r (.g (.two (decide ((Int.tmod x ((hi + 1 : Nat) : Int)) < 0)) (fun h3 h3' => (.r (.y 2 (.int .i64 (IntKind.i64.wrap ((Int.tmod x ((hi + 1 : Nat) : Int)) + ((hi : Nat) : Int)))) (AV.int .i64 ((Int.tmod x ((hi + 1 : Nat) : Int)) + ((hi : Nat) : Int))) (Yes.add ow ow rfl) (.y 4 (.int .i64 (IntKind.i64.wrap (((Int.tmod x ((hi + 1 : Nat) : Int)) + ((hi : Nat) : Int)) - 0))) (AV.int .i64 (((Int.tmod x ((hi + 1 : Nat) : Int)) + ((hi : Nat) : Int)) - 0)) (Yes.add ow ow rfl) (.y 5 (.int .i64 (IntKind.i64.wrap ((((Int.tmod x ((hi + 1 : Nat) : Int)) + ((hi : Nat) : Int)) - 0) + 1))) (AV.int .i64 ((((Int.tmod x ((hi + 1 : Nat) : Int)) + ((hi : Nat) : Int)) - 0) + 1)) (Yes.add ow ow rfl) (.g (.r (.y 2 (.int .i64 (IntKind.i64.wrap (0 + ((((Int.tmod x ((hi + 1 : Nat) : Int)) + ((hi : Nat) : Int)) - 0) + 1)))) (AV.int .i64 (0 + ((((Int.tmod x ((hi + 1 : Nat) : Int)) + ((hi : Nat) : Int)) - 0) + 1))) (Yes.add ow ow rfl) (.g (.f 0 (AV.int .i64 (0 + ((((Int.tmod x ((hi + 1 : Nat) : Int)) + ((hi : Nat) : Int)) - 0) + 1))) (.e (AV.int .i64 (0 + ((((Int.tmod x ((hi + 1 : Nat) : Int)) + ((hi : Nat) : Int)) - 0) + 1))) (by
        simp_all [wN]
        all_goals first | done | omega | (split <;> omega) | (split <;> first | omega | (split <;> omega)))))))))))))) (fun h3 h3' => (.r (.y 2 (.int .i64 (IntKind.i64.wrap (0 + (Int.tmod x ((hi + 1 : Nat) : Int))))) (AV.int .i64 (0 + (Int.tmod x ((hi + 1 : Nat) : Int)))) (Yes.add ow ow rfl) (.g (.f 0 (AV.int .i64 (0 + (Int.tmod x ((hi + 1 : Nat) : Int)))) (.e (AV.int .i64 (0 + (Int.tmod x ((hi + 1 : Nat) : Int)))) (by
        simp_all [wN]
        all_goals first | done | omega | (split <;> omega) | (split <;> first | omega | (split <;> omega))))))))))))))))))))))) (fun h1 h1' => (.no (.no (.g (.no (.r (.y 3 (.int .i64 (IntKind.i64.wrap (((hi : Nat) : Int) - 0))) (AV.int .i64 ((hi : Nat) : Int)) (Yes.add ow ow ow) (.y 4 (.int .i64 (IntKind.i64.wrap (((hi : Nat) : Int) + 1))) (AV.int .i64 ((hi + 1 : Nat) : Int)) (Yes.add ow ow ow) (.t 5 (AV.int .i64 (Int.tmod x ((hi + 1 : Nat) : Int))) ([] : Heap) (quo_some ow rfl : Option.map (fun a => (a, ([] : Heap))) (if (((hi + 1 : Nat) : Int) : Int) = 0 then none else some (AV.int .i64 (Int.tmod x ((hi + 1 : Nat) : Int)))) = some ((AV.int .i64 (Int.tmod x ((hi + 1 : Nat) : Int))), ([] : Heap))) (.g (.r (.g (.two (decide ((Int.tmod x ((hi + 1 : Nat) : Int)) < 0)) (fun h2 h2' => (.r (.y 2 (.int .i64 (IntKind.i64.wrap ((Int.tmod x ((hi + 1 : Nat) : Int)) + ((hi : Nat) : Int)))) (AV.int .i64 ((Int.tmod x ((hi + 1 : Nat) : Int)) + ((hi : Nat) : Int))) (Yes.add ow ow rfl) (.y 4 (.int .i64 (IntKind.i64.wrap (((Int.tmod x ((hi + 1 : Nat) : Int)) + ((hi : Nat) : Int)) - 0))) (AV.int .i64 (((Int.tmod x ((hi + 1 : Nat) : Int)) + ((hi : Nat) : Int)) - 0)) (Yes.add ow ow rfl) (.y 5 (.int .i64 (IntKind.i64.wrap ((((Int.tmod x ((hi + 1 : Nat) : Int)) + ((hi : Nat) : Int)) - 0) + 1))) (AV.int .i64 ((((Int.tmod x ((hi + 1 : Nat) : Int)) + ((hi : Nat) : Int)) - 0) + 1)) (Yes.add ow ow rfl) (.g (.r (.y 2 (.int .i64 (IntKind.i64.wrap (0 + ((((Int.tmod x ((hi + 1 : Nat) : Int)) + ((hi : Nat) : Int)) - 0) + 1)))) (AV.int .i64 (0 + ((((Int.tmod x ((hi + 1 : Nat) : Int)) + ((hi : Nat) : Int)) - 0) + 1))) (Yes.add ow ow rfl) (.g (.f 0 (AV.int .i64 (0 + ((((Int.tmod x ((hi + 1 : Nat) : Int)) + ((hi : Nat) : Int)) - 0) + 1))) (.e (AV.int .i64 (0 + ((((Int.tmod x ((hi + 1 : Nat) : Int)) + ((hi : Nat) : Int)) - 0) + 1))) (by
        simp_all [wN]
        all_goals first | done | omega | (split <;> omega) | (split <;> first | omega | (split <;> omega)))))))))))))) (fun h2 h2' => (.r (.y 2 (.int .i64 (IntKind.i64.wrap (0 + (Int.tmod x ((hi + 1 : Nat) : Int))))) (AV.int .i64 (0 + (Int.tmod x ((hi + 1 : Nat) : Int)))) (Yes.add ow ow rfl) (.g (.f 0 (AV.int .i64 (0 + (Int.tmod x ((hi + 1 : Nat) : Int)))) (.e (AV.int .i64 (0 + (Int.tmod x ((hi + 1 : Nat) : Int)))) (by
        simp_all [wN]
        all_goals first | done | omega | (split <;> omega) | (split <;> first | omega | (split <;> omega))))))))))))))))))))))))))
theorem within_at (x : Int) (hi : Nat) (hh : hi < 1099511627776) (H : Heap) : ACalls Try.prog 14 [(.int .i64 x), (.int .i64 0), (.int .i64 ((hi : Nat) : Int))] H ((AV.int .i64 ((wN x hi : Nat) : Int)), H) := (within_spec x hi hh).lift kr kr H
def Tp.next (t : Tp) (n : Nat) : Nat := if t.l.length ≤ t.pos ∨ n < 1 then 0 else wN (nth t.l t.pos) 1073741824 % n
def Tp.step (t : Tp) (n : Nat) : Tp := if t.l.length ≤ t.pos ∨ n < 1 then t else ⟨t.l, t.pos + 1⟩
end Go.Proofs.Yteajpacajikaaaa.AM

set_option maxRecDepth 100000
set_option linter.unusedVariables false
set_option linter.unusedSimpArgs false
namespace Go.Proofs.Yteajpacajikaaaa.AM
open Go Go.Proofs.Yteajpacajikaaaa
attribute [local irreducible] ACalls funT codeT codeQ LoopTo
def apps : List ByteArray := [(ByteArray.mk #[97, 112, 112]), (ByteArray.mk #[98]), (ByteArray.mk #[97, 112, 112, 49]), (ByteArray.mk #[122, 57])]
def idsL : List ByteArray := [(ByteArray.mk #[105, 100]), (ByteArray.mk #[97]), (ByteArray.mk #[105, 100, 50]), (ByteArray.mk #[120, 48]), (ByteArray.mk #[109])]
def Tp.key (t : Tp) : Key := ⟨nth apps (t.next 4), nth idsL ((t.step 4).next 5)⟩
def Tp.keyT (t : Tp) : Tp := (t.step 4).step 5
def Tp.stamp (t : Tp) : Stamp := ⟨(t.next 40 : Nat), ((t.step 40).next 6 : Nat), (((t.step 40).step 6).next 9 : Nat)⟩
def Tp.stampT (t : Tp) : Tp := ((t.step 40).step 6).step 9
def Tp.c1 (t : Tp) : Tp := t.keyT.step 2
def Tp.c2 (t : Tp) : Tp := t.c1.step 7
def Tp.c3 (t : Tp) : Tp := t.c2.step 60
def Tp.c4 (t : Tp) : Tp := t.c3.stampT
def Tp.card (t : Tp) : Card := ⟨t.key, (1 + t.keyT.next 2 : Nat), (t.c1.next 7 / 2 : Nat), (1 + t.c2.next 60 : Nat), t.c3.stamp, ((t.c4.next 4 : Nat) : Int) == 0⟩
def Tp.cardT (t : Tp) : Tp := t.c4.step 4
end Go.Proofs.Yteajpacajikaaaa.AM

set_option maxRecDepth 100000
set_option linter.unusedVariables false
set_option linter.unusedSimpArgs false
namespace Go.Proofs.Yteajpacajikaaaa.AM
open Go Go.Proofs.Yteajpacajikaaaa
attribute [local irreducible] ACalls funT codeT codeQ LoopTo
attribute [local irreducible] Tp.card Tp.cardT Tp.next Tp.step
def Tp.cards (t : Tp) : Nat → List Card
  | 0 => []
  | n + 1 => t.card :: t.cardT.cards n
end Go.Proofs.Yteajpacajikaaaa.AM

set_option maxRecDepth 100000
set_option linter.unusedVariables false
set_option linter.unusedSimpArgs false
namespace Go.Proofs.Yteajpacajikaaaa.AM
open Go Go.Proofs.Yteajpacajikaaaa
attribute [local irreducible] ACalls funT codeT codeQ LoopTo
attribute [local irreducible] Tp.card Tp.cardT Tp.next Tp.step Tp.cards Tp.key Tp.keyT
section
variable {α : Type} [Inhabited α]
def sink (cmp : α → α → Int) (a : Nat) : Nat → List α → List α
  | 0, l => l
  | j + 1, l => if decide (((j + 1 : Nat) : Int) > (a : Int)) = true then if decide (cmp (nth l (j + 1)) (nth l j) < 0) = true then sink cmp a j ((l.set (j + 1) (nth l j)).set j (nth l (j + 1))) else l else l
def insSort (cmp : α → α → Int) (a : Nat) : Nat → Nat → List α → List α
  | 0, _, l => l
  | k + 1, i, l => insSort cmp a k (i + 1) (sink cmp a i l)
theorem sink_len (cmp : α → α → Int) (a j : Nat) : ∀ (l : List α), (sink cmp a j l).length = l.length := by
  induction j with
  | zero => intro l; simp only [sink]
  | succ j ih =>
    intro l
    simp only [sink]
    split
    · split
      · rw [ih]; simp
      · rfl
    · rfl
theorem insSort_len (cmp : α → α → Int) (a k : Nat) : ∀ (i : Nat) (l : List α), (insSort cmp a k i l).length = l.length := by
  induction k with
  | zero => intro i l; simp only [insSort]
  | succ k ih => intro i l; simp only [insSort]; rw [ih, sink_len]
end
def insC_ann : Ann := { base := 1, fin := some 1, live := [(1, [0, 1, 2, 3, 8]), (4, [0, 1, 2, 3, 8, 9])], out := [(1, [0, 1, 2, 3, 8]), (4, [0, 1, 2, 3, 8])] }
@[simp] abbrev Se_1 (v1_ : Nat) (v2_ : List Card) (v3_ : Nat) : Heap := [⟨v1_, 9, (List.map Card.row ((v2_.set v3_ (nth v2_ (v3_ - 1))).set (v3_ - 1) (nth v2_ v3_))), none⟩]
@[simp] abbrev Se_2 (v1_ : Nat) (v2_ : Nat) (v3_ : Nat) (v4_ : Nat) (v5_ : Nat) (v6_ : List AV) (v7_ : Nat) : Fr := (mkF 53 [(0, (AV.osl 0 v1_ 9 0 v2_)), (1, (AV.int .i64 ((v3_ : Nat) : Int))), (2, (AV.int .i64 ((v4_ : Nat) : Int))), (3, (AV.func v5_ v6_)), (8, (AV.int .i64 ((v7_ : Nat) : Int)))])
set_option maxRecDepth 100000 in
theorem insC_sink (cmp : Card → Card → Int) (f : Nat) (xs : List AV) (hc : ∀ (x y : Card) (H : Heap), ACalls Try.prog f ([AV.agg (Card.row x), AV.agg (Card.row y)] ++ xs) H (AV.int .i64 (cmp x y), H)) (a b i n g : Nat) (j : Nat) (l : List Card) (hn : n = l.length) (hb : n < 1099511627776) (hbn : b ≤ n) (hj : j < n) {eX : Ex} {FX : Fr} {HX : Heap} (k1 : (decide (((j : Nat) : Int) > ((a : Nat) : Int))) = true → (decide ((cmp (nth l j) (nth l (j - 1))) < 0)) = true → LoopTo (codeQ Try.prog (X insC_ann) (loopOf Try.f110 1)) (some [0, 1, 2, 3, 8, 9]) (some [0, 1, 2, 3, 8]) (mkF 53 [(0, (.osl 0 g 9 0 n)), (1, (.int .i64 ((a : Nat) : Int))), (2, (.int .i64 ((b : Nat) : Int))), (3, (.func f xs)), (8, (.int .i64 ((i : Nat) : Int))), (9, (.int .i64 ((j - 1 : Nat) : Int)))]) (Se_1 g l j) eX FX HX) (k2 : (decide (((j : Nat) : Int) > ((a : Nat) : Int))) = true → (decide ((cmp (nth l j) (nth l (j - 1))) < 0)) = false → ((.exit 2 : Ex), (Se_2 g n a b f xs i), ([⟨g, 9, (List.map Card.row l), none⟩] : Heap)) = (eX, FX, HX)) (k3 : (decide (((j : Nat) : Int) > ((a : Nat) : Int))) = false → ((.exit 2 : Ex), (Se_2 g n a b f xs i), ([⟨g, 9, (List.map Card.row l), none⟩] : Heap)) = (eX, FX, HX)) : LoopTo (codeQ Try.prog (X insC_ann) (loopOf Try.f110 1)) (some [0, 1, 2, 3, 8, 9]) (some [0, 1, 2, 3, 8]) (mkF 53 [(0, (.osl 0 g 9 0 n)), (1, (.int .i64 ((a : Nat) : Int))), (2, (.int .i64 ((b : Nat) : Int))), (3, (.func f xs)), (8, (.int .i64 ((i : Nat) : Int))), (9, (.int .i64 ((j : Nat) : Int)))]) ([⟨g, 9, (List.map Card.row l), none⟩] : Heap) eX FX HX :=
  stepO (.r (.two (decide (((j : Nat) : Int) > ((a : Nat) : Int))) (fun h1 h1' => (.yes (.yes (.yes (.io 7 0 g 9 9 0 n ((j : Nat) : Int) j (IdxOsl.mk _ ow ow) (.yes (.t 8 (AV.agg (Card.row (nth l j))) ([⟨g, 9, (List.map Card.row l), none⟩] : Heap) (load_row (rowAt_map (row := Card.row) (l := l) (k := 9) (room := none) kr om) kr : LoadTo tt 58 0 ([⟨g, 9, (List.map Card.row l), none⟩] : Heap) (rowAt ([⟨g, 9, (List.map Card.row l), none⟩] : Heap) 0 g j) = some ((AV.agg (Card.row (nth l j))), ([⟨g, 9, (List.map Card.row l), none⟩] : Heap))) (.yes (.yes (.yes (.y 11 (.int .i64 (IntKind.i64.wrap (((j : Nat) : Int) - 1))) (AV.int .i64 ((j - 1 : Nat) : Int)) (Yes.add ow ow ow) (.yes (.io 12 0 g 9 9 0 n ((j - 1 : Nat) : Int) (j - 1) (IdxOsl.mk _ ow ow) (.yes (.t 13 (AV.agg (Card.row (nth l (j - 1)))) ([⟨g, 9, (List.map Card.row l), none⟩] : Heap) (load_row (rowAt_map (row := Card.row) (l := l) (k := 9) (room := none) kr om) kr : LoadTo tt 58 0 ([⟨g, 9, (List.map Card.row l), none⟩] : Heap) (rowAt ([⟨g, 9, (List.map Card.row l), none⟩] : Heap) 0 g (j - 1)) = some ((AV.agg (Card.row (nth l (j - 1)))), ([⟨g, 9, (List.map Card.row l), none⟩] : Heap))) (.yes (.c 14 (hc (nth l j) (nth l (j - 1)) ([⟨g, 9, (List.map Card.row l), none⟩] : Heap)) (.yes (.g (.two (decide ((cmp (nth l j) (nth l (j - 1))) < 0)) (fun h2 h2' => (.r (.y 4 (.int .i64 (IntKind.i64.wrap (((j : Nat) : Int) - 1))) (AV.int .i64 ((j - 1 : Nat) : Int)) (Yes.add ow ow ow) (.y 7 (.int .i64 (IntKind.i64.wrap (((j : Nat) : Int) - 1))) (AV.int .i64 ((j - 1 : Nat) : Int)) (Yes.add ow ow ow) (.io 8 0 g 9 9 0 n ((j - 1 : Nat) : Int) (j - 1) (IdxOsl.mk _ ow ow) (.t 9 (AV.agg (Card.row (nth l (j - 1)))) ([⟨g, 9, (List.map Card.row l), none⟩] : Heap) (load_row (rowAt_map (row := Card.row) (l := l) (k := 9) (room := none) kr om) kr : LoadTo tt 58 0 ([⟨g, 9, (List.map Card.row l), none⟩] : Heap) (rowAt ([⟨g, 9, (List.map Card.row l), none⟩] : Heap) 0 g (j - 1)) = some ((AV.agg (Card.row (nth l (j - 1)))), ([⟨g, 9, (List.map Card.row l), none⟩] : Heap))) (.io 12 0 g 9 9 0 n ((j : Nat) : Int) j (IdxOsl.mk _ ow ow) (.t 13 (AV.agg (Card.row (nth l j))) ([⟨g, 9, (List.map Card.row l), none⟩] : Heap) (load_row (rowAt_map (row := Card.row) (l := l) (k := 9) (room := none) kr om) kr : LoadTo tt 58 0 ([⟨g, 9, (List.map Card.row l), none⟩] : Heap) (rowAt ([⟨g, 9, (List.map Card.row l), none⟩] : Heap) 0 g j) = some ((AV.agg (Card.row (nth l j))), ([⟨g, 9, (List.map Card.row l), none⟩] : Heap))) (.io 14 0 g 9 9 0 n ((j : Nat) : Int) j (IdxOsl.mk _ ow ow) (.st 15 0 g j 9 0 (AV.agg (Card.row (nth l (j - 1)))) ([⟨g, 9, (List.map Card.row (l.set j (nth l (j - 1)))), none⟩] : Heap) (store_row (us := (Card.row (nth l (j - 1)))) (rowAt_map (row := Card.row) (l := l) (k := 9) (room := none) kr om) kr (by simp [Card.row]) (by simp [setAt, fillAt, List.map_set, Card.row])) (.io 16 0 g 9 9 0 n ((j - 1 : Nat) : Int) (j - 1) (IdxOsl.mk _ ow ow) (.st 17 0 g (j - 1) 9 0 (AV.agg (Card.row (nth l j))) (Se_1 g l j) (store_row (us := (Card.row (nth l j))) (rowAt_map (row := Card.row) (l := l.set j (nth l (j - 1))) (k := 9) (room := none) kr om) kr (by simp [Card.row]) (by simp [setAt, fillAt, List.map_set, Card.row])) (.g (.r (.y 1 (.int .i64 (IntKind.i64.wrap (((j : Nat) : Int) - 1))) (AV.int .i64 ((j - 1 : Nat) : Int)) (Yes.add ow ow ow) (.g (.l (k1 h1 h2)))))))))))))))))) (fun h2 h2' => (.l (k2 h1 h2))))))))))))))))))))))) (fun h1 h1' => (.no (.no (.no (.no (.no (.no (.no (.no (.no (.no (.no (.g (.no (.l (k3 h1))))))))))))))))))
theorem insC_sinks (cmp : Card → Card → Int) (f : Nat) (xs : List AV) (hc : ∀ (x y : Card) (H : Heap), ACalls Try.prog f ([AV.agg (Card.row x), AV.agg (Card.row y)] ++ xs) H (AV.int .i64 (cmp x y), H)) (a b i n g : Nat) (j : Nat) : ∀ (l lF : List Card), n = l.length → n < 1099511627776 → b ≤ n → j < n → lF = sink cmp a j l →
    LoopTo (codeQ Try.prog (X insC_ann) (loopOf Try.f110 1)) (some [0, 1, 2, 3, 8, 9]) (some [0, 1, 2, 3, 8]) (mkF 53 [(0, (.osl 0 g 9 0 n)), (1, (.int .i64 ((a : Nat) : Int))), (2, (.int .i64 ((b : Nat) : Int))), (3, (.func f xs)), (8, (.int .i64 ((i : Nat) : Int))), (9, (.int .i64 ((j : Nat) : Int)))]) ([⟨g, 9, (List.map Card.row l), none⟩] : Heap) (.exit 2) (mkF 53 [(0, (.osl 0 g 9 0 n)), (1, (.int .i64 ((a : Nat) : Int))), (2, (.int .i64 ((b : Nat) : Int))), (3, (.func f xs)), (8, (.int .i64 ((i : Nat) : Int)))]) ([⟨g, 9, (List.map Card.row lF), none⟩] : Heap) := by
  induction j with
  | zero =>
    intro l lF hn hb hbn hj h
    refine insC_sink cmp f xs hc a b i n g 0 l hn hb hbn hj (fun h1 => ?_) (fun h1 => ?_) (fun h1 => ?_)
    · simp at h1; omega
    · simp at h1; omega
    · rw [h]; rfl
  | succ j ih =>
    intro l lF hn hb hbn hj h
    refine insC_sink cmp f xs hc a b i n g (j + 1) l hn hb hbn hj (fun h1 h2 => ?_) (fun h1 h2 => ?_) (fun h1 => ?_)
    · simp only [Nat.add_sub_cancel] at h2
      exact ih ((l.set (j + 1) (nth l j)).set j (nth l (j + 1))) lF (by simp [hn]) hb hbn ow (by rw [h]; simp only [sink]; rw [if_pos h1, if_pos h2])
    · simp only [Nat.add_sub_cancel] at h2
      rw [h]; simp only [sink]; rw [if_pos h1, if_neg (by rw [h2]; simp)]
    · rw [h]; simp only [sink]; rw [if_neg (by rw [h1]; simp)]
set_option maxRecDepth 100000 in
theorem insC_step (cmp : Card → Card → Int) (f : Nat) (xs : List AV) (hc : ∀ (x y : Card) (H : Heap), ACalls Try.prog f ([AV.agg (Card.row x), AV.agg (Card.row y)] ++ xs) H (AV.int .i64 (cmp x y), H)) (a b i n g : Nat) (l : List Card) (hn : n = l.length) (hb : n < 1099511627776) (hbn : b ≤ n) {eX : Ex} {FX : Fr} {HX : Heap} (k1 : (decide (((i : Nat) : Int) < ((b : Nat) : Int))) = true → LoopTo (codeQ Try.prog (X insC_ann) (loopOf Try.f110 0)) (some [0, 1, 2, 3, 8]) (some [0, 1, 2, 3, 8]) (mkF 53 [(0, (.osl 0 g 9 0 n)), (1, (.int .i64 ((a : Nat) : Int))), (2, (.int .i64 ((b : Nat) : Int))), (3, (.func f xs)), (8, (.int .i64 ((i + 1 : Nat) : Int)))]) ([⟨g, 9, (List.map Card.row (sink cmp a i l)), none⟩] : Heap) eX FX HX) (k2 : (decide (((i : Nat) : Int) < ((b : Nat) : Int))) = false → ((.exit 0 : Ex), (Se_2 g n a b f xs i), ([⟨g, 9, (List.map Card.row l), none⟩] : Heap)) = (eX, FX, HX)) : LoopTo (codeQ Try.prog (X insC_ann) (loopOf Try.f110 0)) (some [0, 1, 2, 3, 8]) (some [0, 1, 2, 3, 8]) (Se_2 g n a b f xs i) ([⟨g, 9, (List.map Card.row l), none⟩] : Heap) eX FX HX :=
  stepO (.r (.g (.two (decide (((i : Nat) : Int) < ((b : Nat) : Int))) (fun h1 h1' => (.r (.g (.loop (Se_2 g n a b f xs i) (show LoopTo (codeQ Try.prog (X insC_ann) (loopOf Try.f110 1)) (some [0, 1, 2, 3, 8, 9]) (some [0, 1, 2, 3, 8]) (mkF 53 [(0, (.osl 0 g 9 0 n)), (1, (.int .i64 ((a : Nat) : Int))), (2, (.int .i64 ((b : Nat) : Int))), (3, (.func f xs)), (8, (.int .i64 ((i : Nat) : Int))), (9, (.int .i64 ((i : Nat) : Int)))]) ([⟨g, 9, (List.map Card.row l), none⟩] : Heap) (.exit 2) (Se_2 g n a b f xs i) ([⟨g, 9, (List.map Card.row (sink cmp a i l)), none⟩] : Heap) from (insC_sinks cmp f xs hc a b i n g i l _ hn hb hbn ow rfl)) (.r (.y 1 (.int .i64 (IntKind.i64.wrap (((i : Nat) : Int) + 1))) (AV.int .i64 ((i + 1 : Nat) : Int)) (Yes.add ow ow ow) (.g (.l (k1 h1))))))))) (fun h1 h1' => (.l (k2 h1))))))
theorem insC_loop (cmp : Card → Card → Int) (f : Nat) (xs : List AV) (hc : ∀ (x y : Card) (H : Heap), ACalls Try.prog f ([AV.agg (Card.row x), AV.agg (Card.row y)] ++ xs) H (AV.int .i64 (cmp x y), H)) (a b n g : Nat) (k : Nat)
    : ∀ (i : Nat) (l lF : List Card) (iF : Nat), n = l.length → n < 1099511627776 → b ≤ n → iF = i + k → b ≤ i + k → i + k ≤ max b i → lF = insSort cmp a k i l →
    LoopTo (codeQ Try.prog (X insC_ann) (loopOf Try.f110 0)) (some [0, 1, 2, 3, 8]) (some [0, 1, 2, 3, 8]) (mkF 53 [(0, (.osl 0 g 9 0 n)), (1, (.int .i64 ((a : Nat) : Int))), (2, (.int .i64 ((b : Nat) : Int))), (3, (.func f xs)), (8, (.int .i64 ((i : Nat) : Int)))]) ([⟨g, 9, (List.map Card.row l), none⟩] : Heap) (.exit 0) (mkF 53 [(0, (.osl 0 g 9 0 n)), (1, (.int .i64 ((a : Nat) : Int))), (2, (.int .i64 ((b : Nat) : Int))), (3, (.func f xs)), (8, (.int .i64 ((iF : Nat) : Int)))]) ([⟨g, 9, (List.map Card.row lF), none⟩] : Heap) := by
  induction k with
  | zero =>
    intro i l lF iF hn hb hbn h1 h2 h2' h3
    refine insC_step cmp f xs hc a b i n g l hn hb hbn (fun h => ?_) (fun h => ?_)
    · simp at h; omega
    · rw [h3, h1]; simp only [insSort]; rfl
  | succ k ih =>
    intro i l lF iF hn hb hbn h1 h2 h2' h3
    refine insC_step cmp f xs hc a b i n g l hn hb hbn (fun h => ?_) (fun h => ?_)
    · exact ih (i + 1) (sink cmp a i l) lF iF (by rw [sink_len]; exact hn) hb hbn ow ow (by simp at h; omega) (by rw [h3]; simp only [insSort])
    · simp at h; omega
@[simp] abbrev Se_3 (v1_ : Nat) (v2_ : Nat) (v3_ : Nat) (v4_ : Nat) (v5_ : Nat) (v6_ : List AV) : Fr := (mkF 53 [(0, (AV.osl 0 v1_ 9 0 v2_)), (1, (AV.int .i64 ((v3_ : Nat) : Int))), (2, (AV.int .i64 ((v4_ : Nat) : Int))), (3, (AV.func v5_ v6_)), (8, (AV.int .i64 ((((v3_ + 1) + (v4_ - (v3_ + 1))) : Nat) : Int)))])
set_option maxRecDepth 100000 in
theorem insC_spec (cmp : Card → Card → Int) (f : Nat) (xs : List AV) (a b n g : Nat) (l : List Card) (hc : ∀ (x y : Card) (H : Heap), ACalls Try.prog f ([AV.agg (Card.row x), AV.agg (Card.row y)] ++ xs) H (AV.int .i64 (cmp x y), H)) (hxs : AV.bdds 1 xs = true) (hn : n = l.length) (hb : n < 1099511627776) (hbn : b ≤ n) (hab : a < 1099511627776) : ACalls Try.prog 110 [(.osl 0 g 9 0 n), (.int .i64 ((a : Nat) : Int)), (.int .i64 ((b : Nat) : Int)), (.func f xs)] ([⟨g, 9, (List.map Card.row l), none⟩] : Heap) ((AV.tup []), ([⟨g, 9, (List.map Card.row (insSort cmp a (b - (a + 1)) (a + 1) l)), none⟩] : Heap)) :=
  specO (fn := Try.f110) (ann := insC_ann) (Has.o Try.func110) (.r (.y 1 (.int .i64 (IntKind.i64.wrap (((a : Nat) : Int) + 1))) (AV.int .i64 ((a + 1 : Nat) : Int)) (Yes.add ow ow ow) (.g (.loop (Se_3 g n a b f xs) (show LoopTo (codeQ Try.prog (X insC_ann) (loopOf Try.f110 0)) (some [0, 1, 2, 3, 8]) (some [0, 1, 2, 3, 8]) (mkF 53 [(0, (.osl 0 g 9 0 n)), (1, (.int .i64 ((a : Nat) : Int))), (2, (.int .i64 ((b : Nat) : Int))), (3, (.func f xs)), (8, (.int .i64 ((a + 1 : Nat) : Int)))]) ([⟨g, 9, (List.map Card.row l), none⟩] : Heap) (.exit 0) (Se_3 g n a b f xs) ([⟨g, 9, (List.map Card.row (insSort cmp a (b - (a + 1)) (a + 1) l)), none⟩] : Heap) from (insC_loop cmp f xs hc a b n g (b - (a + 1)) (a + 1) l _ _ hn hb hbn rfl ow ow rfl)) (.f 1 (AV.tup []) (.e (AV.tup [])))))))
theorem insC_at (cmp : Card → Card → Int) (f : Nat) (xs : List AV) (a b n g : Nat) (l : List Card) (hc : ∀ (x y : Card) (H : Heap), ACalls Try.prog f ([AV.agg (Card.row x), AV.agg (Card.row y)] ++ xs) H (AV.int .i64 (cmp x y), H)) (hxs : AV.bdds 1 xs = true) (hn : n = l.length) (hb : n < 1099511627776) (hbn : b ≤ n) (hab : a < 1099511627776) (H : Heap) : ACalls Try.prog 110 [(.osl 0 g 9 0 n), (.int .i64 ((a : Nat) : Int)), (.int .i64 ((b : Nat) : Int)), (.func f xs)] (([⟨g, 9, (List.map Card.row l), none⟩] : Heap) ++ H) ((AV.tup []), ([⟨g, 9, (List.map Card.row (insSort cmp a (b - (a + 1)) (a + 1) l)), none⟩] : Heap) ++ H) := (insC_spec cmp f xs a b n g l hc hxs hn hb hbn hab).ext (by simp [AV.bdds, AV.bdd, *]) kr ob ob kr H
end Go.Proofs.Yteajpacajikaaaa.AM

set_option maxRecDepth 100000
set_option linter.unusedVariables false
set_option linter.unusedSimpArgs false
namespace Go.Proofs.Yteajpacajikaaaa.AM
open Go Go.Proofs.Yteajpacajikaaaa
attribute [local irreducible] ACalls funT codeT codeQ LoopTo
attribute [local irreducible] Tp.card Tp.cardT Tp.next Tp.step Tp.cards Tp.key Tp.keyT sink insSort
end Go.Proofs.Yteajpacajikaaaa.AM

set_option maxRecDepth 100000
set_option linter.unusedVariables false
set_option linter.unusedSimpArgs false
namespace Go.Proofs.Yteajpacajikaaaa.AM
open Go Go.Proofs.Yteajpacajikaaaa
attribute [local irreducible] ACalls funT codeT codeQ LoopTo
attribute [local irreducible] Tp.card Tp.cardT Tp.next Tp.step Tp.cards Tp.key Tp.keyT sink insSort
theorem drop_nth {α : Type} [Inhabited α] {l : List α} {i : Nat} (h : i < l.length) : l.drop i = nth l i :: l.drop (i + 1) := by
  rw [List.drop_eq_getElem_cons h]
  congr 1
  simp [nth, List.getD_eq_getElem?_getD, List.getElem?_eq_getElem h]
end Go.Proofs.Yteajpacajikaaaa.AM

set_option maxRecDepth 100000
set_option linter.unusedVariables false
set_option linter.unusedSimpArgs false
namespace Go.Proofs.Yteajpacajikaaaa.AM
open Go Go.Proofs.Yteajpacajikaaaa
attribute [local irreducible] ACalls funT codeT codeQ LoopTo
attribute [local irreducible] Tp.card Tp.cardT Tp.next Tp.step Tp.cards Tp.key Tp.keyT sink insSort
def beforeK (a b : Key) : Bool := if (!(a.app.toList == b.app.toList)) = true then Op.bytesLess a.app.toList b.app.toList else Op.bytesLess a.id.toList b.id.toList
end Go.Proofs.Yteajpacajikaaaa.AM

set_option maxRecDepth 100000
set_option linter.unusedVariables false
set_option linter.unusedSimpArgs false
namespace Go.Proofs.Yteajpacajikaaaa.AM
open Go Go.Proofs.Yteajpacajikaaaa
attribute [local irreducible] ACalls funT codeT codeQ LoopTo
attribute [local irreducible] Tp.card Tp.cardT Tp.next Tp.step Tp.cards Tp.key Tp.keyT sink insSort beforeK
end Go.Proofs.Yteajpacajikaaaa.AM

set_option maxRecDepth 100000
set_option linter.unusedVariables false
set_option linter.unusedSimpArgs false
namespace Go.Proofs.Yteajpacajikaaaa.AM
open Go Go.Proofs.Yteajpacajikaaaa
attribute [local irreducible] ACalls funT codeT codeQ LoopTo
attribute [local irreducible] Tp.card Tp.cardT Tp.next Tp.step Tp.cards Tp.key Tp.keyT sink insSort beforeK
def cloneCN_ann : Ann := { gha := [(2, .vir 2 9)], fin := some 1 }
set_option maxRecDepth 100000 in
theorem cloneCN_spec   : ACalls Try.prog 78 [(.sl .nil 0 [])] ([] : Heap) ((AV.osl 0 0 9 0 0), ([⟨0, 9, (List.map Card.row []), none⟩] : Heap)) :=
  specO (fn := Try.f78) (ann := cloneCN_ann) (Has.o Try.func78) (.r (.g (.r (.g (.yes (.r (.g (.h' ([⟨0, 9, (List.map Card.row []), none⟩] : Heap) (.f 1 (AV.osl 0 0 9 0 0) (.e (AV.osl 0 0 9 0 0)))))))))))
def cloneCO_ann : Ann := { own := [7], fin := some 1 }
set_option maxRecDepth 100000 in
theorem cloneCO_spec (l : List Card) (hl : l.length < 1099511627776) : ACalls Try.prog 78 [(.sl .op 9 (List.map Card.row l))] ([] : Heap) ((AV.osl 0 0 9 0 l.length), ([⟨0, 9, (List.map Card.row l), none⟩] : Heap)) :=
  specO (fn := Try.f78) (ann := cloneCO_ann) (Has.o Try.func78) (.r (.g (.r (.g (.no (.r (.ao 2 35 (AV.sl .clip 9 []) (AV.sl .op 9 (List.map Card.row l)) (AV.osl 0 0 9 0 l.length) ([⟨0, 9, (List.map Card.row l), none⟩] : Heap) (evAppendO_fresh (T := tt) (e := 58) (te := { d := .struct [(26, 0), (3, 2), (3, 3), (2, 4), (56, 5), (4, 8)], size := 9, bytes := 88, zero := [.str ⟨#[]⟩, .str ⟨#[]⟩, .int .i64 0, .int .i64 0, .int .i64 0, .int .i64 0, .int .i64 0, .int .i64 0, .bool false] }) (z := 1) (b := 24) (y := [.sl .nil 0 []]) (row := Card.row) kr kr rfl (by decide) (by decide) (by simp) (by first | (simp [rowsIn, List.map_take, List.map_drop, List.take_of_length_le]; done) | simp [rowsIn, rU8, rI64, rStr, rBool]) rfl rfl rfl om) (.g (.f 1 (AV.osl 0 0 9 0 l.length) (.e (AV.osl 0 0 9 0 l.length)))))))))))
theorem cloneC_spec (l : List Card) (hl : l.length < 1099511627776) : ACalls Try.prog 78 [(.sl .any 9 (List.map Card.row l))] ([] : Heap) ((AV.osl 0 0 9 0 l.length), ([⟨0, 9, (List.map Card.row l), none⟩] : Heap)) := ACalls.orNil (fun h => by
    have h2 : l = [] := by simpa using h
    subst h2; exact cloneCN_spec) (cloneCO_spec l hl)
theorem cloneC_at (l : List Card) (hl : l.length < 1099511627776) (H : Heap) : ACalls Try.prog 78 [(.sl .any 9 (List.map Card.row l))] H (.osl H.length 0 9 0 l.length, H ++ ([⟨0, 9, (List.map Card.row l), none⟩] : Heap)) := (cloneC_spec l hl).lift_osl kr (by simp [AV.bddss, Card.rows_bdd]) H
def sortcmp_ann : Ann := { refs := [2, 3], fin := some 0 }
set_option maxRecDepth 100000 in
theorem sortcmp_spec (a b : Card)  : ACalls Try.prog 80 [(.agg (Card.row a)), (.agg (Card.row b))] ([] : Heap) ((AV.int .i64 (cmpK a.key b.key)), ([] : Heap)) :=
  specO (fn := Try.f80) (ann := sortcmp_ann) (Has.o Try.func80) (.r (.g (.r (.c 4 (keyCmp_at a.key b.key  ([] : Heap)) (.g (.f 0 (AV.int .i64 (cmpK a.key b.key)) (.e (AV.int .i64 (cmpK a.key b.key)))))))))
theorem sortcmp_at (a b : Card)  (H : Heap) : ACalls Try.prog 80 [(.agg (Card.row a)), (.agg (Card.row b))] H ((AV.int .i64 (cmpK a.key b.key)), H) := (sortcmp_spec a b ).lift kr kr H
def clipC_ann : Ann := { fin := some 0 }
set_option maxRecDepth 100000 in
theorem clipC_spec (l : List Card) (hl : l.length < 1099511627776) : ACalls Try.prog 82 [(.sl .any 9 (List.map Card.row l))] ([] : Heap) ((AV.sl .cn 9 (List.map Card.row l)), ([] : Heap)) :=
  specO (fn := Try.f82) (ann := clipC_ann) (Has.o Try.func82) (.r (.g (.r (.y 2 (.int .i64 ((List.length (List.map Card.row l) : Nat) : Int)) (AV.int .i64 ((l.length : Nat) : Int)) (Yes.len _ _ _) (.y 4 (.int .i64 ((List.length (List.map Card.row l) : Nat) : Int)) (AV.int .i64 ((l.length : Nat) : Int)) (Yes.len _ _ _) (.t 5 (AV.sl .cn 9 (List.map Card.row l)) ([] : Heap) (slice_max (l := 0) (h := l.length) om om om om (by simp [List.map_take, List.map_drop, List.take_of_length_le]) (by first | rfl | omega | (simp; done) | (simp; omega)) : Option.map (fun a => (a, ([] : Heap))) (if 9 = 9 ∨ ((List.map Card.row l)).isEmpty = true then (if ((l.length : Nat) : Int) = ((l.length : Nat) : Int) then (bounds 0 ((l.length : Nat) : Int) (List.length (List.map Card.row l))).map fun p => AV.sl .cn 9 ((List.take p.2 (List.map Card.row l)).drop p.1) else none) else none) = some ((AV.sl .cn 9 (List.map Card.row l)), ([] : Heap))) (.g (.f 0 (AV.sl .cn 9 (List.map Card.row l)) (.e (AV.sl .cn 9 (List.map Card.row l)))))))))))
theorem clipC_at (l : List Card) (hl : l.length < 1099511627776) (H : Heap) : ACalls Try.prog 82 [(.sl .any 9 (List.map Card.row l))] H ((AV.sl .cn 9 (List.map Card.row l)), H) := (clipC_spec l hl).lift kr kr H
def sortP (l : List Card) : List Card := insSort (fun a b => cmpK a.key b.key) 0 (l.length - 1) 1 l
theorem sortP_len (l : List Card) : (sortP l).length = l.length := by unfold sortP; rw [insSort_len]
def sortCard0_ann : Ann := { gha := [(2, .frz 3)], fin := some 0 }
def Stamp.eqb (a b : Stamp) : Bool := (a.t == b.t) && ((a.node == b.node) && ((a.n == b.n) && true))
def Card.eqb (a b : Card) : Bool := (Key.eqb a.key b.key) && ((a.status == b.status) && ((a.over == b.over) && ((a.lease == b.lease) && ((Stamp.eqb a.stamp b.stamp) && ((a.gone == b.gone) && true)))))
theorem fold_fmap' {α β : Type} (p : α → Bool) (f : α → β) (l : List α) : ∀ (out : List β) (k g : Nat),
    l.foldl (fun (s : List β × Nat × Nat) c => if p c = true then (s.1 ++ [f c], s.2.1 + 1, s.2.2 + 1) else s) (out, k, g) = (out ++ (l.filter p).map f, k + ((l.filter p).map f).length, g + ((l.filter p).map f).length) := by
  induction l with
  | nil => intro out k g; simp
  | cons c l ih =>
    intro out k g
    rw [List.foldl_cons]
    by_cases h : p c = true
    · rw [if_pos h, ih]; simp [List.filter_cons, h]; omega
    · rw [if_neg h, ih]; simp [List.filter_cons, h]
end Go.Proofs.Yteajpacajikaaaa.AM

set_option linter.unusedVariables false
set_option linter.unusedSimpArgs false
namespace Go.Proofs.Yteajpacajikaaaa.AM
open Go
def strL (s : ByteArray) : List Int := s.data.toList.map fun b => (b.toNat : Int)
theorem strL_len (s : ByteArray) : (strL s).length = s.size := by unfold strL; rw [List.length_map]; rfl
theorem rows_str (H : Heap) (s : ByteArray) : rowsIn H 1 (.str s) = some ((strL s).map rU8) := by
  simp [rowsIn, strL, rU8, Function.comp_def]
theorem slice_str {H : Heap} {s : ByteArray} {lo hi : Int} {l h : Nat} (hlo : lo = (l : Int)) (hhi : hi = (h : Int)) (h1 : l ≤ h) (h2 : h ≤ s.size) :
    Option.map (fun a => (a, H)) ((bounds lo hi s.size).map fun p => AV.str (s.extract p.1 p.2)) = some (.str (s.extract l h), H) := by
  subst hlo hhi
  unfold bounds
  rw [if_pos ⟨by omega, by omega, by omega⟩]
  simp
end Go.Proofs.Yteajpacajikaaaa.AM

set_option maxRecDepth 100000
set_option linter.unusedVariables false
set_option linter.unusedSimpArgs false
namespace Go.Proofs.Yteajpacajikaaaa.AM
open Go Go.Proofs.Yteajpacajikaaaa
attribute [local irreducible] ACalls funT codeT codeQ LoopTo
attribute [local irreducible] Tp.card Tp.cardT Tp.next Tp.step Tp.cards Tp.key Tp.keyT sink insSort beforeK sortP cmpK
def cloneBN_ann : Ann := { gha := [(2, .vir 2 1)], fin := some 1 }
set_option maxRecDepth 100000 in
theorem cloneBN_spec   : ACalls Try.prog 113 [(.sl .nil 0 [])] ([] : Heap) ((AV.osl 0 0 1 0 0), ([⟨0, 1, (List.map rU8 []), none⟩] : Heap)) :=
  specO (fn := Try.f113) (ann := cloneBN_ann) (Has.o Try.func113) (.r (.g (.r (.g (.yes (.r (.g (.h' ([⟨0, 1, (List.map rU8 []), none⟩] : Heap) (.f 1 (AV.osl 0 0 1 0 0) (.e (AV.osl 0 0 1 0 0)))))))))))
def cloneBO_ann : Ann := { own := [7], fin := some 1 }
set_option maxRecDepth 100000 in
theorem cloneBO_spec (l : List Int) (hl : l.length < 1099511627776) : ACalls Try.prog 113 [(.sl .op 1 (List.map rU8 l))] ([] : Heap) ((AV.osl 0 0 1 0 l.length), ([⟨0, 1, (List.map rU8 l), none⟩] : Heap)) :=
  specO (fn := Try.f113) (ann := cloneBO_ann) (Has.o Try.func113) (.r (.g (.r (.g (.no (.r (.ao 2 141 (AV.sl .clip 1 []) (AV.sl .op 1 (List.map rU8 l)) (AV.osl 0 0 1 0 l.length) ([⟨0, 1, (List.map rU8 l), none⟩] : Heap) (evAppendO_fresh (T := tt) (e := 5) (te := { d := .int .u8, size := 1, bytes := 1, zero := [.int .u8 0] }) (z := 1) (b := 24) (y := [.sl .nil 0 []]) (row := rU8) kr kr rfl (by decide) (by decide) (by simp) (by first | (simp [rowsIn, List.map_take, List.map_drop, List.take_of_length_le]; done) | simp [rowsIn, rU8, rI64, rStr, rBool]) rfl rfl rfl om) (.g (.f 1 (AV.osl 0 0 1 0 l.length) (.e (AV.osl 0 0 1 0 l.length)))))))))))
theorem cloneB_spec (l : List Int) (hl : l.length < 1099511627776) : ACalls Try.prog 113 [(.sl .any 1 (List.map rU8 l))] ([] : Heap) ((AV.osl 0 0 1 0 l.length), ([⟨0, 1, (List.map rU8 l), none⟩] : Heap)) := ACalls.orNil (fun h => by
    have h2 : l = [] := by simpa using h
    subst h2; exact cloneBN_spec) (cloneBO_spec l hl)
theorem cloneB_at (l : List Int) (hl : l.length < 1099511627776) (H : Heap) : ACalls Try.prog 113 [(.sl .any 1 (List.map rU8 l))] H (.osl H.length 0 1 0 l.length, H ++ ([⟨0, 1, (List.map rU8 l), none⟩] : Heap)) := (cloneB_spec l hl).lift_osl kr (by simp [AV.bddss, rU8_bdd]) H
def byteB (b : List Int) (n : Int) : List Int := b ++ [IntKind.u8.wrap n]
theorem byteB_len (b : List Int) (n : Int) : (byteB b n).length = b.length + 1 := by simp [byteB]
def byteO_ann : Ann := { own := [10], fin := some 1 }
set_option maxRecDepth 100000 in
theorem byteO_spec (b : List Int) (n : Int) (hb : b.length < 1048576) : ACalls Try.prog 100 [(.sl .any 1 (List.map rU8 b)), (.int .i64 n)] ([] : Heap) ((AV.osl 0 1 1 0 (byteB b n).length), ([⟨1, 1, (List.map rU8 (byteB b n)), none⟩] : Heap)) := by
  have hB := byteB_len b n
  exact specO (fn := Try.f100) (ann := byteO_ann) (Has.o Try.func100) (.r (.g (.r (.ch 1 ([⟨0, 1, (List.map rU8 b), none⟩] : Heap) (cloneB_at b oa ([] : Heap)) (.ao 5 141 (AV.osl 0 0 1 0 b.length) (AV.sl .clip 1 [[(AV.int .u8 (IntKind.u8.wrap n))]]) (AV.osl 0 1 1 0 (b.length + 1)) ([⟨1, 1, (List.map rU8 (b ++ [(IntKind.u8.wrap n)])), none⟩] : Heap) (evAppendO_end (T := tt) (e := 5) (te := { d := .int .u8, size := 1, bytes := 1, zero := [.int .u8 0] }) (z := 1) (b := 24) (y := [.sl .nil 0 []]) (row := rU8) (l := b) kr kr rfl (by decide) (by decide) kr (by first | (simp [rowsIn, List.map_take, List.map_drop, List.take_of_length_le]; done) | simp [rowsIn, rU8, rI64, rStr, rBool]) om rfl rfl (by first | omega | (show _ * 1 ≤ _; omega) | (simp; done) | (simp; omega))) (.g (.f 1 (AV.osl 0 1 1 0 (b.length + 1)) (.e (AV.osl 0 1 1 0 (b.length + 1)) (by
        simp [byteB])))))))))
theorem byteO_at (b : List Int) (n : Int) (hb : b.length < 1048576) (H : Heap) : ACalls Try.prog 100 [(.sl .any 1 (List.map rU8 b)), (.int .i64 n)] H (.osl H.length 1 1 0 (byteB b n).length, H ++ ([⟨1, 1, (List.map rU8 (byteB b n)), none⟩] : Heap)) := (byteO_spec b n hb).lift_osl kr (by simp [AV.bddss, rU8_bdd]) H
theorem byteF_spec (b : List Int) (n : Int) (hb : b.length < 1048576) : ACalls Try.prog 100 [(.sl .any 1 (List.map rU8 b)), (.int .i64 n)] ([] : Heap) ((AV.sl .any 1 (List.map rU8 (byteB b n))), ([] : Heap)) := by
  have h1 := (byteO_spec b n hb).frz_osl (xs := (byteB b n).map rU8) (rowsIn_all (room := none) kr (by first | omega | simp)) (rU8_bdd _ _)
  exact ACalls.forget (H2 := []) (X := [⟨2, 1, [], none⟩]) h1 rfl kr (fun id o ho => by simp at ho)
theorem byteF_at (b : List Int) (n : Int) (hb : b.length < 1048576) (H : Heap) : ACalls Try.prog 100 [(.sl .any 1 (List.map rU8 b)), (.int .i64 n)] H ((AV.sl .any 1 (List.map rU8 (byteB b n))), H) := (byteF_spec b n hb).lift kr kr H
def cutS (s : ByteArray) : ByteArray := ByteArray.extract s 0 (min s.size 255)
theorem cutS_size (s : ByteArray) : (cutS s).size = min s.size 255 := by simp [cutS]
def textB (b : List Int) (s : ByteArray) : List Int := byteB b (cutS s).size ++ strL (cutS s)
theorem textB_len (b : List Int) (s : ByteArray) : (textB b s).length ≤ b.length + 256 := by
  have := cutS_size s
  simp only [textB, List.length_append, byteB_len, strL_len]; omega
def textO_ann : Ann := { own := [15], fin := some 1 }
set_option maxRecDepth 100000 in
theorem textO_spec (b : List Int) (s : ByteArray) (hb : b.length < 1048576) : ACalls Try.prog 101 [(.sl .any 1 (List.map rU8 b)), (.str s)] ([] : Heap) ((AV.osl 0 2 1 0 (textB b s).length), ([⟨2, 1, (List.map rU8 (textB b s)), none⟩] : Heap)) := by
  have hT := textB_len b s
  have h7 : (ByteArray.extract s 0 (min s.size 255)).size = min s.size 255 := cutS_size s
  have h5 := byteB_len b ((min s.size 255 : Nat) : Int)
  have h6 := strL_len (ByteArray.extract s 0 (min s.size 255))
  exact specO (fn := Try.f101) (ann := textO_ann) (Has.o Try.func101) (.r (.g (.r (.y 3 (.int .i64 (if 255 < ((s.size : Nat) : Int) then 255 else ((s.size : Nat) : Int))) (AV.int .i64 ((min s.size 255 : Nat) : Int)) (Yes.int (by split <;> omega)) (.t 4 (AV.str (ByteArray.extract s 0 (min s.size 255))) ([] : Heap) (slice_str om om om om : Option.map (fun a => (a, ([] : Heap))) ((bounds 0 ((min s.size 255 : Nat) : Int) (ByteArray.size s)).map fun p => AV.str (ByteArray.extract s p.1 p.2)) = some ((AV.str (ByteArray.extract s 0 (min s.size 255))), ([] : Heap))) (.g (.r (.ch 3 ([⟨1, 1, (List.map rU8 (byteB b (((ByteArray.extract s 0 (min s.size 255)).size : Nat) : Int))), none⟩] : Heap) (byteO_at b (((ByteArray.extract s 0 (min s.size 255)).size : Nat) : Int) oa ([] : Heap)) (.ao 5 141 (AV.osl 0 1 1 0 (byteB b (((ByteArray.extract s 0 (min s.size 255)).size : Nat) : Int)).length) (AV.str (ByteArray.extract s 0 (min s.size 255))) (AV.osl 0 2 1 0 ((byteB b (((ByteArray.extract s 0 (min s.size 255)).size : Nat) : Int)).length + (strL (ByteArray.extract s 0 (min s.size 255))).length)) ([⟨2, 1, (List.map rU8 ((byteB b (((ByteArray.extract s 0 (min s.size 255)).size : Nat) : Int)) ++ (strL (ByteArray.extract s 0 (min s.size 255))))), none⟩] : Heap) (evAppendO_end (T := tt) (e := 5) (te := { d := .int .u8, size := 1, bytes := 1, zero := [.int .u8 0] }) (z := 1) (b := 24) (y := [.sl .nil 0 []]) (row := rU8) (l := (byteB b (((ByteArray.extract s 0 (min s.size 255)).size : Nat) : Int))) kr kr rfl (by decide) (by decide) kr (rows_str _ _) om rfl rfl (by first | omega | (show _ * 1 ≤ _; omega) | (simp; done) | (simp; omega))) (.g (.f 1 (AV.osl 0 2 1 0 ((byteB b (((ByteArray.extract s 0 (min s.size 255)).size : Nat) : Int)).length + (strL (ByteArray.extract s 0 (min s.size 255))).length)) (.e (AV.osl 0 2 1 0 ((byteB b (((ByteArray.extract s 0 (min s.size 255)).size : Nat) : Int)).length + (strL (ByteArray.extract s 0 (min s.size 255))).length)) (by
        simp [textB, cutS, byteB, strL_len] <;> omega)))))))))))))
theorem textF_spec (b : List Int) (s : ByteArray) (hb : b.length < 1048576) : ACalls Try.prog 101 [(.sl .any 1 (List.map rU8 b)), (.str s)] ([] : Heap) ((AV.sl .any 1 (List.map rU8 (textB b s))), ([] : Heap)) := by
  have h1 := (textO_spec b s hb).frz_osl (xs := (textB b s).map rU8) (rowsIn_all (room := none) kr (by first | omega | simp)) (rU8_bdd _ _)
  exact ACalls.forget (H2 := []) (X := [⟨3, 1, [], none⟩]) h1 rfl kr (fun id o ho => by simp at ho)
theorem textF_at (b : List Int) (s : ByteArray) (hb : b.length < 1048576) (H : Heap) : ACalls Try.prog 101 [(.sl .any 1 (List.map rU8 b)), (.str s)] H ((AV.sl .any 1 (List.map rU8 (textB b s))), H) := (textF_spec b s hb).lift kr kr H
def clipB_ann : Ann := { fin := some 0 }
set_option maxRecDepth 100000 in
theorem clipB_spec (l : List Int) (hl : l.length < 1099511627776) : ACalls Try.prog 114 [(.sl .any 1 (List.map rU8 l))] ([] : Heap) ((AV.sl .cn 1 (List.map rU8 l)), ([] : Heap)) :=
  specO (fn := Try.f114) (ann := clipB_ann) (Has.o Try.func114) (.r (.g (.r (.y 2 (.int .i64 ((List.length (List.map rU8 l) : Nat) : Int)) (AV.int .i64 ((l.length : Nat) : Int)) (Yes.len _ _ _) (.y 4 (.int .i64 ((List.length (List.map rU8 l) : Nat) : Int)) (AV.int .i64 ((l.length : Nat) : Int)) (Yes.len _ _ _) (.t 5 (AV.sl .cn 1 (List.map rU8 l)) ([] : Heap) (slice_max (l := 0) (h := l.length) om om om om (by simp [List.map_take, List.map_drop, List.take_of_length_le]) (by first | rfl | omega | (simp; done) | (simp; omega)) : Option.map (fun a => (a, ([] : Heap))) (if 1 = 1 ∨ ((List.map rU8 l)).isEmpty = true then (if ((l.length : Nat) : Int) = ((l.length : Nat) : Int) then (bounds 0 ((l.length : Nat) : Int) (List.length (List.map rU8 l))).map fun p => AV.sl .cn 1 ((List.take p.2 (List.map rU8 l)).drop p.1) else none) else none) = some ((AV.sl .cn 1 (List.map rU8 l)), ([] : Heap))) (.g (.f 0 (AV.sl .cn 1 (List.map rU8 l)) (.e (AV.sl .cn 1 (List.map rU8 l)))))))))))
theorem clipB_at (l : List Int) (hl : l.length < 1099511627776) (H : Heap) : ACalls Try.prog 114 [(.sl .any 1 (List.map rU8 l))] H ((AV.sl .cn 1 (List.map rU8 l)), H) := (clipB_spec l hl).lift kr kr H
def byteAt (n : Int) (k : Nat) : Int := IntKind.u8.wrap (Int.fdiv n (2 ^ (min (Int.toNat (8 * k : Nat)) 64)))
def intB (b : List Int) (n : Int) : List Int := b ++ [byteAt n 7, byteAt n 6, byteAt n 5, byteAt n 4, byteAt n 3, byteAt n 2, byteAt n 1, byteAt n 0]
theorem intB_len (b : List Int) (n : Int) : (intB b n).length = b.length + 8 := by simp [intB]
def int8_ann : Ann := { own := [20], gh := [(6, .frz 5)], fin := some 0 }
@[simp] abbrev Sr_1 (v1_ : List Int) (v2_ : Int) : Heap := [⟨8, 1, (List.map rU8 ((((((((v1_ ++ [(IntKind.u8.wrap (Int.fdiv v2_ (2 ^ (min (Int.toNat 56) 64))))]) ++ [(IntKind.u8.wrap (Int.fdiv v2_ (2 ^ (min (Int.toNat 48) 64))))]) ++ [(IntKind.u8.wrap (Int.fdiv v2_ (2 ^ (min (Int.toNat 40) 64))))]) ++ [(IntKind.u8.wrap (Int.fdiv v2_ (2 ^ (min (Int.toNat 32) 64))))]) ++ [(IntKind.u8.wrap (Int.fdiv v2_ (2 ^ (min (Int.toNat 24) 64))))]) ++ [(IntKind.u8.wrap (Int.fdiv v2_ (2 ^ (min (Int.toNat 16) 64))))]) ++ [(IntKind.u8.wrap (Int.fdiv v2_ (2 ^ (min (Int.toNat 8) 64))))]) ++ [(IntKind.u8.wrap (Int.fdiv v2_ (2 ^ (min (Int.toNat 0) 64))))])), none⟩]
set_option maxRecDepth 100000 in
theorem int8_spec (b : List Int) (n : Int) (hb : b.length < 1048576) : ACalls Try.prog 103 [(.sl .any 1 (List.map rU8 b)), (.int .i64 n)] ([] : Heap) ((AV.sl .cn 1 (List.map rU8 (intB b n))), ([] : Heap)) :=
  specO (fn := Try.f103) (ann := int8_ann) (Has.o Try.func103) (.r (.g (.r (.ch 1 ([⟨0, 1, (List.map rU8 b), none⟩] : Heap) (cloneB_at b oa ([] : Heap)) (.g (.r (.g (.roll 9 (.r (.g (.yes (.r (.ao 7 141 (AV.osl 0 0 1 0 b.length) (AV.sl .clip 1 [[(AV.int .u8 (IntKind.u8.wrap (Int.fdiv n (2 ^ (min (Int.toNat 56) 64)))))]]) (AV.osl 0 1 1 0 (b.length + 1)) ([⟨1, 1, (List.map rU8 (b ++ [(IntKind.u8.wrap (Int.fdiv n (2 ^ (min (Int.toNat 56) 64))))])), none⟩] : Heap) (evAppendO_end (T := tt) (e := 5) (te := { d := .int .u8, size := 1, bytes := 1, zero := [.int .u8 0] }) (z := 1) (b := 24) (y := [.sl .nil 0 []]) (row := rU8) (l := b) kr kr rfl (by decide) (by decide) kr (by first | (simp [rowsIn, List.map_take, List.map_drop, List.take_of_length_le]; done) | simp [rowsIn, rU8, rI64, rStr, rBool]) om rfl rfl (by first | omega | (show _ * 1 ≤ _; omega) | (simp; done) | (simp; omega))) (.g (.r (.g (.r (.g (.yes (.r (.ao 7 141 (AV.osl 0 1 1 0 (b.length + 1)) (AV.sl .clip 1 [[(AV.int .u8 (IntKind.u8.wrap (Int.fdiv n (2 ^ (min (Int.toNat 48) 64)))))]]) (AV.osl 0 2 1 0 ((b.length + 1) + 1)) ([⟨2, 1, (List.map rU8 ((b ++ [(IntKind.u8.wrap (Int.fdiv n (2 ^ (min (Int.toNat 56) 64))))]) ++ [(IntKind.u8.wrap (Int.fdiv n (2 ^ (min (Int.toNat 48) 64))))])), none⟩] : Heap) (evAppendO_end (T := tt) (e := 5) (te := { d := .int .u8, size := 1, bytes := 1, zero := [.int .u8 0] }) (z := 1) (b := 24) (y := [.sl .nil 0 []]) (row := rU8) (l := b ++ [(IntKind.u8.wrap (Int.fdiv n (2 ^ (min (Int.toNat 56) 64))))]) kr kr rfl (by decide) (by decide) kr (by first | (simp [rowsIn, List.map_take, List.map_drop, List.take_of_length_le]; done) | simp [rowsIn, rU8, rI64, rStr, rBool]) om rfl rfl (by first | omega | (show _ * 1 ≤ _; omega) | (simp; done) | (simp; omega))) (.g (.r (.g (.r (.g (.yes (.r (.ao 7 141 (AV.osl 0 2 1 0 ((b.length + 1) + 1)) (AV.sl .clip 1 [[(AV.int .u8 (IntKind.u8.wrap (Int.fdiv n (2 ^ (min (Int.toNat 40) 64)))))]]) (AV.osl 0 3 1 0 (((b.length + 1) + 1) + 1)) ([⟨3, 1, (List.map rU8 (((b ++ [(IntKind.u8.wrap (Int.fdiv n (2 ^ (min (Int.toNat 56) 64))))]) ++ [(IntKind.u8.wrap (Int.fdiv n (2 ^ (min (Int.toNat 48) 64))))]) ++ [(IntKind.u8.wrap (Int.fdiv n (2 ^ (min (Int.toNat 40) 64))))])), none⟩] : Heap) (evAppendO_end (T := tt) (e := 5) (te := { d := .int .u8, size := 1, bytes := 1, zero := [.int .u8 0] }) (z := 1) (b := 24) (y := [.sl .nil 0 []]) (row := rU8) (l := (b ++ [(IntKind.u8.wrap (Int.fdiv n (2 ^ (min (Int.toNat 56) 64))))]) ++ [(IntKind.u8.wrap (Int.fdiv n (2 ^ (min (Int.toNat 48) 64))))]) kr kr rfl (by decide) (by decide) kr (by first | (simp [rowsIn, List.map_take, List.map_drop, List.take_of_length_le]; done) | simp [rowsIn, rU8, rI64, rStr, rBool]) om rfl rfl (by first | omega | (show _ * 1 ≤ _; omega) | (simp; done) | (simp; omega))) (.g (.r (.g (.r (.g (.yes (.r (.ao 7 141 (AV.osl 0 3 1 0 (((b.length + 1) + 1) + 1)) (AV.sl .clip 1 [[(AV.int .u8 (IntKind.u8.wrap (Int.fdiv n (2 ^ (min (Int.toNat 32) 64)))))]]) (AV.osl 0 4 1 0 ((((b.length + 1) + 1) + 1) + 1)) ([⟨4, 1, (List.map rU8 ((((b ++ [(IntKind.u8.wrap (Int.fdiv n (2 ^ (min (Int.toNat 56) 64))))]) ++ [(IntKind.u8.wrap (Int.fdiv n (2 ^ (min (Int.toNat 48) 64))))]) ++ [(IntKind.u8.wrap (Int.fdiv n (2 ^ (min (Int.toNat 40) 64))))]) ++ [(IntKind.u8.wrap (Int.fdiv n (2 ^ (min (Int.toNat 32) 64))))])), none⟩] : Heap) (evAppendO_end (T := tt) (e := 5) (te := { d := .int .u8, size := 1, bytes := 1, zero := [.int .u8 0] }) (z := 1) (b := 24) (y := [.sl .nil 0 []]) (row := rU8) (l := ((b ++ [(IntKind.u8.wrap (Int.fdiv n (2 ^ (min (Int.toNat 56) 64))))]) ++ [(IntKind.u8.wrap (Int.fdiv n (2 ^ (min (Int.toNat 48) 64))))]) ++ [(IntKind.u8.wrap (Int.fdiv n (2 ^ (min (Int.toNat 40) 64))))]) kr kr rfl (by decide) (by decide) kr (by first | (simp [rowsIn, List.map_take, List.map_drop, List.take_of_length_le]; done) | simp [rowsIn, rU8, rI64, rStr, rBool]) om rfl rfl (by first | omega | (show _ * 1 ≤ _; omega) | (simp; done) | (simp; omega))) (.g (.r (.g (.r (.g (.yes (.r (.ao 7 141 (AV.osl 0 4 1 0 ((((b.length + 1) + 1) + 1) + 1)) (AV.sl .clip 1 [[(AV.int .u8 (IntKind.u8.wrap (Int.fdiv n (2 ^ (min (Int.toNat 24) 64)))))]]) (AV.osl 0 5 1 0 (((((b.length + 1) + 1) + 1) + 1) + 1)) ([⟨5, 1, (List.map rU8 (((((b ++ [(IntKind.u8.wrap (Int.fdiv n (2 ^ (min (Int.toNat 56) 64))))]) ++ [(IntKind.u8.wrap (Int.fdiv n (2 ^ (min (Int.toNat 48) 64))))]) ++ [(IntKind.u8.wrap (Int.fdiv n (2 ^ (min (Int.toNat 40) 64))))]) ++ [(IntKind.u8.wrap (Int.fdiv n (2 ^ (min (Int.toNat 32) 64))))]) ++ [(IntKind.u8.wrap (Int.fdiv n (2 ^ (min (Int.toNat 24) 64))))])), none⟩] : Heap) (evAppendO_end (T := tt) (e := 5) (te := { d := .int .u8, size := 1, bytes := 1, zero := [.int .u8 0] }) (z := 1) (b := 24) (y := [.sl .nil 0 []]) (row := rU8) (l := (((b ++ [(IntKind.u8.wrap (Int.fdiv n (2 ^ (min (Int.toNat 56) 64))))]) ++ [(IntKind.u8.wrap (Int.fdiv n (2 ^ (min (Int.toNat 48) 64))))]) ++ [(IntKind.u8.wrap (Int.fdiv n (2 ^ (min (Int.toNat 40) 64))))]) ++ [(IntKind.u8.wrap (Int.fdiv n (2 ^ (min (Int.toNat 32) 64))))]) kr kr rfl (by decide) (by decide) kr (by first | (simp [rowsIn, List.map_take, List.map_drop, List.take_of_length_le]; done) | simp [rowsIn, rU8, rI64, rStr, rBool]) om rfl rfl (by first | omega | (show _ * 1 ≤ _; omega) | (simp; done) | (simp; omega))) (.g (.r (.g (.r (.g (.yes (.r (.ao 7 141 (AV.osl 0 5 1 0 (((((b.length + 1) + 1) + 1) + 1) + 1)) (AV.sl .clip 1 [[(AV.int .u8 (IntKind.u8.wrap (Int.fdiv n (2 ^ (min (Int.toNat 16) 64)))))]]) (AV.osl 0 6 1 0 ((((((b.length + 1) + 1) + 1) + 1) + 1) + 1)) ([⟨6, 1, (List.map rU8 ((((((b ++ [(IntKind.u8.wrap (Int.fdiv n (2 ^ (min (Int.toNat 56) 64))))]) ++ [(IntKind.u8.wrap (Int.fdiv n (2 ^ (min (Int.toNat 48) 64))))]) ++ [(IntKind.u8.wrap (Int.fdiv n (2 ^ (min (Int.toNat 40) 64))))]) ++ [(IntKind.u8.wrap (Int.fdiv n (2 ^ (min (Int.toNat 32) 64))))]) ++ [(IntKind.u8.wrap (Int.fdiv n (2 ^ (min (Int.toNat 24) 64))))]) ++ [(IntKind.u8.wrap (Int.fdiv n (2 ^ (min (Int.toNat 16) 64))))])), none⟩] : Heap) (evAppendO_end (T := tt) (e := 5) (te := { d := .int .u8, size := 1, bytes := 1, zero := [.int .u8 0] }) (z := 1) (b := 24) (y := [.sl .nil 0 []]) (row := rU8) (l := ((((b ++ [(IntKind.u8.wrap (Int.fdiv n (2 ^ (min (Int.toNat 56) 64))))]) ++ [(IntKind.u8.wrap (Int.fdiv n (2 ^ (min (Int.toNat 48) 64))))]) ++ [(IntKind.u8.wrap (Int.fdiv n (2 ^ (min (Int.toNat 40) 64))))]) ++ [(IntKind.u8.wrap (Int.fdiv n (2 ^ (min (Int.toNat 32) 64))))]) ++ [(IntKind.u8.wrap (Int.fdiv n (2 ^ (min (Int.toNat 24) 64))))]) kr kr rfl (by decide) (by decide) kr (by first | (simp [rowsIn, List.map_take, List.map_drop, List.take_of_length_le]; done) | simp [rowsIn, rU8, rI64, rStr, rBool]) om rfl rfl (by first | omega | (show _ * 1 ≤ _; omega) | (simp; done) | (simp; omega))) (.g (.r (.g (.r (.g (.yes (.r (.ao 7 141 (AV.osl 0 6 1 0 ((((((b.length + 1) + 1) + 1) + 1) + 1) + 1)) (AV.sl .clip 1 [[(AV.int .u8 (IntKind.u8.wrap (Int.fdiv n (2 ^ (min (Int.toNat 8) 64)))))]]) (AV.osl 0 7 1 0 (((((((b.length + 1) + 1) + 1) + 1) + 1) + 1) + 1)) ([⟨7, 1, (List.map rU8 (((((((b ++ [(IntKind.u8.wrap (Int.fdiv n (2 ^ (min (Int.toNat 56) 64))))]) ++ [(IntKind.u8.wrap (Int.fdiv n (2 ^ (min (Int.toNat 48) 64))))]) ++ [(IntKind.u8.wrap (Int.fdiv n (2 ^ (min (Int.toNat 40) 64))))]) ++ [(IntKind.u8.wrap (Int.fdiv n (2 ^ (min (Int.toNat 32) 64))))]) ++ [(IntKind.u8.wrap (Int.fdiv n (2 ^ (min (Int.toNat 24) 64))))]) ++ [(IntKind.u8.wrap (Int.fdiv n (2 ^ (min (Int.toNat 16) 64))))]) ++ [(IntKind.u8.wrap (Int.fdiv n (2 ^ (min (Int.toNat 8) 64))))])), none⟩] : Heap) (evAppendO_end (T := tt) (e := 5) (te := { d := .int .u8, size := 1, bytes := 1, zero := [.int .u8 0] }) (z := 1) (b := 24) (y := [.sl .nil 0 []]) (row := rU8) (l := (((((b ++ [(IntKind.u8.wrap (Int.fdiv n (2 ^ (min (Int.toNat 56) 64))))]) ++ [(IntKind.u8.wrap (Int.fdiv n (2 ^ (min (Int.toNat 48) 64))))]) ++ [(IntKind.u8.wrap (Int.fdiv n (2 ^ (min (Int.toNat 40) 64))))]) ++ [(IntKind.u8.wrap (Int.fdiv n (2 ^ (min (Int.toNat 32) 64))))]) ++ [(IntKind.u8.wrap (Int.fdiv n (2 ^ (min (Int.toNat 24) 64))))]) ++ [(IntKind.u8.wrap (Int.fdiv n (2 ^ (min (Int.toNat 16) 64))))]) kr kr rfl (by decide) (by decide) kr (by first | (simp [rowsIn, List.map_take, List.map_drop, List.take_of_length_le]; done) | simp [rowsIn, rU8, rI64, rStr, rBool]) om rfl rfl (by first | omega | (show _ * 1 ≤ _; omega) | (simp; done) | (simp; omega))) (.g (.r (.g (.r (.g (.yes (.r (.ao 7 141 (AV.osl 0 7 1 0 (((((((b.length + 1) + 1) + 1) + 1) + 1) + 1) + 1)) (AV.sl .clip 1 [[(AV.int .u8 (IntKind.u8.wrap (Int.fdiv n (2 ^ (min (Int.toNat 0) 64)))))]]) (AV.osl 0 8 1 0 ((((((((b.length + 1) + 1) + 1) + 1) + 1) + 1) + 1) + 1)) (Sr_1 b n) (evAppendO_end (T := tt) (e := 5) (te := { d := .int .u8, size := 1, bytes := 1, zero := [.int .u8 0] }) (z := 1) (b := 24) (y := [.sl .nil 0 []]) (row := rU8) (l := ((((((b ++ [(IntKind.u8.wrap (Int.fdiv n (2 ^ (min (Int.toNat 56) 64))))]) ++ [(IntKind.u8.wrap (Int.fdiv n (2 ^ (min (Int.toNat 48) 64))))]) ++ [(IntKind.u8.wrap (Int.fdiv n (2 ^ (min (Int.toNat 40) 64))))]) ++ [(IntKind.u8.wrap (Int.fdiv n (2 ^ (min (Int.toNat 32) 64))))]) ++ [(IntKind.u8.wrap (Int.fdiv n (2 ^ (min (Int.toNat 24) 64))))]) ++ [(IntKind.u8.wrap (Int.fdiv n (2 ^ (min (Int.toNat 16) 64))))]) ++ [(IntKind.u8.wrap (Int.fdiv n (2 ^ (min (Int.toNat 8) 64))))]) kr kr rfl (by decide) (by decide) kr (by first | (simp [rowsIn, List.map_take, List.map_drop, List.take_of_length_le]; done) | simp [rowsIn, rU8, rI64, rStr, rBool]) om rfl rfl (by first | omega | (show _ * 1 ≤ _; omega) | (simp; done) | (simp; omega))) (.g (.r (.g (.r (.g (.no (.r (.w 5 (List.map rU8 ((((((((b ++ [(IntKind.u8.wrap (Int.fdiv n (2 ^ (min (Int.toNat 56) 64))))]) ++ [(IntKind.u8.wrap (Int.fdiv n (2 ^ (min (Int.toNat 48) 64))))]) ++ [(IntKind.u8.wrap (Int.fdiv n (2 ^ (min (Int.toNat 40) 64))))]) ++ [(IntKind.u8.wrap (Int.fdiv n (2 ^ (min (Int.toNat 32) 64))))]) ++ [(IntKind.u8.wrap (Int.fdiv n (2 ^ (min (Int.toNat 24) 64))))]) ++ [(IntKind.u8.wrap (Int.fdiv n (2 ^ (min (Int.toNat 16) 64))))]) ++ [(IntKind.u8.wrap (Int.fdiv n (2 ^ (min (Int.toNat 8) 64))))]) ++ [(IntKind.u8.wrap (Int.fdiv n (2 ^ (min (Int.toNat 0) 64))))])) (And.intro (rowsIn_all (room := none) kr om) (rU8_bdd _ _) : rowsIn (Sr_1 b n) 1 (AV.osl 0 8 1 0 ((((((((b.length + 1) + 1) + 1) + 1) + 1) + 1) + 1) + 1)) = some (List.map rU8 ((((((((b ++ [(IntKind.u8.wrap (Int.fdiv n (2 ^ (min (Int.toNat 56) 64))))]) ++ [(IntKind.u8.wrap (Int.fdiv n (2 ^ (min (Int.toNat 48) 64))))]) ++ [(IntKind.u8.wrap (Int.fdiv n (2 ^ (min (Int.toNat 40) 64))))]) ++ [(IntKind.u8.wrap (Int.fdiv n (2 ^ (min (Int.toNat 32) 64))))]) ++ [(IntKind.u8.wrap (Int.fdiv n (2 ^ (min (Int.toNat 24) 64))))]) ++ [(IntKind.u8.wrap (Int.fdiv n (2 ^ (min (Int.toNat 16) 64))))]) ++ [(IntKind.u8.wrap (Int.fdiv n (2 ^ (min (Int.toNat 8) 64))))]) ++ [(IntKind.u8.wrap (Int.fdiv n (2 ^ (min (Int.toNat 0) 64))))])) ∧ AV.bddss 0 (List.map rU8 ((((((((b ++ [(IntKind.u8.wrap (Int.fdiv n (2 ^ (min (Int.toNat 56) 64))))]) ++ [(IntKind.u8.wrap (Int.fdiv n (2 ^ (min (Int.toNat 48) 64))))]) ++ [(IntKind.u8.wrap (Int.fdiv n (2 ^ (min (Int.toNat 40) 64))))]) ++ [(IntKind.u8.wrap (Int.fdiv n (2 ^ (min (Int.toNat 32) 64))))]) ++ [(IntKind.u8.wrap (Int.fdiv n (2 ^ (min (Int.toNat 24) 64))))]) ++ [(IntKind.u8.wrap (Int.fdiv n (2 ^ (min (Int.toNat 16) 64))))]) ++ [(IntKind.u8.wrap (Int.fdiv n (2 ^ (min (Int.toNat 8) 64))))]) ++ [(IntKind.u8.wrap (Int.fdiv n (2 ^ (min (Int.toNat 0) 64))))])) = true) (.c 1 (clipB_at ((((((((b ++ [(IntKind.u8.wrap (Int.fdiv n (2 ^ (min (Int.toNat 56) 64))))]) ++ [(IntKind.u8.wrap (Int.fdiv n (2 ^ (min (Int.toNat 48) 64))))]) ++ [(IntKind.u8.wrap (Int.fdiv n (2 ^ (min (Int.toNat 40) 64))))]) ++ [(IntKind.u8.wrap (Int.fdiv n (2 ^ (min (Int.toNat 32) 64))))]) ++ [(IntKind.u8.wrap (Int.fdiv n (2 ^ (min (Int.toNat 24) 64))))]) ++ [(IntKind.u8.wrap (Int.fdiv n (2 ^ (min (Int.toNat 16) 64))))]) ++ [(IntKind.u8.wrap (Int.fdiv n (2 ^ (min (Int.toNat 8) 64))))]) ++ [(IntKind.u8.wrap (Int.fdiv n (2 ^ (min (Int.toNat 0) 64))))]) oa ([⟨9, 1, [], none⟩] : Heap)) (.g (.h' ([] : Heap) (.f 0 (AV.sl .cn 1 (List.map rU8 ((((((((b ++ [(IntKind.u8.wrap (Int.fdiv n (2 ^ (min (Int.toNat 56) 64))))]) ++ [(IntKind.u8.wrap (Int.fdiv n (2 ^ (min (Int.toNat 48) 64))))]) ++ [(IntKind.u8.wrap (Int.fdiv n (2 ^ (min (Int.toNat 40) 64))))]) ++ [(IntKind.u8.wrap (Int.fdiv n (2 ^ (min (Int.toNat 32) 64))))]) ++ [(IntKind.u8.wrap (Int.fdiv n (2 ^ (min (Int.toNat 24) 64))))]) ++ [(IntKind.u8.wrap (Int.fdiv n (2 ^ (min (Int.toNat 16) 64))))]) ++ [(IntKind.u8.wrap (Int.fdiv n (2 ^ (min (Int.toNat 8) 64))))]) ++ [(IntKind.u8.wrap (Int.fdiv n (2 ^ (min (Int.toNat 0) 64))))]))) (.e (AV.sl .cn 1 (List.map rU8 ((((((((b ++ [(IntKind.u8.wrap (Int.fdiv n (2 ^ (min (Int.toNat 56) 64))))]) ++ [(IntKind.u8.wrap (Int.fdiv n (2 ^ (min (Int.toNat 48) 64))))]) ++ [(IntKind.u8.wrap (Int.fdiv n (2 ^ (min (Int.toNat 40) 64))))]) ++ [(IntKind.u8.wrap (Int.fdiv n (2 ^ (min (Int.toNat 32) 64))))]) ++ [(IntKind.u8.wrap (Int.fdiv n (2 ^ (min (Int.toNat 24) 64))))]) ++ [(IntKind.u8.wrap (Int.fdiv n (2 ^ (min (Int.toNat 16) 64))))]) ++ [(IntKind.u8.wrap (Int.fdiv n (2 ^ (min (Int.toNat 8) 64))))]) ++ [(IntKind.u8.wrap (Int.fdiv n (2 ^ (min (Int.toNat 0) 64))))]))) (by
        try delta Sr_1
        simp [intB, byteAt])))))))))))))))))))))))))))))))))))))))))))))))))))))))))))))))))))))))))))))))))))
theorem intF_spec (b : List Int) (n : Int) (hb : b.length < 1048576) : ACalls Try.prog 103 [(.sl .any 1 (List.map rU8 b)), (.int .i64 n)] ([] : Heap) ((AV.sl .any 1 (List.map rU8 (intB b n))), ([] : Heap)) := (int8_spec b n hb).post ⟨rfl, rfl, .inl rfl⟩
theorem intF_at (b : List Int) (n : Int) (hb : b.length < 1048576) (H : Heap) : ACalls Try.prog 103 [(.sl .any 1 (List.map rU8 b)), (.int .i64 n)] H ((AV.sl .any 1 (List.map rU8 (intB b n))), H) := (intF_spec b n hb).lift kr kr H
def showsC (c : Card) : Int := if c.gone = true then 0 else if (c.over != 0) = true then c.over else c.status
def shows_ann : Ann := { refs := [1], fin := some 0 }
set_option maxRecDepth 100000 in
theorem shows_spec (c : Card)  : ACalls Try.prog 102 [(.agg (Card.row c))] ([] : Heap) ((AV.int .i64 (showsC c)), ([] : Heap)) :=
  specO (fn := Try.f102) (ann := shows_ann) (Has.o Try.func102) (.r (.g (.r (.g (.two c.gone (fun h1 h1' => (.r (.g (.f 0 (AV.int .i64 0) (.e (AV.int .i64 0) (by
        simp_all [showsC])))))) (fun h1 h1' => (.r (.g (.two (c.over != 0) (fun h2 h2' => (.r (.g (.f 0 (AV.int .i64 c.over) (.e (AV.int .i64 c.over) (by
        simp_all [showsC])))))) (fun h2 h2' => (.r (.g (.f 0 (AV.int .i64 c.status) (.e (AV.int .i64 c.status) (by
        simp_all [showsC])))))))))))))))
theorem shows_at (c : Card)  (H : Heap) : ACalls Try.prog 102 [(.agg (Card.row c))] H ((AV.int .i64 (showsC c)), H) := (shows_spec c ).lift kr kr H
def hereL (l : List Card) : List Card := l.filter fun c => !c.gone
def seenK (l : List Card) : List Card := sortP (hereL l)
theorem hereL_len (l : List Card) : (hereL l).length ≤ l.length := List.length_filter_le _ _
theorem seenK_len (l : List Card) : (seenK l).length ≤ l.length := by unfold seenK; rw [sortP_len]; exact hereL_len l
def seen_ann : Ann := { gh := [(8, .frz 3)], gha := [(1, .vir 3 9), (7, .cut 1)], fin := some 0, live := [(3, [3, 6, 7, 8])], out := [(3, [3, 6, 7, 8])] }
@[simp] abbrev Sr_2 (v1_ : Nat) (v2_ : List Card) (v3_ : List Card) (v4_ : Nat) : Heap := [⟨(v1_ + 1), 9, (List.map Card.row (v2_ ++ [(nth v3_ v4_)])), none⟩]
@[simp] abbrev Sr_3 (v1_ : Nat) (v2_ : Nat) (v3_ : List Card) (v4_ : Nat) : Fr := (mkF 22 [(3, (AV.osl 0 v1_ 9 0 v2_)), (6, (AV.sl .any 9 (List.map Card.row v3_))), (7, (AV.int .i64 ((v3_.length : Nat) : Int))), (8, (AV.int .i64 ((v4_ : Nat) : Int)))])
@[simp] abbrev Sr_4 (v1_ : Nat) (v2_ : List Card) (v3_ : List Card) (v4_ : Nat) : Heap := [⟨v1_, 9, (List.map Card.row v2_), none⟩, ⟨0, 9, [(Card.row (nth v3_ v4_))], none⟩]
set_option maxRecDepth 100000 in
theorem seen_step (l : List Card) (out : List Card) (k : Nat) (g : Nat) (i : Nat) (hl : l.length < 1048576) (hk : k = out.length) (hki : k ≤ i) (hle_ : i ≤ l.length) {eX : Ex} {FX : Fr} {HX : Heap} (k1 : (decide (((i : Nat) : Int) < ((l.length : Nat) : Int))) = true → (!(nth l i).gone) = true → LoopTo (codeQ Try.prog (X seen_ann) (loopOf Try.f86 0)) (some [3, 6, 7, 8]) (some [3, 6, 7, 8]) (mkF 22 [(3, (.osl 0 (g + 1) 9 0 (k + 1))), (6, (.sl .any 9 (List.map Card.row l))), (7, (.int .i64 ((l.length : Nat) : Int))), (8, (.int .i64 ((i + 1 : Nat) : Int)))]) (Sr_2 g out l i) eX FX HX) (k2 : (decide (((i : Nat) : Int) < ((l.length : Nat) : Int))) = true → (!(nth l i).gone) = false → LoopTo (codeQ Try.prog (X seen_ann) (loopOf Try.f86 0)) (some [3, 6, 7, 8]) (some [3, 6, 7, 8]) (mkF 22 [(3, (.osl 0 g 9 0 k)), (6, (.sl .any 9 (List.map Card.row l))), (7, (.int .i64 ((l.length : Nat) : Int))), (8, (.int .i64 ((i + 1 : Nat) : Int)))]) ([⟨g, 9, (List.map Card.row out), none⟩] : Heap) eX FX HX) (k3 : (decide (((i : Nat) : Int) < ((l.length : Nat) : Int))) = false → ((.exit 0 : Ex), (Sr_3 g k l i), ([⟨g, 9, (List.map Card.row out), none⟩] : Heap)) = (eX, FX, HX)) : LoopTo (codeQ Try.prog (X seen_ann) (loopOf Try.f86 0)) (some [3, 6, 7, 8]) (some [3, 6, 7, 8]) (Sr_3 g k l i) ([⟨g, 9, (List.map Card.row out), none⟩] : Heap) eX FX HX :=
  stepO (.r (.g (.two (decide (((i : Nat) : Int) < ((l.length : Nat) : Int))) (fun h1 h1' => (.r (.h' ([⟨g, 9, (List.map Card.row out), none⟩, ⟨0, 9, [[(AV.str ⟨#[]⟩), (AV.str ⟨#[]⟩), (AV.int .i64 0), (AV.int .i64 0), (AV.int .i64 0), (AV.int .i64 0), (AV.int .i64 0), (AV.int .i64 0), (AV.bool false)]], none⟩] : Heap) (.is 0 9 9 (List.map Card.row l) ((i : Nat) : Int) (Card.row (nth l i)) (IdxSl.mk _ ow ow) (.g (.r (.g (.two (!(nth l i).gone) (fun h2 h2' => (.r (.h' (Sr_4 g out l i) (.ap 3 35 (AV.osl 0 g 9 0 k) (AV.sl .clip 9 [(Card.row (nth l i))]) (AV.osl 0 (g + 1) 9 0 (k + 1)) ([⟨(g + 1), 9, (List.map Card.row (out ++ [(nth l i)])), none⟩, ⟨0, 9, [(Card.row (nth l i))], none⟩] : Heap) (evAppend_one (row := Card.row) (l := out) (x := (nth l i)) (T := tt) (e := 58) (te := { d := .struct [(26, 0), (3, 2), (3, 3), (2, 4), (56, 5), (4, 8)], size := 9, bytes := 88, zero := [.str ⟨#[]⟩, .str ⟨#[]⟩, .int .i64 0, .int .i64 0, .int .i64 0, .int .i64 0, .int .i64 0, .int .i64 0, .bool false] }) (z := 1) (b := 24) (y := [.sl .nil 0 []]) kr kr rfl (by decide) (by decide) kr (by first | assumption | omega | (simp; done) | (simp; omega)) rfl rfl (by first | omega | (show _ * 88 ≤ _; omega) | (simp; omega))) (.g (.r (.y 0 (.int .i64 (IntKind.i64.wrap (((i : Nat) : Int) + 1))) (AV.int .i64 ((i + 1 : Nat) : Int)) (Yes.add ow ow ow) (.h' (Sr_2 g out l i) (.b 1 (.g (.l (k1 h1 h2)))))))))))) (fun h2 h2' => (.r (.h' (Sr_4 g out l i) (.y 0 (.int .i64 (IntKind.i64.wrap (((i : Nat) : Int) + 1))) (AV.int .i64 ((i + 1 : Nat) : Int)) (Yes.add ow ow ow) (.h' ([⟨g, 9, (List.map Card.row out), none⟩] : Heap) (.b 1 (.g (.l (k2 h1 h2))))))))))))))))) (fun h1 h1' => (.l (k3 h1))))))
def seen_f (l : List Card) (i : Nat) (s : (List Card) × Nat × Nat) : (List Card) × Nat × Nat := (if (!(nth l i).gone) = true then (s.1 ++ [(nth l i)], (s.2.1 + 1), (s.2.2 + 1)) else (s.1, s.2.1, s.2.2))
theorem seen_loop (l : List Card) (hl : l.length < 1048576)  (r_ : Nat) : ∀ (out : List Card) (k : Nat) (g : Nat) (i : Nat) (sF : (List Card) × Nat × Nat), i + r_ = l.length → k = out.length → k ≤ i → sF = iter (seen_f l) r_ i (out, k, g) →
    LoopTo (codeQ Try.prog (X seen_ann) (loopOf Try.f86 0)) (some [3, 6, 7, 8]) (some [3, 6, 7, 8]) (Sr_3 g k l i) ([⟨g, 9, (List.map Card.row out), none⟩] : Heap) (.exit 0) (mkF 22 [(3, (.osl 0 sF.2.2 9 0 sF.2.1)), (6, (.sl .any 9 (List.map Card.row l))), (7, (.int .i64 ((l.length : Nat) : Int))), (8, (.int .i64 ((l.length : Nat) : Int)))]) ([⟨sF.2.2, 9, (List.map Card.row sF.1), none⟩] : Heap) := by
  induction r_ with
  | zero =>
    intro out k g i sF hi_ hk hki  hF
    obtain rfl : l.length = i := by omega
    have e_ : sF = (out, k, g) := hF
    refine seen_step l out k g l.length hl hk hki (Nat.le_refl _) (fun h _ => by simp at h <;> omega) (fun h _ => by simp at h <;> omega) (fun _ => ?_)
    first | done | rfl | (rw [e_]; done) | (rw [e_]; rfl)
  | succ r_ ih =>
    intro out k g i sF hi_ hk hki  hF
    refine seen_step l out k g i hl hk hki ow (fun h1 h2 => ?_) (fun h1 h2 => ?_) (fun h => by simp at h <;> omega)
    · exact ih (out ++ [(nth l i)]) (k + 1) (g + 1) (i + 1) sF ow (by first | omega | assumption | (simp; done) | (simp; omega) | (simp [*]; done) | (simp [*]; omega)) (by first | omega | assumption | (simp; done) | (simp; omega) | (simp [*]; done) | (simp [*]; omega))  (by rw [hF] <;> simp only [iter, seen_f, h2, if_true, Bool.false_eq_true, if_false])
    · exact ih out k g (i + 1) sF ow (by first | omega | assumption | (simp; done) | (simp; omega) | (simp [*]; done) | (simp [*]; omega)) (by first | omega | assumption | (simp; done) | (simp; omega) | (simp [*]; done) | (simp [*]; omega))  (by rw [hF] <;> simp only [iter, seen_f, h2, if_true, Bool.false_eq_true, if_false])
theorem seen_iter (l : List Card) : (hereL l, (hereL l).length, (hereL l).length) = iter (seen_f l) l.length 0 ([], 0, 0) := by
  rw [iter_all (seen_f l) (fun s c => if (fun c : Card => !c.gone) c = true then (s.1 ++ [c], s.2.1 + 1, s.2.2 + 1) else s) l (fun i s hi => by simp [seen_f])]
  rw [fold_fmap' (fun c : Card => !c.gone) (fun c => c) l]; simp [hereL]
def cardB (b : List Int) (c : Card) : List Int := intB (byteB (textB (textB b c.key.app) c.key.id) (showsC c)) c.lease
theorem cardB_len (b : List Int) (c : Card) : (cardB b c).length ≤ b.length + 521 := by
  have h1 := textB_len b c.key.app
  have h2 := textB_len (textB b c.key.app) c.key.id
  unfold cardB; rw [intB_len, byteB_len]; omega
def sealB (l : List Card) : List Int := (seenK l).foldl cardB []
theorem cardsB_len (l : List Card) : ∀ (b : List Int), (l.foldl cardB b).length ≤ b.length + l.length * 521 := by
  induction l with
  | nil => intro b; simp
  | cons c l ih => intro b; have h1 := ih (cardB b c); have h2 := cardB_len b c; simp only [List.foldl_cons, List.length_cons]; omega
theorem sealB_len (l : List Card) : (sealB l).length ≤ l.length * 521 := by
  have h1 := cardsB_len (seenK l) []
  have h2 := seenK_len l
  unfold sealB; simp only [List.length_nil] at h1; omega
def sealB_ann : Ann := { gha := [(1, .any 3 1), (7, .cut 0)], fin := some 0, live := [(3, [3, 7, 8, 9])], out := [(3, [3, 7, 8, 9])] }
@[simp] abbrev Sr_6 (v1_ : List Int) (v2_ : List Card) (v3_ : Nat) : Fr := (mkF 31 [(3, (AV.sl .any 1 (List.map rU8 v1_))), (7, (AV.sl .any 9 (List.map Card.row v2_))), (8, (AV.int .i64 ((v2_.length : Nat) : Int))), (9, (AV.int .i64 ((v3_ : Nat) : Int)))])
set_option maxRecDepth 100000 in
theorem sealB_step (l : List Card) (b : List Int) (i : Nat) (hl : l.length < 1000) (hb : b.length ≤ i * 521) (hle_ : i ≤ l.length) {eX : Ex} {FX : Fr} {HX : Heap} (k1 : (decide (((i : Nat) : Int) < ((l.length : Nat) : Int))) = true → LoopTo (codeQ Try.prog (X sealB_ann) (loopOf Try.f84 0)) (some [3, 7, 8, 9]) (some [3, 7, 8, 9]) (mkF 31 [(3, (.sl .any 1 (List.map rU8 (intB (byteB (textB (textB b (nth l i).key.app) (nth l i).key.id) (showsC (nth l i))) (nth l i).lease)))), (7, (.sl .any 9 (List.map Card.row l))), (8, (.int .i64 ((l.length : Nat) : Int))), (9, (.int .i64 ((i + 1 : Nat) : Int)))]) ([] : Heap) eX FX HX) (k2 : (decide (((i : Nat) : Int) < ((l.length : Nat) : Int))) = false → ((.exit 0 : Ex), (Sr_6 b l i), ([] : Heap)) = (eX, FX, HX)) : LoopTo (codeQ Try.prog (X sealB_ann) (loopOf Try.f84 0)) (some [3, 7, 8, 9]) (some [3, 7, 8, 9]) (Sr_6 b l i) ([] : Heap) eX FX HX := by
  have h1 := textB_len b (nth l i).key.app
  have h2 := textB_len (textB b (nth l i).key.app) (nth l i).key.id
  have h3 := byteB_len (textB (textB b (nth l i).key.app) (nth l i).key.id) (showsC (nth l i))
  exact stepO (.r (.g (.two (decide (((i : Nat) : Int) < ((l.length : Nat) : Int))) (fun h1 h1' => (.r (.h' ([⟨0, 9, [[(AV.str ⟨#[]⟩), (AV.str ⟨#[]⟩), (AV.int .i64 0), (AV.int .i64 0), (AV.int .i64 0), (AV.int .i64 0), (AV.int .i64 0), (AV.int .i64 0), (AV.bool false)]], none⟩] : Heap) (.is 0 9 9 (List.map Card.row l) ((i : Nat) : Int) (Card.row (nth l i)) (IdxSl.mk _ ow ow) (.g (.r (.c 4 (textF_at b (nth l i).key.app oa ([⟨0, 9, [(Card.row (nth l i))], none⟩] : Heap)) (.c 8 (textF_at (textB b (nth l i).key.app) (nth l i).key.id oa ([⟨0, 9, [(Card.row (nth l i))], none⟩] : Heap)) (.c 10 (shows_at (nth l i)  ([⟨0, 9, [(Card.row (nth l i))], none⟩] : Heap)) (.c 11 (byteF_at (textB (textB b (nth l i).key.app) (nth l i).key.id) (showsC (nth l i)) oa ([⟨0, 9, [(Card.row (nth l i))], none⟩] : Heap)) (.rd (AV.agg (Card.row (nth l i))) ([⟨0, 9, [(Card.row (nth l i))], none⟩] : Heap) (.rd (AV.agg (Card.row (nth l i))) ([⟨0, 9, [(Card.row (nth l i))], none⟩] : Heap) (.rd (AV.str (nth l i).key.id) ([⟨0, 9, [(Card.row (nth l i))], none⟩] : Heap) (.g (.r (.c 3 (intF_at (byteB (textB (textB b (nth l i).key.app) (nth l i).key.id) (showsC (nth l i))) (nth l i).lease oa ([⟨0, 9, [(Card.row (nth l i))], none⟩] : Heap)) (.g (.r (.h' ([⟨0, 9, [(Card.row (nth l i))], none⟩] : Heap) (.y 0 (.int .i64 (IntKind.i64.wrap (((i : Nat) : Int) + 1))) (AV.int .i64 ((i + 1 : Nat) : Int)) (Yes.add ow ow ow) (.h' ([] : Heap) (.b 0 (.g (.l (k1 h1))))))))))))))))))))))))) (fun h1 h1' => (.l (k2 h1))))))
def sealB_f (l : List Card) (i : Nat) (s : (List Int)) : (List Int) := (intB (byteB (textB (textB s (nth l i).key.app) (nth l i).key.id) (showsC (nth l i))) (nth l i).lease)
theorem sealB_loop (l : List Card) (hl : l.length < 1000)  (r_ : Nat) : ∀ (b : List Int) (i : Nat) (sF : (List Int)), i + r_ = l.length → b.length ≤ i * 521 → sF = iter (sealB_f l) r_ i (b) →
    LoopTo (codeQ Try.prog (X sealB_ann) (loopOf Try.f84 0)) (some [3, 7, 8, 9]) (some [3, 7, 8, 9]) (Sr_6 b l i) ([] : Heap) (.exit 0) (mkF 31 [(3, (.sl .any 1 (List.map rU8 sF))), (7, (.sl .any 9 (List.map Card.row l))), (8, (.int .i64 ((l.length : Nat) : Int))), (9, (.int .i64 ((l.length : Nat) : Int)))]) ([] : Heap) := by
  induction r_ with
  | zero =>
    intro b i sF hi_ hb  hF
    obtain rfl : l.length = i := by omega
    have e_ : sF = (b) := hF
    refine sealB_step l b l.length hl hb (Nat.le_refl _) (fun h => by simp at h <;> omega) (fun _ => ?_)
    first | done | rfl | (rw [e_]; done) | (rw [e_]; rfl)
  | succ r_ ih =>
    intro b i sF hi_ hb  hF
    refine sealB_step l b i hl hb ow (fun h1 => ?_) (fun h => by simp at h <;> omega)
    · exact ih (intB (byteB (textB (textB b (nth l i).key.app) (nth l i).key.id) (showsC (nth l i))) (nth l i).lease) (i + 1) sF ow (by have h9 : (intB (byteB (textB (textB b (nth l i).key.app) (nth l i).key.id) (showsC (nth l i))) (nth l i).lease).length ≤ b.length + 521 := cardB_len b (nth l i); first | omega | assumption | (simp; done) | (simp; omega) | (simp [*]; done) | (simp [*]; omega))  (by rw [hF] <;> simp only [iter, sealB_f, if_true, Bool.false_eq_true, if_false])
theorem sealB_iter (l : List Card) : l.foldl cardB [] = iter (sealB_f l) l.length 0 [] := (iter_all (sealB_f l) cardB l (fun i s hi => rfl) []).symm
def sumStep (h x : Int) : Int := IntKind.u32.wrap (IntKind.u32.wrap (IntKind.u32.wrap (h * 31) + IntKind.u32.wrap x) + 7)
def sumB (l : List Int) : Int := l.foldl sumStep 17
def sum_ann : Ann := { fin := some 0, live := [(3, [3, 6, 7, 8])], out := [(3, [3, 6, 7, 8])] }
@[simp] abbrev Sr_8 (v1_ : Int) (v2_ : List Int) (v3_ : Nat) : Fr := (mkF 20 [(3, (AV.int .u32 v1_)), (6, (AV.sl .any 1 (List.map rU8 v2_))), (7, (AV.int .i64 ((v2_.length : Nat) : Int))), (8, (AV.int .i64 ((v3_ : Nat) : Int)))])
set_option maxRecDepth 100000 in
theorem sum_step (l : List Int) (h : Int) (i : Nat) (hl : l.length < 1048576) (hle_ : i ≤ l.length) {eX : Ex} {FX : Fr} {HX : Heap} (k1 : (decide (((i : Nat) : Int) < ((l.length : Nat) : Int))) = true → LoopTo (codeQ Try.prog (X sum_ann) (loopOf Try.f83 0)) (some [3, 6, 7, 8]) (some [3, 6, 7, 8]) (mkF 20 [(3, (.int .u32 (IntKind.u32.wrap ((IntKind.u32.wrap ((IntKind.u32.wrap (h * 31)) + (IntKind.u32.wrap (nth l i)))) + 7)))), (6, (.sl .any 1 (List.map rU8 l))), (7, (.int .i64 ((l.length : Nat) : Int))), (8, (.int .i64 ((i + 1 : Nat) : Int)))]) ([] : Heap) eX FX HX) (k2 : (decide (((i : Nat) : Int) < ((l.length : Nat) : Int))) = false → ((.exit 0 : Ex), (Sr_8 h l i), ([] : Heap)) = (eX, FX, HX)) : LoopTo (codeQ Try.prog (X sum_ann) (loopOf Try.f83 0)) (some [3, 6, 7, 8]) (some [3, 6, 7, 8]) (Sr_8 h l i) ([] : Heap) eX FX HX :=
  stepO (.r (.g (.two (decide (((i : Nat) : Int) < ((l.length : Nat) : Int))) (fun h1 h1' => (.r (.is 0 1 1 (List.map rU8 l) ((i : Nat) : Int) (rU8 (nth l i)) (IdxSl.mk _ ow ow) (.g (.r (.g (.r (.y 0 (.int .i64 (IntKind.i64.wrap (((i : Nat) : Int) + 1))) (AV.int .i64 ((i + 1 : Nat) : Int)) (Yes.add ow ow ow) (.g (.l (k1 h1))))))))))) (fun h1 h1' => (.l (k2 h1))))))
def sum_f (l : List Int) (i : Nat) (s : Int) : Int := ((IntKind.u32.wrap ((IntKind.u32.wrap ((IntKind.u32.wrap (s * 31)) + (IntKind.u32.wrap (nth l i)))) + 7)))
theorem sum_loop (l : List Int) (hl : l.length < 1048576)  (r_ : Nat) : ∀ (h : Int) (i : Nat) (sF : Int), i + r_ = l.length → sF = iter (sum_f l) r_ i (h) →
    LoopTo (codeQ Try.prog (X sum_ann) (loopOf Try.f83 0)) (some [3, 6, 7, 8]) (some [3, 6, 7, 8]) (Sr_8 h l i) ([] : Heap) (.exit 0) (mkF 20 [(3, (.int .u32 sF)), (6, (.sl .any 1 (List.map rU8 l))), (7, (.int .i64 ((l.length : Nat) : Int))), (8, (.int .i64 ((l.length : Nat) : Int)))]) ([] : Heap) := by
  induction r_ with
  | zero =>
    intro h i sF hi_   hF
    obtain rfl : l.length = i := by omega
    have e_ : sF = (h) := hF
    refine sum_step l h l.length hl (Nat.le_refl _) (fun h => by simp at h <;> omega) (fun _ => ?_)
    first | done | rfl | (rw [e_]; done) | (rw [e_]; rfl)
  | succ r_ ih =>
    intro h i sF hi_   hF
    refine sum_step l h i hl ow (fun h1 => ?_) (fun h => by simp at h <;> omega)
    · exact ih (IntKind.u32.wrap ((IntKind.u32.wrap ((IntKind.u32.wrap (h * 31)) + (IntKind.u32.wrap (nth l i)))) + 7)) (i + 1) sF ow   (by rw [hF] <;> simp only [iter, sum_f, if_true, Bool.false_eq_true, if_false])
theorem sum_iter (l : List Int) : sumB l = iter (sum_f l) l.length 0 17 := (iter_all (sum_f l) sumStep l (fun i s hi => rfl) 17).symm
@[simp] abbrev Sr_9 (v1_ : List Int) : Fr := (mkF 20 [(3, (AV.int .u32 (sumB v1_))), (6, (AV.sl .any 1 (List.map rU8 v1_))), (7, (AV.int .i64 ((v1_.length : Nat) : Int))), (8, (AV.int .i64 ((v1_.length : Nat) : Int)))])
set_option maxRecDepth 100000 in
theorem sum_spec (l : List Int) (hl : l.length < 1048576) : ACalls Try.prog 83 [(.sl .any 1 (List.map rU8 l))] ([] : Heap) ((AV.int .u32 (sumB l)), ([] : Heap)) :=
  specO (fn := Try.f83) (ann := sum_ann) (Has.o Try.func83) (.r (.g (.r (.g (.r (.y 1 (.int .i64 ((List.length (List.map rU8 l) : Nat) : Int)) (AV.int .i64 ((l.length : Nat) : Int)) (Yes.len _ _ _) (.g (.loop (Sr_9 l) (show LoopTo (codeQ Try.prog (X sum_ann) (loopOf Try.f83 0)) (some [3, 6, 7, 8]) (some [3, 6, 7, 8]) (mkF 20 [(3, (.int .u32 17)), (6, (.sl .any 1 (List.map rU8 l))), (7, (.int .i64 ((l.length : Nat) : Int))), (8, (.int .i64 0))]) ([] : Heap) (.exit 0) (Sr_9 l) ([] : Heap) from (sum_loop l hl (List.length l) 17 0 (sumB l) ow (sum_iter _))) (.r (.g (.f 0 (AV.int .u32 (sumB l)) (.e (AV.int .u32 (sumB l))))))))))))))
theorem sum_at (l : List Int) (hl : l.length < 1048576) (H : Heap) : ACalls Try.prog 83 [(.sl .any 1 (List.map rU8 l))] H ((AV.int .u32 (sumB l)), H) := (sum_spec l hl).lift kr kr H
def ofB (l : List Card) : Int := sumB (sealB l)
end Go.Proofs.Yteajpacajikaaaa.AM

set_option linter.unusedVariables false
set_option linter.unusedSimpArgs false
set_option maxRecDepth 100000
namespace Go.Proofs.Yteajpacajikaaaa.AM
open Go
attribute [local irreducible] Tp.card Tp.cardT Tp.next Tp.step Tp.cards Tp.key Tp.keyT
theorem bl_irrefl : ∀ (x : List UInt8), Op.bytesLess x x = false
  | [] => rfl
  | a :: x => by
    have := bl_irrefl x
    simp [Op.bytesLess, this]
theorem bl_asymm : ∀ (x y : List UInt8), Op.bytesLess x y = true → Op.bytesLess y x = false
  | [], [], h => by simp [Op.bytesLess] at h
  | [], b :: y, h => rfl
  | a :: x, [], h => by simp [Op.bytesLess] at h
  | a :: x, b :: y, h => by
    simp only [Op.bytesLess, Bool.or_eq_true, Bool.and_eq_true, decide_eq_true_eq, beq_iff_eq] at h
    rcases h with h | ⟨rfl, h⟩
    · have h1 : ¬ b < a := fun h' => by exact absurd (UInt8.lt_trans h h') (UInt8.lt_irrefl _)
      have h2 : ¬ b = a := fun e => by subst e; exact UInt8.lt_irrefl _ h
      simp [Op.bytesLess, h1, h2]
    · have := bl_asymm x y h
      simp [Op.bytesLess, this]
theorem bl_trans : ∀ (x y z : List UInt8), Op.bytesLess x y = true → Op.bytesLess y z = true → Op.bytesLess x z = true
  | [], [], z, h, _ => by simp [Op.bytesLess] at h
  | [], b :: y, [], _, h => by simp [Op.bytesLess] at h
  | [], b :: y, c :: z, _, _ => rfl
  | a :: x, [], z, h, _ => by simp [Op.bytesLess] at h
  | a :: x, b :: y, [], _, h => by simp [Op.bytesLess] at h
  | a :: x, b :: y, c :: z, h, k => by
    simp only [Op.bytesLess, Bool.or_eq_true, Bool.and_eq_true, decide_eq_true_eq, beq_iff_eq] at h k ⊢
    rcases h with h | ⟨rfl, h⟩
    · rcases k with k | ⟨rfl, k⟩
      · exact .inl (UInt8.lt_trans h k)
      · exact .inl h
    · rcases k with k | ⟨rfl, k⟩
      · exact .inl k
      · exact .inr ⟨rfl, bl_trans x y z h k⟩
theorem bl_tri : ∀ (x y : List UInt8), Op.bytesLess x y = false → Op.bytesLess y x = false → x = y
  | [], [], _, _ => rfl
  | [], b :: y, h, _ => by simp [Op.bytesLess] at h
  | a :: x, [], _, h => by simp [Op.bytesLess] at h
  | a :: x, b :: y, h, k => by
    simp only [Op.bytesLess, Bool.or_eq_false_iff, decide_eq_false_iff_not] at h k
    have e : a = b := by
      rcases UInt8.lt_or_lt_of_ne (a := a) (b := b) |> fun f => Classical.em (a = b) with e | e
      · exact e
      · rcases UInt8.lt_or_lt_of_ne e with h1 | h1
        · exact absurd h1 h.1
        · exact absurd h1 k.1
    subst e
    simp only [beq_self_eq_true, Bool.true_and] at h k
    rw [bl_tri x y h.2 k.2]
theorem ba_eq {a b : ByteArray} (h : a.toList = b.toList) : a = b := by
  rw [ByteArray.toList_eq, ByteArray.toList_eq] at h
  obtain ⟨⟨a⟩⟩ := a
  obtain ⟨⟨b⟩⟩ := b
  simp at h
  rw [h]
theorem bk_asymm {a b : Key} (h : beforeK a b = true) : beforeK b a = false := by
  unfold beforeK at *
  by_cases e : a.app.toList = b.app.toList
  · have e' : b.app.toList = a.app.toList := e.symm
    simp [e] at h
    simp [e']
    exact bl_asymm _ _ h
  · have e' : ¬ b.app.toList = a.app.toList := fun x => e x.symm
    simp [e] at h
    simp [e']
    exact bl_asymm _ _ h
theorem bk_trans {a b c : Key} (h : beforeK a b = true) (k : beforeK b c = true) : beforeK a c = true := by
  unfold beforeK at *
  by_cases e : a.app.toList = b.app.toList
  · by_cases f : b.app.toList = c.app.toList
    · simp [e] at h; simp [f] at k; simp [e, f]
      exact bl_trans _ _ _ h k
    · simp [f] at k
      have : ¬ a.app.toList = c.app.toList := by rw [e]; exact f
      simp [this]; rw [e]; exact k
  · simp [e] at h
    by_cases f : b.app.toList = c.app.toList
    · have : ¬ a.app.toList = c.app.toList := by rw [← f]; exact e
      simp [this]; rw [← f]; exact h
    · simp [f] at k
      have h1 := bl_trans _ _ _ h k
      have : ¬ a.app.toList = c.app.toList := fun x => by rw [x] at h; have := bl_asymm _ _ h; rw [k] at this; simp at this
      simp [this]; exact h1
theorem bk_tri {a b : Key} (h : beforeK a b = false) (k : beforeK b a = false) : a = b := by
  unfold beforeK at *
  by_cases e : a.app.toList = b.app.toList
  · have e' : b.app.toList = a.app.toList := e.symm
    simp [e] at h; simp [e'] at k
    have h2 := bl_tri _ _ h k
    cases a; cases b
    exact congr (congrArg Key.mk (ba_eq e)) (ba_eq h2)
  · have e' : ¬ b.app.toList = a.app.toList := fun x => e x.symm
    simp [e] at h; simp [e'] at k
    exact absurd (bl_tri _ _ h k) e
theorem bk_lt_le {a b c : Key} (h : beforeK a b = true) (k : beforeK c b = false) : beforeK a c = true := by
  cases e : beforeK b c with
  | true => exact bk_trans h e
  | false => rw [← bk_tri e k]; exact h
theorem bk_le_trans {a b c : Key} (h : beforeK b a = false) (k : beforeK c b = false) : beforeK c a = false := by
  cases e : beforeK c a with
  | false => rfl
  | true => have := bk_lt_le e h; rw [this] at k; simp at k
theorem less_before (a b : Key) : lessK a b = beforeK a b := by
  unfold lessK cmpK cmpS beforeK
  by_cases h1 : Op.bytesLess a.app.toList b.app.toList = true
  · have : ¬ a.app.toList = b.app.toList := fun e => by rw [e, bl_irrefl] at h1; simp at h1
    simp [h1, this]
  · by_cases h2 : a.app.toList = b.app.toList
    · simp [h2, bl_irrefl]
      by_cases h3 : Op.bytesLess a.id.toList b.id.toList = true
      · simp [h3]
      · by_cases h4 : a.id.toList = b.id.toList
        · simp [h4, bl_irrefl]
        · simp [h3, h4]
    · simp [h1, h2]
theorem nth_mem {α : Type} [Inhabited α] {l : List α} {i : Nat} (h : i < l.length) : nth l i ∈ l := List.mem_of_getElem? (nth_get h)
theorem nth_getElem {α : Type} [Inhabited α] {l : List α} {i : Nat} (h : i < l.length) : nth l i = l[i] := by
  simp [nth, List.getD_eq_getElem?_getD, List.getElem?_eq_getElem h]
theorem pw_nth {α : Type} [Inhabited α] {R : α → α → Prop} {l : List α} : List.Pairwise R l ↔ ∀ i j, i < j → j < l.length → R (nth l i) (nth l j) := by
  rw [List.pairwise_iff_getElem]
  constructor
  · intro h i j hij hj
    rw [nth_getElem (show i < l.length by omega), nth_getElem hj]
    exact h i j _ _ hij
  · intro h i j hi hj hij
    have := h i j hij hj
    rwa [nth_getElem hi, nth_getElem hj] at this
theorem mem_nth {α : Type} [Inhabited α] {l : List α} {x : α} (h : x ∈ l) : ∃ i, i < l.length ∧ nth l i = x := by
  obtain ⟨i, hi, rfl⟩ := List.getElem_of_mem h
  exact ⟨i, hi, nth_getElem hi⟩
theorem nth_take {α : Type} [Inhabited α] {l : List α} {i k : Nat} (h : i < k) : nth (l.take k) i = nth l i := by
  simp [nth, List.getD_eq_getElem?_getD, List.getElem?_take, h]
theorem nth_drop {α : Type} [Inhabited α] {l : List α} {i k : Nat} : nth (l.drop k) i = nth l (k + i) := by
  simp [nth, List.getD_eq_getElem?_getD, List.getElem?_drop]
end Go.Proofs.Yteajpacajikaaaa.AM

set_option linter.unusedVariables false
set_option linter.unusedSimpArgs false
set_option maxRecDepth 100000
set_option linter.unusedSectionVars false
namespace Go.Proofs.Yteajpacajikaaaa.AM
open Go
section
variable {α : Type} [Inhabited α]
def posG (lt : α → α → Bool) (x : α) (out : List α) : Nat → Nat
  | 0 => 0
  | k + 1 => if lt x (nth out k) = true then posG lt x out k else k + 1
def insG (lt : α → α → Bool) (out : List α) (x : α) : List α := (out.take (posG lt x out out.length) ++ [x]) ++ out.drop (posG lt x out out.length)
theorem posG_le (lt : α → α → Bool) (x : α) (out : List α) (k : Nat) : posG lt x out k ≤ k := by
  induction k with
  | zero => simp only [posG]; omega
  | succ k ih => simp only [posG]; split <;> omega
theorem posG_congr (lt : α → α → Bool) (x : α) {out out' : List α} (k : Nat) (h : ∀ i, i < k → nth out i = nth out' i) : posG lt x out k = posG lt x out' k := by
  induction k with
  | zero => rfl
  | succ k ih => simp only [posG]; rw [h k (by omega), ih fun i hi => h i (by omega)]
theorem posG_spec (lt : α → α → Bool) (x : α) (out : List α) (k : Nat) : (∀ i, posG lt x out k ≤ i → i < k → lt x (nth out i) = true) ∧ (0 < posG lt x out k → lt x (nth out (posG lt x out k - 1)) = false) := by
  induction k with
  | zero => simp only [posG]; exact ⟨fun i h1 h2 => by omega, fun h => by omega⟩
  | succ k ih =>
    simp only [posG]
    split
    · rename_i h
      refine ⟨fun i h1 h2 => ?_, ih.2⟩
      rcases Nat.lt_or_ge i k with h3 | h3
      · exact ih.1 i h1 h3
      · rw [show i = k by omega]; exact h
    · rename_i h
      exact ⟨fun i h1 h2 => by omega, fun _ => by simpa using h⟩
theorem insG_perm (lt : α → α → Bool) (out : List α) (x : α) : List.Perm (insG lt out x) (x :: out) := by
  unfold insG
  rw [List.append_assoc, List.singleton_append]
  refine List.perm_middle.trans ?_
  rw [List.take_append_drop]
theorem insG_len (lt : α → α → Bool) (out : List α) (x : α) : (insG lt out x).length = out.length + 1 := by
  rw [(insG_perm lt out x).length_eq]; rfl
structure Weak (lt : α → α → Bool) : Prop where
  asymm : ∀ a b, lt a b = true → lt b a = false
  trans : ∀ a b c, lt b a = false → lt c b = false → lt c a = false
abbrev Srt (lt : α → α → Bool) (l : List α) : Prop := List.Pairwise (fun a b => lt b a = false) l
theorem insG_sorted {lt : α → α → Bool} (W : Weak lt) {out : List α} (h : Srt lt out) (x : α) : Srt lt (insG lt out x) := by
  obtain ⟨h1, h2⟩ := posG_spec lt x out out.length
  have hp := posG_le lt x out out.length
  generalize hpe : posG lt x out out.length = p at *
  have hs := pw_nth.1 h
  unfold insG
  rw [hpe, List.append_assoc, List.singleton_append]
  refine List.pairwise_append.2 ⟨h.sublist (List.take_sublist _ _), List.pairwise_cons.2 ⟨fun y hy => ?_, h.sublist (List.drop_sublist _ _)⟩, fun a ha y hy => ?_⟩
  · obtain ⟨i, hi, rfl⟩ := mem_nth hy
    simp only [List.length_drop] at hi
    rw [nth_drop]
    exact W.asymm _ _ (h1 (p + i) (by omega) (by omega))
  · have hxp : lt x a = false := by
      obtain ⟨i, hi, rfl⟩ := mem_nth ha
      simp only [List.length_take] at hi
      rw [nth_take (by omega)]
      have h3 := h2 (by omega)
      rcases Nat.lt_or_ge i (p - 1) with h4 | h4
      · exact W.trans _ _ _ (hs i (p - 1) h4 (by omega)) h3
      · rw [show i = p - 1 by omega]; exact h3
    rcases List.mem_cons.1 hy with rfl | hy
    · exact hxp
    · obtain ⟨i, hi, rfl⟩ := mem_nth ha
      obtain ⟨j, hj, rfl⟩ := mem_nth hy
      simp only [List.length_take] at hi
      simp only [List.length_drop] at hj
      rw [nth_take (by omega), nth_drop]
      exact hs i (p + j) (by omega) (by omega)
def sortG (lt : α → α → Bool) (l : List α) : List α := l.foldl (insG lt) []
theorem foldG (lt : α → α → Bool) (l : List α) : ∀ (out : List α), List.Perm (l.foldl (insG lt) out) (out ++ l) := by
  induction l with
  | nil => intro out; simp
  | cons x l ih =>
    intro out
    exact (ih (insG lt out x)).trans (((insG_perm lt out x).append_right l).trans (by simpa using List.perm_middle.symm))
theorem foldG_sorted {lt : α → α → Bool} (W : Weak lt) (l : List α) : ∀ (out : List α), Srt lt out → Srt lt (l.foldl (insG lt) out) := by
  induction l with
  | nil => intro out h; exact h
  | cons x l ih => intro out h; exact ih _ (insG_sorted W h x)
theorem sortG_perm (lt : α → α → Bool) (l : List α) : List.Perm (sortG lt l) l := foldG lt l []
theorem sortG_sorted {lt : α → α → Bool} (W : Weak lt) (l : List α) : Srt lt (sortG lt l) := foldG_sorted W l [] List.Pairwise.nil
theorem sink_ins (cmp : α → α → Int) (j : Nat) : ∀ (l : List α), j < l.length → sink cmp 0 j l = insG (fun a b => decide (cmp a b < 0)) (l.take j) (nth l j) ++ l.drop (j + 1) := by
  induction j with
  | zero =>
    intro l h
    simp only [sink]
    have hd : l = nth l 0 :: l.drop 1 := by
      have := drop_nth (l := l) (i := 0) h
      simpa using this
    conv => lhs; rw [hd]
    simp [insG, posG]
  | succ j ih =>
    intro l h
    simp only [sink]
    have h0 : decide (((j + 1 : Nat) : Int) > ((0 : Nat) : Int)) = true := decide_eq_true (by omega)
    rw [if_pos h0]
    have htk : l.take (j + 1) = l.take j ++ [nth l j] := by
      rw [List.take_add_one]
      congr 1
      rw [nth_get (by omega)]
      rfl
    have hdj : l.drop (j + 1) = nth l (j + 1) :: l.drop (j + 2) := drop_nth h
    have hlen : (l.take j).length = j := by simp; omega
    by_cases hc : decide (cmp (nth l (j + 1)) (nth l j) < 0) = true
    · rw [if_pos hc]
      rw [ih _ (by simp; omega)]
      have e1 : ((l.set (j + 1) (nth l j)).set j (nth l (j + 1))).take j = l.take j := by
        rw [List.take_set_of_le (by omega), List.take_set_of_le (by omega)]
      have e2 : nth ((l.set (j + 1) (nth l j)).set j (nth l (j + 1))) j = nth l (j + 1) := by
        unfold nth
        rw [List.getD_eq_getElem?_getD, List.getElem?_set_self (by simp; omega)]; rfl
      have e3 : ((l.set (j + 1) (nth l j)).set j (nth l (j + 1))).drop (j + 1) = nth l j :: l.drop (j + 2) := by
        rw [List.drop_set_of_lt (by omega), drop_nth (by simp; omega)]
        congr 1
        · unfold nth
          rw [List.getD_eq_getElem?_getD, List.getElem?_set_self (by omega)]; rfl
        · rw [List.drop_set_of_lt (by omega)]
      rw [e1, e2, e3]
      have hpos : posG (fun a b => decide (cmp a b < 0)) (nth l (j + 1)) (l.take (j + 1)) (l.take (j + 1)).length = posG (fun a b => decide (cmp a b < 0)) (nth l (j + 1)) (l.take j) j := by
        rw [show (l.take (j + 1)).length = j + 1 by rw [List.length_take]; omega]
        simp only [posG]
        rw [nth_take (by omega), if_pos hc]
        exact posG_congr _ _ _ fun i hi => by rw [nth_take (by omega), nth_take hi]
      have hle := posG_le (fun a b => decide (cmp a b < 0)) (nth l (j + 1)) (l.take j) j
      unfold insG
      rw [hpos, hlen]
      generalize posG (fun a b => decide (cmp a b < 0)) (nth l (j + 1)) (l.take j) j = p at *
      rw [htk, List.take_append_of_le_length (by omega), List.drop_append_of_le_length (by omega)]
      simp
    · rw [if_neg hc]
      have hpos : posG (fun a b => decide (cmp a b < 0)) (nth l (j + 1)) (l.take (j + 1)) (l.take (j + 1)).length = j + 1 := by
        rw [show (l.take (j + 1)).length = j + 1 by rw [List.length_take]; omega]
        simp only [posG]
        rw [nth_take (by omega), if_neg hc]
      unfold insG
      rw [hpos]
      rw [List.take_of_length_le (l := l.take (j + 1)) (by simp; omega), List.drop_of_length_le (l := l.take (j + 1)) (by simp; omega), List.append_nil, List.append_assoc, List.singleton_append, ← hdj, List.take_append_drop]
theorem insSort_fold (cmp : α → α → Int) (rest : List α) : ∀ (S : List α), insSort cmp 0 rest.length S.length (S ++ rest) = rest.foldl (insG fun a b => decide (cmp a b < 0)) S := by
  induction rest with
  | nil => intro S; simp [insSort]
  | cons x rest ih =>
    intro S
    simp only [List.length_cons, insSort, List.foldl_cons]
    rw [sink_ins cmp S.length _ (by simp)]
    have e1 : (S ++ x :: rest).take S.length = S := by simp
    have e3 : (S ++ x :: rest).drop (S.length + 1) = rest := by
      rw [List.drop_append]
      simp
    rw [e1, nth_append_len, e3]
    have := ih (insG (fun a b => decide (cmp a b < 0)) S x)
    rwa [insG_len] at this
theorem insSort_sortG (cmp : α → α → Int) (l : List α) : insSort cmp 0 (l.length - 1) 1 l = sortG (fun a b => decide (cmp a b < 0)) l := by
  cases l with
  | nil => rfl
  | cons x l =>
    have := insSort_fold cmp l [x]
    simpa [sortG, insG, posG] using this
end
end Go.Proofs.Yteajpacajikaaaa.AM

set_option linter.unusedVariables false
set_option linter.unusedSimpArgs false
set_option maxRecDepth 100000
namespace Go.Proofs.Yteajpacajikaaaa.AM
open Go
section
variable {α : Type} [Inhabited α]
theorem insG_split {lt : α → α → Bool} (W : Weak lt) {out : List α} (h : Srt lt out) (x : α) : insG lt out x = out.filter (fun y => !lt x y) ++ x :: out.filter (fun y => lt x y) := by
  obtain ⟨h1, h2⟩ := posG_spec lt x out out.length
  have hp := posG_le lt x out out.length
  generalize hpe : posG lt x out out.length = p at *
  have hs := pw_nth.1 h
  have hA : ∀ y ∈ out.take p, lt x y = false := by
    intro y hy
    obtain ⟨i, hi, rfl⟩ := mem_nth hy
    simp only [List.length_take] at hi
    have hi' : i < p := by omega
    rw [nth_take hi']
    have h3 := h2 (by omega)
    rcases Nat.lt_or_ge i (p - 1) with h4 | h4
    · exact W.trans _ _ _ (hs i (p - 1) h4 (by omega)) (by simpa using h3)
    · rw [show i = p - 1 by omega]; simpa using h3
  have hB : ∀ y ∈ out.drop p, lt x y = true := by
    intro y hy
    obtain ⟨i, hi, rfl⟩ := mem_nth hy
    simp only [List.length_drop] at hi
    rw [nth_drop]
    exact h1 (p + i) (by omega) (by omega)
  have e1 : out.filter (fun y => !lt x y) = out.take p := by
    conv => lhs; rw [← List.take_append_drop p out]
    rw [List.filter_append, List.filter_eq_self.2 (fun y hy => by simp [hA y hy]), List.filter_eq_nil_iff.2 (fun y hy => by simp [hB y hy]), List.append_nil]
  have e2 : out.filter (fun y => lt x y) = out.drop p := by
    conv => lhs; rw [← List.take_append_drop p out]
    rw [List.filter_append, List.filter_eq_nil_iff.2 (fun y hy => by simp [hA y hy]), List.filter_eq_self.2 (fun y hy => by simp [hB y hy]), List.nil_append]
  unfold insG
  rw [hpe, e1, e2]; simp
end
end Go.Proofs.Yteajpacajikaaaa.AM

set_option linter.unusedVariables false
set_option linter.unusedSimpArgs false
set_option maxRecDepth 100000
namespace Go.Proofs.Yteajpacajikaaaa.AM
open Go
attribute [local irreducible] Tp.card Tp.cardT Tp.next Tp.step Tp.cards Tp.key Tp.keyT
abbrev ltE (a b : Card) : Bool := decide (cmpK a.key b.key < 0)
theorem ltE_before : (fun a b : Card => beforeK a.key b.key) = ltE := by funext a b; exact (less_before a.key b.key).symm
theorem weakE : Weak ltE := ⟨fun a b h => by rw [← ltE_before] at h ⊢; exact bk_asymm h, fun a b c h k => by rw [← ltE_before] at h k ⊢; exact bk_le_trans h k⟩
end Go.Proofs.Yteajpacajikaaaa.AM

set_option linter.unusedVariables false
set_option linter.unusedSimpArgs false
set_option maxRecDepth 100000
namespace Go.Proofs.Yteajpacajikaaaa.AM
open Go
attribute [local irreducible] Tp.card Tp.cardT Tp.next Tp.step Tp.cards Tp.key Tp.keyT
end Go.Proofs.Yteajpacajikaaaa.AM

set_option maxRecDepth 100000
set_option linter.unusedVariables false
set_option linter.unusedSimpArgs false
namespace Go.Proofs.Yteajpacajikaaaa.AM
open Go Go.Proofs.Yteajpacajikaaaa
attribute [local irreducible] ACalls funT codeT codeQ LoopTo
attribute [local irreducible] Tp.card Tp.cardT Tp.next Tp.step Tp.cards Tp.key Tp.keyT sink insSort beforeK sortP cmpK byteB cutS textB byteAt intB showsC hereL seenK cardB sealB sumStep sumB ofB strL
end Go.Proofs.Yteajpacajikaaaa.AM

set_option maxRecDepth 100000
set_option linter.unusedVariables false
set_option linter.unusedSimpArgs false
namespace Go.Proofs.Yteajpacajikaaaa.AM
open Go Go.Proofs.Yteajpacajikaaaa
attribute [local irreducible] ACalls funT codeT codeQ LoopTo
attribute [local irreducible] Tp.card Tp.cardT Tp.next Tp.step Tp.cards Tp.key Tp.keyT sink insSort beforeK
end Go.Proofs.Yteajpacajikaaaa.AM

set_option linter.unusedVariables false
set_option linter.unusedSimpArgs false
namespace Go.Proofs.Yteajpacajikaaaa.AM
open Go
end Go.Proofs.Yteajpacajikaaaa.AM

set_option linter.unusedVariables false
set_option linter.unusedSimpArgs false
namespace Go.Proofs.Yteajpacajikaaaa.AM
open Go
def regsOf : Code → Nat → Option (Array Oper)
  | .region id ops _, r => bif Nat.beq id r then some ops else none
  | .seq a b, r => match regsOf a r with
    | some x => some x
    | none => regsOf b r
  | .cond _ a b, r => match regsOf a r with
    | some x => some x
    | none => regsOf b r
  | .block _ c, r => regsOf c r
  | .loop c, r => regsOf c r
  | _, _ => none
def opIn (fn : Func) (r i : Nat) : Oper := match (fn.body.bind (regsOf · r)).bind (·[i]?) with
  | some o => o
  | none => ⟨none, .move (.tmp 0), 0, "", #[], none⟩
section
variable {P : Program} {X : Env} {F : Fr} {H H2 : Heap} {ar : Nat} {o : Oper} {a : AV}
theorem Sat.sem (hs : isSem X o = true) (h : SSem P F H o (a, H2)) : Sat P X F H ar o a H2 := by
  unfold Sat
  rw [hs]
  exact .inl h
end
section
variable {α : Type} (row : α → List AV) (x : α) (u : List AV)
end
end Go.Proofs.Yteajpacajikaaaa.AM

set_option linter.unusedVariables false
set_option linter.unusedSimpArgs false
namespace Go.Proofs.Yteajpacajikaaaa.AM
open Go
end Go.Proofs.Yteajpacajikaaaa.AM

set_option linter.unusedVariables false
set_option linter.unusedSimpArgs false
namespace Go.Proofs.Yteajpacajikaaaa.AM
open Go
end Go.Proofs.Yteajpacajikaaaa.AM

set_option linter.unusedVariables false
set_option linter.unusedSimpArgs false
namespace Go.Proofs.Yteajpacajikaaaa.AM
open Go
end Go.Proofs.Yteajpacajikaaaa.AM

set_option linter.unusedVariables false
set_option linter.unusedSimpArgs false
namespace Go.Proofs.Yteajpacajikaaaa.AM
open Go
end Go.Proofs.Yteajpacajikaaaa.AM

set_option linter.unusedVariables false
set_option linter.unusedSimpArgs false
namespace Go.Proofs.Yteajpacajikaaaa.AM
open Go
section
variable {G : Nat → Prop} {w : World} {C : Cx} {H : Heap}
end
end Go.Proofs.Yteajpacajikaaaa.AM

set_option linter.unusedVariables false
set_option linter.unusedSimpArgs false
namespace Go.Proofs.Yteajpacajikaaaa.AM
open Go
theorem IdxOsl.mko {id g k n e0 : Nat} {i : Int} {j : Nat} (m : Nat) (H : Heap) (hi : i = (m : Int)) (hj : m < n) (he : j = e0 + m) : IdxOsl id g k k e0 n i H j := by
  subst hi he
  have : (m : Int) < (n : Int) := by omega
  simp [IdxOsl, this]
end Go.Proofs.Yteajpacajikaaaa.AM

set_option linter.unusedVariables false
set_option linter.unusedSimpArgs false
namespace Go.Proofs.Yteajpacajikaaaa.AM
open Go
def ixX (o : Oper) : Operand := match o.op with
  | .index _ x _ => x
  | _ => .tmp 0
def ixN (o : Oper) : Operand := match o.op with
  | .index _ _ i => i
  | _ => .tmp 0
theorem str_get {s : ByteArray} {i : Nat} (h : i < s.size) : ∃ b : UInt8, s[i]? = some b ∧ nth (strL s) i = (b.toNat : Int) := by
  refine ⟨s[i], by simp [h], ?_⟩
  have h2 : i < s.data.toList.length := by simpa using h
  unfold strL nth
  rw [List.getD_eq_getElem?_getD, List.getElem?_map, List.getElem?_eq_getElem h2]
  rfl
theorem sat_index {P : Program} {X : Env} {F : Fr} {H : Heap} {ar : Nat} {o : Oper} (hT : TOk P X.T) {xt : TypeId} {ts : TI} {s : ByteArray} {i : Int} {n : Nat} (hop : o.op = .index xt (ixX o) (ixN o)) (hsem : isSem X o = true) (hs : X.T xt = some ts) (hsd : ts.d = .string)
    (hx : opv F (ixX o) = some (.str s)) (hi : opv F (ixN o) = some (.int .i64 i)) (hn : i = (n : Int)) (hlt : n < s.size) : Sat P X F H ar o (.int .u8 (nth (strL s) n)) H := by
  refine Sat.sem hsem ?_
  obtain ⟨dst, op, type, pos, after, guard⟩ := o
  simp only at hop
  generalize ixX _ = x at hop hx
  generalize ixN _ = y at hop hi
  subst hop hn
  intro G w C f hf hH
  have hv := hf x (by simp [Op.operands]) _ hx
  have hv2 := hf y (by simp [Op.operands]) _ hi
  generalize hu : f x = u at hv
  generalize hu2 : f y = u2 at hv2
  cases hv
  cases hv2
  have h2 : P.underlying xt = some .string := by
    have := (hT _ _ hs).und
    rw [hsd] at this
    exact this
  obtain ⟨b, hb, hnb⟩ := str_get hlt
  have hr : (Instr.index xt (f x) (f y)).run P w = .ok (.int .u8 b.toNat) w := by
    rw [hu, hu2]
    simp [Instr.index, asIntOf, run_underlying h2, hb]
  rw [hnb]
  exact ⟨_, w, by simp [execOp, hr], G, C, Ev.refl .., hH, .int .., Pd.refl⟩
end Go.Proofs.Yteajpacajikaaaa.AM

set_option maxRecDepth 100000
set_option linter.unusedVariables false
set_option linter.unusedSimpArgs false
namespace Go.Proofs.Yteajpacajikaaaa.AM
open Go Go.Proofs.Yteajpacajikaaaa
attribute [local irreducible] ACalls funT codeT codeQ LoopTo
def stR (s : Stamp) : Bool := decide (0 ≤ s.t) && (decide (0 ≤ s.n) && (decide (0 ≤ s.node) && decide (s.node < 6)))
def stRight_ann : Ann := { refs := [1], fin := some 0 }
set_option maxRecDepth 100000 in
theorem stRight_spec (s : Stamp)  : ACalls Try.prog 76 [(.agg (Stamp.row s))] ([] : Heap) ((AV.bool (stR s)), ([] : Heap)) :=
  specO (fn := Try.f76) (ann := stRight_ann) (Has.o Try.func76) (.r (.g (.r (.two (decide (s.t ≥ 0)) (fun h1 h1' => (.yes (.yes (.two (decide (s.n ≥ 0)) (fun h2 h2' => (.yes (.yes (.two (decide (s.node ≥ 0)) (fun h3 h3' => (.yes (.yes (.g (.f 0 (AV.bool (decide (s.node < 6))) (.e (AV.bool (decide (s.node < 6))) (by
        simp only [stR]
        simp_all <;> omega))))))) (fun h3 h3' => (.no (.no (.g (.f 0 (AV.bool false) (.e (AV.bool false) (by
        simp only [stR]
        simp_all <;> omega))))))))))) (fun h2 h2' => (.no (.no (.no (.no (.no (.g (.f 0 (AV.bool false) (.e (AV.bool false) (by
        simp only [stR]
        simp_all <;> omega)))))))))))))) (fun h1 h1' => (.no (.no (.no (.no (.no (.no (.no (.no (.g (.f 0 (AV.bool false) (.e (AV.bool false) (by
        simp only [stR]
        simp_all <;> omega)))))))))))))))))
theorem stRight_at (s : Stamp)  (H : Heap) : ACalls Try.prog 76 [(.agg (Stamp.row s))] H ((AV.bool (stR s)), H) := (stRight_spec s ).lift kr kr H
end Go.Proofs.Yteajpacajikaaaa.AM

set_option maxRecDepth 100000
set_option linter.unusedVariables false
set_option linter.unusedSimpArgs false
namespace Go.Proofs.Yteajpacajikaaaa.AM
open Go Go.Proofs.Yteajpacajikaaaa
attribute [local irreducible] ACalls funT codeT codeQ LoopTo
def charOk (c : Int) : Bool := (decide (97 ≤ c) && decide (c ≤ 122)) || (decide (48 ≤ c) && decide (c ≤ 57))
def nameB (tx : ByteArray) : Bool := decide (0 < tx.size) && (decide (tx.size ≤ 16) && (strL tx).all charOk)
theorem all_nth {l : List Int} {f : Int → Bool} (h : l.all f = true) {j : Nat} (hj : j < l.length) : f (nth l j) = true := by
  rw [List.all_eq_true] at h
  have := nth_get hj
  exact h _ (List.mem_of_getElem? this)
theorem all_no {l : List Int} {f : Int → Bool} (h : l.all f = false) : ∃ j, j < l.length ∧ f (nth l j) = false := by
  rw [List.all_eq_false] at h
  obtain ⟨x, hx, h2⟩ := h
  obtain ⟨j, hj, e⟩ := List.getElem_of_mem hx
  exact ⟨j, hj, by rw [nth_eq (by rw [List.getElem?_eq_getElem hj, e]) ]; simpa using h2⟩
def nm_ann : Ann := { big := [20], fin := some 0, live := [(4, [0, 2, 13, 14, 15])], out := [(4, [0, 2])] }
@[simp] abbrev Wi_1 (v1_ : ByteArray) (v2_ : Nat) : Fr := (mkF 36 [(0, (AV.str v1_)), (2, (AV.bool false)), (13, (AV.str v1_)), (14, (AV.int .i64 ((v1_.size : Nat) : Int))), (15, (AV.int .i64 ((v2_ + 1 : Nat) : Int)))])
set_option maxRecDepth 100000 in
theorem nm_step (tx : ByteArray) (i : Nat) (hs : tx.size < 100) (hi : i ≤ tx.size) {eX : Ex} {FX : Fr} {HX : Heap} (k1 : (decide (((i : Nat) : Int) < ((tx.size : Nat) : Int))) = true → (decide ((nth (strL tx) i) < 97)) = true → (decide ((nth (strL tx) i) < 48)) = true → ((.ret : Ex), (mkF 36 [(0, (.str tx)), (2, (.bool false))]), ([] : Heap)) = (eX, FX, HX)) (k2 : (decide (((i : Nat) : Int) < ((tx.size : Nat) : Int))) = true → (decide ((nth (strL tx) i) < 97)) = true → (decide ((nth (strL tx) i) < 48)) = false → (decide ((nth (strL tx) i) > 57)) = true → ((.ret : Ex), (mkF 36 [(0, (.str tx)), (2, (.bool false))]), ([] : Heap)) = (eX, FX, HX)) (k3 : (decide (((i : Nat) : Int) < ((tx.size : Nat) : Int))) = true → (decide ((nth (strL tx) i) < 97)) = true → (decide ((nth (strL tx) i) < 48)) = false → (decide ((nth (strL tx) i) > 57)) = false → LoopTo (codeQ Try.prog (X nm_ann) (loopOf Try.f22 0)) (some [0, 2, 13, 14, 15]) (some [0, 2]) (Wi_1 tx i) ([] : Heap) eX FX HX) (k4 : (decide (((i : Nat) : Int) < ((tx.size : Nat) : Int))) = true → (decide ((nth (strL tx) i) < 97)) = false → (decide ((nth (strL tx) i) > 122)) = true → (decide ((nth (strL tx) i) < 48)) = true → ((.ret : Ex), (mkF 36 [(0, (.str tx)), (2, (.bool false))]), ([] : Heap)) = (eX, FX, HX)) (k5 : (decide (((i : Nat) : Int) < ((tx.size : Nat) : Int))) = true → (decide ((nth (strL tx) i) < 97)) = false → (decide ((nth (strL tx) i) > 122)) = true → (decide ((nth (strL tx) i) < 48)) = false → (decide ((nth (strL tx) i) > 57)) = true → ((.ret : Ex), (mkF 36 [(0, (.str tx)), (2, (.bool false))]), ([] : Heap)) = (eX, FX, HX)) (k6 : (decide (((i : Nat) : Int) < ((tx.size : Nat) : Int))) = true → (decide ((nth (strL tx) i) < 97)) = false → (decide ((nth (strL tx) i) > 122)) = true → (decide ((nth (strL tx) i) < 48)) = false → (decide ((nth (strL tx) i) > 57)) = false → LoopTo (codeQ Try.prog (X nm_ann) (loopOf Try.f22 0)) (some [0, 2, 13, 14, 15]) (some [0, 2]) (Wi_1 tx i) ([] : Heap) eX FX HX) (k7 : (decide (((i : Nat) : Int) < ((tx.size : Nat) : Int))) = true → (decide ((nth (strL tx) i) < 97)) = false → (decide ((nth (strL tx) i) > 122)) = false → LoopTo (codeQ Try.prog (X nm_ann) (loopOf Try.f22 0)) (some [0, 2, 13, 14, 15]) (some [0, 2]) (Wi_1 tx i) ([] : Heap) eX FX HX) (k8 : (decide (((i : Nat) : Int) < ((tx.size : Nat) : Int))) = false → ((.exit 0 : Ex), (mkF 36 [(0, (.str tx)), (2, (.bool false))]), ([] : Heap)) = (eX, FX, HX)) : LoopTo (codeQ Try.prog (X nm_ann) (loopOf Try.f22 0)) (some [0, 2, 13, 14, 15]) (some [0, 2]) (mkF 36 [(0, (.str tx)), (2, (.bool false)), (13, (.str tx)), (14, (.int .i64 ((tx.size : Nat) : Int))), (15, (.int .i64 ((i : Nat) : Int)))]) ([] : Heap) eX FX HX :=
  stepO (.r (.g (.two (decide (((i : Nat) : Int) < ((tx.size : Nat) : Int))) (fun h1 h1' => (.r (.g (.r (.t 2 (AV.int .u8 (nth (strL tx) i)) ([] : Heap) (sat_index (xt := 9) (ts := { d := .string, size := 1, bytes := 16, zero := [.str ⟨#[]⟩] }) (i := ((i : Nat) : Int)) (n := i) ttOk kr kr kr rfl kr kr ow ow : Sat Try.prog (X nm_ann) (mkF 36 [(0, (AV.str tx)), (2, (AV.bool false)), (3, (AV.int .i64 ((i : Nat) : Int))), (13, (AV.str tx)), (14, (AV.int .i64 ((tx.size : Nat) : Int))), (15, (AV.int .i64 ((i : Nat) : Int))), (16, (AV.bool (decide (((i : Nat) : Int) < ((tx.size : Nat) : Int))))), (17, (AV.int .i64 ((i : Nat) : Int))), (18, (AV.str tx)), (19, (AV.int .i64 ((i : Nat) : Int)))]) ([] : Heap) 0 (opIn Try.f22 6 2) (AV.int .u8 (nth (strL tx) i)) ([] : Heap)) (.g (.r (.two (decide ((nth (strL tx) i) < 97)) (fun h2 h2' => (.yes (.yes (.yes (.yes (.two (decide ((nth (strL tx) i) < 48)) (fun h3 h3' => (.yes (.yes (.g (.yes (.r (.g (.l (k1 h1 h2 h3))))))))) (fun h3 h3' => (.no (.yes (.g (.two (decide ((nth (strL tx) i) > 57)) (fun h4 h4' => (.r (.g (.l (k2 h1 h2 h3 h4))))) (fun h4 h4' => (.r (.y 0 (.int .i64 (IntKind.i64.wrap (((i : Nat) : Int) + 1))) (AV.int .i64 ((i + 1 : Nat) : Int)) (Yes.add ow ow ow) (.g (.l (k3 h1 h2 h3 h4))))))))))))))))) (fun h2 h2' => (.no (.two (decide ((nth (strL tx) i) > 122)) (fun h3 h3' => (.yes (.yes (.two (decide ((nth (strL tx) i) < 48)) (fun h4 h4' => (.yes (.yes (.g (.yes (.r (.g (.l (k4 h1 h2 h3 h4))))))))) (fun h4 h4' => (.no (.yes (.g (.two (decide ((nth (strL tx) i) > 57)) (fun h5 h5' => (.r (.g (.l (k5 h1 h2 h3 h4 h5))))) (fun h5 h5' => (.r (.y 0 (.int .i64 (IntKind.i64.wrap (((i : Nat) : Int) + 1))) (AV.int .i64 ((i + 1 : Nat) : Int)) (Yes.add ow ow ow) (.g (.l (k6 h1 h2 h3 h4 h5))))))))))))))) (fun h3 h3' => (.no (.no (.no (.g (.no (.r (.y 0 (.int .i64 (IntKind.i64.wrap (((i : Nat) : Int) + 1))) (AV.int .i64 ((i + 1 : Nat) : Int)) (Yes.add ow ow ow) (.g (.l (k7 h1 h2 h3)))))))))))))))))))))) (fun h1 h1' => (.l (k8 h1))))))
theorem nm_good (tx : ByteArray) (hs : tx.size < 100) (r : Nat) : ∀ (i : Nat), i + r = tx.size → (∀ j, i ≤ j → j < tx.size → charOk (nth (strL tx) j) = true) →
    LoopTo (codeQ Try.prog (X nm_ann) (loopOf Try.f22 0)) (some [0, 2, 13, 14, 15]) (some [0, 2]) (mkF 36 [(0, (.str tx)), (2, (.bool false)), (13, (.str tx)), (14, (.int .i64 ((tx.size : Nat) : Int))), (15, (.int .i64 ((i : Nat) : Int)))]) ([] : Heap) (.exit 0) (mkF 36 [(0, (.str tx)), (2, (.bool false))]) ([] : Heap) := by
  induction r with
  | zero =>
    intro i hi hall
    refine nm_step tx i hs ow (fun h1 h2 h3 => absurd h1 (by simp; omega)) (fun h1 h2 h3 h4 => absurd h1 (by simp; omega)) (fun h1 h2 h3 h4 => absurd h1 (by simp; omega)) (fun h1 h2 h3 h4 => absurd h1 (by simp; omega)) (fun h1 h2 h3 h4 h5 => absurd h1 (by simp; omega)) (fun h1 h2 h3 h4 h5 => absurd h1 (by simp; omega)) (fun h1 h2 h3 => absurd h1 (by simp; omega)) (fun h1 => rfl)
  | succ r ih =>
    intro i hi hall
    refine nm_step tx i hs ow (fun h1 h2 h3 => absurd (hall i (Nat.le_refl _) ow) (by rw [(show charOk (nth (strL tx) i) = false by simp only [decide_eq_true_eq, decide_eq_false_iff_not] at h1 h2 h3; simp [charOk]; omega)]; simp)) (fun h1 h2 h3 h4 => absurd (hall i (Nat.le_refl _) ow) (by rw [(show charOk (nth (strL tx) i) = false by simp only [decide_eq_true_eq, decide_eq_false_iff_not] at h1 h2 h3 h4; simp [charOk]; omega)]; simp)) (fun h1 h2 h3 h4 => ih (i + 1) ow (fun j hj hj2 => hall j ow hj2)) (fun h1 h2 h3 h4 => absurd (hall i (Nat.le_refl _) ow) (by rw [(show charOk (nth (strL tx) i) = false by simp only [decide_eq_true_eq, decide_eq_false_iff_not] at h1 h2 h3 h4; simp [charOk]; omega)]; simp)) (fun h1 h2 h3 h4 h5 => absurd (hall i (Nat.le_refl _) ow) (by rw [(show charOk (nth (strL tx) i) = false by simp only [decide_eq_true_eq, decide_eq_false_iff_not] at h1 h2 h3 h4 h5; simp [charOk]; omega)]; simp)) (fun h1 h2 h3 h4 h5 => ih (i + 1) ow (fun j hj hj2 => hall j ow hj2)) (fun h1 h2 h3 => ih (i + 1) ow (fun j hj hj2 => hall j ow hj2)) (fun h1 => absurd h1 (by simp; omega))
theorem nm_bad (tx : ByteArray) (hs : tx.size < 100) (r : Nat) : ∀ (i : Nat), i + r = tx.size → (∃ j, i ≤ j ∧ j < tx.size ∧ charOk (nth (strL tx) j) = false) →
    LoopTo (codeQ Try.prog (X nm_ann) (loopOf Try.f22 0)) (some [0, 2, 13, 14, 15]) (some [0, 2]) (mkF 36 [(0, (.str tx)), (2, (.bool false)), (13, (.str tx)), (14, (.int .i64 ((tx.size : Nat) : Int))), (15, (.int .i64 ((i : Nat) : Int)))]) ([] : Heap) (.ret) (mkF 36 [(0, (.str tx)), (2, (.bool false))]) ([] : Heap) := by
  induction r with
  | zero =>
    intro i hi hex
    obtain ⟨j, hj1, hj2, _⟩ := hex
    omega
  | succ r ih =>
    intro i hi hex
    refine nm_step tx i hs ow (fun h1 h2 h3 => rfl) (fun h1 h2 h3 h4 => rfl) (fun h1 h2 h3 h4 => (by
      obtain ⟨j, hj1, hj2, hj3⟩ := hex
      have hne : j ≠ i := fun e => by rw [e, (show charOk (nth (strL tx) i) = true by simp only [decide_eq_true_eq, decide_eq_false_iff_not] at h1 h2 h3 h4; simp [charOk]; omega)] at hj3; simp at hj3
      exact ih (i + 1) ow ⟨j, by omega, hj2, hj3⟩)) (fun h1 h2 h3 h4 => rfl) (fun h1 h2 h3 h4 h5 => rfl) (fun h1 h2 h3 h4 h5 => (by
      obtain ⟨j, hj1, hj2, hj3⟩ := hex
      have hne : j ≠ i := fun e => by rw [e, (show charOk (nth (strL tx) i) = true by simp only [decide_eq_true_eq, decide_eq_false_iff_not] at h1 h2 h3 h4 h5; simp [charOk]; omega)] at hj3; simp at hj3
      exact ih (i + 1) ow ⟨j, by omega, hj2, hj3⟩)) (fun h1 h2 h3 => (by
      obtain ⟨j, hj1, hj2, hj3⟩ := hex
      have hne : j ≠ i := fun e => by rw [e, (show charOk (nth (strL tx) i) = true by simp only [decide_eq_true_eq, decide_eq_false_iff_not] at h1 h2 h3; simp [charOk]; omega)] at hj3; simp at hj3
      exact ih (i + 1) ow ⟨j, by omega, hj2, hj3⟩)) (fun h1 => absurd h1 (by simp; omega))
@[simp] abbrev Wi_2 (v1_ : ByteArray) : Fr := (mkF 36 [(0, (AV.str v1_)), (2, (AV.bool false)), (13, (AV.str v1_)), (14, (AV.int .i64 ((v1_.size : Nat) : Int))), (15, (AV.int .i64 0))])
set_option maxRecDepth 100000 in
theorem nameT_spec (tx : ByteArray) (hb : nameB tx = true) : ACalls Try.prog 22 [(.str tx)] ([] : Heap) ((AV.bool true), ([] : Heap)) := by
  have hB := hb
  simp only [nameB, Bool.and_eq_true, decide_eq_true_eq] at hB
  obtain ⟨q1, q2, q3⟩ := hB
  have hs : tx.size < 100 := by omega
  exact specO (fn := Try.f22) (ann := nm_ann) (Has.o Try.func22) (.r (.g (.r (.y 2 (AV.bool (((tx.size : Nat) : Int) == 0)) (AV.bool false) (Yes.bool (beq_eq_false_iff_ne.2 ow)) (.no (.no (.no (.y 6 (AV.bool (decide (((tx.size : Nat) : Int) > 16))) (AV.bool false) (Yes.bool (by simp; omega)) (.g (.no (.r (.g (.loop (mkF 36 [(0, (.str tx)), (2, (.bool false))]) (show LoopTo (codeQ Try.prog (X nm_ann) (loopOf Try.f22 0)) (some [0, 2, 13, 14, 15]) (some [0, 2]) (Wi_2 tx) ([] : Heap) (.exit 0) (mkF 36 [(0, (.str tx)), (2, (.bool false))]) ([] : Heap) from (nm_good tx hs tx.size 0 ow (fun j hj hj2 => all_nth q3 (by rw [strL_len]; exact hj2)))) (.r (.g (.f 0 (AV.bool true) (.e (AV.bool true))))))))))))))))))
set_option maxRecDepth 100000 in
theorem nameF_spec (tx : ByteArray) (hb : nameB tx = false) : ACalls Try.prog 22 [(.str tx)] ([] : Heap) ((AV.bool false), ([] : Heap)) :=
  specO (fn := Try.f22) (ann := nm_ann) (Has.o Try.func22) (.r (.g (.r (.two (((tx.size : Nat) : Int) == 0) (fun h1 h1' => (.yes (.yes (.g (.yes (.r (.g (.f 0 (AV.bool false) (.e (AV.bool false)))))))))) (fun h1 h1' => (.no (.no (.g (.two (decide (((tx.size : Nat) : Int) > 16)) (fun h2 h2' => (.r (.g (.f 0 (AV.bool false) (.e (AV.bool false)))))) (fun h2 h2' => (.r (.g (.loop (mkF 36 [(0, (.str tx)), (2, (.bool false))]) (show LoopTo (codeQ Try.prog (X nm_ann) (loopOf Try.f22 0)) (some [0, 2, 13, 14, 15]) (some [0, 2]) (Wi_2 tx) ([] : Heap) (.ret) (mkF 36 [(0, (.str tx)), (2, (.bool false))]) ([] : Heap) from (nm_bad tx (by have q := h1'; have q2 := h2'; omega) tx.size 0 ow (by
        have q := h1'; have q2 := h2'
        have h3 : (strL tx).all charOk = false := by
          cases h4 : (strL tx).all charOk with
          | false => rfl
          | true =>
            have h5 : nameB tx = true := by simp only [nameB, Bool.and_eq_true, decide_eq_true_eq]; exact ⟨by omega, by omega, h4⟩
            rw [h5] at hb; simp at hb
        obtain ⟨j, hj, hj2⟩ := all_no h3
        exact ⟨j, Nat.zero_le _, by rw [strL_len] at hj; exact hj, hj2⟩))) (.f 0 (AV.bool false) (.e (AV.bool false))))))))))))))))
theorem name_spec (tx : ByteArray)  : ACalls Try.prog 22 [(.str tx)] ([] : Heap) ((AV.bool (nameB tx)), ([] : Heap)) := by
  cases hb : nameB tx with
  | true => exact nameT_spec tx hb
  | false => exact nameF_spec tx hb
theorem name_at (tx : ByteArray)  (H : Heap) : ACalls Try.prog 22 [(.str tx)] H ((AV.bool (nameB tx)), H) := (name_spec tx ).lift kr kr H
def cardR (c : Card) : Bool := nameB c.key.app && (nameB c.key.id && ((decide (c.status = 1) || decide (c.status = 2)) && ((decide (0 ≤ c.over) && decide (c.over ≤ 3)) && ((decide (1 ≤ c.lease) && decide (c.lease ≤ 1048576)) && stR c.stamp))))
attribute [local irreducible] nameB stR
def cright_ann : Ann := { refs := [1], fin := some 0 }
set_option maxRecDepth 100000 in
theorem cright_spec (c : Card)  : ACalls Try.prog 53 [(.agg (Card.row c))] ([] : Heap) ((AV.bool (cardR c)), ([] : Heap)) :=
  specO (fn := Try.f53) (ann := cright_ann) (Has.o Try.func53) (.r (.g (.r (.c 3 (name_at c.key.app  ([] : Heap)) (.two (!(nameB c.key.app)) (fun h1 h1' => (.yes (.yes (.yes (.yes (.g (.yes (.r (.g (.f 0 (AV.bool false) (.e (AV.bool false) (by
        simp only [cardR]
        simp_all <;> omega)))))))))))) (fun h1 h1' => (.no (.no (.no (.c 9 (name_at c.key.id  ([] : Heap)) (.no (.g (.two (!(nameB c.key.id)) (fun h2 h2' => (.r (.g (.f 0 (AV.bool false) (.e (AV.bool false) (by
        simp only [cardR]
        simp_all <;> omega)))))) (fun h2 h2' => (.r (.two (c.status != 1) (fun h3 h3' => (.yes (.yes (.g (.two (c.status != 2) (fun h4 h4' => (.r (.g (.f 0 (AV.bool false) (.e (AV.bool false) (by
        simp only [cardR]
        simp_all <;> omega)))))) (fun h4 h4' => (.r (.two (decide (c.over < 0)) (fun h5 h5' => (.yes (.yes (.g (.yes (.r (.g (.f 0 (AV.bool false) (.e (AV.bool false) (by
        simp only [cardR]
        simp_all <;> omega)))))))))) (fun h5 h5' => (.no (.no (.g (.two (decide (c.over > 3)) (fun h6 h6' => (.r (.g (.f 0 (AV.bool false) (.e (AV.bool false) (by
        simp only [cardR]
        simp_all <;> omega)))))) (fun h6 h6' => (.r (.two (decide (c.lease ≥ 1)) (fun h7 h7' => (.yes (.yes (.two (decide (c.lease ≤ 1048576)) (fun h8 h8' => (.yes (.yes (.c 11 (stRight_at c.stamp  ([] : Heap)) (.g (.f 0 (AV.bool (stR c.stamp)) (.e (AV.bool (stR c.stamp)) (by
        simp only [cardR]
        simp_all <;> omega)))))))) (fun h8 h8' => (.no (.no (.g (.f 0 (AV.bool false) (.e (AV.bool false) (by
        simp only [cardR]
        simp_all <;> omega))))))))))) (fun h7 h7' => (.no (.no (.no (.no (.no (.g (.f 0 (AV.bool false) (.e (AV.bool false) (by
        simp only [cardR]
        simp_all <;> omega)))))))))))))))))))))))))) (fun h3 h3' => (.no (.no (.g (.no (.r (.two (decide (c.over < 0)) (fun h4 h4' => (.yes (.yes (.g (.yes (.r (.g (.f 0 (AV.bool false) (.e (AV.bool false) (by
        simp only [cardR]
        simp_all <;> omega)))))))))) (fun h4 h4' => (.no (.no (.g (.two (decide (c.over > 3)) (fun h5 h5' => (.r (.g (.f 0 (AV.bool false) (.e (AV.bool false) (by
        simp only [cardR]
        simp_all <;> omega)))))) (fun h5 h5' => (.r (.two (decide (c.lease ≥ 1)) (fun h6 h6' => (.yes (.yes (.two (decide (c.lease ≤ 1048576)) (fun h7 h7' => (.yes (.yes (.c 11 (stRight_at c.stamp  ([] : Heap)) (.g (.f 0 (AV.bool (stR c.stamp)) (.e (AV.bool (stR c.stamp)) (by
        simp only [cardR]
        simp_all <;> omega)))))))) (fun h7 h7' => (.no (.no (.g (.f 0 (AV.bool false) (.e (AV.bool false) (by
        simp only [cardR]
        simp_all <;> omega))))))))))) (fun h6 h6' => (.no (.no (.no (.no (.no (.g (.f 0 (AV.bool false) (.e (AV.bool false) (by
        simp only [cardR]
        simp_all <;> omega)))))))))))))))))))))))))))))))))))))))))
theorem cright_at (c : Card)  (H : Heap) : ACalls Try.prog 53 [(.agg (Card.row c))] H ((AV.bool (cardR c)), H) := (cright_spec c ).lift kr kr H
attribute [local irreducible] cardR
end Go.Proofs.Yteajpacajikaaaa.AM

set_option linter.unusedVariables false
set_option linter.unusedSimpArgs false
set_option maxRecDepth 100000
namespace Go.Proofs.Yteajpacajikaaaa.AM
open Go
end Go.Proofs.Yteajpacajikaaaa.AM

set_option maxRecDepth 100000
set_option linter.unusedVariables false
set_option linter.unusedSimpArgs false
namespace Go.Proofs.Yteajpacajikaaaa.AM
open Go Go.Proofs.Yteajpacajikaaaa
attribute [local irreducible] ACalls funT codeT codeQ LoopTo
attribute [local irreducible] Tp.card Tp.cardT Tp.next Tp.step Tp.cards Tp.key Tp.keyT sink insSort beforeK sortP cmpK
end Go.Proofs.Yteajpacajikaaaa.AM

set_option linter.unusedVariables false
set_option linter.unusedSimpArgs false
set_option maxRecDepth 100000
namespace Go.Proofs.Yteajpacajikaaaa.AM
open Go
end Go.Proofs.Yteajpacajikaaaa.AM

set_option maxRecDepth 100000
set_option linter.unusedVariables false
set_option linter.unusedSimpArgs false
namespace Go.Proofs.Yteajpacajikaaaa.AM
open Go Go.Proofs.Yteajpacajikaaaa
attribute [local irreducible] ACalls funT codeT codeQ LoopTo
attribute [local irreducible] Tp.card Tp.cardT Tp.next Tp.step Tp.cards Tp.key Tp.keyT sink insSort beforeK
end Go.Proofs.Yteajpacajikaaaa.AM

set_option maxRecDepth 100000
set_option linter.unusedVariables false
set_option linter.unusedSimpArgs false
namespace Go.Proofs.Yteajpacajikaaaa.AM
open Go Go.Proofs.Yteajpacajikaaaa
attribute [local irreducible] ACalls funT codeT codeQ LoopTo
attribute [local irreducible] Tp.card Tp.cardT Tp.next Tp.step Tp.cards Tp.key Tp.keyT sink insSort beforeK
end Go.Proofs.Yteajpacajikaaaa.AM

set_option maxRecDepth 100000
set_option linter.unusedVariables false
set_option linter.unusedSimpArgs false
namespace Go.Proofs.Yteajpacajikaaaa.AM
open Go Go.Proofs.Yteajpacajikaaaa
attribute [local irreducible] ACalls funT codeT codeQ LoopTo
attribute [local irreducible] Tp.card Tp.cardT Tp.next Tp.step Tp.cards Tp.key Tp.keyT sink insSort beforeK
end Go.Proofs.Yteajpacajikaaaa.AM

set_option maxRecDepth 100000
set_option linter.unusedVariables false
set_option linter.unusedSimpArgs false
namespace Go.Proofs.Yteajpacajikaaaa.AM
open Go Go.Proofs.Yteajpacajikaaaa
attribute [local irreducible] ACalls funT codeT codeQ LoopTo
end Go.Proofs.Yteajpacajikaaaa.AM

set_option maxRecDepth 100000
set_option linter.unusedVariables false
set_option linter.unusedSimpArgs false
namespace Go.Proofs.Yteajpacajikaaaa.AM
open Go Go.Proofs.Yteajpacajikaaaa
attribute [local irreducible] ACalls funT codeT codeQ LoopTo
end Go.Proofs.Yteajpacajikaaaa.AM

set_option maxRecDepth 100000
set_option linter.unusedVariables false
set_option linter.unusedSimpArgs false
namespace Go.Proofs.Yteajpacajikaaaa.AM
open Go Go.Proofs.Yteajpacajikaaaa
attribute [local irreducible] ACalls funT codeT codeQ LoopTo
attribute [local irreducible] Tp.card Tp.cardT Tp.next Tp.step Tp.cards Tp.key Tp.keyT sink insSort beforeK sortP cmpK byteB cutS textB byteAt intB showsC hereL seenK cardB sealB sumStep sumB ofB strL
end Go.Proofs.Yteajpacajikaaaa.AM

set_option maxRecDepth 100000
set_option linter.unusedVariables false
set_option linter.unusedSimpArgs false
namespace Go.Proofs.Yteajpacajikaaaa.AM
open Go Go.Proofs.Yteajpacajikaaaa
attribute [local irreducible] ACalls funT codeT codeQ LoopTo
abbrev zRow : List AV := [(AV.int .i64 0), (AV.int .i64 0), (AV.int .i64 0), (AV.int .i64 0), (AV.int .i64 0), (AV.int .i64 0), (AV.int .i64 0), (AV.str ⟨#[]⟩), (AV.str ⟨#[]⟩), (AV.bool false), (AV.int .u32 0), (AV.sl .nil 0 []), (AV.sl .nil 0 [])]
abbrev mRow (x b u c : AV) : List AV := [(AV.int .i64 2), (AV.int .i64 5), (AV.int .i64 0), (AV.int .i64 0), (AV.int .i64 0), (AV.int .i64 0), x, (AV.str ⟨#[]⟩), (AV.str ⟨#[]⟩), b, u, c, (AV.sl .nil 0 [])]
@[simp] theorem zRow_bdds (n : Nat) : AV.bdds n zRow = true := by simp [AV.bdds, AV.bdd]
@[simp] theorem mRow_bdds (n : Nat) (x b u c : AV) : AV.bdds n (mRow x b u c) = (AV.bdd n x && (AV.bdd n b && (AV.bdd n u && AV.bdd n c))) := by simp [AV.bdds, AV.bdd]
attribute [local irreducible] seenK sealB ofB sortP hereL
end Go.Proofs.Yteajpacajikaaaa.AM

set_option maxRecDepth 100000
set_option linter.unusedVariables false
set_option linter.unusedSimpArgs false
namespace Go.Proofs.Yteajpacajikaaaa.AM
open Go Go.Proofs.Yteajpacajikaaaa
attribute [local irreducible] ACalls funT codeT codeQ LoopTo
attribute [local irreducible] seenK sealB ofB sortP hereL Tp.card Tp.cardT Tp.next Tp.step
end Go.Proofs.Yteajpacajikaaaa.AM

set_option maxRecDepth 100000
set_option linter.unusedVariables false
set_option linter.unusedSimpArgs false
namespace Go.Proofs.Yteajpacajikaaaa.AM
open Go Go.Proofs.Yteajpacajikaaaa
attribute [local irreducible] ACalls funT codeT codeQ LoopTo
attribute [local irreducible] seenK sealB ofB sortP hereL Tp.card Tp.cardT Tp.next Tp.step
end Go.Proofs.Yteajpacajikaaaa.AM

set_option maxRecDepth 100000
set_option linter.unusedVariables false
set_option linter.unusedSimpArgs false
namespace Go.Proofs.Yteajpacajikaaaa.AM
open Go Go.Proofs.Yteajpacajikaaaa
attribute [local irreducible] ACalls funT codeT codeQ LoopTo
attribute [local irreducible] seenK sealB ofB sortP hereL Tp.card Tp.cardT Tp.next Tp.step nameB stR cardR
theorem iter_inv {σ : Type} (f : Nat → σ → σ) (P : Nat → σ → Prop) (n : Nat) (h : ∀ i s, i < n → P i s → P (i + 1) (f i s)) (r : Nat) : ∀ (i : Nat) (s : σ), i + r ≤ n → P i s → P (i + r) (iter f r i s) := by
  induction r with
  | zero => intro i s _ hp; exact hp
  | succ r ih =>
    intro i s hi hp
    have := ih (i + 1) (f i s) ow (h i s ow hp)
    rw [show i + (r + 1) = i + 1 + r by omega]; exact this
theorem iter_proj {σ τ : Type} (f : Nat → σ → σ) (f' : Nat → τ → τ) (p : σ → τ) (h : ∀ i s, p (f i s) = f' i (p s)) (r : Nat) : ∀ (i : Nat) (s : σ), p (iter f r i s) = iter f' r i (p s) := by
  induction r with
  | zero => intro i s; rfl
  | succ r ih => intro i s; show p (iter f r (i + 1) (f i s)) = iter f' r (i + 1) (f' i (p s)); rw [ih, h]
end Go.Proofs.Yteajpacajikaaaa.AM

set_option linter.unusedVariables false
set_option linter.unusedSimpArgs false
namespace Go.Proofs.Yteajpacajikaaaa.AM
open Go
section
variable {P : Program} {X : Env} {F : Fr} {H H2 : Heap} {ar : Nat} {o : Oper}
end
end Go.Proofs.Yteajpacajikaaaa.AM

set_option linter.unusedVariables false
set_option linter.unusedSimpArgs false
set_option linter.unusedSectionVars false
namespace Go.Proofs.Yteajpacajikaaaa.AM
open Go
section
variable {α : Type} [Inhabited α]
theorem nth_def (l : List α) (q : Nat) : nth l q = l.getD q default := rfl
theorem nth_setM (l : List α) {i : Nat} (h : i < l.length) (x : α) (q : Nat) : nth (l.set i x) q = if i = q then x else nth l q := by
  simp only [nth_def, List.getD_eq_getElem?_getD]
  by_cases e : i = q
  · subst e; rw [List.getElem?_set_self h, if_pos rfl]; rfl
  · rw [List.getElem?_set_ne e, if_neg e]
theorem nth_appM (l m : List α) (q : Nat) : nth (l ++ m) q = if q < l.length then nth l q else nth m (q - l.length) := by
  simp only [nth_def, List.getD_eq_getElem?_getD]
  split
  · rename_i h; rw [List.getElem?_append_left h]
  · rename_i h; rw [List.getElem?_append_right (by omega)]
theorem ext_nth {l m : List α} (hl : l.length = m.length) (h : ∀ q, q < l.length → nth l q = nth m q) : l = m := by
  apply List.ext_getElem hl
  intro q h1 h2
  have := h q h1
  rwa [nth_getElem h1, nth_getElem h2] at this
def swapL (a b n : Nat) (l : List α) : List α := iter (fun i l => (l.set (a + i) (nth l (b + i))).set (b + i) (nth l (a + i))) n 0 l
theorem swapL_all (a b n : Nat) (l : List α) (hab : a + n ≤ b) (hb : b + n ≤ l.length) : ∀ k, k ≤ n → (swapL a b k l).length = l.length ∧ ∀ q, nth (swapL a b k l) q = if a ≤ q ∧ q < a + k then nth l (b + (q - a)) else if b ≤ q ∧ q < b + k then nth l (a + (q - b)) else nth l q := by
  intro k
  induction k with
  | zero =>
    intro _
    refine ⟨rfl, fun q => ?_⟩
    rw [if_neg (by omega), if_neg (by omega)]
    rfl
  | succ k ih =>
    intro hk
    obtain ⟨h1, h2⟩ := ih (by omega)
    have e : swapL a b (k + 1) l = ((swapL a b k l).set (a + k) (nth (swapL a b k l) (b + k))).set (b + k) (nth (swapL a b k l) (a + k)) := iter_succ _ _ _
    refine ⟨by rw [e]; simp [h1], fun q => ?_⟩
    rw [e, nth_setM _ (by simp; omega), nth_setM _ (by omega), h2, h2, h2]
    by_cases c1 : b + k = q
    · subst c1
      rw [if_pos rfl, if_neg (by omega), if_neg (by omega), if_neg (by omega), if_pos (by omega)]
      congr 1; omega
    · rw [if_neg c1]
      by_cases c2 : a + k = q
      · subst c2
        rw [if_pos rfl, if_neg (by omega), if_neg (by omega), if_pos (by omega)]
        congr 1; omega
      · rw [if_neg c2]
        have e1 : (a ≤ q ∧ q < a + (k + 1)) ↔ (a ≤ q ∧ q < a + k) := by omega
        have e2 : (b ≤ q ∧ q < b + (k + 1)) ↔ (b ≤ q ∧ q < b + k) := by omega
        simp only [e1, e2]
theorem swapL_len {a b n : Nat} {l : List α} (hab : a + n ≤ b) (hb : b + n ≤ l.length) : (swapL a b n l).length = l.length := (swapL_all a b n l hab hb n (Nat.le_refl _)).1
theorem swapL_parts (X U M V Y : List α) {a b n : Nat} (ha : a = X.length) (hU : U.length = n) (hV : V.length = n) (hb : b = X.length + n + M.length) :
    swapL a b n (X ++ (U ++ (M ++ (V ++ Y)))) = X ++ (V ++ (M ++ (U ++ Y))) := by
  obtain ⟨h1, h2⟩ := swapL_all a b n (X ++ (U ++ (M ++ (V ++ Y)))) (by omega) (by simp; omega) n (Nat.le_refl _)
  refine ext_nth (by rw [h1]; simp; omega) fun q hq => ?_
  rw [h2]
  simp only [nth_appM, hU, hV]
  by_cases c1 : q < X.length
  · rw [if_neg (by omega), if_neg (by omega), if_pos c1, if_pos c1]
  · rw [if_neg (c := q < X.length) c1, if_neg (c := q < X.length) c1]
    by_cases c2 : q - X.length < n
    · rw [if_pos (by omega), if_pos (c := q - X.length < n) c2, if_neg (by omega), if_neg (by omega), if_neg (by omega), if_pos (by omega)]
      congr 1; omega
    · rw [if_neg (by omega), if_neg (c := q - X.length < n) c2, if_neg (c := q - X.length < n) c2]
      by_cases c3 : q - X.length - n < M.length
      · rw [if_neg (by omega), if_pos c3, if_pos c3]
      · rw [if_neg (c := q - X.length - n < M.length) c3, if_neg (c := q - X.length - n < M.length) c3]
        by_cases c4 : q - X.length - n - M.length < n
        · rw [if_pos (by omega), if_pos (c := q - X.length - n - M.length < n) c4, if_neg (by omega), if_pos (by omega)]
          congr 1; omega
        · rw [if_neg (by omega), if_neg c4, if_neg c4]
def rotS (m : Nat) : Nat → Nat → Nat → List α → List α × Nat
  | 0, i, _, l => (l, i)
  | r + 1, i, j, l => if i = j then (l, i) else if j < i then rotS m r (i - j) j (swapL (m - i) m j l) else rotS m r i (j - i) (swapL (m - i) (m + j - i) i l)
def rotL (a m b : Nat) (l : List α) : List α := swapL (m - (rotS m (m - a + (b - m)) (m - a) (b - m) l).2) m (rotS m (m - a + (b - m)) (m - a) (b - m) l).2 (rotS m (m - a + (b - m)) (m - a) (b - m) l).1
theorem rotS_parts (m : Nat) (T : List α) (r : Nat) : ∀ (X U V Y : List α) (i j : Nat), i + j ≤ r + 1 → 0 < i → 0 < j → U.length = i → V.length = j → m = X.length + i → T = X ++ (V ++ (U ++ Y)) →
    0 < (rotS m r i j (X ++ (U ++ (V ++ Y)))).2 ∧ (rotS m r i j (X ++ (U ++ (V ++ Y)))).2 ≤ i ∧ (rotS m r i j (X ++ (U ++ (V ++ Y)))).2 ≤ j ∧ (rotS m r i j (X ++ (U ++ (V ++ Y)))).1.length = T.length ∧ swapL (m - (rotS m r i j (X ++ (U ++ (V ++ Y)))).2) m (rotS m r i j (X ++ (U ++ (V ++ Y)))).2 (rotS m r i j (X ++ (U ++ (V ++ Y)))).1 = T := by
  induction r with
  | zero => intro X U V Y i j h1 h2 h3; omega
  | succ r ih =>
    intro X U V Y i j h1 h2 h3 hU hV hm hT
    simp only [rotS]
    by_cases c1 : i = j
    · rw [if_pos c1]
      refine ⟨h2, Nat.le_refl _, by simp only; omega, by rw [hT]; simp; omega, ?_⟩
      subst c1
      have := swapL_parts X U [] V Y (a := m - i) (b := m) (n := i) (by omega) hU hV (by simp; omega)
      rw [hT]
      simpa using this
    · rw [if_neg c1]
      by_cases c2 : j < i
      · rw [if_pos c2]
        have hP : (U.take j).length = j := by simp; omega
        have hQ : (U.drop j).length = i - j := by simp; omega
        have e := swapL_parts X (U.take j) (U.drop j) V Y (a := m - i) (b := m) (n := j) (by omega) hP hV (by omega)
        rw [← List.append_assoc (U.take j), List.take_append_drop] at e
        rw [e]
        have := ih (X ++ V) (U.drop j) (U.take j) Y (i - j) j (by omega) (by omega) h3 hQ hP (by simp; omega) (by rw [hT, ← List.append_assoc (U.take j), List.take_append_drop]; simp)
        simp only [List.append_assoc] at this ⊢
        exact ⟨this.1, by omega, this.2.2.1, this.2.2.2⟩
      · rw [if_neg c2]
        have hP : (V.take (j - i)).length = j - i := by simp; omega
        have hQ : (V.drop (j - i)).length = i := by simp; omega
        have e := swapL_parts X U (V.take (j - i)) (V.drop (j - i)) Y (a := m - i) (b := m + j - i) (n := i) (by omega) hU hQ (by omega)
        rw [← List.append_assoc (V.take (j - i)) (V.drop (j - i)), List.take_append_drop] at e
        rw [e]
        have := ih X (V.drop (j - i)) (V.take (j - i)) (U ++ Y) i (j - i) (by omega) h2 (by omega) hQ hP hm (by rw [hT, ← List.append_assoc (V.take (j - i)) (V.drop (j - i)), List.take_append_drop])
        exact ⟨this.1, this.2.1, by omega, this.2.2.2⟩
theorem rotL_parts (X U V Y : List α) {a m b : Nat} (ha : a = X.length) (hm : m = X.length + U.length) (hb : b = X.length + U.length + V.length) (h1 : 0 < U.length) (h2 : 0 < V.length) : rotL a m b (X ++ (U ++ (V ++ Y))) = X ++ (V ++ (U ++ Y)) := by
  have e1 : m - a = U.length := by omega
  have e2 : b - m = V.length := by omega
  unfold rotL
  rw [e1, e2]
  exact (rotS_parts m _ _ X U V Y U.length V.length (by omega) h1 h2 rfl rfl hm rfl).2.2.2.2
def bsr (p : Nat → Bool) : Nat → Nat → Nat → Nat
  | 0, lo, _ => lo
  | r + 1, lo, hi => if lo < hi then if p ((lo + hi) / 2) = true then bsr p r ((lo + hi) / 2 + 1) hi else bsr p r lo ((lo + hi) / 2) else lo
theorem bsr_spec (p : Nat → Bool) (r : Nat) : ∀ (lo hi : Nat), hi - lo ≤ r → lo ≤ hi → lo ≤ bsr p r lo hi ∧ bsr p r lo hi ≤ hi ∧ (lo < bsr p r lo hi → p (bsr p r lo hi - 1) = true) ∧ (bsr p r lo hi < hi → p (bsr p r lo hi) = false) := by
  induction r with
  | zero =>
    intro lo hi h1 h2
    simp only [bsr]
    exact ⟨Nat.le_refl _, h2, fun h => by omega, fun h => by omega⟩
  | succ r ih =>
    intro lo hi h1 h2
    simp only [bsr]
    by_cases c : lo < hi
    · rw [if_pos c]
      by_cases d : p ((lo + hi) / 2) = true
      · rw [if_pos d]
        obtain ⟨k1, k2, k3, k4⟩ := ih ((lo + hi) / 2 + 1) hi (by omega) (by omega)
        refine ⟨by omega, k2, fun _ => ?_, k4⟩
        rcases Nat.lt_or_ge ((lo + hi) / 2 + 1) (bsr p r ((lo + hi) / 2 + 1) hi) with h | h
        · exact k3 h
        · have : bsr p r ((lo + hi) / 2 + 1) hi = (lo + hi) / 2 + 1 := by omega
          rw [this]; simpa using d
      · rw [if_neg d]
        obtain ⟨k1, k2, k3, k4⟩ := ih lo ((lo + hi) / 2) (by omega) (by omega)
        refine ⟨k1, by omega, k3, fun _ => ?_⟩
        rcases Nat.lt_or_ge (bsr p r lo ((lo + hi) / 2)) ((lo + hi) / 2) with h | h
        · exact k4 h
        · have : bsr p r lo ((lo + hi) / 2) = (lo + hi) / 2 := by omega
          rw [this]; simpa using d
    · rw [if_neg c]
      exact ⟨Nat.le_refl _, h2, fun h => by omega, fun h => by omega⟩
def mgL (lt : α → α → Bool) : Nat → List α → List α → List α
  | 0, L, R => L ++ R
  | _ + 1, [], R => R
  | _ + 1, L, [] => L
  | n + 1, x :: L, y :: R => if lt y x = true then y :: mgL lt n (x :: L) R else x :: mgL lt n L (y :: R)
def mg (lt : α → α → Bool) (L R : List α) : List α := mgL lt (L.length + R.length) L R
theorem mg_nil_l (lt : α → α → Bool) (R : List α) : mg lt [] R = R := by
  unfold mg; cases h : ([] : List α).length + R.length <;> simp [mgL]
theorem mg_nil_r (lt : α → α → Bool) (L : List α) : mg lt L [] = L := by
  unfold mg
  cases L with
  | nil => simp [mgL]
  | cons x L => simp [mgL]
theorem mg_cons (lt : α → α → Bool) (x y : α) (L R : List α) : mg lt (x :: L) (y :: R) = if lt y x = true then y :: mg lt (x :: L) R else x :: mg lt L (y :: R) := by
  unfold mg
  have h1 : (x :: L).length + (y :: R).length = ((x :: L).length + R.length) + 1 := by simp; omega
  have h2 : L.length + (y :: R).length = (x :: L).length + R.length := by simp; omega
  rw [h1, h2]
  rfl
theorem mg_split (lt : α → α → Bool) {L2 R2 : List α} (n : Nat) : ∀ (L1 R1 : List α), L1.length + R1.length ≤ n → (∀ x ∈ L2, ∀ y ∈ R1, lt y x = true) → (∀ x ∈ L1, ∀ y ∈ R2, lt y x = false) → mg lt (L1 ++ L2) (R1 ++ R2) = mg lt L1 R1 ++ mg lt L2 R2 := by
  induction n with
  | zero =>
    intro L1 R1 h _ _
    obtain rfl : L1 = [] := List.eq_nil_of_length_eq_zero (by omega)
    obtain rfl : R1 = [] := List.eq_nil_of_length_eq_zero (by omega)
    rw [mg_nil_l]; rfl
  | succ n ih =>
    intro L1 R1 h h1 h2
    cases L1 with
    | nil =>
      cases R1 with
      | nil => rw [mg_nil_l]; rfl
      | cons y R1 =>
        have := ih [] R1 (by simp at h ⊢; omega) (fun x hx y' hy' => h1 x hx y' (List.mem_cons_of_mem _ hy')) (fun x hx => by simp at hx)
        rw [mg_nil_l] at this ⊢
        simp only [List.nil_append, List.cons_append] at this ⊢
        cases L2 with
        | nil => rw [mg_nil_l, mg_nil_l]
        | cons x L2 => rw [mg_cons, if_pos (h1 x (by simp) y (by simp)), this]
    | cons x L1 =>
      cases R1 with
      | nil =>
        have := ih L1 [] (by simp at h ⊢; omega) (fun x hx y' hy' => by simp at hy') (fun x' hx' y hy => h2 x' (List.mem_cons_of_mem _ hx') y hy)
        rw [mg_nil_r] at this ⊢
        simp only [List.nil_append, List.cons_append] at this ⊢
        cases R2 with
        | nil => rw [mg_nil_r, mg_nil_r]
        | cons y R2 => rw [mg_cons, if_neg (by rw [h2 x (by simp) y (by simp)]; simp), this]
      | cons y R1 =>
        simp only [List.cons_append]
        rw [mg_cons, mg_cons]
        have k1 := ih (x :: L1) R1 (by simp at h ⊢; omega) (fun x hx y' hy' => h1 x hx y' (List.mem_cons_of_mem _ hy')) h2
        have k2 := ih L1 (y :: R1) (by simp at h ⊢; omega) h1 (fun x' hx' y hy => h2 x' (List.mem_cons_of_mem _ hx') y hy)
        simp only [List.cons_append] at k1 k2
        split
        · rw [k1]; rfl
        · rw [k2]; rfl
theorem mg_perm (lt : α → α → Bool) (n : Nat) : ∀ (L R : List α), L.length + R.length ≤ n → List.Perm (mg lt L R) (L ++ R) := by
  induction n with
  | zero =>
    intro L R h
    obtain rfl : L = [] := List.eq_nil_of_length_eq_zero (by omega)
    obtain rfl : R = [] := List.eq_nil_of_length_eq_zero (by omega)
    rw [mg_nil_l]; exact .refl _
  | succ n ih =>
    intro L R h
    cases L with
    | nil => rw [mg_nil_l]; exact .refl _
    | cons x L =>
      cases R with
      | nil => rw [mg_nil_r]; simp
      | cons y R =>
        rw [mg_cons]
        split
        · refine (List.Perm.cons y (ih (x :: L) R (by simp at h ⊢; omega))).trans ?_
          exact (List.perm_middle (a := y) (l₁ := x :: L) (l₂ := R)).symm
        · exact List.Perm.cons x (ih L (y :: R) (by simp at h ⊢; omega))
theorem mg_len (lt : α → α → Bool) (L R : List α) : (mg lt L R).length = L.length + R.length := by
  have := (mg_perm lt _ L R (Nat.le_refl _)).length_eq
  simpa using this
end
end Go.Proofs.Yteajpacajikaaaa.AM

set_option maxRecDepth 100000
set_option linter.unusedVariables false
set_option linter.unusedSimpArgs false
namespace Go.Proofs.Yteajpacajikaaaa.AM
open Go Go.Proofs.Yteajpacajikaaaa
attribute [local irreducible] ACalls funT codeT codeQ LoopTo
attribute [local irreducible] Tp.card Tp.cardT Tp.next Tp.step Tp.cards Tp.key Tp.keyT sink insSort beforeK sortP cmpK
theorem half_nat {n h : Nat} (hn : n < 4611686018427387904) (hh : h = n / 2) : IntKind.i64.wrap (Int.fdiv (IntKind.u64.wrap ((n : Nat) : Int)) (2 ^ (min (Int.toNat 1) 64))) = ((h : Nat) : Int) := by
  have h1 : IntKind.u64.wrap ((n : Nat) : Int) = ((n : Nat) : Int) := by simp [IntKind.wrap, IntKind.signed, IntKind.bits]; omega
  have h2 : (2 : Int) ^ (min (Int.toNat 1) 64) = 2 := rfl
  rw [h1, h2, Int.fdiv_eq_ediv_of_nonneg _ ow, IntKind.wrap_i64]
  omega
section
variable {α : Type} [Inhabited α]
def ltF (cmp : α → α → Int) (x y : α) : Bool := decide (cmp x y < 0)
def mAt (lt : α → α → Bool) (a m b : Nat) (l : List α) : List α := l.take a ++ (mg lt ((l.drop a).take (m - a)) ((l.drop m).take (b - m)) ++ l.drop b)
def shU (r k : Nat) (l : List α) : List α := iter (fun k l => (l.set k (nth l (k + 1))).set (k + 1) (nth l k)) r k l
def shD : Nat → Nat → List α → List α
  | 0, _, l => l
  | r + 1, k, l => shD r (k - 1) ((l.set k (nth l (k - 1))).set (k - 1) (nth l k))
end
end Go.Proofs.Yteajpacajikaaaa.AM

set_option linter.unusedVariables false
set_option linter.unusedSimpArgs false
set_option linter.unusedSectionVars false
namespace Go.Proofs.Yteajpacajikaaaa.AM
open Go
section
variable {α : Type} [Inhabited α]
theorem swap1 (X : List α) (x y : α) (Z : List α) {k : Nat} (hk : k = X.length) : ((X ++ x :: y :: Z).set k (nth (X ++ x :: y :: Z) (k + 1))).set (k + 1) (nth (X ++ x :: y :: Z) k) = X ++ y :: x :: Z := by
  have := swapL_parts X [x] [] [y] Z (a := k) (b := k + 1) (n := 1) hk rfl rfl (by simp; omega)
  simpa [swapL, iter] using this
theorem shU_parts (x : α) (R : List α) : ∀ (X Y : List α) (k : Nat), k = X.length → shU R.length k (X ++ x :: (R ++ Y)) = X ++ (R ++ x :: Y) := by
  induction R with
  | nil => intro X Y k hk; rfl
  | cons y R ih =>
    intro X Y k hk
    have h1 : shU (y :: R).length k (X ++ x :: ((y :: R) ++ Y)) = shU R.length (k + 1) (((X ++ x :: y :: (R ++ Y)).set k (nth (X ++ x :: y :: (R ++ Y)) (k + 1))).set (k + 1) (nth (X ++ x :: y :: (R ++ Y)) k)) := rfl
    rw [h1, swap1 X x y (R ++ Y) hk]
    have := ih (X ++ [y]) Y (k + 1) (by simp [hk])
    simpa using this
theorem shD_parts (y : α) (r : Nat) : ∀ (X L Y : List α) (k : Nat), L.length = r → k = X.length + r → shD r k (X ++ (L ++ y :: Y)) = X ++ y :: (L ++ Y) := by
  induction r with
  | zero =>
    intro X L Y k hL hk
    obtain rfl : L = [] := List.eq_nil_of_length_eq_zero hL
    rfl
  | succ r ih =>
    intro X L Y k hL hk
    rcases List.eq_nil_or_concat L with rfl | ⟨L', z, rfl⟩
    · simp at hL
    · rw [List.concat_eq_append] at *
      have hL' : L'.length = r := by simpa using hL
      simp only [shD]
      have e0 : X ++ ((L' ++ [z]) ++ y :: Y) = (X ++ L') ++ z :: y :: Y := by simp
      obtain ⟨k', rfl⟩ : ∃ k', k = k' + 1 := ⟨k - 1, by omega⟩
      rw [e0, Nat.add_sub_cancel, List.set_comm _ _ (by omega), swap1 (X ++ L') z y Y (k := k') (by simp; omega)]
      have := ih X L' (z :: Y) k' hL' (by omega)
      simpa using this
theorem piece (A L Z : List α) {a k : Nat} (ha : a = A.length) (hk : k = L.length) : ((A ++ (L ++ Z)).drop a).take k = L := by
  subst ha hk
  rw [List.drop_append_of_le_length (Nat.le_refl _), List.drop_length, List.nil_append, List.take_append_of_le_length (Nat.le_refl _), List.take_length]
theorem mAt_parts (lt : α → α → Bool) (A L R B : List α) {a m b : Nat} (ha : a = A.length) (hm : m = A.length + L.length) (hb : b = A.length + L.length + R.length) : mAt lt a m b (A ++ (L ++ (R ++ B))) = A ++ (mg lt L R ++ B) := by
  unfold mAt
  have h1 : (A ++ (L ++ (R ++ B))).take a = A := by subst ha; rw [List.take_append_of_le_length (Nat.le_refl _), List.take_length]
  have h2 : ((A ++ (L ++ (R ++ B))).drop a).take (m - a) = L := piece A L (R ++ B) ha (by omega)
  have h3 : ((A ++ (L ++ (R ++ B))).drop m).take (b - m) = R := by
    have := piece (A ++ L) R B (a := m) (k := b - m) (by simp; omega) (by omega)
    simpa using this
  have h4 : (A ++ (L ++ (R ++ B))).drop b = B := by
    have e : A ++ (L ++ (R ++ B)) = (A ++ (L ++ R)) ++ B := by simp
    rw [e, List.drop_append_of_le_length (by simp; omega), List.drop_of_length_le (by simp; omega), List.nil_append]
  rw [h1, h2, h3, h4]
theorem sm1 (A L1 L2 R1 R2 B : List α) {l : List α} (hl : l = A ++ (L1 ++ (L2 ++ (R1 ++ (R2 ++ B))))) {s m e : Nat} (hs : s = A.length + L1.length) (hm : m = s + L2.length) (he : e = m + R1.length) :
    (if s < m ∧ m < e then rotL s m e l else l) = A ++ (L1 ++ (R1 ++ (L2 ++ (R2 ++ B)))) := by
  subst hl
  split
  · rename_i h
    have := rotL_parts (A ++ L1) L2 R1 (R2 ++ B) (a := s) (m := m) (b := e) (by simp; omega) (by simp; omega) (by simp; omega) (by omega) (by omega)
    simpa using this
  · rename_i h
    rcases Nat.eq_zero_or_pos L2.length with h1 | h1
    · obtain rfl : L2 = [] := List.eq_nil_of_length_eq_zero h1
      rfl
    · obtain rfl : R1 = [] := List.eq_nil_of_length_eq_zero (by omega)
      rfl
theorem sm2 (lt : α → α → Bool) (A L1 R1 Z : List α) {a s mid : Nat} (ha : a = A.length) (hs : s = a + L1.length) (hmid : mid = s + R1.length) :
    (if a < s ∧ s < mid then mAt lt a s mid (A ++ (L1 ++ (R1 ++ Z))) else A ++ (L1 ++ (R1 ++ Z))) = A ++ (mg lt L1 R1 ++ Z) := by
  split
  · exact mAt_parts lt A L1 R1 Z ha (by omega) (by omega)
  · rename_i h
    rcases Nat.eq_zero_or_pos L1.length with h1 | h1
    · obtain rfl : L1 = [] := List.eq_nil_of_length_eq_zero h1
      rw [mg_nil_l]; rfl
    · obtain rfl : R1 = [] := List.eq_nil_of_length_eq_zero (by omega)
      rw [mg_nil_r]; rfl
theorem sm3 (lt : α → α → Bool) (A M L2 R2 B : List α) {mid e b : Nat} (hm : mid = A.length + M.length) (he : e = mid + L2.length) (hb : b = e + R2.length) :
    (if mid < e ∧ e < b then mAt lt mid e b (A ++ (M ++ (L2 ++ (R2 ++ B)))) else A ++ (M ++ (L2 ++ (R2 ++ B)))) = A ++ (M ++ (mg lt L2 R2 ++ B)) := by
  have := sm2 lt (A ++ M) L2 R2 B (a := mid) (s := e) (mid := b) (by simp; omega) he hb
  simpa using this
theorem rot_facts (X U V Y : List α) {l : List α} (hl : l = X ++ (U ++ (V ++ Y))) {a m b : Nat} (ha : a = X.length) (hm : m = a + U.length) (hb : b = m + V.length) (h1 : 0 < U.length) (h2 : 0 < V.length) :
    (rotS m (m - a + (b - m)) (m - a) (b - m) l).1.length = l.length ∧ (rotS m (m - a + (b - m)) (m - a) (b - m) l).2 ≤ m - a ∧ (rotS m (m - a + (b - m)) (m - a) (b - m) l).2 ≤ b - m := by
  have e1 : m - a = U.length := by omega
  have e2 : b - m = V.length := by omega
  rw [e1, e2, hl]
  obtain ⟨_, k2, k3, k4, _⟩ := rotS_parts m _ (U.length + V.length) X U V Y U.length V.length (by omega) h1 h2 rfl rfl (by omega) rfl
  exact ⟨by rw [k4]; simp; omega, k2, k3⟩
end
end Go.Proofs.Yteajpacajikaaaa.AM
