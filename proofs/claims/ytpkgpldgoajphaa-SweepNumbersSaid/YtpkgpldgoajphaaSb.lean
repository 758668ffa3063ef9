/-
  AM: for specifications of functions: weaker values, frames, what told operations come to.
-/
import Derived.Test.YtpkgpldgoajphaaAm25
set_option linter.unusedVariables false
set_option linter.unusedSimpArgs false
namespace Go.Proofs.Ytpkgpldgoajphaa.AM
open Go

section
variable {P : Program} {f : FuncId} {args args' : List AV} {a a' : AV} {H H' : Heap}
theorem ACalls.pre (h : ACalls P f args H (a, H')) (hw : AV.wks args' args) : ACalls P f args' H (a, H') := by
  intro G w C vs hsz hargs hH
  obtain ⟨h1, h2⟩ := AV.wks_get hw
  exact h G w C vs (by omega) (fun i hi => (hargs i (by omega)).wk (h2 i (by omega))) hH
theorem ACalls.post (h : ACalls P f args H (a, H')) (hw : AV.wk a a') : ACalls P f args H (a', H') := by
  intro G w C vs hsz hargs hH
  exact (h G w C vs hsz hargs hH).mono fun v w' ⟨G', C', h1, h2, h3, h4⟩ => ⟨G', C', h1, h2, h3.wk hw, h4⟩
end

/-- A frame of n slots, of which these are known. -/
def mkF (n : Nat) (l : List (Nat × AV)) : Fr := (List.range n).map fun i => assoc i l
/-- The loops of code, outermost first. -/
def loopsOf : Code → List Code
  | .seq a b => loopsOf a ++ loopsOf b
  | .cond _ a b => loopsOf a ++ loopsOf b
  | .block _ c => loopsOf c
  | .loop c => c :: loopsOf c
  | _ => []
def loopOf (fn : Func) (i : Nat) : Code := ((fn.body.map loopsOf).getD []).getD i .skip

/-- What told operations ask. -/
abbrev Yes (a : AV) (H : Heap) (b : AV) : Prop := some (a, H) = some (b, H)
theorem i64_id {n : Int} (h1 : -9223372036854775808 ≤ n) (h2 : n ≤ 9223372036854775807) : IntKind.i64.wrap n = n := by
  simp only [IntKind.wrap, IntKind.bits, IntKind.signed]
  simp
  split <;> omega
theorem Yes.int {k : IntKind} {m n : Int} {H : Heap} (h : m = n) : Yes (.int k m) H (.int k n) := by rw [h]
theorem Yes.add {m n : Int} {H : Heap} (h1 : -9223372036854775808 ≤ n) (h2 : n ≤ 9223372036854775807) (h : m = n) : Yes (.int .i64 (IntKind.i64.wrap m)) H (.int .i64 n) := by rw [h, i64_id h1 h2]
theorem Yes.bool {b c : Bool} {H : Heap} (h : b = c) : Yes (.bool b) H (.bool c) := by rw [h]
theorem Yes.len {α : Type} (l : List α) (row : α → List AV) (H : Heap) : Yes (.int .i64 ((l.map row).length : Nat)) H (.int .i64 (l.length : Nat)) := by simp
/-- An element of a list, if there is one. -/
def nth {α : Type} [Inhabited α] (l : List α) (i : Nat) : α := l.getD i default
theorem nth_eq {α : Type} [Inhabited α] {l : List α} {i : Nat} {x : α} (h : l[i]? = some x) : nth l i = x := by simp [nth, List.getD_eq_getElem?_getD, h]
theorem nth_get {α : Type} [Inhabited α] {l : List α} {i : Nat} (h : i < l.length) : l[i]? = some (nth l i) := by simp [nth, List.getD_eq_getElem?_getD, List.getElem?_eq_getElem h]
/-- Indexing of an immutable slice. -/
abbrev IdxSl (k k' : Nat) (rows : List (List AV)) (i : Int) (H : Heap) (cs : List AV) : Prop := Option.map (fun a => (a, H)) (if 0 ≤ i ∧ k = k' then (rows[i.toNat]?).map fun cs => AV.ref cs 0 else none) = some (.ref cs 0, H)
theorem IdxSl.mk {α : Type} [Inhabited α] {l : List α} {row : α → List AV} {k : Nat} {i : Int} {j : Nat} (H : Heap) (hi : i = (j : Int)) (hj : j < l.length) : IdxSl k k (l.map row) i H (row (nth l j)) := by
  subst hi
  simp [IdxSl, nth_get hj]
/-- Indexing of an exclusive slice. -/
abbrev IdxOsl (id g k k' e0 n : Nat) (i : Int) (H : Heap) (j : Nat) : Prop := Option.map (fun a => (a, H)) (if 0 ≤ i ∧ i < (n : Int) ∧ k = k' then some (AV.obj id g (e0 + i.toNat) 0) else none) = some (.obj id g j 0, H)
theorem IdxOsl.mk {id g k n : Nat} {i : Int} {j : Nat} (H : Heap) (hi : i = (j : Int)) (hj : j < n) : IdxOsl id g k k 0 n i H j := by
  subst hi
  have : (j : Int) < (n : Int) := by omega
  simp [IdxOsl, this]
theorem nth_append_left {α : Type} [Inhabited α] {l m : List α} {i : Nat} (h : i < l.length) : nth (l ++ m) i = nth l i := by simp [nth, List.getD_eq_getElem?_getD, List.getElem?_append_left h]
theorem nth_append_len {α : Type} [Inhabited α] (l : List α) (x : α) (m : List α) : nth (l ++ x :: m) l.length = x := by simp [nth, List.getD_eq_getElem?_getD]

/-- An append of one row to an exclusive slice, at its end. -/
theorem evAppend_one {T : TT} {H H' : Heap} {t e : TypeId} {te : TI} {α : Type} {row : α → List AV} {id g k n n' : Nat} {l : List α} {x : α} {z : Nat} {b : Nat} {y : List AV}
    (ht : T t = some { d := .slice e, size := z, bytes := b, zero := y }) (hte : T e = some te) (hsz : te.size = k) (hk : 0 < k) (hb : 0 < te.bytes)
    (ho : H[id]? = some ⟨g, k, l.map row, none⟩) (hn : n = l.length) (hn' : n' = n + 1) (hH' : H' = H.set id ⟨g + 1, k, (l ++ [x]).map row, none⟩) (hlen : (n + 1) * te.bytes ≤ 140737488355328) :
    evAppend T H t (.osl id g k 0 n) (.sl .clip k [row x]) = some (.osl id (g + 1) k 0 n', H') := by
  subst hn hn' hH' hsz
  simp only [evAppend, ht, hte, rowsIn, true_or, if_true]
  simp only [ho, hk, and_self, if_true, List.length_map, Nat.zero_add]
  simp [most, hlen, hb]

theorem evAppendO_fresh {T : TT} {H H' : Heap} {t e : TypeId} {te : TI} {α : Type} {row : α → List AV} {g : Tg} {id k k0 n : Nat} {l : List α} {x : AV} {z : Nat} {b : Nat} {y : List AV}
    (ht : T t = some { d := .slice e, size := z, bytes := b, zero := y }) (hte : T e = some te) (hsz : te.size = k) (hk : 0 < k) (hb : 0 < te.bytes) (hg : g = .nil ∨ g = .clip ∨ g = .cn)
    (hx : rowsIn H k x = some (l.map row)) (hn : n = l.length) (hid : id = H.length) (hH' : H' = H ++ [⟨0, k, l.map row, none⟩]) (hlen : l.length * te.bytes ≤ 140737488355328) :
    evAppendO T H t (.sl g k0 []) x = some (.osl id 0 k 0 n, H') := by
  subst hn hid hH' hsz
  simp only [evAppendO, ht, hte, hx]
  rcases hg with rfl | rfl | rfl <;> simp [most, hlen, hb, hk]
theorem evAppendO_end {T : TT} {H H' : Heap} {t e : TypeId} {te : TI} {α : Type} {row : α → List AV} {id g k n n' : Nat} {l m : List α} {x : AV} {z : Nat} {b : Nat} {y : List AV}
    (ht : T t = some { d := .slice e, size := z, bytes := b, zero := y }) (hte : T e = some te) (hsz : te.size = k) (hk : 0 < k) (hb : 0 < te.bytes)
    (ho : H[id]? = some ⟨g, k, l.map row, none⟩) (hx : rowsIn H k x = some (m.map row)) (hn : n = l.length) (hn' : n' = n + m.length) (hH' : H' = H.set id ⟨g + 1, k, (l ++ m).map row, none⟩) (hlen : (n + m.length) * te.bytes ≤ 140737488355328) :
    evAppendO T H t (.osl id g k 0 n) x = some (.osl id (g + 1) k 0 n', H') := by
  subst hn hn' hH' hsz
  simp only [evAppendO, ht, hte, hx, ho]
  simp [most, hlen, hb, hk]
theorem rowsIn_all {α : Type} {row : α → List AV} {H : Heap} {id g k n : Nat} {l : List α} {room : Option Nat} (ho : H[id]? = some ⟨g, k, l.map row, room⟩) (hn : n = l.length) : rowsIn H k (.osl id g k 0 n) = some (l.map row) := by
  subst hn
  simp [rowsIn, ho, List.take_of_length_le]
def maskN (x : Int) (m : Nat) : Nat := (BitVec.ofInt 64 x &&& BitVec.ofInt 64 m).toNat
theorem maskN_le (x : Int) (m : Nat) (h : m < 4611686018427387904) : maskN x m ≤ m := by
  unfold maskN
  rw [BitVec.toNat_and]
  have h1 : (BitVec.ofInt 64 (m : Int)).toNat = m := by
    simp [BitVec.toNat_ofInt]
    omega
  rw [h1]
  exact Nat.and_le_right
theorem Yes.mask {x : Int} {m : Nat} {H : Heap} (h : m < 4611686018427387904) : Yes (.int .i64 (IntKind.i64.wrap ((BitVec.ofInt 64 x &&& BitVec.ofInt 64 (m : Int)).toNat))) H (.int .i64 ((maskN x m : Nat) : Int)) := by
  have h1 := maskN_le x m h
  rw [i64_id]
  · rfl
  · omega
  · have : (BitVec.ofInt 64 x &&& BitVec.ofInt 64 (m : Int)).toNat ≤ m := h1
    omega
/-- Rounds of a loop that counts. -/
def iter {σ : Type} (f : Nat → σ → σ) : Nat → Nat → σ → σ
  | 0, _, s => s
  | r + 1, i, s => iter f r (i + 1) (f i s)
theorem iter_step {σ : Type} (f : Nat → σ → σ) (r : Nat) : ∀ (i : Nat) (s : σ), iter f (r + 1) i s = f (i + r) (iter f r i s) := by
  induction r with
  | zero => intro i s; rfl
  | succ r ih =>
    intro i s
    show iter f (r + 1) (i + 1) (f i s) = _
    rw [ih (i + 1) (f i s), Nat.add_assoc, Nat.add_comm 1 r]
    rfl
theorem iter_succ {σ : Type} (f : Nat → σ → σ) (r : Nat) (s : σ) : iter f (r + 1) 0 s = f r (iter f r 0 s) := by
  rw [iter_step, Nat.zero_add]
theorem iter_foldl {α σ : Type} [Inhabited α] (f : Nat → σ → σ) (g : σ → α → σ) (l : List α) (h : ∀ i s, i < l.length → f i s = g s (nth l i)) (r : Nat) : ∀ (i : Nat) (s : σ), i + r = l.length → iter f r i s = (l.drop i).foldl g s := by
  induction r with
  | zero =>
    intro i s hi
    rw [List.drop_of_length_le (by omega)]
    rfl
  | succ r ih =>
    intro i s hi
    have hd : l.drop i = nth l i :: l.drop (i + 1) := by
      rw [List.drop_eq_getElem_cons (by omega)]
      congr 1
      simp [nth, List.getD_eq_getElem?_getD, List.getElem?_eq_getElem (show i < l.length by omega)]
    rw [hd, List.foldl_cons, ← h i s (by omega)]
    exact ih (i + 1) (f i s) (by omega)
theorem iter_all {α σ : Type} [Inhabited α] (f : Nat → σ → σ) (g : σ → α → σ) (l : List α) (h : ∀ i s, i < l.length → f i s = g s (nth l i)) (s : σ) : iter f l.length 0 s = l.foldl g s := by
  simpa using iter_foldl f g l h l.length 0 s (by omega)
theorem cond_split {b : Bool} {A B : Prop} (ha : b = true → A) (hb : b = false → B) : cond b A B := by
  cases b
  · exact hb rfl
  · exact ha rfl

mutual
theorem ren_fix {τ : Nat → Nat} {b : Nat} (hτ : ∀ i, i < b → τ i = i) : ∀ (a : AV), AV.bdd b a = true → AV.ren τ a = a
  | .func _ xs, ha => by simp only [AV.bdd] at ha; simp only [AV.ren]; rw [rens_fix hτ xs ha]
  | .iface _ v, ha => by simp only [AV.bdd] at ha; simp only [AV.ren]; rw [ren_fix hτ v ha]
  | .agg cs, ha => by simp only [AV.bdd] at ha; simp only [AV.ren]; rw [rens_fix hτ cs ha]
  | .tup vs, ha => by simp only [AV.bdd] at ha; simp only [AV.ren]; rw [rens_fix hτ vs ha]
  | .obj id _ _ _, ha => by simp only [AV.bdd, decide_eq_true_eq] at ha; simp only [AV.ren]; rw [hτ _ ha]
  | .osl id _ _ _ _, ha => by simp only [AV.bdd, decide_eq_true_eq] at ha; simp only [AV.ren]; rw [hτ _ ha]
  | .skip, _ => rfl
  | .unk, _ => rfl
  | .bool _, _ => rfl
  | .int _ _, _ => rfl
  | .str _, _ => rfl
  | .nilp, _ => rfl
  | .nilf, _ => rfl
  | .nili, _ => rfl
  | .ref _ _, _ => rfl
  | .sl _ _ _, _ => rfl
theorem rens_fix {τ : Nat → Nat} {b : Nat} (hτ : ∀ i, i < b → τ i = i) : ∀ (as : List AV), AV.bdds b as = true → AV.rens τ as = as
  | [], _ => rfl
  | a :: as, ha => by
    simp only [AV.bdds, Bool.and_eq_true] at ha
    simp only [AV.rens]
    rw [ren_fix hτ a ha.1, rens_fix hτ as ha.2]
end
theorem renss_fix {τ : Nat → Nat} {b : Nat} (hτ : ∀ i, i < b → τ i = i) : ∀ (xs : List (List AV)), AV.bddss b xs = true → xs.map (AV.rens τ) = xs
  | [], _ => rfl
  | x :: xs, h => by
    simp only [AV.bddss, Bool.and_eq_true] at h
    rw [List.map_cons, rens_fix hτ x h.1, renss_fix hτ xs h.2]
theorem Ob.ren_fix {τ : Nat → Nat} {b : Nat} (hτ : ∀ i, i < b → τ i = i) (o : Ob) (h : AV.bddss b o.els = true) : o.ren τ = o := by
  obtain ⟨g, k, els, room⟩ := o
  simp only [Ob.ren]
  rw [renss_fix hτ els h]
/-- A call that needs objects and makes none that stays, among more objects behind them. -/
theorem ACalls.ext {P : Program} {f : FuncId} {args : List AV} {a : AV} {Hs Hs' : Heap} (h : ACalls P f args Hs (a, Hs')) (hargs : AV.bdds Hs.length args = true) (ha : AV.bdd Hs.length a = true) (hbs : obsB Hs.length Hs = true) (hbs' : obsB Hs.length Hs' = true) (hlen : Hs'.length = Hs.length) (E : Heap) :
    ACalls P f args (Hs ++ E) (a, Hs' ++ E) := by
  have hτ : ∀ i, i < Hs.length → (fun i => if i < Hs.length then i else i + E.length) i = i := fun i hi => by simp [hi]
  have lt_of : ∀ {l : Heap} {i : Nat} {o : Ob}, l[i]? = some o → i < l.length := fun {l i o} ho => by
    rcases Nat.lt_or_ge i l.length with h' | h'
    · exact h'
    · rw [List.getElem?_eq_none h'] at ho; simp at ho
  have := h.frame (τ := fun i => if i < Hs.length then i else i + E.length) (Hb := Hs ++ E) (Hb' := Hs' ++ E)
    ⟨fun i hi => by simp [hi]; omega, fun i hi => by have : ¬ i < Hs.length := by omega
                                                     simp [this]; omega, fun i j hi hj e => by simpa [hi, hj] using e, fun i o ho => by
      have hi := lt_of ho
      simp only [hi, if_true]
      rw [List.getElem?_append_left hi, Ob.ren_fix hτ o (obsB_get hbs ho)]
      exact ho⟩ hargs (fun i o ho => obsB_get hbs ho) (by simp [hlen]) (fun i o ho => by
      have hi : i < Hs.length := by have := lt_of ho; omega
      simp only [hi, if_true]
      rw [List.getElem?_append_left (by omega), Ob.ren_fix hτ o (obsB_get hbs' ho)]
      exact ho) fun j hj hn => by
      have hj' : Hs.length ≤ j := by
        rcases Nat.lt_or_ge j Hs.length with h' | h'
        · exact absurd (hτ j h') (hn j h')
        · exact h'
      rw [List.getElem?_append_right (by omega), List.getElem?_append_right (by omega), hlen]
  rwa [rens_fix hτ args hargs, ren_fix hτ a ha] at this

theorem nth_map {α β : Type} [Inhabited α] {l : List α} (f : α → β) {i : Nat} (h : i < l.length) : (l.map f)[i]? = some (f (nth l i)) := by
  rw [List.getElem?_map, nth_get h]; rfl
def LoadTo (T : TT) (t : TypeId) (c : Nat) (H : Heap) (r : Option (List AV)) : Option (AV × Heap) :=
  match r with
  | some cs => Option.map (fun a => (a, H)) (AM.part T t cs c)
  | none => none
def StoreTo (H : Heap) (id e k c : Nat) (r u : Option (List AV)) : Option (AV × Heap) :=
  match r, u with
  | some cs, some us => if c + k ≤ cs.length then some (AV.skip, setAt H id e (fillAt cs c us)) else none
  | _, _ => none
theorem load_row {H : Heap} {t : TypeId} {T : TT} {c : Nat} {cs : List AV} {a : AV} {r : Option (List AV)} (h : r = some cs) (hp : AM.part T t cs c = some a) : LoadTo T t c H r = some (a, H) := by
  subst h
  simp [LoadTo, hp]
theorem store_row {H H' : Heap} {id e k c : Nat} {cs us : List AV} {r u : Option (List AV)} (h : r = some cs) (hu : u = some us) (hc : c + k ≤ cs.length) (hH : H' = setAt H id e (fillAt cs c us)) : StoreTo H id e k c r u = some (AV.skip, H') := by
  subst h hu hH
  simp [StoreTo, hc]
theorem rowAt_map {α : Type} [Inhabited α] {row : α → List AV} {H : Heap} {id g k e : Nat} {l : List α} {room : Option Nat} (hid : H[id]? = some ⟨g, k, l.map row, room⟩) (h : e < l.length) : rowAt H id g e = some (row (nth l e)) := by
  simp only [rowAt, hid, if_true]
  exact nth_map _ h
theorem Yes.rem {k : IntKind} {x y : Nat} {H : Heap} : Yes (.int k (Int.tmod (x : Int) (y : Int))) H (.int k ((x % y : Nat) : Int)) := by
  rw [Int.ofNat_tmod]
theorem rem_nat {k : IntKind} {x y : Nat} {H : Heap} (h : (y : Int) ≠ 0) : Option.map (fun a => (a, H)) (if (y : Int) = 0 then none else some (AV.int k (Int.tmod (x : Int) (y : Int)))) = some (.int k ((x % y : Nat) : Int), H) := by
  rw [if_neg h, Option.map_some, Int.ofNat_tmod]
theorem Yes.quo {x y : Nat} {H : Heap} (h : (x : Int) ≤ 9223372036854775807) : Yes (.int .i64 (IntKind.i64.wrap (Int.tdiv (x : Int) (y : Int)))) H (.int .i64 ((x / y : Nat) : Int)) := by
  have h1 : x / y ≤ x := Nat.div_le_self ..
  rw [← Int.ofNat_tdiv]
  generalize x / y = q at *
  rw [i64_id (by omega) (by omega)]
theorem quo_some {k : IntKind} {y z r : Int} {H : Heap} (h : y ≠ 0) (e : z = r) : Option.map (fun a => (a, H)) (if y = 0 then none else some (AV.int k z)) = some (.int k r, H) := by
  rw [if_neg h, e]; rfl
theorem quo_id {x y : Int} {H : Heap} (h : y ≠ 0) (h1 : -9223372036854775808 ≤ Int.tdiv x y) (h2 : Int.tdiv x y ≤ 9223372036854775807) : Option.map (fun a => (a, H)) (if y = 0 then none else some (AV.int .i64 (IntKind.i64.wrap (Int.tdiv x y)))) = some (.int .i64 (Int.tdiv x y), H) := quo_some h (i64_id h1 h2)
theorem slice_sl {H : Heap} {k : Nat} {rows xs : List (List AV)} {g : Tg} {lo hi : Int} {l h : Nat} (hlo : lo = (l : Int)) (hhi : hi = (h : Int)) (h1 : l ≤ h) (h2 : h ≤ rows.length) (hx : (rows.take h).drop l = xs) :
    Option.map (fun a => (a, H)) (if k = k ∨ rows.isEmpty = true then (bounds lo hi rows.length).map fun p => AV.sl g k ((List.take p.2 rows).drop p.1) else none) = some (.sl g k xs, H) := by
  subst hlo hhi hx
  rw [if_pos (.inl rfl)]
  unfold bounds
  rw [if_pos ⟨by omega, by omega, by omega⟩]
  simp
theorem slice_osl {H : Heap} {id g k e n e2 n2 : Nat} {lo hi : Int} {l h : Nat} (hlo : lo = (l : Int)) (hhi : hi = (h : Int)) (h1 : l ≤ h) (h2 : h ≤ n) (he : e2 = e + l) (hn : n2 = h - l) :
    Option.map (fun a => (a, H)) ((bounds lo hi n).map fun p => AV.osl id g k (e + p.1) (p.2 - p.1)) = some (.osl id g k e2 n2, H) := by
  subst hlo hhi he hn
  unfold bounds
  rw [if_pos ⟨by omega, by omega, by omega⟩]
  simp
theorem str_add {H : Heap} {a b : ByteArray} (h : ((a.size + b.size : Nat) : Int) ≤ 9223372036854775807) :
    Option.map (fun a => (a, H)) (if ((a.size + b.size : Nat) : Int) > IntKind.i64.max then none else some (AV.str (a ++ b))) = some (.str (a ++ b), H) := by
  rw [if_neg (by simp [IntKind.max, IntKind.signed, IntKind.bits]; omega)]
  rfl
end Go.Proofs.Ytpkgpldgoajphaa.AM
