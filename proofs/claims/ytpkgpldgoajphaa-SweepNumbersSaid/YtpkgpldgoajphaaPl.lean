/-
  Plain laws: the order of keys; sorts; Once.
-/
import Derived.Test.YtpkgpldgoajphaaSi
set_option linter.unusedVariables false
set_option linter.unusedSimpArgs false
set_option maxRecDepth 100000
namespace Go.Proofs.Ytpkgpldgoajphaa.AM
open Go
attribute [local irreducible] Tp.card Tp.cardT Tp.next Tp.step Tp.cards Tp.cardsT Tp.key Tp.keyT

/-! ### texts -/
theorem bl_irrefl : ∀ (x : List UInt8), Op.bytesLess x x = false
  | [] => rfl
  | a :: x => by
    have := bl_irrefl x
    simp [Op.bytesLess, this]
theorem bl_asymm : ∀ (x y : List UInt8), Op.bytesLess x y = true → Op.bytesLess y x = false
  | [], [], h => by simp [Op.bytesLess] at h
  | [], b :: y, h => rfl
  | a :: x, [], h => by simp [Op.bytesLess] at h
  | a :: x, b :: y, h => by
    simp only [Op.bytesLess, Bool.or_eq_true, Bool.and_eq_true, decide_eq_true_eq, beq_iff_eq] at h
    rcases h with h | ⟨rfl, h⟩
    · have h1 : ¬ b < a := fun h' => by exact absurd (UInt8.lt_trans h h') (UInt8.lt_irrefl _)
      have h2 : ¬ b = a := fun e => by subst e; exact UInt8.lt_irrefl _ h
      simp [Op.bytesLess, h1, h2]
    · have := bl_asymm x y h
      simp [Op.bytesLess, this]
theorem bl_trans : ∀ (x y z : List UInt8), Op.bytesLess x y = true → Op.bytesLess y z = true → Op.bytesLess x z = true
  | [], [], z, h, _ => by simp [Op.bytesLess] at h
  | [], b :: y, [], _, h => by simp [Op.bytesLess] at h
  | [], b :: y, c :: z, _, _ => rfl
  | a :: x, [], z, h, _ => by simp [Op.bytesLess] at h
  | a :: x, b :: y, [], _, h => by simp [Op.bytesLess] at h
  | a :: x, b :: y, c :: z, h, k => by
    simp only [Op.bytesLess, Bool.or_eq_true, Bool.and_eq_true, decide_eq_true_eq, beq_iff_eq] at h k ⊢
    rcases h with h | ⟨rfl, h⟩
    · rcases k with k | ⟨rfl, k⟩
      · exact .inl (UInt8.lt_trans h k)
      · exact .inl h
    · rcases k with k | ⟨rfl, k⟩
      · exact .inl k
      · exact .inr ⟨rfl, bl_trans x y z h k⟩
theorem bl_tri : ∀ (x y : List UInt8), Op.bytesLess x y = false → Op.bytesLess y x = false → x = y
  | [], [], _, _ => rfl
  | [], b :: y, h, _ => by simp [Op.bytesLess] at h
  | a :: x, [], _, h => by simp [Op.bytesLess] at h
  | a :: x, b :: y, h, k => by
    simp only [Op.bytesLess, Bool.or_eq_false_iff, decide_eq_false_iff_not] at h k
    have e : a = b := by
      rcases UInt8.lt_or_lt_of_ne (a := a) (b := b) |> fun f => Classical.em (a = b) with e | e
      · exact e
      · rcases UInt8.lt_or_lt_of_ne e with h1 | h1
        · exact absurd h1 h.1
        · exact absurd h1 k.1
    subst e
    simp only [beq_self_eq_true, Bool.true_and] at h k
    rw [bl_tri x y h.2 k.2]
theorem ba_eq {a b : ByteArray} (h : a.toList = b.toList) : a = b := by
  rw [ByteArray.toList_eq, ByteArray.toList_eq] at h
  obtain ⟨⟨a⟩⟩ := a
  obtain ⟨⟨b⟩⟩ := b
  simp at h
  rw [h]

/-! ### keys -/
theorem Key.eqb_iff (a b : Key) : Key.eqb a b = true ↔ a = b := by
  unfold Key.eqb
  constructor
  · intro h
    simp only [Bool.and_true, Bool.and_eq_true, beq_iff_eq] at h
    cases a; cases b
    exact congr (congrArg Key.mk (ba_eq h.1)) (ba_eq h.2)
  · intro h; subst h; simp
theorem Key.eqb_false {a b : Key} : Key.eqb a b = false ↔ a ≠ b := by
  rw [Ne, ← Key.eqb_iff]; simp
theorem bk_irrefl (a : Key) : beforeK a a = false := by simp [beforeK, bl_irrefl]
theorem bk_asymm {a b : Key} (h : beforeK a b = true) : beforeK b a = false := by
  unfold beforeK at *
  by_cases e : a.app.toList = b.app.toList
  · have e' : b.app.toList = a.app.toList := e.symm
    simp [e] at h
    simp [e']
    exact bl_asymm _ _ h
  · have e' : ¬ b.app.toList = a.app.toList := fun x => e x.symm
    simp [e] at h
    simp [e']
    exact bl_asymm _ _ h
theorem bk_trans {a b c : Key} (h : beforeK a b = true) (k : beforeK b c = true) : beforeK a c = true := by
  unfold beforeK at *
  by_cases e : a.app.toList = b.app.toList
  · by_cases f : b.app.toList = c.app.toList
    · simp [e] at h; simp [f] at k; simp [e, f]
      exact bl_trans _ _ _ h k
    · simp [f] at k
      have : ¬ a.app.toList = c.app.toList := by rw [e]; exact f
      simp [this]; rw [e]; exact k
  · simp [e] at h
    by_cases f : b.app.toList = c.app.toList
    · have : ¬ a.app.toList = c.app.toList := by rw [← f]; exact e
      simp [this]; rw [← f]; exact h
    · simp [f] at k
      have h1 := bl_trans _ _ _ h k
      have : ¬ a.app.toList = c.app.toList := fun x => by rw [x] at h; have := bl_asymm _ _ h; rw [k] at this; simp at this
      simp [this]; exact h1
theorem bk_tri {a b : Key} (h : beforeK a b = false) (k : beforeK b a = false) : a = b := by
  unfold beforeK at *
  by_cases e : a.app.toList = b.app.toList
  · have e' : b.app.toList = a.app.toList := e.symm
    simp [e] at h; simp [e'] at k
    have h2 := bl_tri _ _ h k
    cases a; cases b
    exact congr (congrArg Key.mk (ba_eq e)) (ba_eq h2)
  · have e' : ¬ b.app.toList = a.app.toList := fun x => e x.symm
    simp [e] at h; simp [e'] at k
    exact absurd (bl_tri _ _ h k) e
theorem bk_ne {a b : Key} (h : beforeK a b = true) : a ≠ b := fun e => by subst e; rw [bk_irrefl] at h; simp at h
/-- not behind, and before: before. -/
theorem bk_le_lt {a b c : Key} (h : beforeK b a = false) (k : beforeK b c = true) : beforeK a c = true := by
  cases e : beforeK a b with
  | true => exact bk_trans e k
  | false => rw [bk_tri e h]; exact k
theorem bk_lt_le {a b c : Key} (h : beforeK a b = true) (k : beforeK c b = false) : beforeK a c = true := by
  cases e : beforeK b c with
  | true => exact bk_trans h e
  | false => rw [← bk_tri e k]; exact h
theorem bk_le_trans {a b c : Key} (h : beforeK b a = false) (k : beforeK c b = false) : beforeK c a = false := by
  cases e : beforeK c a with
  | false => rfl
  | true => have := bk_lt_le e h; rw [this] at k; simp at k
theorem less_before (a b : Key) : lessK a b = beforeK a b := by
  unfold lessK cmpK cmpS beforeK
  by_cases h1 : Op.bytesLess a.app.toList b.app.toList = true
  · have : ¬ a.app.toList = b.app.toList := fun e => by rw [e, bl_irrefl] at h1; simp at h1
    simp [h1, this]
  · by_cases h2 : a.app.toList = b.app.toList
    · simp [h2, bl_irrefl]
      by_cases h3 : Op.bytesLess a.id.toList b.id.toList = true
      · simp [h3]
      · by_cases h4 : a.id.toList = b.id.toList
        · simp [h4, bl_irrefl]
        · simp [h3, h4]
    · simp [h1, h2]

/-! ### the reference's sort -/
def WkC (a b : Card) : Prop := beforeK b.key a.key = false
def StC (a b : Card) : Prop := beforeK a.key b.key = true
theorem nth_mem {α : Type} [Inhabited α] {l : List α} {i : Nat} (h : i < l.length) : nth l i ∈ l := List.mem_of_getElem? (nth_get h)
theorem nth_getElem {α : Type} [Inhabited α] {l : List α} {i : Nat} (h : i < l.length) : nth l i = l[i] := by
  simp [nth, List.getD_eq_getElem?_getD, List.getElem?_eq_getElem h]
theorem pw_nth {α : Type} [Inhabited α] {R : α → α → Prop} {l : List α} : List.Pairwise R l ↔ ∀ i j, i < j → j < l.length → R (nth l i) (nth l j) := by
  rw [List.pairwise_iff_getElem]
  constructor
  · intro h i j hij hj
    rw [nth_getElem (show i < l.length by omega), nth_getElem hj]
    exact h i j _ _ hij
  · intro h i j hi hj hij
    have := h i j hij hj
    rwa [nth_getElem hi, nth_getElem hj] at this
theorem mem_nth {α : Type} [Inhabited α] {l : List α} {x : α} (h : x ∈ l) : ∃ i, i < l.length ∧ nth l i = x := by
  obtain ⟨i, hi, rfl⟩ := List.getElem_of_mem h
  exact ⟨i, hi, nth_getElem hi⟩
theorem nth_take {α : Type} [Inhabited α] {l : List α} {i k : Nat} (h : i < k) : nth (l.take k) i = nth l i := by
  simp [nth, List.getD_eq_getElem?_getD, List.getElem?_take, h]
theorem nth_drop {α : Type} [Inhabited α] {l : List α} {i k : Nat} : nth (l.drop k) i = nth l (k + i) := by
  simp [nth, List.getD_eq_getElem?_getD, List.getElem?_drop]

theorem posK_spec (c : Card) (out : List Card) (k : Nat) : (∀ i, posK c out k ≤ i → i < k → beforeK c.key (nth out i).key = true) ∧ (0 < posK c out k → beforeK c.key (nth out (posK c out k - 1)).key = false) := by
  induction k with
  | zero => simp only [posK]; exact ⟨fun i h1 h2 => by omega, fun h => by omega⟩
  | succ k ih =>
    simp only [posK]
    split
    · rename_i h
      refine ⟨fun i h1 h2 => ?_, ih.2⟩
      rcases Nat.lt_or_ge i k with h3 | h3
      · exact ih.1 i h1 h3
      · rw [show i = k by omega]; exact h
    · rename_i h
      exact ⟨fun i h1 h2 => by omega, fun _ => by simpa using h⟩
theorem insK_perm (out : List Card) (c : Card) : List.Perm (insK out c) (c :: out) := by
  unfold insK
  rw [List.append_assoc, List.singleton_append]
  refine List.perm_middle.trans ?_
  rw [List.take_append_drop]
theorem insK_sorted {out : List Card} (h : List.Pairwise WkC out) (c : Card) : List.Pairwise WkC (insK out c) := by
  obtain ⟨h1, h2⟩ := posK_spec c out out.length
  have hp := posK_le c out out.length
  generalize hpe : posK c out out.length = p at *
  have hs := pw_nth.1 h
  unfold insK
  rw [hpe, List.append_assoc, List.singleton_append, List.pairwise_append]
  refine ⟨h.sublist (List.take_sublist _ _), List.pairwise_cons.2 ⟨fun y hy => ?_, h.sublist (List.drop_sublist _ _)⟩, fun x hx y hy => ?_⟩
  · obtain ⟨i, hi, rfl⟩ := mem_nth hy
    simp only [List.length_drop] at hi
    rw [nth_drop]
    exact bk_asymm (h1 (p + i) (by omega) (by omega))
  · have hxp : beforeK c.key x.key = false := by
      obtain ⟨i, hi, rfl⟩ := mem_nth hx
      simp only [List.length_take] at hi
      rw [nth_take (by omega)]
      have h3 := h2 (by omega)
      rcases Nat.lt_or_ge i (p - 1) with h4 | h4
      · exact bk_le_trans (hs i (p - 1) h4 (by omega)) h3
      · rw [show i = p - 1 by omega]; exact h3
    rcases List.mem_cons.1 hy with rfl | hy
    · exact hxp
    · obtain ⟨i, hi, rfl⟩ := mem_nth hx
      obtain ⟨j, hj, rfl⟩ := mem_nth hy
      simp only [List.length_take] at hi
      simp only [List.length_drop] at hj
      rw [nth_take (by omega), nth_drop]
      exact hs i (p + j) (by omega) (by omega)
theorem foldl_insK (l : List Card) : ∀ (out : List Card), List.Pairwise WkC out → List.Pairwise WkC (l.foldl insK out) ∧ List.Perm (l.foldl insK out) (out ++ l) := by
  induction l with
  | nil => intro out h; exact ⟨h, by simp⟩
  | cons c l ih =>
    intro out h
    obtain ⟨h1, h2⟩ := ih (insK out c) (insK_sorted h c)
    refine ⟨h1, h2.trans ?_⟩
    exact ((insK_perm out c).append_right l).trans (by simpa using List.perm_middle.symm)
theorem sortK_sorted (l : List Card) : List.Pairwise WkC (sortK l) := (foldl_insK l [] List.Pairwise.nil).1
theorem sortK_perm (l : List Card) : List.Perm (sortK l) l := (foldl_insK l [] List.Pairwise.nil).2

/-! ### Once -/
theorem onceF (s : List Card) : ∀ (out : List Card) (g : Nat), List.Pairwise WkC (out ++ s) → List.Pairwise StC out →
    List.Pairwise StC (s.foldl onceStep (out, g)).1 ∧ ∀ x ∈ (s.foldl onceStep (out, g)).1, x ∈ out ∨ x ∈ s := by
  induction s with
  | nil => intro out g h1 h2; exact ⟨h2, fun x hx => .inl hx⟩
  | cons c s ih =>
    intro out g h1 h2
    rw [List.foldl_cons]
    have app : ∀ (hlt : ∀ x ∈ out, beforeK x.key c.key = true), List.Pairwise StC (s.foldl onceStep (out ++ [c], g + 1)).1 ∧ ∀ x ∈ (s.foldl onceStep (out ++ [c], g + 1)).1, x ∈ out ∨ x ∈ c :: s := by
      intro hlt
      obtain ⟨a1, a2⟩ := ih (out ++ [c]) (g + 1) (by simpa using h1) (List.pairwise_append.2 ⟨h2, List.pairwise_singleton _ _, fun x hx y hy => by simp at hy; subst hy; exact hlt x hx⟩)
      refine ⟨a1, fun x hx => ?_⟩
      rcases a2 x hx with h | h
      · rcases List.mem_append.1 h with h | h
        · exact .inl h
        · simp at h; subst h; exact .inr (by simp)
      · exact .inr (by simp [h])
    have hw := List.pairwise_append.1 h1
    rcases List.eq_nil_or_concat out with rfl | ⟨init, last, hc⟩
    · have : onceStep ([], g) c = ([] ++ [c], g + 1) := by simp [onceStep]
      rw [this]
      exact app (fun x hx => by simp at hx)
    · have hc' : out = init ++ [last] := by simpa using hc
      have hlen : out.length = init.length + 1 := by rw [hc']; simp
      have hlast : nth out (out.length - 1) = last := by rw [hlen, hc', Nat.add_sub_cancel]; exact nth_append_len init last []
      have h0 : decide ((out.length : Int) > 0) = true := by simp; omega
      have hlm : last ∈ out := by rw [hc']; simp
      by_cases he : Key.eqb last.key c.key = true
      · have hset : out.set (out.length - 1) c = init ++ [c] := by rw [hlen, Nat.add_sub_cancel, hc']; simp
        have : onceStep (out, g) c = (init ++ [c], g) := by
          simp only [onceStep]
          rw [if_pos h0, hlast, if_pos he, hset]
        rw [this]
        have hk := (Key.eqb_iff _ _).1 he
        rw [hc'] at h1 h2
        have hp2 := List.pairwise_append.1 h2
        obtain ⟨a1, a2⟩ := ih (init ++ [c]) g (h1.sublist (by
          rw [List.append_assoc, List.append_assoc]
          refine List.Sublist.append_left ?_ _
          simp)) (List.pairwise_append.2 ⟨hp2.1, List.pairwise_singleton _ _, fun x hx y hy => by
            simp at hy; subst hy
            have := hp2.2.2 x hx last (by simp)
            unfold StC at this ⊢
            rw [← hk]; exact this⟩)
        refine ⟨a1, fun x hx => ?_⟩
        rcases a2 x hx with h | h
        · rcases List.mem_append.1 h with h | h
          · exact .inl (by rw [hc']; simp [h])
          · simp at h; subst h; exact .inr (by simp)
        · exact .inr (by simp [h])
      · have : onceStep (out, g) c = (out ++ [c], g + 1) := by
          simp only [onceStep]
          rw [if_pos h0, hlast, if_neg he]
        rw [this]
        have hll : beforeK last.key c.key = true := by
          have h3 : beforeK c.key last.key = false := hw.2.2 last hlm c (by simp)
          cases h4 : beforeK last.key c.key with
          | true => rfl
          | false => exact absurd ((Key.eqb_iff _ _).2 (bk_tri h4 h3)) he
        refine app fun x hx => ?_
        rw [hc'] at hx
        rcases List.mem_append.1 hx with hx | hx
        · rw [hc'] at h2
          have := (List.pairwise_append.1 h2).2.2 x hx last (by simp)
          exact bk_trans this hll
        · simp at hx; subst hx; exact hll
theorem onceK_sorted (l : List Card) : List.Pairwise StC (onceK l) := (onceF (sortK l) [] 0 (by simpa using sortK_sorted l) List.Pairwise.nil).1
theorem onceK_mem {l : List Card} {x : Card} (h : x ∈ onceK l) : x ∈ l := by
  rcases (onceF (sortK l) [] 0 (by simpa using sortK_sorted l) List.Pairwise.nil).2 x h with h | h
  · simp at h
  · exact (sortK_perm l).mem_iff.1 h

/-! ### insertion sort in place -/
theorem swap_perm {α : Type} [Inhabited α] {l : List α} {i j : Nat} (hi : i < l.length) (hj : j < l.length) : List.Perm ((l.set i (nth l j)).set j (nth l i)) l := by
  rw [nth_getElem hi, nth_getElem hj]
  exact List.set_set_perm hi hj
theorem sink_perm {α : Type} [Inhabited α] (cmp : α → α → Int) (a j : Nat) : ∀ (l : List α), j < l.length → List.Perm (sink cmp a j l) l := by
  induction j with
  | zero => intro l _; simp only [sink]; exact List.Perm.refl _
  | succ j ih =>
    intro l h
    simp only [sink]
    split
    · split
      · exact (ih _ (by simp; omega)).trans (swap_perm h (by omega))
      · exact List.Perm.refl _
    · exact List.Perm.refl _
theorem insSort_perm {α : Type} [Inhabited α] (cmp : α → α → Int) (a k : Nat) : ∀ (i : Nat) (l : List α), i + k ≤ l.length → List.Perm (insSort cmp a k i l) l := by
  induction k with
  | zero => intro i l _; simp only [insSort]; exact List.Perm.refl _
  | succ k ih =>
    intro i l h
    simp only [insSort]
    exact (ih (i + 1) _ (by rw [sink_len]; omega)).trans (sink_perm cmp a i l (by omega))
theorem insSort_perm0 {α : Type} [Inhabited α] (cmp : α → α → Int) (l : List α) : List.Perm (insSort cmp 0 (l.length - 1) 1 l) l := by
  rcases Nat.eq_zero_or_pos l.length with h | h
  · have : l = [] := List.eq_nil_of_length_eq_zero h
    subst this; simp [insSort]
  · exact insSort_perm cmp 0 _ 1 l (by omega)

/-! ### what the tape makes -/
theorem Tp.cards_mem (n : Nat) : ∀ (t : Tp) (c : Card), c ∈ t.cards n → ∃ t' : Tp, c = t'.card := by
  induction n with
  | zero => intro t c h; simp [Tp.cards] at h
  | succ n ih =>
    intro t c h
    simp only [Tp.cards, List.mem_cons] at h
    rcases h with h | h
    · exact ⟨t, h⟩
    · exact ih _ c h
theorem madeE_card (cs : List Card) : ∀ (t : Tp), (madeE t cs).map (·.card) = cs := by
  induction cs with
  | nil => intro t; rfl
  | cons c cs ih => intro t; simp only [madeE, List.map_cons, ih]
theorem madeE_seen (cs : List Card) : ∀ (t : Tp) (e : Entry), e ∈ madeE t cs → 0 ≤ e.seen ∧ e.seen < 120 := by
  induction cs with
  | nil => intro t e h; simp [madeE] at h
  | cons c cs ih =>
    intro t e h
    simp only [madeE, List.mem_cons] at h
    rcases h with h | h
    · subst h
      have := t.next_lt 120 (by omega)
      simp only
      omega
    · exact ih _ e h
theorem madeC_mem {tape : List Int} {most : Nat} {c : Card} (h : c ∈ madeC tape most) : ∃ t' : Tp, c = t'.card := Tp.cards_mem _ _ c (onceK_mem h)
theorem madeL_mem {tape : List Int} {most : Nat} {e : Entry} (h : e ∈ madeL tape most) : e.card ∈ madeC tape most := by
  have : (madeL tape most).map (·.card) = madeC tape most := madeE_card _ _
  rw [← this]
  exact List.mem_map_of_mem h
/-- Entries of unlike keys, by key. -/
theorem madeL_sorted (tape : List Int) (most : Nat) : List.Pairwise (fun a b : Entry => beforeK a.card.key b.card.key = true) (madeL tape most) := by
  have h1 : (madeL tape most).map (·.card) = madeC tape most := madeE_card _ _
  have h2 : List.Pairwise StC (madeC tape most) := onceK_sorted _
  rw [← h1, List.pairwise_map] at h2
  exact h2
theorem madeL_seen {tape : List Int} {most : Nat} {e : Entry} (h : e ∈ madeL tape most) : 0 ≤ e.seen ∧ e.seen < 120 := madeE_seen _ _ e h
end Go.Proofs.Ytpkgpldgoajphaa.AM
