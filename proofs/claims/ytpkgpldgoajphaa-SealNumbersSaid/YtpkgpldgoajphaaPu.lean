/-
  Plain laws: what is seen of sorted rows is what is seen, sorted.
-/
import Derived.Test.YtpkgpldgoajphaaSr
import Derived.Test.YtpkgpldgoajphaaPg
set_option linter.unusedVariables false
set_option linter.unusedSimpArgs false
set_option maxRecDepth 100000
namespace Go.Proofs.Ytpkgpldgoajphaa.AM
open Go
attribute [local irreducible] Tp.card Tp.cardT Tp.next Tp.step Tp.cards Tp.cardsT Tp.key Tp.keyT
section
variable {α : Type} [Inhabited α]
theorem insG_split {lt : α → α → Bool} (W : Weak lt) {out : List α} (h : Srt lt out) (x : α) : insG lt out x = out.filter (fun y => !lt x y) ++ x :: out.filter (fun y => lt x y) := by
  obtain ⟨h1, h2⟩ := posG_spec lt x out out.length
  have hp := posG_le lt x out out.length
  generalize hpe : posG lt x out out.length = p at *
  have hs := pw_nth.1 h
  have hA : ∀ y ∈ out.take p, lt x y = false := by
    intro y hy
    obtain ⟨i, hi, rfl⟩ := mem_nth hy
    simp only [List.length_take] at hi
    have hi' : i < p := by omega
    rw [nth_take hi']
    have h3 := h2 (by omega)
    rcases Nat.lt_or_ge i (p - 1) with h4 | h4
    · exact W.trans _ _ _ (hs i (p - 1) h4 (by omega)) (by simpa using h3)
    · rw [show i = p - 1 by omega]; simpa using h3
  have hB : ∀ y ∈ out.drop p, lt x y = true := by
    intro y hy
    obtain ⟨i, hi, rfl⟩ := mem_nth hy
    simp only [List.length_drop] at hi
    rw [nth_drop]
    exact h1 (p + i) (by omega) (by omega)
  have e1 : out.filter (fun y => !lt x y) = out.take p := by
    conv => lhs; rw [← List.take_append_drop p out]
    rw [List.filter_append, List.filter_eq_self.2 (fun y hy => by simp [hA y hy]), List.filter_eq_nil_iff.2 (fun y hy => by simp [hB y hy]), List.append_nil]
  have e2 : out.filter (fun y => lt x y) = out.drop p := by
    conv => lhs; rw [← List.take_append_drop p out]
    rw [List.filter_append, List.filter_eq_nil_iff.2 (fun y hy => by simp [hA y hy]), List.filter_eq_self.2 (fun y hy => by simp [hB y hy]), List.nil_append]
  unfold insG
  rw [hpe, e1, e2]; simp
theorem filter_insG {lt : α → α → Bool} (W : Weak lt) (p : α → Bool) {out : List α} (h : Srt lt out) (x : α) : (insG lt out x).filter p = if p x = true then insG lt (out.filter p) x else out.filter p := by
  have hf : Srt lt (out.filter p) := h.sublist List.filter_sublist
  rw [insG_split W h x, List.filter_append, List.filter_cons]
  have comm : ∀ q : α → Bool, (out.filter q).filter p = (out.filter p).filter q := fun q => by rw [List.filter_filter, List.filter_filter]; congr 1; funext y; rw [Bool.and_comm]
  split
  · rw [insG_split W hf x, comm, comm]
  · rw [← List.filter_append]
    have e := insG_split W h x
    have hperm : List.filter (fun y => !lt x y) out ++ List.filter (fun y => lt x y) out = out := by
      obtain ⟨h1, h2⟩ := posG_spec lt x out out.length
      have hi := e
      unfold insG at hi
      have hl := congrArg (fun l => l.filter p) hi
      clear hl
      have hp := posG_le lt x out out.length
      have hlen : (out.take (posG lt x out out.length)).length = (out.filter (fun y => !lt x y)).length := by
        have hs := pw_nth.1 h
        have e1 : out.filter (fun y => !lt x y) = out.take (posG lt x out out.length) := by
          conv => lhs; rw [← List.take_append_drop (posG lt x out out.length) out]
          rw [List.filter_append, List.filter_eq_self.2, List.filter_eq_nil_iff.2, List.append_nil]
          · intro y hy
            obtain ⟨i, hi, rfl⟩ := mem_nth hy
            simp only [List.length_drop] at hi
            rw [nth_drop]
            simp [h1 (posG lt x out out.length + i) (by omega) (by omega)]
          · intro y hy
            obtain ⟨i, hi, rfl⟩ := mem_nth hy
            simp only [List.length_take] at hi
            rw [nth_take (by omega)]
            have h3 := h2 (by omega)
            rcases Nat.lt_or_ge i (posG lt x out out.length - 1) with h4 | h4
            · have := W.trans _ _ _ (hs i (posG lt x out out.length - 1) h4 (by omega)) (by simpa using h3)
              simp [this]
            · rw [show i = posG lt x out out.length - 1 by omega]; simpa using h3
        rw [e1]
      have h5 := List.append_inj (show out.take (posG lt x out out.length) ++ (x :: out.drop (posG lt x out out.length)) = _ from by simpa using hi) hlen
      have h6 := (List.cons.inj h5.2).2
      rw [← h5.1, ← h6, List.take_append_drop]
    rw [hperm]
theorem filter_foldG {lt : α → α → Bool} (W : Weak lt) (p : α → Bool) (l : List α) : ∀ (out : List α), Srt lt out → (l.foldl (insG lt) out).filter p = (l.filter p).foldl (insG lt) (out.filter p) := by
  induction l with
  | nil => intro out h; rfl
  | cons x l ih =>
    intro out h
    rw [List.foldl_cons, ih _ (insG_sorted W h x), filter_insG W p h x, List.filter_cons]
    split
    · rw [List.foldl_cons]
    · rfl
theorem filter_sortG {lt : α → α → Bool} (W : Weak lt) (p : α → Bool) (l : List α) : (sortG lt l).filter p = sortG lt (l.filter p) := filter_foldG W p l [] List.Pairwise.nil
end
abbrev ltE (a b : Card) : Bool := decide (cmpK a.key b.key < 0)
theorem ltE_before : (fun a b : Card => beforeK a.key b.key) = ltE := by funext a b; exact (less_before a.key b.key).symm
theorem weakE : Weak ltE := ⟨fun a b h => by rw [← ltE_before] at h ⊢; exact bk_asymm h, fun a b c h k => by rw [← ltE_before] at h k ⊢; exact bk_le_trans h k⟩
theorem posK_posG (c : Card) (out : List Card) (k : Nat) : posK c out k = posG (fun a b : Card => beforeK a.key b.key) c out k := by
  induction k with
  | zero => rfl
  | succ k ih => simp only [posK, posG, ih]
theorem sortK_sortG (l : List Card) : sortK l = sortG ltE l := by
  rw [← ltE_before]
  have : insK = insG (fun a b : Card => beforeK a.key b.key) := by funext out c; unfold insK insG; rw [posK_posG]
  unfold sortK sortG; rw [this]
theorem sortP_sortK (l : List Card) : sortP l = sortK l := by rw [sortK_sortG]; exact insSort_sortG _ l
theorem hereL_sortK (l : List Card) : hereL (sortK l) = seenK l := by
  unfold seenK
  rw [sortP_sortK, sortK_sortG, sortK_sortG]
  exact filter_sortG weakE _ l
/-! ### bytes as a text tell the bytes -/
def okB (l : List Int) : Prop := ∀ x ∈ l, 0 ≤ x ∧ x < 256
theorem u8_ok (n : Int) : 0 ≤ IntKind.u8.wrap n ∧ IntKind.u8.wrap n < 256 := by
  have : IntKind.u8.wrap n = n % 256 := by simp [IntKind.wrap, IntKind.signed, IntKind.bits]
  omega
theorem okB_app {a b : List Int} (ha : okB a) (hb : okB b) : okB (a ++ b) := fun x hx => by
  rcases List.mem_append.1 hx with h | h
  · exact ha x h
  · exact hb x h
theorem okB_str (s : ByteArray) : okB (strL s) := fun x hx => by
  unfold strL at hx
  obtain ⟨b, _, rfl⟩ := List.mem_map.1 hx
  have := b.toNat_lt
  omega
theorem okB_byte {b : List Int} (h : okB b) (n : Int) : okB (byteB b n) := okB_app h fun x hx => by simp at hx; subst hx; exact u8_ok n
theorem okB_text {b : List Int} (h : okB b) (s : ByteArray) : okB (textB b s) := okB_app (okB_byte h _) (okB_str _)
theorem okB_int {b : List Int} (h : okB b) (n : Int) : okB (intB b n) := okB_app h fun x hx => by
  simp only [List.mem_cons, List.not_mem_nil, or_false] at hx
  rcases hx with rfl | rfl | rfl | rfl | rfl | rfl | rfl | rfl <;> exact u8_ok _
theorem okB_fold (l : List Card) : ∀ (b : List Int), okB b → okB (l.foldl cardB b) := by
  induction l with
  | nil => intro b h; exact h
  | cons c l ih => intro b h; exact ih _ (okB_int (okB_byte (okB_text (okB_text h _) _) _) _)
theorem okB_seal (l : List Card) : okB (sealB l) := okB_fold _ _ fun x hx => by simp at hx
theorem okB_inj : ∀ (l m : List Int), okB l → okB m → l.map (fun n => UInt8.ofNat n.toNat) = m.map (fun n => UInt8.ofNat n.toNat) → l = m
  | [], [], _, _, _ => rfl
  | [], y :: m, _, _, h => by simp at h
  | x :: l, [], _, _, h => by simp at h
  | x :: l, y :: m, h1, h2, h => by
    simp only [List.map_cons, List.cons.injEq] at h
    have hx := h1 x (by simp)
    have hy := h2 y (by simp)
    have e := congrArg UInt8.toNat h.1
    simp only [UInt8.toNat_ofNat'] at e
    rw [okB_inj l m (fun z hz => h1 z (by simp [hz])) (fun z hz => h2 z (by simp [hz])) h.2]
    congr 1
    omega
theorem sealB_inj (l m : List Card) (h : (bstr (sealB l)).toList = (bstr (sealB m)).toList) : sealB l = sealB m := by
  have := congrArg ByteArray.data (ba_eq h)
  unfold bstr at this
  exact okB_inj _ _ (okB_seal l) (okB_seal m) (by simpa using this)
end Go.Proofs.Ytpkgpldgoajphaa.AM
