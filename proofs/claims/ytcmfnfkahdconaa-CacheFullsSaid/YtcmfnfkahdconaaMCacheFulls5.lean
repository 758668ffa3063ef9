/-
  Texts of this claim, part 5 of 5: an abstract machine over the model; what functions come to; plain laws.
-/
import Derived.Test.YtcmfnfkahdconaaMCacheFulls4
import Derived.Below
import Derived.Carry
import Derived.ChangeSlices
set_option linter.unusedVariables false
set_option linter.unusedSimpArgs false
set_option linter.unusedSectionVars false
namespace Go.Proofs.Ytcmfnfkahdconaa.AM
open Go
section
variable {α : Type} [Inhabited α]
theorem sink_shift (cmp : α → α → Int) (X : List α) (j : Nat) : ∀ (l : List α), j < l.length → sink cmp X.length (X.length + j) (X ++ l) = X ++ sink cmp 0 j l := by
  induction j with
  | zero =>
    intro l hl
    have h1 : sink cmp X.length X.length (X ++ l) = X ++ l := by
      cases h : X.length with
      | zero => simp only [sink]
      | succ q => simp only [sink]; rw [if_neg]; simp
    simpa [sink] using h1
  | succ j ih =>
    intro l hl
    have e1 : nth (X ++ l) (X.length + j + 1) = nth l (j + 1) := by rw [nth_appM, if_neg (by omega)]; congr 1; omega
    have e2 : nth (X ++ l) (X.length + j) = nth l j := by rw [nth_appM, if_neg (by omega)]; congr 1; omega
    have L : sink cmp X.length (X.length + (j + 1)) (X ++ l) = if decide (cmp (nth (X ++ l) (X.length + j + 1)) (nth (X ++ l) (X.length + j)) < 0) = true then sink cmp X.length (X.length + j) (((X ++ l).set (X.length + j + 1) (nth (X ++ l) (X.length + j))).set (X.length + j) (nth (X ++ l) (X.length + j + 1))) else X ++ l := by
      rw [← Nat.add_assoc]; simp only [sink]; rw [if_pos (by simp; omega)]
    have R : sink cmp 0 (j + 1) l = if decide (cmp (nth l (j + 1)) (nth l j) < 0) = true then sink cmp 0 j ((l.set (j + 1) (nth l j)).set j (nth l (j + 1))) else l := by
      simp only [sink]; rw [if_pos (by simp)]
    rw [L, R, e1, e2]
    split
    · have e3 : ((X ++ l).set (X.length + j + 1) (nth l j)).set (X.length + j) (nth l (j + 1)) = X ++ (l.set (j + 1) (nth l j)).set j (nth l (j + 1)) := by
        rw [List.set_append_right _ _ (by omega), List.set_append_right _ _ (by omega)]
        congr 2
        · congr 1; omega
        · omega
      rw [e3]
      exact ih _ (by simpa using (by omega : j < l.length))
    · rfl
theorem insSort_shift (cmp : α → α → Int) (X : List α) (k : Nat) : ∀ (i : Nat) (l : List α), i + k ≤ l.length → insSort cmp X.length k (X.length + i) (X ++ l) = X ++ insSort cmp 0 k i l := by
  induction k with
  | zero => intro i l _; simp only [insSort]
  | succ k ih =>
    intro i l h
    simp only [insSort]
    rw [sink_shift cmp X i l (by omega)]
    exact ih (i + 1) _ (by rw [sink_len]; omega)
theorem insSort_mid (cmp : α → α → Int) (Y : List α) (rest : List α) : ∀ (S : List α), insSort cmp 0 rest.length S.length (S ++ (rest ++ Y)) = rest.foldl (insG fun a b => decide (cmp a b < 0)) S ++ Y := by
  induction rest with
  | nil => intro S; simp only [List.length_nil, insSort, List.nil_append, List.foldl_nil]
  | cons x rest ih =>
    intro S
    simp only [List.length_cons, insSort, List.foldl_cons]
    have h1 := sink_ins cmp S.length (S ++ (x :: rest ++ Y)) (by simp)
    have e1 : (S ++ (x :: rest ++ Y)).take S.length = S := by rw [List.take_append_of_le_length (Nat.le_refl _), List.take_length]
    have e2 : nth (S ++ (x :: rest ++ Y)) S.length = x := by rw [nth_appM, if_neg (by omega), Nat.sub_self]; rfl
    have e3 : (S ++ (x :: rest ++ Y)).drop (S.length + 1) = rest ++ Y := by
      rw [← List.drop_drop, List.drop_append_of_le_length (Nat.le_refl _), List.drop_length]; rfl
    rw [e1, e2, e3] at h1
    rw [h1]
    have := ih (insG (fun a b => decide (cmp a b < 0)) S x)
    rw [insG_len] at this
    exact this
theorem insSort_part (cmp : α → α → Int) (X M Y : List α) {a b : Nat} (ha : a = X.length) (hb : b = a + M.length) : insSort cmp a (b - (a + 1)) (a + 1) (X ++ (M ++ Y)) = X ++ (sortG (fun a b => decide (cmp a b < 0)) M ++ Y) := by
  subst ha hb
  cases M with
  | nil => rw [show X.length + ([] : List α).length - (X.length + 1) = 0 by simp]; simp only [insSort]; rfl
  | cons x M =>
    rw [show X.length + (x :: M).length - (X.length + 1) = M.length by simp; omega, insSort_shift cmp X M.length 1 (x :: M ++ Y) (by simp; omega)]
    have := insSort_mid cmp Y M [x]
    simp only [List.length_singleton, List.singleton_append] at this
    rw [show x :: M ++ Y = x :: (M ++ Y) from rfl, this]
    have e : sortG (fun a b => decide (cmp a b < 0)) (x :: M) = M.foldl (insG fun a b => decide (cmp a b < 0)) [x] := by
      unfold sortG
      rw [List.foldl_cons]
      congr 1
    rw [e]
def blk (lt : α → α → Bool) (bs : Nat) : Nat → List α → List α
  | 0, l => l
  | K + 1, l => sortG lt (l.take bs) ++ blk lt bs K (l.drop bs)
theorem sortG_len (lt : α → α → Bool) (l : List α) : (sortG lt l).length = l.length := (sortG_perm lt l).length_eq
theorem blk_nil (lt : α → α → Bool) (bs K : Nat) : blk lt bs K ([] : List α) = [] := by
  induction K with
  | zero => rfl
  | succ K ih => simp only [blk, List.take_nil, List.drop_nil]; rw [ih]; rfl
theorem blk_len (lt : α → α → Bool) (bs K : Nat) : ∀ (l : List α), (blk lt bs K l).length = l.length := by
  induction K with
  | zero => intro l; rfl
  | succ K ih => intro l; simp only [blk, List.length_append]; rw [sortG_len, ih, List.length_take, List.length_drop]; omega
theorem blk_next (lt : α → α → Bool) (bs K : Nat) : ∀ (l : List α), K * bs ≤ l.length → ∃ X, X.length = K * bs ∧ blk lt bs K l = X ++ l.drop (K * bs) ∧ ∀ (D : Nat), blk lt bs (K + D) l = X ++ blk lt bs D (l.drop (K * bs)) := by
  induction K with
  | zero => intro l h; exact ⟨[], by simp, by simp [blk], fun D => by simp⟩
  | succ K ih =>
    intro l h
    rw [Nat.succ_mul] at h
    obtain ⟨X, h1, h2, h3⟩ := ih (l.drop bs) (by simp; omega)
    refine ⟨sortG lt (l.take bs) ++ X, by rw [List.length_append, sortG_len, h1, Nat.succ_mul]; simp; omega, ?_, fun D => ?_⟩
    · simp only [blk]
      rw [h2, List.drop_drop, List.append_assoc, Nat.succ_mul, Nat.add_comm bs]
    · rw [show K + 1 + D = (K + D) + 1 by omega]
      simp only [blk]
      rw [h3, List.drop_drop, List.append_assoc, Nat.succ_mul, Nat.add_comm bs]
theorem blk_more (lt : α → α → Bool) (bs D : Nat) (K : Nat) : ∀ (l : List α), l.length ≤ K * bs → blk lt bs (K + D) l = blk lt bs K l := by
  induction K with
  | zero => intro l h; obtain rfl : l = [] := List.eq_nil_of_length_eq_zero (by omega); rw [blk_nil, blk_nil]
  | succ K ih =>
    intro l h
    rw [Nat.succ_mul] at h
    rw [show K + 1 + D = (K + D) + 1 by omega]
    simp only [blk]
    rw [ih _ (by simp; omega)]
def allB (lt : α → α → Bool) (bs : Nat) (l : List α) : List α := blk lt bs (l.length + 1) l
theorem allB_of (lt : α → α → Bool) {bs K : Nat} (hb : 0 < bs) {l : List α} (h : l.length ≤ K * bs) : blk lt bs K l = allB lt bs l := by
  unfold allB
  have h2 : l.length ≤ (l.length + 1) * bs := Nat.le_trans (Nat.le_succ _) (Nat.le_mul_of_pos_right _ hb)
  rcases Nat.le_total K (l.length + 1) with h1 | h1
  · obtain ⟨D, hD⟩ := Nat.le.dest h1
    rw [← hD, blk_more lt bs D K l h]
  · obtain ⟨D, hD⟩ := Nat.le.dest h1
    rw [← hD, blk_more lt bs D _ l h2]
theorem allB_one (lt : α → α → Bool) {bs : Nat} {l : List α} (h : l.length ≤ bs) (hb : 0 < bs) : allB lt bs l = sortG lt l := by
  rw [← allB_of lt (K := 1) hb (by omega)]
  simp only [blk]
  rw [List.take_of_length_le h, List.drop_of_length_le h, List.append_nil]
theorem allB_step (lt : α → α → Bool) {bs : Nat} (hb : 0 < bs) (l : List α) : allB lt bs l = sortG lt (l.take bs) ++ allB lt bs (l.drop bs) := by
  have h2 : ∀ q : Nat, q ≤ (q + 1) * bs := fun q => Nat.le_trans (Nat.le_succ _) (Nat.le_mul_of_pos_right _ hb)
  rw [← allB_of lt (K := (l.length + 1) + 1) hb (Nat.le_trans (h2 _) (Nat.mul_le_mul_right _ (Nat.le_succ _)))]
  have e : blk lt bs (l.length + 1 + 1) l = sortG lt (l.take bs) ++ blk lt bs (l.length + 1) (l.drop bs) := rfl
  rw [e, allB_of lt hb (Nat.le_trans (by simp) (h2 l.length))]
theorem allB_len (lt : α → α → Bool) (bs : Nat) (l : List α) : (allB lt bs l).length = l.length := blk_len lt bs _ l
def mix (lt : α → α → Bool) (bs : Nat) : Nat → List α → List α
  | 0, l => allB lt bs l
  | J + 1, l => sortG lt (l.take (2 * bs)) ++ mix lt bs J (l.drop (2 * bs))
theorem mix_next (lt : α → α → Bool) {bs : Nat} (hb : 0 < bs) (J : Nat) : ∀ (l : List α), J * (2 * bs) ≤ l.length → ∃ X, X.length = J * (2 * bs) ∧ mix lt bs J l = X ++ allB lt bs (l.drop (J * (2 * bs))) ∧ mix lt bs (J + 1) l = X ++ (sortG lt ((l.drop (J * (2 * bs))).take (2 * bs)) ++ allB lt bs ((l.drop (J * (2 * bs))).drop (2 * bs))) ∧ ∀ D, blk lt (2 * bs) (J + D) l = X ++ blk lt (2 * bs) D (l.drop (J * (2 * bs))) := by
  induction J with
  | zero => intro l h; exact ⟨[], by simp, by simp [mix], by simp [mix], fun D => by simp⟩
  | succ J ih =>
    intro l h
    rw [Nat.succ_mul] at h
    obtain ⟨X, h1, h2, h3, h4⟩ := ih (l.drop (2 * bs)) (by simp; omega)
    have hmul : (J + 1) * (2 * bs) = J * (2 * bs) + 2 * bs := Nat.succ_mul _ _
    have hd0 : (l.drop (2 * bs)).drop (J * (2 * bs)) = l.drop ((J + 1) * (2 * bs)) := by rw [List.drop_drop, hmul, Nat.add_comm]
    refine ⟨sortG lt (l.take (2 * bs)) ++ X, by rw [List.length_append, sortG_len, h1, hmul, List.length_take]; omega, ?_, ?_, fun D => ?_⟩
    · rw [mix, h2, hd0, List.append_assoc]
    · rw [mix, h3, hd0, List.append_assoc]
    · rw [show J + 1 + D = (J + D) + 1 by omega]
      simp only [blk]
      rw [h4, hd0, List.append_assoc]
theorem mix_len (lt : α → α → Bool) (bs J : Nat) : ∀ (l : List α), (mix lt bs J l).length = l.length := by
  induction J with
  | zero => intro l; exact allB_len lt bs l
  | succ J ih => intro l; simp only [mix, List.length_append]; rw [sortG_len, ih, List.length_take, List.length_drop]; omega
variable {lt : α → α → Bool}
theorem mix_merge (W : Weak lt) {bs J : Nat} (hb : 0 < bs) {l : List α} {a b : Nat} (ha : a = J * (2 * bs)) (hbe : b = a + 2 * bs) (hn : b ≤ l.length) :
    mAt lt a (a + bs) b (mix lt bs J l) = mix lt bs (J + 1) l ∧ Srt lt (((mix lt bs J l).drop a).take (a + bs - a)) ∧ Srt lt (((mix lt bs J l).drop (a + bs)).take (b - (a + bs))) := by
  obtain ⟨X, h1, h2, h3, _⟩ := mix_next lt hb J l (by omega)
  rw [← ha] at h1 h2 h3
  rw [h2, h3, allB_step lt hb, allB_step lt hb ((l.drop a).drop bs)]
  have l1 : (sortG lt ((l.drop a).take bs)).length = bs := by rw [sortG_len]; simp; omega
  have l2 : (sortG lt (((l.drop a).drop bs).take bs)).length = bs := by rw [sortG_len]; simp; omega
  refine ⟨?_, ?_, ?_⟩
  · rw [mAt_parts lt X _ _ _ h1.symm (by omega) (by omega), ← sortG_app W]
    have e : (l.drop a).take bs ++ ((l.drop a).drop bs).take bs = (l.drop a).take (2 * bs) := by
      rw [show 2 * bs = bs + bs by omega, List.take_add]
    rw [e, List.drop_drop, show bs + bs = 2 * bs by omega]
  · rw [piece X _ _ h1.symm (by omega)]; exact sortG_sorted W _
  · have := piece (X ++ sortG lt ((l.drop a).take bs)) (sortG lt (((l.drop a).drop bs).take bs)) (allB lt bs (((l.drop a).drop bs).drop bs)) (a := a + bs) (k := b - (a + bs)) (by simp [l1, h1]) (by omega)
    rw [List.append_assoc] at this
    rw [this]; exact sortG_sorted W _
theorem mix_last (W : Weak lt) {bs J : Nat} (hb : 0 < bs) {l : List α} {a n : Nat} (ha : a = J * (2 * bs)) (hn : n = l.length) (han : a ≤ n) (hlt : n < a + 2 * bs) :
    (a + bs < n → mAt lt a (a + bs) n (mix lt bs J l) = allB lt (2 * bs) l ∧ Srt lt (((mix lt bs J l).drop a).take (a + bs - a)) ∧ Srt lt (((mix lt bs J l).drop (a + bs)).take (n - (a + bs)))) ∧ (n ≤ a + bs → mix lt bs J l = allB lt (2 * bs) l) := by
  obtain ⟨X, h1, h2, _, h4⟩ := mix_next lt hb J l (by omega)
  rw [← ha] at h1 h2
  have h5 := h4 1
  rw [allB_of lt (by omega) (by rw [Nat.succ_mul]; omega), ← ha] at h5
  simp only [blk] at h5
  rw [List.take_of_length_le (by simp; omega), List.drop_of_length_le (i := 2 * bs) (by simp; omega), List.append_nil] at h5
  rw [h2, h5]
  refine ⟨fun h => ?_, fun h => ?_⟩
  · rw [allB_step lt hb, allB_one lt (l := (l.drop a).drop bs) (by simp; omega) hb]
    have l1 : (sortG lt ((l.drop a).take bs)).length = bs := by rw [sortG_len]; simp; omega
    have l2 : (sortG lt ((l.drop a).drop bs)).length = n - (a + bs) := by rw [sortG_len]; simp; omega
    refine ⟨?_, ?_, ?_⟩
    · have := mAt_parts lt X (sortG lt ((l.drop a).take bs)) (sortG lt ((l.drop a).drop bs)) [] (a := a) (m := a + bs) (b := n) h1.symm (by omega) (by omega)
      rw [List.append_nil, List.append_nil] at this
      rw [this, ← sortG_app W, List.take_append_drop]
    · rw [piece X _ _ h1.symm (by omega)]; exact sortG_sorted W _
    · have := piece (X ++ sortG lt ((l.drop a).take bs)) (sortG lt ((l.drop a).drop bs)) [] (a := a + bs) (k := n - (a + bs)) (by simp [l1, h1]) (by omega)
      rw [List.append_assoc, List.append_nil] at this
      rw [this]; exact sortG_sorted W _
  · rw [allB_one lt (by simp; omega) hb]
end
end Go.Proofs.Ytcmfnfkahdconaa.AM

set_option linter.unusedVariables false
set_option linter.unusedSimpArgs false
set_option linter.unusedSectionVars false
namespace Go.Proofs.Ytcmfnfkahdconaa.AM
open Go
section
variable {α : Type} [Inhabited α]
theorem st_block (cmp : α → α → Int) {l : List α} {j a b : Nat} (ha : a = j * 20) (hb : b = a + 20) (hn : b ≤ l.length) : insSort cmp a (b - (a + 1)) (a + 1) (blk (ltF cmp) 20 j l) = blk (ltF cmp) 20 (j + 1) l := by
  obtain ⟨X, h1, h2, h3⟩ := blk_next (ltF cmp) 20 j l (by omega)
  have h4 : blk (ltF cmp) 20 1 (l.drop (j * 20)) = sortG (ltF cmp) ((l.drop (j * 20)).take 20) ++ (l.drop (j * 20)).drop 20 := by simp only [blk]
  rw [h2, h3 1, h4, ← ha]
  have := insSort_part cmp X ((l.drop a).take 20) ((l.drop a).drop 20) (a := a) (b := b) (by omega) (by simp; omega)
  rw [List.take_append_drop] at this
  exact this
theorem st_tail (cmp : α → α → Int) {l : List α} {j a n : Nat} (ha : a = j * 20) (hn : n = l.length) (han : a ≤ n) (hlt : n < a + 20) : insSort cmp a (n - (a + 1)) (a + 1) (blk (ltF cmp) 20 j l) = allB (ltF cmp) 20 l := by
  obtain ⟨X, h1, h2, h3⟩ := blk_next (ltF cmp) 20 j l (by omega)
  have h4 : blk (ltF cmp) 20 1 (l.drop (j * 20)) = sortG (ltF cmp) ((l.drop (j * 20)).take 20) ++ (l.drop (j * 20)).drop 20 := by simp only [blk]
  rw [← allB_of (ltF cmp) (bs := 20) (K := j + 1) (by omega) (by omega), h2, h3 1, h4, ← ha]
  have := insSort_part cmp X (l.drop a) [] (a := a) (b := n) (by omega) (by simp; omega)
  rw [List.append_nil, List.append_nil] at this
  rw [this, List.take_of_length_le (by simp; omega), List.drop_of_length_le (i := 20) (by simp; omega), List.append_nil]
  rfl
end
end Go.Proofs.Ytcmfnfkahdconaa.AM

set_option maxRecDepth 100000
set_option linter.unusedVariables false
set_option linter.unusedSimpArgs false
namespace Go.Proofs.Ytcmfnfkahdconaa.AM
open Go Go.Proofs.Ytcmfnfkahdconaa
attribute [local irreducible] ACalls funT codeT codeQ LoopTo
attribute [local irreducible] Tp.card Tp.cardT Tp.next Tp.step Tp.cards Tp.cardsT Tp.key Tp.keyT sink insSort sortK insK posK beforeK onceStep onceS onceK sortP cmpK
attribute [local irreducible] mgL mg mAt blk allB mix sortG
theorem sCm_spec (cmp : Card → Card → Int) (f : Nat) (xs : List AV) (a p b n g : Nat) (l : List Card) (hc : ∀ (x y : Card) (H : Heap), ACalls Try.prog f ([AV.agg (Card.row x), AV.agg (Card.row y)] ++ xs) H (AV.int .i64 (cmp x y), H)) (hxs : AV.bdds 1 xs = true) (W : Weak (ltF cmp)) (h1 : n = l.length) (h2 : n < 1048576) (h3 : a < p) (h4 : p < b) (h5 : b ≤ n) (h7 : Srt (ltF cmp) ((l.drop a).take (p - a))) (h8 : Srt (ltF cmp) ((l.drop p).take (b - p))) : ACalls Try.prog 157 [(.osl 0 g 9 0 n), (.int .i64 ((a : Nat) : Int)), (.int .i64 ((p : Nat) : Int)), (.int .i64 ((b : Nat) : Int)), (.func f xs)] ([⟨g, 9, (List.map Card.row l), none⟩] : Heap) ((AV.tup []), ([⟨g, 9, (List.map Card.row (mAt (ltF cmp) a p b l)), none⟩] : Heap)) := sC_all cmp f xs hc hxs W (b - a + 1) a p b n g l h1 h2 h3 h4 h5 ow h7 h8
theorem sCm_at (cmp : Card → Card → Int) (f : Nat) (xs : List AV) (a p b n g : Nat) (l : List Card) (hc : ∀ (x y : Card) (H : Heap), ACalls Try.prog f ([AV.agg (Card.row x), AV.agg (Card.row y)] ++ xs) H (AV.int .i64 (cmp x y), H)) (hxs : AV.bdds 1 xs = true) (W : Weak (ltF cmp)) (h1 : n = l.length) (h2 : n < 1048576) (h3 : a < p) (h4 : p < b) (h5 : b ≤ n) (h7 : Srt (ltF cmp) ((l.drop a).take (p - a))) (h8 : Srt (ltF cmp) ((l.drop p).take (b - p))) (H : Heap) : ACalls Try.prog 157 [(.osl 0 g 9 0 n), (.int .i64 ((a : Nat) : Int)), (.int .i64 ((p : Nat) : Int)), (.int .i64 ((b : Nat) : Int)), (.func f xs)] (([⟨g, 9, (List.map Card.row l), none⟩] : Heap) ++ H) ((AV.tup []), ([⟨g, 9, (List.map Card.row (mAt (ltF cmp) a p b l)), none⟩] : Heap) ++ H) := (sCm_spec cmp f xs a p b n g l hc hxs W h1 h2 h3 h4 h5 h7 h8).ext (by simp [AV.bdds, AV.bdd, *]) kr ob ob kr H
def sCst_ann : Ann := { base := 1, fin := some 1, live := [(2, [0, 1, 2, 6, 7, 8]), (7, [0, 1, 2, 6]), (9, [0, 1, 2, 6, 7, 8])], out := [(2, [0, 1, 2, 6, 7]), (7, []), (9, [0, 1, 2, 6, 7])] }
set_option maxRecDepth 100000 in
theorem sCstb_step (cmp : Card → Card → Int) (f : Nat) (xs : List AV) (a b n g : Nat) (l : List Card) (hc : ∀ (x y : Card) (H : Heap), ACalls Try.prog f ([AV.agg (Card.row x), AV.agg (Card.row y)] ++ xs) H (AV.int .i64 (cmp x y), H)) (hxs : AV.bdds 1 xs = true) (W : Weak (ltF cmp)) (hn : n = l.length) (hnb : n < 524288) (hb : b = a + 20) (han : a ≤ n) {eX : Ex} {FX : Fr} {HX : Heap} (k1 : (decide (((b : Nat) : Int) ≤ ((n : Nat) : Int))) = true → LoopTo (codeQ Try.prog (X sCst_ann) (loopOf Try.f145 0)) (some [0, 1, 2, 6, 7, 8]) (some [0, 1, 2, 6, 7]) (mkF 63 [(0, (.osl 0 g 9 0 n)), (1, (.int .i64 ((n : Nat) : Int))), (2, (.func f xs)), (6, (.int .i64 20)), (7, (.int .i64 ((b : Nat) : Int))), (8, (.int .i64 ((b + 20 : Nat) : Int)))]) ([⟨g, 9, (List.map Card.row (insSort cmp a (b - (a + 1)) (a + 1) l)), none⟩] : Heap) eX FX HX) (k2 : (decide (((b : Nat) : Int) ≤ ((n : Nat) : Int))) = false → ((.exit 0 : Ex), (mkF 63 [(0, (.osl 0 g 9 0 n)), (1, (.int .i64 ((n : Nat) : Int))), (2, (.func f xs)), (6, (.int .i64 20)), (7, (.int .i64 ((a : Nat) : Int)))]), ([⟨g, 9, (List.map Card.row l), none⟩] : Heap)) = (eX, FX, HX)) : LoopTo (codeQ Try.prog (X sCst_ann) (loopOf Try.f145 0)) (some [0, 1, 2, 6, 7, 8]) (some [0, 1, 2, 6, 7]) (mkF 63 [(0, (.osl 0 g 9 0 n)), (1, (.int .i64 ((n : Nat) : Int))), (2, (.func f xs)), (6, (.int .i64 20)), (7, (.int .i64 ((a : Nat) : Int))), (8, (.int .i64 ((b : Nat) : Int)))]) ([⟨g, 9, (List.map Card.row l), none⟩] : Heap) eX FX HX :=
  stepO (.r (.g (.two (decide (((b : Nat) : Int) ≤ ((n : Nat) : Int))) (fun h1 h1' => (.r (.t 4 (AV.tup []) ([⟨g, 9, (List.map Card.row (insSort cmp a (b - (a + 1)) (a + 1) l)), none⟩] : Heap) (insC_at _ f xs a b n g l (by first | exact hc | exact hxs | exact W | omega | (simp; omega)) (by first | exact hc | exact hxs | exact W | omega | (simp; omega)) (by first | exact hc | exact hxs | exact W | omega | (simp; omega)) (by first | exact hc | exact hxs | exact W | omega | (simp; omega)) (by first | exact hc | exact hxs | exact W | omega | (simp; omega)) (by first | exact hc | exact hxs | exact W | omega | (simp; omega)) ([] : Heap) : ACalls Try.prog 156 [(.osl 0 g 9 0 n), (.int .i64 ((a : Nat) : Int)), (.int .i64 ((b : Nat) : Int)), (.func f xs)] ([⟨g, 9, (List.map Card.row l), none⟩] : Heap) ((AV.tup []), ([⟨g, 9, (List.map Card.row (insSort cmp a (b - (a + 1)) (a + 1) l)), none⟩] : Heap))) (.g (.r (.g (.r (.h' ([⟨g, 9, (List.map Card.row (insSort cmp a (b - (a + 1)) (a + 1) l)), none⟩] : Heap) (.y 2 (.int .i64 (IntKind.i64.wrap (((b : Nat) : Int) + 20))) (AV.int .i64 ((b + 20 : Nat) : Int)) (Yes.add ow ow ow) (.g (.l (k1 h1)))))))))))) (fun h1 h1' => (.l (k2 h1))))))
theorem sCstb_loop (cmp : Card → Card → Int) (f : Nat) (xs : List AV) (hc : ∀ (x y : Card) (H : Heap), ACalls Try.prog f ([AV.agg (Card.row x), AV.agg (Card.row y)] ++ xs) H (AV.int .i64 (cmp x y), H)) (hxs : AV.bdds 1 xs = true) (W : Weak (ltF cmp)) (n g : Nat) (l0 : List Card) (hn : n = l0.length) (hnb : n < 524288) (r : Nat) : ∀ (j a b : Nat) (l : List Card), j + r = n / 20 → a = j * 20 → b = a + 20 → l = blk (ltF cmp) 20 j l0 →
    LoopTo (codeQ Try.prog (X sCst_ann) (loopOf Try.f145 0)) (some [0, 1, 2, 6, 7, 8]) (some [0, 1, 2, 6, 7]) (mkF 63 [(0, (.osl 0 g 9 0 n)), (1, (.int .i64 ((n : Nat) : Int))), (2, (.func f xs)), (6, (.int .i64 20)), (7, (.int .i64 ((a : Nat) : Int))), (8, (.int .i64 ((b : Nat) : Int)))]) ([⟨g, 9, (List.map Card.row l), none⟩] : Heap) (.exit 0) (mkF 63 [(0, (.osl 0 g 9 0 n)), (1, (.int .i64 ((n : Nat) : Int))), (2, (.func f xs)), (6, (.int .i64 20)), (7, (.int .i64 (((n / 20 * 20) : Nat) : Int)))]) ([⟨g, 9, (List.map Card.row (blk (ltF cmp) 20 (n / 20) l0)), none⟩] : Heap) := by
  induction r with
  | zero =>
    intro j a b l hj ha hb hl
    subst hl
    refine sCstb_step cmp f xs a b n g _ hc hxs W (by rw [blk_len]; exact hn) hnb hb ow (fun h => by simp at h; omega) (fun _ => ?_)
    rw [show n / 20 = j by omega, ← ha]
  | succ r ih =>
    intro j a b l hj ha hb hl
    subst hl
    refine sCstb_step cmp f xs a b n g _ hc hxs W (by rw [blk_len]; exact hn) hnb hb ow (fun h => ?_) (fun h => by simp at h; omega)
    rw [st_block cmp ha hb ow]
    exact ih (j + 1) b (b + 20) _ ow ow rfl rfl
set_option maxRecDepth 100000 in
theorem sCstm_step (cmp : Card → Card → Int) (f : Nat) (xs : List AV) (bs a b n g : Nat) (l : List Card) (hc : ∀ (x y : Card) (H : Heap), ACalls Try.prog f ([AV.agg (Card.row x), AV.agg (Card.row y)] ++ xs) H (AV.int .i64 (cmp x y), H)) (hxs : AV.bdds 1 xs = true) (W : Weak (ltF cmp)) (hn : n = l.length) (hnb : n < 524288) (hb : b = a + 2 * bs) (hbs : 0 < bs) (hbn : bs < 524288) (han : a ≤ n) (hs7 : b ≤ n → Srt (ltF cmp) ((l.drop a).take (a + bs - a))) (hs8 : b ≤ n → Srt (ltF cmp) ((l.drop (a + bs)).take (b - (a + bs)))) {eX : Ex} {FX : Fr} {HX : Heap} (k1 : (decide (((b : Nat) : Int) ≤ ((n : Nat) : Int))) = true → LoopTo (codeQ Try.prog (X sCst_ann) (loopOf Try.f145 2)) (some [0, 1, 2, 6, 7, 8]) (some [0, 1, 2, 6, 7]) (mkF 63 [(0, (.osl 0 g 9 0 n)), (1, (.int .i64 ((n : Nat) : Int))), (2, (.func f xs)), (6, (.int .i64 ((bs : Nat) : Int))), (7, (.int .i64 ((b : Nat) : Int))), (8, (.int .i64 ((b + (2 * bs) : Nat) : Int)))]) ([⟨g, 9, (List.map Card.row (mAt (ltF cmp) a (a + bs) b l)), none⟩] : Heap) eX FX HX) (k2 : (decide (((b : Nat) : Int) ≤ ((n : Nat) : Int))) = false → ((.exit 4 : Ex), (mkF 63 [(0, (.osl 0 g 9 0 n)), (1, (.int .i64 ((n : Nat) : Int))), (2, (.func f xs)), (6, (.int .i64 ((bs : Nat) : Int))), (7, (.int .i64 ((a : Nat) : Int)))]), ([⟨g, 9, (List.map Card.row l), none⟩] : Heap)) = (eX, FX, HX)) : LoopTo (codeQ Try.prog (X sCst_ann) (loopOf Try.f145 2)) (some [0, 1, 2, 6, 7, 8]) (some [0, 1, 2, 6, 7]) (mkF 63 [(0, (.osl 0 g 9 0 n)), (1, (.int .i64 ((n : Nat) : Int))), (2, (.func f xs)), (6, (.int .i64 ((bs : Nat) : Int))), (7, (.int .i64 ((a : Nat) : Int))), (8, (.int .i64 ((b : Nat) : Int)))]) ([⟨g, 9, (List.map Card.row l), none⟩] : Heap) eX FX HX :=
  stepO (.r (.g (.two (decide (((b : Nat) : Int) ≤ ((n : Nat) : Int))) (fun h1 h1' => (.r (.y 4 (.int .i64 (IntKind.i64.wrap (((a : Nat) : Int) + ((bs : Nat) : Int)))) (AV.int .i64 ((a + bs : Nat) : Int)) (Yes.add ow ow ow) (.t 7 (AV.tup []) ([⟨g, 9, (List.map Card.row (mAt (ltF cmp) a (a + bs) b l)), none⟩] : Heap) (ACalls.pre (args' := [(.osl 0 g 9 0 n), (.int .i64 ((a : Nat) : Int)), (.int .i64 ((a + bs : Nat) : Int)), (.int .i64 ((b : Nat) : Int)), (.func f xs)]) (sCm_at _ f xs a (a + bs) b n g l (by first | exact hc | exact hxs | exact W | omega | (simp; omega)) (by first | exact hc | exact hxs | exact W | omega | (simp; omega)) (by first | exact hc | exact hxs | exact W | omega | (simp; omega)) (by first | exact hc | exact hxs | exact W | omega | (simp; omega)) (by first | exact hc | exact hxs | exact W | omega | (simp; omega)) (by first | exact hc | exact hxs | exact W | omega | (simp; omega)) (by first | exact hc | exact hxs | exact W | omega | (simp; omega)) (by first | exact hc | exact hxs | exact W | omega | (simp; omega)) (hs7 (by have := of_decide_eq_true h1; omega)) (hs8 (by have := of_decide_eq_true h1; omega)) ([] : Heap)) ⟨AV.wk_refl_any _, AV.wk_refl_any _, AV.wk_refl_any _, AV.wk_refl_any _, AV.wk_refl_any _, trivial⟩ : ACalls Try.prog 157 [(.osl 0 g 9 0 n), (.int .i64 ((a : Nat) : Int)), (.int .i64 ((a + bs : Nat) : Int)), (.int .i64 ((b : Nat) : Int)), (.func f xs)] ([⟨g, 9, (List.map Card.row l), none⟩] : Heap) ((AV.tup []), ([⟨g, 9, (List.map Card.row (mAt (ltF cmp) a (a + bs) b l)), none⟩] : Heap))) (.g (.r (.g (.r (.h' ([⟨g, 9, (List.map Card.row (mAt (ltF cmp) a (a + bs) b l)), none⟩] : Heap) (.y 2 (.int .i64 (IntKind.i64.wrap (2 * ((bs : Nat) : Int)))) (AV.int .i64 ((2 * bs : Nat) : Int)) (Yes.add ow ow ow) (.y 3 (.int .i64 (IntKind.i64.wrap (((b : Nat) : Int) + ((2 * bs : Nat) : Int)))) (AV.int .i64 ((b + (2 * bs) : Nat) : Int)) (Yes.add ow ow ow) (.g (.l (k1 h1)))))))))))))) (fun h1 h1' => (.l (k2 h1))))))
theorem sCstm_loop (cmp : Card → Card → Int) (f : Nat) (xs : List AV) (hc : ∀ (x y : Card) (H : Heap), ACalls Try.prog f ([AV.agg (Card.row x), AV.agg (Card.row y)] ++ xs) H (AV.int .i64 (cmp x y), H)) (hxs : AV.bdds 1 xs = true) (W : Weak (ltF cmp)) (bs n g : Nat) (l0 : List Card) (hn : n = l0.length) (hnb : n < 524288) (hbs : 0 < bs) (hbn : bs < 524288) (J : Nat) (hJ : J = n / (2 * bs)) (r : Nat) : ∀ (j a b : Nat) (l : List Card), j + r = J → a = j * (2 * bs) → b = a + 2 * bs → l = mix (ltF cmp) bs j l0 →
    LoopTo (codeQ Try.prog (X sCst_ann) (loopOf Try.f145 2)) (some [0, 1, 2, 6, 7, 8]) (some [0, 1, 2, 6, 7]) (mkF 63 [(0, (.osl 0 g 9 0 n)), (1, (.int .i64 ((n : Nat) : Int))), (2, (.func f xs)), (6, (.int .i64 ((bs : Nat) : Int))), (7, (.int .i64 ((a : Nat) : Int))), (8, (.int .i64 ((b : Nat) : Int)))]) ([⟨g, 9, (List.map Card.row l), none⟩] : Heap) (.exit 4) (mkF 63 [(0, (.osl 0 g 9 0 n)), (1, (.int .i64 ((n : Nat) : Int))), (2, (.func f xs)), (6, (.int .i64 ((bs : Nat) : Int))), (7, (.int .i64 (((J * (2 * bs)) : Nat) : Int)))]) ([⟨g, 9, (List.map Card.row (mix (ltF cmp) bs J l0)), none⟩] : Heap) := by
  have hdm := Nat.div_mul_le_self n (2 * bs)
  have hlt := Nat.lt_div_mul_add (a := n) (b := 2 * bs) ow
  rw [← hJ] at hdm hlt
  induction r with
  | zero =>
    intro j a b l hj ha hb hl
    subst hl
    obtain rfl : j = J := by omega
    refine sCstm_step cmp f xs bs a b n g _ hc hxs W (by rw [mix_len]; exact hn) hnb hb hbs hbn ow (fun h => by omega) (fun h => by omega) (fun h => by simp at h; omega) (fun _ => ?_)
    rw [← ha]
  | succ r ih =>
    intro j a b l hj ha hb hl
    subst hl
    have hmul : (j + 1) * (2 * bs) = j * (2 * bs) + 2 * bs := Nat.succ_mul _ _
    have hle : (j + 1) * (2 * bs) ≤ J * (2 * bs) := Nat.mul_le_mul_right _ ow
    obtain ⟨q1, q2, q3⟩ := mix_merge W hbs (l := l0) ha hb ow
    refine sCstm_step cmp f xs bs a b n g _ hc hxs W (by rw [mix_len]; exact hn) hnb hb hbs hbn ow (fun _ => q2) (fun _ => q3) (fun h => ?_) (fun h => by simp at h; omega)
    rw [q1]
    exact ih (j + 1) b (b + 2 * bs) _ ow ow rfl rfl
@[simp] abbrev Vlc_1 (v1_ : Nat) (v2_ : Nat) (v3_ : Nat) (v4_ : List AV) (v5_ : Nat) : Fr := (mkF 63 [(0, (AV.osl 0 v1_ 9 0 v2_)), (1, (AV.int .i64 ((v2_ : Nat) : Int))), (2, (AV.func v3_ v4_)), (6, (AV.int .i64 ((v5_ * 2 : Nat) : Int)))])
@[simp] abbrev Vlc_2 (v1_ : Nat) (v2_ : Nat) (v3_ : Nat) (v4_ : List AV) (v5_ : Nat) (v6_ : Nat) : Fr := (mkF 63 [(0, (AV.osl 0 v1_ 9 0 v2_)), (1, (AV.int .i64 ((v2_ : Nat) : Int))), (2, (AV.func v3_ v4_)), (6, (AV.int .i64 ((v5_ : Nat) : Int))), (7, (AV.int .i64 (((v6_ * (2 * v5_)) : Nat) : Int)))])
set_option maxRecDepth 100000 in
theorem sCsto_step (cmp : Card → Card → Int) (f : Nat) (xs : List AV) (bs J n g : Nat) (l l0 : List Card) (hc : ∀ (x y : Card) (H : Heap), ACalls Try.prog f ([AV.agg (Card.row x), AV.agg (Card.row y)] ++ xs) H (AV.int .i64 (cmp x y), H)) (hxs : AV.bdds 1 xs = true) (W : Weak (ltF cmp)) (hn : n = l0.length) (hnb : n < 524288) (hbs : 0 < bs) (hbn : bs < 1048576) (hl : l = allB (ltF cmp) bs l0) (hJ : J = n / (2 * bs)) (hJn : J * (2 * bs) ≤ n) (hs7 : J * (2 * bs) + bs < n → Srt (ltF cmp) (((mix (ltF cmp) bs J l0).drop (J * (2 * bs))).take (J * (2 * bs) + bs - J * (2 * bs)))) (hs8 : J * (2 * bs) + bs < n → Srt (ltF cmp) (((mix (ltF cmp) bs J l0).drop (J * (2 * bs) + bs)).take (n - (J * (2 * bs) + bs)))) {eX : Ex} {FX : Fr} {HX : Heap} (k1 : (decide (((bs : Nat) : Int) < ((n : Nat) : Int))) = true → (decide ((((J * (2 * bs)) + bs : Nat) : Int) < ((n : Nat) : Int))) = true → LoopTo (codeQ Try.prog (X sCst_ann) (loopOf Try.f145 1)) (some [0, 1, 2, 6]) (some []) (Vlc_1 g n f xs bs) ([⟨g, 9, (List.map Card.row (mAt (ltF cmp) (J * (2 * bs)) ((J * (2 * bs)) + bs) n (mix (ltF cmp) bs J l0))), none⟩] : Heap) eX FX HX) (k2 : (decide (((bs : Nat) : Int) < ((n : Nat) : Int))) = true → (decide ((((J * (2 * bs)) + bs : Nat) : Int) < ((n : Nat) : Int))) = false → LoopTo (codeQ Try.prog (X sCst_ann) (loopOf Try.f145 1)) (some [0, 1, 2, 6]) (some []) (Vlc_1 g n f xs bs) ([⟨g, 9, (List.map Card.row (mix (ltF cmp) bs J l0)), none⟩] : Heap) eX FX HX) (k3 : (decide (((bs : Nat) : Int) < ((n : Nat) : Int))) = false → ((.exit 2 : Ex), (mkF 63 []), ([⟨g, 9, (List.map Card.row l), none⟩] : Heap)) = (eX, FX, HX)) : LoopTo (codeQ Try.prog (X sCst_ann) (loopOf Try.f145 1)) (some [0, 1, 2, 6]) (some []) (mkF 63 [(0, (.osl 0 g 9 0 n)), (1, (.int .i64 ((n : Nat) : Int))), (2, (.func f xs)), (6, (.int .i64 ((bs : Nat) : Int)))]) ([⟨g, 9, (List.map Card.row l), none⟩] : Heap) eX FX HX :=
  stepO (.r (.g (.two (decide (((bs : Nat) : Int) < ((n : Nat) : Int))) (fun h1 h1' => (.r (.y 1 (.int .i64 (IntKind.i64.wrap (2 * ((bs : Nat) : Int)))) (AV.int .i64 ((2 * bs : Nat) : Int)) (Yes.add ow ow ow) (.g (.loop (Vlc_2 g n f xs bs J) (show LoopTo (codeQ Try.prog (X sCst_ann) (loopOf Try.f145 2)) (some [0, 1, 2, 6, 7, 8]) (some [0, 1, 2, 6, 7]) (mkF 63 [(0, (.osl 0 g 9 0 n)), (1, (.int .i64 ((n : Nat) : Int))), (2, (.func f xs)), (6, (.int .i64 ((bs : Nat) : Int))), (7, (.int .i64 0)), (8, (.int .i64 ((2 * bs : Nat) : Int)))]) ([⟨g, 9, (List.map Card.row l), none⟩] : Heap) (.exit 4) (Vlc_2 g n f xs bs J) ([⟨g, 9, (List.map Card.row (mix (ltF cmp) bs J l0)), none⟩] : Heap) from (sCstm_loop cmp f xs hc hxs W bs n g l0 hn hnb hbs ow J hJ J 0 0 (2 * bs) l ow ow ow (by rw [hl]; simp only [mix]))) (.r (.y 2 (.int .i64 (IntKind.i64.wrap ((((J * (2 * bs)) : Nat) : Int) + ((bs : Nat) : Int)))) (AV.int .i64 (((J * (2 * bs)) + bs : Nat) : Int)) (Yes.add ow ow ow) (.g (.r (.g (.two (decide ((((J * (2 * bs)) + bs : Nat) : Int) < ((n : Nat) : Int))) (fun h2 h2' => (.r (.t 5 (AV.tup []) ([⟨g, 9, (List.map Card.row (mAt (ltF cmp) (J * (2 * bs)) ((J * (2 * bs)) + bs) n (mix (ltF cmp) bs J l0))), none⟩] : Heap) (ACalls.pre (args' := [(.osl 0 g 9 0 n), (.int .i64 (((J * (2 * bs)) : Nat) : Int)), (.int .i64 (((J * (2 * bs)) + bs : Nat) : Int)), (.int .i64 ((n : Nat) : Int)), (.func f xs)]) (sCm_at _ f xs (J * (2 * bs)) ((J * (2 * bs)) + bs) n n g (mix (ltF cmp) bs J l0) (by first | exact hc | exact hxs | exact W | omega | (rw [mix_len]; exact hn) | (simp; omega)) (by first | exact hc | exact hxs | exact W | omega | (rw [mix_len]; exact hn) | (simp; omega)) (by first | exact hc | exact hxs | exact W | omega | (rw [mix_len]; exact hn) | (simp; omega)) (by first | exact hc | exact hxs | exact W | omega | (rw [mix_len]; exact hn) | (simp; omega)) (by first | exact hc | exact hxs | exact W | omega | (rw [mix_len]; exact hn) | (simp; omega)) (by first | exact hc | exact hxs | exact W | omega | (rw [mix_len]; exact hn) | (simp; omega)) (by have := of_decide_eq_true h2; omega) ow (hs7 (by have := of_decide_eq_true h2; omega)) (hs8 (by have := of_decide_eq_true h2; omega)) ([] : Heap)) ⟨AV.wk_refl_any _, AV.wk_refl_any _, AV.wk_refl_any _, AV.wk_refl_any _, AV.wk_refl_any _, trivial⟩ : ACalls Try.prog 157 [(.osl 0 g 9 0 n), (.int .i64 (((J * (2 * bs)) : Nat) : Int)), (.int .i64 (((J * (2 * bs)) + bs : Nat) : Int)), (.int .i64 ((n : Nat) : Int)), (.func f xs)] ([⟨g, 9, (List.map Card.row (mix (ltF cmp) bs J l0)), none⟩] : Heap) ((AV.tup []), ([⟨g, 9, (List.map Card.row (mAt (ltF cmp) (J * (2 * bs)) ((J * (2 * bs)) + bs) n (mix (ltF cmp) bs J l0))), none⟩] : Heap))) (.g (.r (.h' ([⟨g, 9, (List.map Card.row (mAt (ltF cmp) (J * (2 * bs)) ((J * (2 * bs)) + bs) n (mix (ltF cmp) bs J l0))), none⟩] : Heap) (.y 1 (.int .i64 (IntKind.i64.wrap (((bs : Nat) : Int) * 2))) (AV.int .i64 ((bs * 2 : Nat) : Int)) (Yes.add ow ow ow) (.g (.l (k1 h1 h2)))))))))) (fun h2 h2' => (.r (.y 1 (.int .i64 (IntKind.i64.wrap (((bs : Nat) : Int) * 2))) (AV.int .i64 ((bs * 2 : Nat) : Int)) (Yes.add ow ow ow) (.g (.l (k2 h1 h2))))))))))))))))) (fun h1 h1' => (.l (k3 h1))))))
theorem sCsto_loop (cmp : Card → Card → Int) (f : Nat) (xs : List AV) (hc : ∀ (x y : Card) (H : Heap), ACalls Try.prog f ([AV.agg (Card.row x), AV.agg (Card.row y)] ++ xs) H (AV.int .i64 (cmp x y), H)) (hxs : AV.bdds 1 xs = true) (W : Weak (ltF cmp)) (n g : Nat) (l0 : List Card) (hn : n = l0.length) (hnb : n < 524288) (r : Nat) : ∀ (bs : Nat) (l : List Card), n - bs ≤ r → 0 < bs → bs < 1048576 → l = allB (ltF cmp) bs l0 →
    LoopTo (codeQ Try.prog (X sCst_ann) (loopOf Try.f145 1)) (some [0, 1, 2, 6]) (some []) (mkF 63 [(0, (.osl 0 g 9 0 n)), (1, (.int .i64 ((n : Nat) : Int))), (2, (.func f xs)), (6, (.int .i64 ((bs : Nat) : Int)))]) ([⟨g, 9, (List.map Card.row l), none⟩] : Heap) (.exit 2) (mkF 63 []) ([⟨g, 9, (List.map Card.row (sortG (ltF cmp) l0)), none⟩] : Heap) := by
  have key : ∀ bs, 0 < bs → (n / (2 * bs) * (2 * bs) ≤ n ∧ n < n / (2 * bs) * (2 * bs) + 2 * bs) := fun bs hbs => ⟨Nat.div_mul_le_self n (2 * bs), Nat.lt_div_mul_add (a := n) (b := 2 * bs) ow⟩
  induction r with
  | zero =>
    intro bs l h1 hbs hbn hl
    obtain ⟨k1, k2⟩ := key bs hbs
    obtain ⟨q1, q2⟩ := mix_last W hbs (l := l0) (J := n / (2 * bs)) rfl hn k1 k2
    refine sCsto_step cmp f xs bs (n / (2 * bs)) n g l l0 hc hxs W hn hnb hbs hbn hl rfl k1 (fun h => (q1 h).2.1) (fun h => (q1 h).2.2) (fun h => by simp at h; omega) (fun h => by simp at h; omega) (fun _ => ?_)
    rw [hl, allB_one (ltF cmp) ow hbs]
  | succ r ih =>
    intro bs l h1 hbs hbn hl
    obtain ⟨k1, k2⟩ := key bs hbs
    obtain ⟨q1, q2⟩ := mix_last W hbs (l := l0) (J := n / (2 * bs)) rfl hn k1 k2
    refine sCsto_step cmp f xs bs (n / (2 * bs)) n g l l0 hc hxs W hn hnb hbs hbn hl rfl k1 (fun h => (q1 h).2.1) (fun h => (q1 h).2.2) (fun h h2 => ?_) (fun h h2 => ?_) (fun h => ?_)
    · rw [(q1 (by have := of_decide_eq_true h2; omega)).1]
      exact ih (bs * 2) _ (by simp at h; omega) ow (by simp at h; omega) (by rw [Nat.mul_comm])
    · rw [q2 (by have := of_decide_eq_false h2; omega)]
      exact ih (bs * 2) _ (by simp at h; omega) ow (by simp at h; omega) (by rw [Nat.mul_comm])
    · rw [hl, allB_one (ltF cmp) (by simp at h; omega) hbs]
@[simp] abbrev Vlc_3 (v1_ : Nat) (v2_ : Nat) (v3_ : Nat) (v4_ : List AV) : Fr := (mkF 63 [(0, (AV.osl 0 v1_ 9 0 v2_)), (1, (AV.int .i64 ((v2_ : Nat) : Int))), (2, (AV.func v3_ v4_)), (6, (AV.int .i64 20)), (7, (AV.int .i64 (((v2_ / 20 * 20) : Nat) : Int)))])
set_option maxRecDepth 100000 in
theorem sCst_spec (cmp : Card → Card → Int) (f : Nat) (xs : List AV) (n g : Nat) (l : List Card) (hc : ∀ (x y : Card) (H : Heap), ACalls Try.prog f ([AV.agg (Card.row x), AV.agg (Card.row y)] ++ xs) H (AV.int .i64 (cmp x y), H)) (hxs : AV.bdds 1 xs = true) (W : Weak (ltF cmp)) (hn : n = l.length) (hb : n < 524288) : ACalls Try.prog 145 [(.osl 0 g 9 0 n), (.int .i64 ((n : Nat) : Int)), (.func f xs)] ([⟨g, 9, (List.map Card.row l), none⟩] : Heap) ((AV.tup []), ([⟨g, 9, (List.map Card.row (insSort cmp 0 (n - 1) 1 l)), none⟩] : Heap)) := by
  have hq : (blk (ltF cmp) 20 (n / 20) l).length = n := by rw [blk_len]; exact hn.symm
  have ht := st_tail cmp (l := l) (j := n / 20) (a := n / 20 * 20) rfl hn ow ow
  have hfin : sortG (ltF cmp) l = insSort cmp 0 (n - 1) 1 l := by subst hn; exact (insSort_sortG cmp l).symm
  exact specO (fn := Try.f145) (ann := sCst_ann) (Has.o Try.func145) (.r (.g (.r (.g (.loop (Vlc_3 g n f xs) (show LoopTo (codeQ Try.prog (X sCst_ann) (loopOf Try.f145 0)) (some [0, 1, 2, 6, 7, 8]) (some [0, 1, 2, 6, 7]) (mkF 63 [(0, (.osl 0 g 9 0 n)), (1, (.int .i64 ((n : Nat) : Int))), (2, (.func f xs)), (6, (.int .i64 20)), (7, (.int .i64 0)), (8, (.int .i64 20))]) ([⟨g, 9, (List.map Card.row l), none⟩] : Heap) (.exit 0) (Vlc_3 g n f xs) ([⟨g, 9, (List.map Card.row (blk (ltF cmp) 20 (n / 20) l)), none⟩] : Heap) from (sCstb_loop cmp f xs hc hxs W n g l hn hb (n / 20) 0 0 20 l ow rfl ow (by simp only [blk]))) (.r (.t 4 (AV.tup []) ([⟨g, 9, (List.map Card.row (insSort cmp (n / 20 * 20) (n - ((n / 20 * 20) + 1)) ((n / 20 * 20) + 1) (blk (ltF cmp) 20 (n / 20) l))), none⟩] : Heap) (insC_at _ f xs (n / 20 * 20) n n g (blk (ltF cmp) 20 (n / 20) l) (by first | exact hc | exact hxs | omega | (rw [blk_len]; omega) | (simp; omega)) (by first | exact hc | exact hxs | omega | (rw [blk_len]; omega) | (simp; omega)) (by first | exact hc | exact hxs | omega | (rw [blk_len]; omega) | (simp; omega)) (by first | exact hc | exact hxs | omega | (rw [blk_len]; omega) | (simp; omega)) (by first | exact hc | exact hxs | omega | (rw [blk_len]; omega) | (simp; omega)) (by first | exact hc | exact hxs | omega | (rw [blk_len]; omega) | (simp; omega)) ([] : Heap) : ACalls Try.prog 156 [(.osl 0 g 9 0 n), (.int .i64 (((n / 20 * 20) : Nat) : Int)), (.int .i64 ((n : Nat) : Int)), (.func f xs)] ([⟨g, 9, (List.map Card.row (blk (ltF cmp) 20 (n / 20) l)), none⟩] : Heap) ((AV.tup []), ([⟨g, 9, (List.map Card.row (insSort cmp (n / 20 * 20) (n - ((n / 20 * 20) + 1)) ((n / 20 * 20) + 1) (blk (ltF cmp) 20 (n / 20) l))), none⟩] : Heap))) (.g (.loop (mkF 63 []) (show LoopTo (codeQ Try.prog (X sCst_ann) (loopOf Try.f145 1)) (some [0, 1, 2, 6]) (some []) (mkF 63 [(0, (.osl 0 g 9 0 n)), (1, (.int .i64 ((n : Nat) : Int))), (2, (.func f xs)), (6, (.int .i64 20))]) ([⟨g, 9, (List.map Card.row (insSort cmp (n / 20 * 20) (n - ((n / 20 * 20) + 1)) ((n / 20 * 20) + 1) (blk (ltF cmp) 20 (n / 20) l))), none⟩] : Heap) (.exit 2) (mkF 63 []) ([⟨g, 9, (List.map Card.row (sortG (ltF cmp) l)), none⟩] : Heap) from (sCsto_loop cmp f xs hc hxs W n g l hn hb n 20 (insSort cmp (n / 20 * 20) (n - ((n / 20 * 20) + 1)) ((n / 20 * 20) + 1) (blk (ltF cmp) 20 (n / 20) l)) ow ow ow ht)) (.f 1 (AV.tup []) (.e (AV.tup []) (by
        rw [hfin]))))))))))))
theorem sCst_at (cmp : Card → Card → Int) (f : Nat) (xs : List AV) (n g : Nat) (l : List Card) (hc : ∀ (x y : Card) (H : Heap), ACalls Try.prog f ([AV.agg (Card.row x), AV.agg (Card.row y)] ++ xs) H (AV.int .i64 (cmp x y), H)) (hxs : AV.bdds 1 xs = true) (W : Weak (ltF cmp)) (hn : n = l.length) (hb : n < 524288) (H : Heap) : ACalls Try.prog 145 [(.osl 0 g 9 0 n), (.int .i64 ((n : Nat) : Int)), (.func f xs)] (([⟨g, 9, (List.map Card.row l), none⟩] : Heap) ++ H) ((AV.tup []), ([⟨g, 9, (List.map Card.row (insSort cmp 0 (n - 1) 1 l)), none⟩] : Heap) ++ H) := (sCst_spec cmp f xs n g l hc hxs W hn hb).ext (by simp [AV.bdds, AV.bdd, *]) kr ob ob kr H
def sortCW_ann : Ann := { base := 1, fin := some 1 }
set_option maxRecDepth 100000 in
theorem sortCW_spec (cmp : Card → Card → Int) (f : Nat) (xs : List AV) (n g : Nat) (l : List Card) (hc : ∀ (x y : Card) (H : Heap), ACalls Try.prog f ([AV.agg (Card.row x), AV.agg (Card.row y)] ++ xs) H (AV.int .i64 (cmp x y), H)) (hxs : AV.bdds 1 xs = true) (W : Weak (ltF cmp)) (hn : n = l.length) (hb : n < 524288) : ACalls Try.prog 113 [(.osl 0 g 9 0 n), (.func f xs)] ([⟨g, 9, (List.map Card.row l), none⟩] : Heap) ((AV.tup []), ([⟨g, 9, (List.map Card.row (insSort cmp 0 (n - 1) 1 l)), none⟩] : Heap)) :=
  specO (fn := Try.f113) (ann := sortCW_ann) (Has.o Try.func113) (.r (.t 4 (AV.tup []) ([⟨g, 9, (List.map Card.row (insSort cmp 0 (n - 1) 1 l)), none⟩] : Heap) (sCst_at _ f xs n g l (by first | exact hc | exact hxs | exact W | omega) (by first | exact hc | exact hxs | exact W | omega) (by first | exact hc | exact hxs | exact W | omega) (by first | exact hc | exact hxs | exact W | omega) (by first | exact hc | exact hxs | exact W | omega) ([] : Heap) : ACalls Try.prog 145 [(.osl 0 g 9 0 n), (.int .i64 ((n : Nat) : Int)), (.func f xs)] ([⟨g, 9, (List.map Card.row l), none⟩] : Heap) ((AV.tup []), ([⟨g, 9, (List.map Card.row (insSort cmp 0 (n - 1) 1 l)), none⟩] : Heap))) (.g (.h' ([⟨g, 9, (List.map Card.row (insSort cmp 0 (n - 1) 1 l)), none⟩] : Heap) (.f 1 (AV.tup []) (.e (AV.tup [])))))))
theorem sortCW_at (cmp : Card → Card → Int) (f : Nat) (xs : List AV) (n g : Nat) (l : List Card) (hc : ∀ (x y : Card) (H : Heap), ACalls Try.prog f ([AV.agg (Card.row x), AV.agg (Card.row y)] ++ xs) H (AV.int .i64 (cmp x y), H)) (hxs : AV.bdds 1 xs = true) (W : Weak (ltF cmp)) (hn : n = l.length) (hb : n < 524288) (H : Heap) : ACalls Try.prog 113 [(.osl 0 g 9 0 n), (.func f xs)] (([⟨g, 9, (List.map Card.row l), none⟩] : Heap) ++ H) ((AV.tup []), ([⟨g, 9, (List.map Card.row (insSort cmp 0 (n - 1) 1 l)), none⟩] : Heap) ++ H) := (sortCW_spec cmp f xs n g l hc hxs W hn hb).ext (by simp [AV.bdds, AV.bdd, *]) kr ob ob kr H
end Go.Proofs.Ytcmfnfkahdconaa.AM

set_option maxRecDepth 100000
set_option linter.unusedVariables false
set_option linter.unusedSimpArgs false
namespace Go.Proofs.Ytcmfnfkahdconaa.AM
open Go Go.Proofs.Ytcmfnfkahdconaa
attribute [local irreducible] ACalls funT codeT codeQ LoopTo
structure CardL where
  l : List Card
  deriving Inhabited
def CardL.row (x : CardL) : List AV := [(AV.sl .any 9 (List.map Card.row x.l))]
@[simp] theorem CardL.row_bdd (n : Nat) (x : CardL) : AV.bdds n x.row = true := by simp [CardL.row, AV.bdds, AV.bdd]
@[simp] theorem CardL.rows_bdd (n : Nat) (l : List CardL) : AV.bddss n (l.map CardL.row) = true := by induction l with | nil => rfl | cons x l ih => simp [AV.bddss, CardL.row_bdd, ih]
theorem weakX : Weak (ltF fun a b : Card => cmpK a.key b.key) := weakE
set_option maxRecDepth 100000 in
theorem sortCardX0_spec (l : List Card) (hl : l.length < 1000) : ACalls Try.prog 62 [(.sl .any 9 (List.map Card.row l))] ([] : Heap) ((AV.sl .cn 9 (List.map Card.row (sortP l))), ([] : Heap)) := by
  have hpl := sortP_len l
  exact specO (fn := Try.f62) (ann := sortCard0_ann) (Has.o Try.func62) (.r (.g (.r (.ch 1 ([⟨0, 9, (List.map Card.row l), none⟩] : Heap) (cloneC_at l oa ([] : Heap)) (.g (.r (.ch 1 ([⟨0, 9, (List.map Card.row (insSort (fun a b => cmpK a.key b.key) 0 (l.length - 1) 1 l)), none⟩] : Heap) (sortCW_at (fun a b => cmpK a.key b.key) 114 [] l.length 0 l (fun x y H => sortcmp_at x y H) (rfl) (weakX) oa oa ([] : Heap)) (.w' 3 (List.map Card.row (insSort (fun a b => cmpK a.key b.key) 0 (l.length - 1) 1 l)) (And.intro (rowsIn_all (room := none) kr (by first | omega | (simp [insSort_len]; done) | (simp [insSort_len]; omega))) (Card.rows_bdd _ _) : rowsIn ([⟨0, 9, (List.map Card.row (insSort (fun a b => cmpK a.key b.key) 0 (l.length - 1) 1 l)), none⟩] : Heap) 9 (AV.osl 0 0 9 0 l.length) = some (List.map Card.row (insSort (fun a b => cmpK a.key b.key) 0 (l.length - 1) 1 l)) ∧ AV.bddss 0 (List.map Card.row (insSort (fun a b => cmpK a.key b.key) 0 (l.length - 1) 1 l)) = true) (.g (.r (.c 1 (clipC_at (insSort (fun a b => cmpK a.key b.key) 0 (l.length - 1) 1 l) (by rw [insSort_len]; omega) ([⟨1, 9, [], none⟩] : Heap)) (.g (.h' ([] : Heap) (.f 0 (AV.sl .cn 9 (List.map Card.row (insSort (fun a b => cmpK a.key b.key) 0 (l.length - 1) 1 l))) (.e (AV.sl .cn 9 (List.map Card.row (insSort (fun a b => cmpK a.key b.key) 0 (l.length - 1) 1 l))) (by
        with_unfolding_all rfl))))))))))))))))
theorem sortCardX_spec (l : List Card) (hl : l.length < 1000) : ACalls Try.prog 62 [(.sl .any 9 (List.map Card.row l))] ([] : Heap) ((AV.sl .any 9 (List.map Card.row (sortP l))), ([] : Heap)) := (sortCardX0_spec l hl).post ⟨rfl, rfl, .inl rfl⟩
theorem sortCardX_at (l : List Card) (hl : l.length < 1000) (H : Heap) : ACalls Try.prog 62 [(.sl .any 9 (List.map Card.row l))] H ((AV.sl .any 9 (List.map Card.row (sortP l))), H) := (sortCardX_spec l hl).lift kr kr H
attribute [local irreducible] sortP sortK
end Go.Proofs.Ytcmfnfkahdconaa.AM

set_option maxRecDepth 100000
set_option linter.unusedVariables false
set_option linter.unusedSimpArgs false
namespace Go.Proofs.Ytcmfnfkahdconaa.AM
open Go Go.Proofs.Ytcmfnfkahdconaa
attribute [local irreducible] ACalls funT codeT codeQ LoopTo
attribute [local irreducible] Tp.card Tp.cardT Tp.next Tp.step Tp.cards Tp.cardsT Tp.key Tp.keyT sink insSort sortK insK posK beforeK onceStep onceS onceK sortP cmpK byteB cutS textB byteAt intB showsC hereL seenK cardB sealB sumStep sumB ofB strL
@[simp] abbrev Vsx_1 (v1_ : List Card) : Fr := (mkF 22 [(3, (AV.osl 0 (hereL v1_).length 9 0 (hereL v1_).length)), (6, (AV.sl .any 9 (List.map Card.row v1_))), (7, (AV.int .i64 ((v1_.length : Nat) : Int))), (8, (AV.int .i64 ((v1_.length : Nat) : Int)))])
set_option maxRecDepth 100000 in
theorem seenX_spec (l : List Card) (hl : l.length < 1000) : ACalls Try.prog 85 [(.sl .any 9 (List.map Card.row l))] ([] : Heap) ((AV.sl .any 9 (List.map Card.row (seenK l))), ([] : Heap)) := by
  have hk := hereL_len l
  exact specO (fn := Try.f85) (ann := seen_ann) (Has.o Try.func85) (.r (.g (.r (.g (.r (.h' ([⟨0, 9, (List.map Card.row []), none⟩] : Heap) (.y 1 (.int .i64 ((List.length (List.map Card.row l) : Nat) : Int)) (AV.int .i64 ((l.length : Nat) : Int)) (Yes.len _ _ _) (.g (.loop (Vsx_1 l) (show LoopTo (codeQ Try.prog (X seen_ann) (loopOf Try.f85 0)) (some [3, 6, 7, 8]) (some [3, 6, 7, 8]) (mkF 22 [(3, (.osl 0 0 9 0 0)), (6, (.sl .any 9 (List.map Card.row l))), (7, (.int .i64 ((l.length : Nat) : Int))), (8, (.int .i64 0))]) ([⟨0, 9, (List.map Card.row []), none⟩] : Heap) (.exit 0) (Vsx_1 l) ([⟨(hereL l).length, 9, (List.map Card.row (hereL l)), none⟩] : Heap) from (seen_loop l ow (List.length l) [] 0 0 0 (hereL l, (hereL l).length, (hereL l).length) ow rfl ow (seen_iter _))) (.r (.w 3 (List.map Card.row (hereL l)) (And.intro (rowsIn_all (room := none) kr om) (Card.rows_bdd _ _) : rowsIn ([⟨(hereL l).length, 9, (List.map Card.row (hereL l)), none⟩] : Heap) 9 (AV.osl 0 (hereL l).length 9 0 (hereL l).length) = some (List.map Card.row (hereL l)) ∧ AV.bddss 0 (List.map Card.row (hereL l)) = true) (.c 1 (sortCardX_at (hereL l) oa ([⟨((hereL l).length + 1), 9, [], none⟩] : Heap)) (.g (.h' ([] : Heap) (.f 0 (AV.sl .any 9 (List.map Card.row (sortP (hereL l)))) (.e (AV.sl .any 9 (List.map Card.row (sortP (hereL l)))) (by
        with_unfolding_all rfl)))))))))))))))))
theorem seenX_at (l : List Card) (hl : l.length < 1000) (H : Heap) : ACalls Try.prog 85 [(.sl .any 9 (List.map Card.row l))] H ((AV.sl .any 9 (List.map Card.row (seenK l))), H) := (seenX_spec l hl).lift kr kr H
@[simp] abbrev Vsx_2 (v1_ : List Card) : Fr := (mkF 31 [(3, (AV.sl .any 1 (List.map rU8 (List.foldl cardB [] (seenK v1_))))), (7, (AV.sl .any 9 (List.map Card.row (seenK v1_)))), (8, (AV.int .i64 (((seenK v1_).length : Nat) : Int))), (9, (AV.int .i64 (((seenK v1_).length : Nat) : Int)))])
set_option maxRecDepth 100000 in
theorem sealBX_spec (l : List Card) (hl : l.length < 1000) : ACalls Try.prog 49 [(.sl .any 9 (List.map Card.row l))] ([] : Heap) ((AV.sl .any 1 (List.map rU8 (sealB l))), ([] : Heap)) := by
  have h1 := seenK_len l
  exact specO (fn := Try.f49) (ann := sealB_ann) (Has.o Try.func49) (.r (.g (.r (.g (.r (.c 1 (seenX_at l oa ([] : Heap)) (.y 2 (.int .i64 ((List.length (List.map Card.row (seenK l)) : Nat) : Int)) (AV.int .i64 (((seenK l).length : Nat) : Int)) (Yes.len _ _ _) (.g (.loop (Vsx_2 l) (show LoopTo (codeQ Try.prog (X sealB_ann) (loopOf Try.f49 0)) (some [3, 7, 8, 9]) (some [3, 7, 8, 9]) (mkF 31 [(3, (.sl .any 1 [])), (7, (.sl .any 9 (List.map Card.row (seenK l)))), (8, (.int .i64 (((seenK l).length : Nat) : Int))), (9, (.int .i64 0))]) ([] : Heap) (.exit 0) (Vsx_2 l) ([] : Heap) from (sealB_loop (seenK l) ow (List.length (seenK l)) [] 0 (List.foldl cardB [] (seenK l)) ow (by simp) (sealB_iter _))) (.r (.g (.f 0 (AV.sl .any 1 (List.map rU8 (List.foldl cardB [] (seenK l)))) (.e (AV.sl .any 1 (List.map rU8 (List.foldl cardB [] (seenK l)))) (by
        with_unfolding_all rfl))))))))))))))
theorem sealBX_at (l : List Card) (hl : l.length < 1000) (H : Heap) : ACalls Try.prog 49 [(.sl .any 9 (List.map Card.row l))] H ((AV.sl .any 1 (List.map rU8 (sealB l))), H) := (sealBX_spec l hl).lift kr kr H
def sealOfX_ann : Ann := { fin := some 0 }
set_option maxRecDepth 100000 in
theorem sealOfX_spec (l : List Card) (hl : l.length < 1000) : ACalls Try.prog 48 [(.sl .any 9 (List.map Card.row l))] ([] : Heap) ((AV.int .u32 (ofB l)), ([] : Heap)) := by
  have h1 := sealB_len l
  exact specO (fn := Try.f48) (ann := sealOfX_ann) (Has.o Try.func48) (.r (.g (.r (.c 1 (sealBX_at l oa ([] : Heap)) (.c 2 (sum_at (sealB l) oa ([] : Heap)) (.g (.f 0 (AV.int .u32 (sumB (sealB l))) (.e (AV.int .u32 (sumB (sealB l))) (by
        with_unfolding_all rfl)))))))))
theorem sealOfX_at (l : List Card) (hl : l.length < 1000) (H : Heap) : ACalls Try.prog 48 [(.sl .any 9 (List.map Card.row l))] H ((AV.int .u32 (ofB l)), H) := (sealOfX_spec l hl).lift kr kr H
end Go.Proofs.Ytcmfnfkahdconaa.AM

set_option maxRecDepth 100000
set_option linter.unusedVariables false
set_option linter.unusedSimpArgs false
namespace Go.Proofs.Ytcmfnfkahdconaa.AM
open Go Go.Proofs.Ytcmfnfkahdconaa
attribute [local irreducible] ACalls funT codeT codeQ LoopTo
attribute [local irreducible] nameB stR cardR sortP sortK
structure Msg where
  kind : Int
  op : Int
  status : Int
  code : Int
  tag : Int
  n : Int
  seq : Int
  key : Key
  full : Bool
  sum : Int
  cards : List Card
  keys : List Key
  deriving Inhabited
def Msg.row (x : Msg) : List AV := [(AV.int .i64 x.kind), (AV.int .i64 x.op), (AV.int .i64 x.status), (AV.int .i64 x.code), (AV.int .i64 x.tag), (AV.int .i64 x.n), (AV.int .i64 x.seq), (AV.str x.key.app), (AV.str x.key.id), (AV.bool x.full), (AV.int .u32 x.sum), (AV.sl .any 9 (List.map Card.row x.cards)), (AV.sl .any 2 (List.map Key.row x.keys))]
@[simp] theorem Msg.row_bdd (n : Nat) (x : Msg) : AV.bdds n x.row = true := by simp [Msg.row, AV.bdds, AV.bdd]
@[simp] theorem Msg.rows_bdd (n : Nat) (l : List Msg) : AV.bddss n (l.map Msg.row) = true := by induction l with | nil => rfl | cons x l ih => simp [AV.bddss, Msg.row_bdd, ih]
def eqC0Y_ann : Ann := { fin := some 0 }
set_option maxRecDepth 100000 in
theorem eqC0Y_spec   : ACalls Try.prog 154 [(.sl .any 9 []), (.sl .nil 0 [])] ([] : Heap) ((AV.bool true), ([] : Heap)) :=
  specO (fn := Try.f154) (ann := eqC0Y_ann) (Has.o Try.func154) (.r (.g (.r (.g (.no (.r (.g (.roll 1 (.r (.g (.no (.r (.g (.f 0 (AV.bool true) (.e (AV.bool true))))))))))))))))
theorem eqC0Y_at   (H : Heap) : ACalls Try.prog 154 [(.sl .any 9 []), (.sl .nil 0 [])] H ((AV.bool true), H) := (eqC0Y_spec  ).lift kr kr H
def eqK0Y_ann : Ann := { fin := some 0 }
set_option maxRecDepth 100000 in
theorem eqK0Y_spec   : ACalls Try.prog 155 [(.sl .any 2 []), (.sl .nil 0 [])] ([] : Heap) ((AV.bool true), ([] : Heap)) :=
  specO (fn := Try.f155) (ann := eqK0Y_ann) (Has.o Try.func155) (.r (.g (.r (.g (.no (.r (.g (.roll 1 (.r (.g (.no (.r (.g (.f 0 (AV.bool true) (.e (AV.bool true))))))))))))))))
theorem eqK0Y_at   (H : Heap) : ACalls Try.prog 155 [(.sl .any 2 []), (.sl .nil 0 [])] H ((AV.bool true), H) := (eqK0Y_spec  ).lift kr kr H
def msame0_ann : Ann := { refs := [2, 3], fin := some 0 }
set_option maxRecDepth 100000 in
theorem msame0_spec   : ACalls Try.prog 141 [(.agg [(.int .i64 0), (.int .i64 0), (.int .i64 0), (.int .i64 0), (.int .i64 0), (.int .i64 0), (.int .i64 0), (.str ⟨#[]⟩), (.str ⟨#[]⟩), (.bool false), (.int .u32 0), (.sl .nil 0 []), (.sl .nil 0 [])]), (.agg [(.int .i64 0), (.int .i64 0), (.int .i64 0), (.int .i64 0), (.int .i64 0), (.int .i64 0), (.int .i64 0), (.str ⟨#[]⟩), (.str ⟨#[]⟩), (.bool false), (.int .u32 0), (.sl .nil 0 []), (.sl .nil 0 [])])] ([] : Heap) ((AV.bool true), ([] : Heap)) :=
  specO (fn := Try.f141) (ann := msame0_ann) (Has.o Try.func141) (.r (.g (.r (.c 4 (ACalls.pre (args' := [(AV.sl .nil 0 []), (AV.sl .nil 0 [])]) (eqC0Y_at   ([] : Heap)) ⟨⟨rfl, rfl, .inr rfl⟩, ⟨rfl, rfl, .inl rfl⟩, trivial⟩) (.no (.no (.no (.no (.no (.c 11 (ACalls.pre (args' := [(AV.sl .nil 0 []), (AV.sl .nil 0 [])]) (eqK0Y_at   ([] : Heap)) ⟨⟨rfl, rfl, .inr rfl⟩, ⟨rfl, rfl, .inl rfl⟩, trivial⟩) (.no (.g (.no (.r (.yes (.yes (.yes (.yes (.yes (.yes (.yes (.yes (.yes (.yes (.yes (.yes (.yes (.yes (.yes (.yes (.yes (.yes (.yes (.yes (.yes (.yes (.yes (.yes (.yes (.yes (.yes (.yes (.yes (.yes (.yes (.yes (.yes (.yes (.yes (.y 52 (AV.bool (((ByteArray.mk #[]).toList == (ByteArray.mk #[]).toList) && (((ByteArray.mk #[]).toList == (ByteArray.mk #[]).toList) && true))) (AV.bool true) (Yes.bool kr) (.yes (.yes (.yes (.yes (.yes (.yes (.yes (.yes (.yes (.yes (.g (.f 0 (AV.bool true) (.e (AV.bool true))))))))))))))))))))))))))))))))))))))))))))))))))))))))))))))))
theorem msame0_at   (H : Heap) : ACalls Try.prog 141 [(.agg [(.int .i64 0), (.int .i64 0), (.int .i64 0), (.int .i64 0), (.int .i64 0), (.int .i64 0), (.int .i64 0), (.str ⟨#[]⟩), (.str ⟨#[]⟩), (.bool false), (.int .u32 0), (.sl .nil 0 []), (.sl .nil 0 [])]), (.agg [(.int .i64 0), (.int .i64 0), (.int .i64 0), (.int .i64 0), (.int .i64 0), (.int .i64 0), (.int .i64 0), (.str ⟨#[]⟩), (.str ⟨#[]⟩), (.bool false), (.int .u32 0), (.sl .nil 0 []), (.sl .nil 0 [])])] H ((AV.bool true), H) := (msame0_spec  ).lift kr kr H
def mzeroF_ann : Ann := { fin := some 0 }
set_option maxRecDepth 100000 in
theorem mzeroF_spec (tag seq sum : Int) (full : Bool) (cs : List Card)  : ACalls Try.prog 104 [(.agg [(.int .i64 2), (.int .i64 5), (.int .i64 0), (.int .i64 0), (.int .i64 tag), (.int .i64 0), (.int .i64 seq), (.str ⟨#[]⟩), (.str ⟨#[]⟩), (.bool full), (.int .u32 sum), (.sl .any 9 (List.map Card.row cs)), (.sl .nil 0 [])])] ([] : Heap) ((AV.bool true), ([] : Heap)) :=
  specO (fn := Try.f104) (ann := mzeroF_ann) (Has.o Try.func104) (.r (.g (.r (.g (.r (.g (.no (.r (.g (.yes (.r (.g (.r (.g (.r (.c 2 (msame0_at   ([⟨0, 13, [[(AV.int .i64 0), (AV.int .i64 0), (AV.int .i64 0), (AV.int .i64 0), (AV.int .i64 0), (AV.int .i64 0), (AV.int .i64 0), (AV.str ⟨#[]⟩), (AV.str ⟨#[]⟩), (AV.bool false), (AV.int .u32 0), (AV.sl .nil 0 []), (AV.sl .nil 0 [])]], none⟩] : Heap)) (.g (.f 0 (AV.bool true) (.e (AV.bool true))))))))))))))))))))
theorem mzeroF_at (tag seq sum : Int) (full : Bool) (cs : List Card)  (H : Heap) : ACalls Try.prog 104 [(.agg [(.int .i64 2), (.int .i64 5), (.int .i64 0), (.int .i64 0), (.int .i64 tag), (.int .i64 0), (.int .i64 seq), (.str ⟨#[]⟩), (.str ⟨#[]⟩), (.bool full), (.int .u32 sum), (.sl .any 9 (List.map Card.row cs)), (.sl .nil 0 [])])] H ((AV.bool true), H) := (mzeroF_spec tag seq sum full cs ).lift kr kr H
def maskedF_ann : Ann := { refs := [1], fin := some 0 }
set_option maxRecDepth 100000 in
theorem maskedF_spec (tag seq sum : Int) (full : Bool) (cs : List Card)  : ACalls Try.prog 142 [(.agg [(.int .i64 2), (.int .i64 5), (.int .i64 0), (.int .i64 0), (.int .i64 tag), (.int .i64 0), (.int .i64 seq), (.str ⟨#[]⟩), (.str ⟨#[]⟩), (.bool full), (.int .u32 sum), (.sl .any 9 (List.map Card.row cs)), (.sl .nil 0 [])])] ([] : Heap) ((AV.bool true), ([] : Heap)) :=
  specO (fn := Try.f142) (ann := maskedF_ann) (Has.o Try.func142) (.r (.g (.r (.no (.no (.no (.g (.f 0 (AV.bool true) (.e (AV.bool true))))))))))
theorem maskedF_at (tag seq sum : Int) (full : Bool) (cs : List Card)  (H : Heap) : ACalls Try.prog 142 [(.agg [(.int .i64 2), (.int .i64 5), (.int .i64 0), (.int .i64 0), (.int .i64 tag), (.int .i64 0), (.int .i64 seq), (.str ⟨#[]⟩), (.str ⟨#[]⟩), (.bool full), (.int .u32 sum), (.sl .any 9 (List.map Card.row cs)), (.sl .nil 0 [])])] H ((AV.bool true), H) := (maskedF_spec tag seq sum full cs ).lift kr kr H
def mopF_ann : Ann := { refs := [1], fin := some 0 }
set_option maxRecDepth 100000 in
theorem mopF_spec (tag seq sum : Int) (full : Bool) (cs : List Card)  : ACalls Try.prog 105 [(.agg [(.int .i64 2), (.int .i64 5), (.int .i64 0), (.int .i64 0), (.int .i64 tag), (.int .i64 0), (.int .i64 seq), (.str ⟨#[]⟩), (.str ⟨#[]⟩), (.bool full), (.int .u32 sum), (.sl .any 9 (List.map Card.row cs)), (.sl .nil 0 [])])] ([] : Heap) ((AV.bool true), ([] : Heap)) :=
  specO (fn := Try.f105) (ann := mopF_ann) (Has.o Try.func105) (.r (.g (.r (.c 1 (maskedF_at tag seq sum full cs  ([] : Heap)) (.g (.no (.r (.g (.yes (.r (.y 3 (AV.bool (((ByteArray.mk #[]).toList == (ByteArray.mk #[]).toList) && (((ByteArray.mk #[]).toList == (ByteArray.mk #[]).toList) && true))) (AV.bool true) (Yes.bool kr) (.g (.f 0 (AV.bool true) (.e (AV.bool true)))))))))))))))
theorem mopF_at (tag seq sum : Int) (full : Bool) (cs : List Card)  (H : Heap) : ACalls Try.prog 105 [(.agg [(.int .i64 2), (.int .i64 5), (.int .i64 0), (.int .i64 0), (.int .i64 tag), (.int .i64 0), (.int .i64 seq), (.str ⟨#[]⟩), (.str ⟨#[]⟩), (.bool full), (.int .u32 sum), (.sl .any 9 (List.map Card.row cs)), (.sl .nil 0 [])])] H ((AV.bool true), H) := (mopF_spec tag seq sum full cs ).lift kr kr H
def mwithin0_ann : Ann := { fin := some 0 }
set_option maxRecDepth 100000 in
theorem mwithin0_spec   : ACalls Try.prog 106 [(.int .i64 0)] ([] : Heap) ((AV.bool true), ([] : Heap)) :=
  specO (fn := Try.f106) (ann := mwithin0_ann) (Has.o Try.func106) (.r (.g (.r (.yes (.yes (.g (.f 0 (AV.bool true) (.e (AV.bool true)))))))))
theorem mwithin0_at   (H : Heap) : ACalls Try.prog 106 [(.int .i64 0)] H ((AV.bool true), H) := (mwithin0_spec  ).lift kr kr H
def mbadC_ann : Ann := { refs := [1], fin := some 0 }
set_option maxRecDepth 100000 in
theorem mbadC_spec (c : Card)  : ACalls Try.prog 108 [(.agg (Card.row c))] ([] : Heap) ((AV.bool (!(cardR c))), ([] : Heap)) :=
  specO (fn := Try.f108) (ann := mbadC_ann) (Has.o Try.func108) (.r (.g (.r (.c 1 (cright_at c  ([] : Heap)) (.g (.f 0 (AV.bool (!(cardR c))) (.e (AV.bool (!(cardR c))))))))))
theorem mbadC_at (c : Card)  (H : Heap) : ACalls Try.prog 108 [(.agg (Card.row c))] H ((AV.bool (!(cardR c))), H) := (mbadC_spec c ).lift kr kr H
def mix_ann : Ann := { fin := some 0, live := [(2, [0, 1, 7, 8])], out := [(2, [0, 1, 7, 8])] }
@[simp] abbrev Wo_1 (v1_ : List Card) (v2_ : Nat) : Fr := (mkF 19 [(0, (AV.sl .any 9 (List.map Card.row v1_))), (1, (AV.func 108 [])), (7, (AV.int .i64 ((v1_.length : Nat) : Int))), (8, (AV.int .i64 ((v2_ : Nat) : Int)))])
set_option maxRecDepth 100000 in
theorem mix_step (l : List Card)  (i : Nat) (hl : l.length < 1099511627776) (hle_ : i ≤ l.length) {eX : Ex} {FX : Fr} {HX : Heap} (k1 : (decide (((i : Nat) : Int) < ((l.length : Nat) : Int))) = true → (!(cardR (nth l i))) = true → ((.ret : Ex), (Wo_1 l i), ([] : Heap)) = (eX, FX, HX)) (k2 : (decide (((i : Nat) : Int) < ((l.length : Nat) : Int))) = true → (!(cardR (nth l i))) = false → LoopTo (codeQ Try.prog (X mix_ann) (loopOf Try.f143 0)) (some [0, 1, 7, 8]) (some [0, 1, 7, 8]) (mkF 19 [(0, (.sl .any 9 (List.map Card.row l))), (1, (.func 108 [])), (7, (.int .i64 ((l.length : Nat) : Int))), (8, (.int .i64 ((i + 1 : Nat) : Int)))]) ([] : Heap) eX FX HX) (k3 : (decide (((i : Nat) : Int) < ((l.length : Nat) : Int))) = false → ((.exit 0 : Ex), (Wo_1 l i), ([] : Heap)) = (eX, FX, HX)) : LoopTo (codeQ Try.prog (X mix_ann) (loopOf Try.f143 0)) (some [0, 1, 7, 8]) (some [0, 1, 7, 8]) (Wo_1 l i) ([] : Heap) eX FX HX :=
  stepO (.r (.g (.two (decide (((i : Nat) : Int) < ((l.length : Nat) : Int))) (fun h1 h1' => (.r (.g (.r (.is 3 9 9 (List.map Card.row l) ((i : Nat) : Int) (Card.row (nth l i)) (IdxSl.mk _ ow ow) (.c 5 (mbadC_at (nth l i)  ([] : Heap)) (.g (.two (!(cardR (nth l i))) (fun h2 h2' => (.r (.g (.l (k1 h1 h2))))) (fun h2 h2' => (.r (.y 0 (.int .i64 (IntKind.i64.wrap (((i : Nat) : Int) + 1))) (AV.int .i64 ((i + 1 : Nat) : Int)) (Yes.add ow ow ow) (.g (.l (k2 h1 h2)))))))))))))) (fun h1 h1' => (.l (k3 h1))))))
def mix_f (l : List Card) (i : Nat) (s : Unit) : Unit := ()
def mix_bad (l : List Card)  (i : Nat) : Prop := (((decide (((i : Nat) : Int) < ((l.length : Nat) : Int))) = true) ∧ ((!(cardR (nth l i))) = true))
@[simp] abbrev Wo_2 (v1_ : List Card) : Fr := (mkF 19 [(0, (AV.sl .any 9 (List.map Card.row v1_))), (1, (AV.func 108 [])), (7, (AV.int .i64 ((v1_.length : Nat) : Int))), (8, (AV.int .i64 ((v1_.length : Nat) : Int)))])
theorem mix_loop (l : List Card) (hl : l.length < 1099511627776)  (hbad : ∀ (i : Nat), i < l.length → ¬ mix_bad l  i) (r_ : Nat) : ∀  (i : Nat) (sF : Unit), i + r_ = l.length → () = (iter (mix_f l) i 0 ()) → sF = iter (mix_f l) r_ i () →
    LoopTo (codeQ Try.prog (X mix_ann) (loopOf Try.f143 0)) (some [0, 1, 7, 8]) (some [0, 1, 7, 8]) (Wo_1 l i) ([] : Heap) (.exit 0) (Wo_2 l) ([] : Heap) := by
  induction r_ with
  | zero =>
    intro  i sF hi_  hs_ hF
    obtain rfl : l.length = i := by omega
    have e_ : sF = () := hF
    refine mix_step l  l.length hl (Nat.le_refl _) (fun h _ => by simp at h <;> omega) (fun h _ => by simp at h <;> omega) (fun _ => ?_)
    first | done | rfl | (rw [e_]; done) | (rw [e_]; rfl)
  | succ r_ ih =>
    intro  i sF hi_  hs_ hF
    refine mix_step l  i hl ow (fun h1 h2 => ?_) (fun h1 h2 => ?_) (fun h => by simp at h <;> omega)
    · exact False.elim (by
        have hb_ := hbad i ow
        try rw [← hs_] at hb_
        exact hb_ (⟨h1, h2⟩))
    · exact ih  (i + 1) sF ow  (by rw [iter_succ, ← hs_] <;> simp only [mix_f, h2, if_true, Bool.false_eq_true, if_false]) (by rw [hF] <;> simp only [iter, mix_f, h2, if_true, Bool.false_eq_true, if_false])
set_option maxRecDepth 100000 in
theorem mix_spec (l : List Card) (hl : l.length < 1099511627776) (hr : ∀ c ∈ l, cardR c = true) : ACalls Try.prog 143 [(.sl .any 9 (List.map Card.row l)), (.func 108 [])] ([] : Heap) ((AV.int .i64 (-1)), ([] : Heap)) :=
  specO (fn := Try.f143) (ann := mix_ann) (Has.o Try.func143) (.r (.g (.r (.y 1 (.int .i64 ((List.length (List.map Card.row l) : Nat) : Int)) (AV.int .i64 ((l.length : Nat) : Int)) (Yes.len _ _ _) (.g (.loop (Wo_2 l) (show LoopTo (codeQ Try.prog (X mix_ann) (loopOf Try.f143 0)) (some [0, 1, 7, 8]) (some [0, 1, 7, 8]) (mkF 19 [(0, (.sl .any 9 (List.map Card.row l))), (1, (.func 108 [])), (7, (.int .i64 ((l.length : Nat) : Int))), (8, (.int .i64 0))]) ([] : Heap) (.exit 0) (Wo_2 l) ([] : Heap) from (mix_loop l hl (fun i hi => by simp only [mix_bad]; rw [hr _ (nth_mem hi)]; simp) l.length 0 () ow rfl rfl)) (.r (.g (.f 0 (AV.int .i64 (-1)) (.e (AV.int .i64 (-1))))))))))))
theorem mix_at (l : List Card) (hl : l.length < 1099511627776) (hr : ∀ c ∈ l, cardR c = true) (H : Heap) : ACalls Try.prog 143 [(.sl .any 9 (List.map Card.row l)), (.func 108 [])] H ((AV.int .i64 (-1)), H) := (mix_spec l hl hr).lift kr kr H
def mcont_ann : Ann := { fin := some 0 }
set_option maxRecDepth 100000 in
theorem mcont_spec (l : List Card) (hl : l.length < 1099511627776) (hr : ∀ c ∈ l, cardR c = true) : ACalls Try.prog 107 [(.sl .any 9 (List.map Card.row l)), (.func 108 [])] ([] : Heap) ((AV.bool false), ([] : Heap)) :=
  specO (fn := Try.f107) (ann := mcont_ann) (Has.o Try.func107) (.r (.g (.r (.c 2 (mix_at l oa oa ([] : Heap)) (.g (.f 0 (AV.bool false) (.e (AV.bool false))))))))
theorem mcont_at (l : List Card) (hl : l.length < 1099511627776) (hr : ∀ c ∈ l, cardR c = true) (H : Heap) : ACalls Try.prog 107 [(.sl .any 9 (List.map Card.row l)), (.func 108 [])] H ((AV.bool false), H) := (mcont_spec l hl hr).lift kr kr H
def mixK0_ann : Ann := { fin := some 0 }
set_option maxRecDepth 100000 in
theorem mixK0_spec   : ACalls Try.prog 144 [(.sl .nil 0 []), (.func 110 [])] ([] : Heap) ((AV.int .i64 (-1)), ([] : Heap)) :=
  specO (fn := Try.f144) (ann := mixK0_ann) (Has.o Try.func144) (.r (.g (.r (.g (.roll 1 (.r (.g (.no (.r (.g (.f 0 (AV.int .i64 (-1)) (.e (AV.int .i64 (-1))))))))))))))
theorem mixK0_at   (H : Heap) : ACalls Try.prog 144 [(.sl .nil 0 []), (.func 110 [])] H ((AV.int .i64 (-1)), H) := (mixK0_spec  ).lift kr kr H
def mcontK0_ann : Ann := { fin := some 0 }
set_option maxRecDepth 100000 in
theorem mcontK0_spec   : ACalls Try.prog 109 [(.sl .nil 0 []), (.func 110 [])] ([] : Heap) ((AV.bool false), ([] : Heap)) :=
  specO (fn := Try.f109) (ann := mcontK0_ann) (Has.o Try.func109) (.r (.g (.r (.c 2 (mixK0_at   ([] : Heap)) (.g (.f 0 (AV.bool false) (.e (AV.bool false))))))))
theorem mcontK0_at   (H : Heap) : ACalls Try.prog 109 [(.sl .nil 0 []), (.func 110 [])] H ((AV.bool false), H) := (mcontK0_spec  ).lift kr kr H
def mrightF_ann : Ann := { refs := [1], fin := some 0 }
set_option maxRecDepth 100000 in
theorem mrightF_spec (tag seq sum : Int) (full : Bool) (cs : List Card) (hs : -1 ≤ seq) (hl : cs.length ≤ 64) (hr : ∀ c ∈ cs, cardR c = true) : ACalls Try.prog 60 [(.agg [(.int .i64 2), (.int .i64 5), (.int .i64 0), (.int .i64 0), (.int .i64 tag), (.int .i64 0), (.int .i64 seq), (.str ⟨#[]⟩), (.str ⟨#[]⟩), (.bool full), (.int .u32 sum), (.sl .any 9 (List.map Card.row cs)), (.sl .nil 0 [])])] ([] : Heap) (AV.nili, ([] : Heap)) :=
  specO (fn := Try.f60) (ann := mrightF_ann) (Has.o Try.func60) (.r (.g (.r (.no (.no (.no (.g (.no (.r (.c 1 (mzeroF_at tag seq sum full cs  ([] : Heap)) (.g (.no (.r (.c 1 (mopF_at tag seq sum full cs  ([] : Heap)) (.g (.no (.r (.c 2 (mwithin0_at   ([] : Heap)) (.no (.no (.no (.c 7 (mwithin0_at   ([] : Heap)) (.no (.no (.no (.no (.y 13 (AV.bool (decide (seq < (-1)))) (AV.bool false) (Yes.bool om) (.g (.no (.r (.y 2 (.int .i64 ((List.length (List.map Card.row cs) : Nat) : Int)) (AV.int .i64 ((cs.length : Nat) : Int)) (Yes.len _ _ _) (.y 3 (AV.bool (decide (((cs.length : Nat) : Int) > 64))) (AV.bool false) (Yes.bool (by simp; omega)) (.no (.no (.no (.no (.g (.no (.r (.c 2 (mcont_at cs oa oa ([] : Heap)) (.g (.r (.no (.no (.no (.c 4 (mcontK0_at   ([] : Heap)) (.g (.no (.r (.g (.f 0 AV.nili (.e AV.nili))))))))))))))))))))))))))))))))))))))))))))))))))))
theorem mrightF_at (tag seq sum : Int) (full : Bool) (cs : List Card) (hs : -1 ≤ seq) (hl : cs.length ≤ 64) (hr : ∀ c ∈ cs, cardR c = true) (H : Heap) : ACalls Try.prog 60 [(.agg [(.int .i64 2), (.int .i64 5), (.int .i64 0), (.int .i64 0), (.int .i64 tag), (.int .i64 0), (.int .i64 seq), (.str ⟨#[]⟩), (.str ⟨#[]⟩), (.bool full), (.int .u32 sum), (.sl .any 9 (List.map Card.row cs)), (.sl .nil 0 [])])] H (AV.nili, H) := (mrightF_spec tag seq sum full cs hs hl hr).lift kr kr H
def putD (l : List Card) (c : Card) : List Card := (l.filter fun x => !Key.eqb x.key c.key) ++ (if (!c.gone) = true then [c] else [])
theorem putD_len (l : List Card) (c : Card) : (putD l c).length ≤ l.length + 1 := by
  unfold putD
  have := List.length_filter_le (fun x : Card => !Key.eqb x.key c.key) l
  rw [List.length_append]; split <;> simp <;> omega
theorem putsD_len (cs : List Card) : ∀ (l : List Card), (cs.foldl putD l).length ≤ l.length + cs.length := by
  induction cs with
  | nil => intro l; simp
  | cons c cs ih => intro l; rw [List.foldl_cons, List.length_cons]; have := ih (putD l c); have := putD_len l c; omega
def cput_ann : Ann := { refs := [3], gh := [(10, .frz 5)], gha := [(1, .vir 5 9), (7, .cut 1)], fin := some 0, live := [(3, [3, 5, 8, 9, 10])], out := [(3, [3, 5, 8, 9, 10])] }
@[simp] abbrev Wo_3 (v1_ : Nat) (v2_ : List Card) (v3_ : List Card) (v4_ : Nat) : Heap := [⟨(v1_ + 1), 9, (List.map Card.row (v2_ ++ [(nth v3_ v4_)])), none⟩]
@[simp] abbrev Wo_4 (v1_ : Card) (v2_ : Nat) (v3_ : Nat) (v4_ : List Card) (v5_ : Nat) : Fr := (mkF 32 [(3, (AV.ref (Card.row v1_) 0)), (5, (AV.osl 0 v2_ 9 0 v3_)), (8, (AV.sl .any 9 (List.map Card.row v4_))), (9, (AV.int .i64 ((v4_.length : Nat) : Int))), (10, (AV.int .i64 ((v5_ : Nat) : Int)))])
@[simp] abbrev Wo_5 (v1_ : Nat) (v2_ : List Card) (v3_ : List Card) (v4_ : Nat) : Heap := [⟨v1_, 9, (List.map Card.row v2_), none⟩, ⟨0, 9, [(Card.row (nth v3_ v4_))], none⟩]
set_option maxRecDepth 100000 in
theorem cput_step (l : List Card) (x : Card) (out : List Card) (k : Nat) (h : Nat) (i : Nat) (hl : l.length < 1000000) (hk : k = out.length) (hki : k ≤ i) (hle_ : i ≤ l.length) {eX : Ex} {FX : Fr} {HX : Heap} (k1 : (decide (((i : Nat) : Int) < ((l.length : Nat) : Int))) = true → (!(Key.eqb (nth l i).key x.key)) = true → LoopTo (codeQ Try.prog (X cput_ann) (loopOf Try.f61 0)) (some [3, 5, 8, 9, 10]) (some [3, 5, 8, 9, 10]) (mkF 32 [(3, (.ref (Card.row x) 0)), (5, (.osl 0 (h + 1) 9 0 (k + 1))), (8, (.sl .any 9 (List.map Card.row l))), (9, (.int .i64 ((l.length : Nat) : Int))), (10, (.int .i64 ((i + 1 : Nat) : Int)))]) (Wo_3 h out l i) eX FX HX) (k2 : (decide (((i : Nat) : Int) < ((l.length : Nat) : Int))) = true → (!(Key.eqb (nth l i).key x.key)) = false → LoopTo (codeQ Try.prog (X cput_ann) (loopOf Try.f61 0)) (some [3, 5, 8, 9, 10]) (some [3, 5, 8, 9, 10]) (mkF 32 [(3, (.ref (Card.row x) 0)), (5, (.osl 0 h 9 0 k)), (8, (.sl .any 9 (List.map Card.row l))), (9, (.int .i64 ((l.length : Nat) : Int))), (10, (.int .i64 ((i + 1 : Nat) : Int)))]) ([⟨h, 9, (List.map Card.row out), none⟩] : Heap) eX FX HX) (k3 : (decide (((i : Nat) : Int) < ((l.length : Nat) : Int))) = false → ((.exit 0 : Ex), (Wo_4 x h k l i), ([⟨h, 9, (List.map Card.row out), none⟩] : Heap)) = (eX, FX, HX)) : LoopTo (codeQ Try.prog (X cput_ann) (loopOf Try.f61 0)) (some [3, 5, 8, 9, 10]) (some [3, 5, 8, 9, 10]) (Wo_4 x h k l i) ([⟨h, 9, (List.map Card.row out), none⟩] : Heap) eX FX HX :=
  stepO (.r (.g (.two (decide (((i : Nat) : Int) < ((l.length : Nat) : Int))) (fun h1 h1' => (.r (.h' ([⟨h, 9, (List.map Card.row out), none⟩, ⟨0, 9, [[(AV.str ⟨#[]⟩), (AV.str ⟨#[]⟩), (AV.int .i64 0), (AV.int .i64 0), (AV.int .i64 0), (AV.int .i64 0), (AV.int .i64 0), (AV.int .i64 0), (AV.bool false)]], none⟩] : Heap) (.is 0 9 9 (List.map Card.row l) ((i : Nat) : Int) (Card.row (nth l i)) (IdxSl.mk _ ow ow) (.g (.r (.g (.two (!(Key.eqb (nth l i).key x.key)) (fun h2 h2' => (.r (.h' (Wo_5 h out l i) (.ap 3 33 (AV.osl 0 h 9 0 k) (AV.sl .clip 9 [(Card.row (nth l i))]) (AV.osl 0 (h + 1) 9 0 (k + 1)) ([⟨(h + 1), 9, (List.map Card.row (out ++ [(nth l i)])), none⟩, ⟨0, 9, [(Card.row (nth l i))], none⟩] : Heap) (evAppend_one (row := Card.row) (l := out) (x := (nth l i)) (T := tt) (e := 58) (te := { d := .struct [(31, 0), (3, 2), (3, 3), (2, 4), (56, 5), (4, 8)], size := 9, bytes := 88, zero := [.str ⟨#[]⟩, .str ⟨#[]⟩, .int .i64 0, .int .i64 0, .int .i64 0, .int .i64 0, .int .i64 0, .int .i64 0, .bool false] }) (z := 1) (b := 24) (y := [.sl .nil 0 []]) kr kr rfl (by decide) (by decide) kr (by first | assumption | omega | (simp; done) | (simp; omega)) rfl rfl (by first | omega | (show _ * 88 ≤ _; omega) | (simp; omega))) (.g (.r (.y 0 (.int .i64 (IntKind.i64.wrap (((i : Nat) : Int) + 1))) (AV.int .i64 ((i + 1 : Nat) : Int)) (Yes.add ow ow ow) (.h' (Wo_3 h out l i) (.b 1 (.g (.l (k1 h1 h2)))))))))))) (fun h2 h2' => (.r (.h' (Wo_5 h out l i) (.y 0 (.int .i64 (IntKind.i64.wrap (((i : Nat) : Int) + 1))) (AV.int .i64 ((i + 1 : Nat) : Int)) (Yes.add ow ow ow) (.h' ([⟨h, 9, (List.map Card.row out), none⟩] : Heap) (.b 1 (.g (.l (k2 h1 h2))))))))))))))))) (fun h1 h1' => (.l (k3 h1))))))
def cput_f (l : List Card) (x : Card) (i : Nat) (s : (List Card) × Nat × Nat) : (List Card) × Nat × Nat := (if (!(Key.eqb (nth l i).key x.key)) = true then (s.1 ++ [(nth l i)], (s.2.1 + 1), (s.2.2 + 1)) else (s.1, s.2.1, s.2.2))
theorem cput_loop (l : List Card) (x : Card) (hl : l.length < 1000000)  (r_ : Nat) : ∀ (out : List Card) (k : Nat) (h : Nat) (i : Nat) (sF : (List Card) × Nat × Nat), i + r_ = l.length → k = out.length → k ≤ i → sF = iter (cput_f l x) r_ i (out, k, h) →
    LoopTo (codeQ Try.prog (X cput_ann) (loopOf Try.f61 0)) (some [3, 5, 8, 9, 10]) (some [3, 5, 8, 9, 10]) (Wo_4 x h k l i) ([⟨h, 9, (List.map Card.row out), none⟩] : Heap) (.exit 0) (mkF 32 [(3, (.ref (Card.row x) 0)), (5, (.osl 0 sF.2.2 9 0 sF.2.1)), (8, (.sl .any 9 (List.map Card.row l))), (9, (.int .i64 ((l.length : Nat) : Int))), (10, (.int .i64 ((l.length : Nat) : Int)))]) ([⟨sF.2.2, 9, (List.map Card.row sF.1), none⟩] : Heap) := by
  induction r_ with
  | zero =>
    intro out k h i sF hi_ hk hki  hF
    obtain rfl : l.length = i := by omega
    have e_ : sF = (out, k, h) := hF
    refine cput_step l x out k h l.length hl hk hki (Nat.le_refl _) (fun h _ => by simp at h <;> omega) (fun h _ => by simp at h <;> omega) (fun _ => ?_)
    first | done | rfl | (rw [e_]; done) | (rw [e_]; rfl)
  | succ r_ ih =>
    intro out k h i sF hi_ hk hki  hF
    refine cput_step l x out k h i hl hk hki ow (fun h1 h2 => ?_) (fun h1 h2 => ?_) (fun h => by simp at h <;> omega)
    · exact ih (out ++ [(nth l i)]) (k + 1) (h + 1) (i + 1) sF ow (by first | omega | assumption | (simp; done) | (simp; omega) | (simp [*]; done) | (simp [*]; omega)) (by first | omega | assumption | (simp; done) | (simp; omega) | (simp [*]; done) | (simp [*]; omega))  (by rw [hF] <;> simp only [iter, cput_f, h2, if_true, Bool.false_eq_true, if_false])
    · exact ih out k h (i + 1) sF ow (by first | omega | assumption | (simp; done) | (simp; omega) | (simp [*]; done) | (simp [*]; omega)) (by first | omega | assumption | (simp; done) | (simp; omega) | (simp [*]; done) | (simp [*]; omega))  (by rw [hF] <;> simp only [iter, cput_f, h2, if_true, Bool.false_eq_true, if_false])
theorem cput_iter (l : List Card) (x : Card) : ∃ h, (l.filter (fun y => !Key.eqb y.key x.key), (l.filter (fun y => !Key.eqb y.key x.key)).length, h) = iter (cput_f l x) l.length 0 ([], 0, 0) := by
  refine ⟨(iter (cput_f l x) l.length 0 ([], 0, 0)).2.2, ?_⟩
  have h1 := iter_proj (cput_f l x) (fun i s => if (!Key.eqb (nth l i).key x.key) = true then s ++ [nth l i] else s) (fun s => s.1) (fun i s => by unfold cput_f; split <;> rfl) l.length 0 ([], 0, 0)
  rw [iter_all (fun i s => if (!Key.eqb (nth l i).key x.key) = true then s ++ [nth l i] else s) (fun s y => if (!Key.eqb y.key x.key) = true then s ++ [y] else s) l (fun i s hi => rfl)] at h1
  have h2 := iter_inv (cput_f l x) (fun _ s => s.2.1 = s.1.length) l.length (fun i s _ hs => by unfold cput_f; split <;> simp [hs]) l.length 0 ([], 0, 0) ow rfl
  have h3 : ∀ (l : List Card) (s : List Card), l.foldl (fun s y => if (!Key.eqb y.key x.key) = true then s ++ [y] else s) s = s ++ l.filter (fun y => !Key.eqb y.key x.key) := by
    intro l
    induction l with
    | nil => intro s; simp
    | cons y l ih => intro s; rw [List.foldl_cons, ih, List.filter_cons]; split <;> simp
  rw [h3] at h1
  generalize iter (cput_f l x) l.length 0 ([], 0, 0) = z at h1 h2 ⊢
  obtain ⟨z1, z2, z3⟩ := z
  simp only [List.nil_append] at h1 h2 ⊢
  rw [h1, h2, h1]
set_option maxRecDepth 100000 in
theorem cput0_spec (l : List Card) (x : Card) (q : Nat) (hl : l.length < 100000) (hq : ((l.filter (fun y => !Key.eqb y.key x.key)), (l.filter (fun y => !Key.eqb y.key x.key)).length, q) = iter (cput_f l x) l.length 0 ([], 0, 0)) : ACalls Try.prog 61 [(.sl .any 9 (List.map Card.row l)), (.agg (Card.row x))] ([] : Heap) ((AV.sl .any 9 (List.map Card.row (putD l x))), ([] : Heap)) := by
  have hfl : (l.filter (fun y => !Key.eqb y.key x.key)).length ≤ l.length := List.length_filter_le _ _
  exact specO (fn := Try.f61) (ann := cput_ann) (Has.o Try.func61) (.r (.g (.r (.g (.r (.h' ([⟨0, 9, (List.map Card.row []), none⟩] : Heap) (.y 1 (.int .i64 ((List.length (List.map Card.row l) : Nat) : Int)) (AV.int .i64 ((l.length : Nat) : Int)) (Yes.len _ _ _) (.g (.loop (mkF 32 [(3, (.ref (Card.row x) 0)), (5, (.osl 0 q 9 0 (l.filter (fun y => !Key.eqb y.key x.key)).length)), (8, (.sl .any 9 (List.map Card.row l))), (9, (.int .i64 ((l.length : Nat) : Int))), (10, (.int .i64 ((l.length : Nat) : Int)))]) (show LoopTo (codeQ Try.prog (X cput_ann) (loopOf Try.f61 0)) (some [3, 5, 8, 9, 10]) (some [3, 5, 8, 9, 10]) (mkF 32 [(3, (.ref (Card.row x) 0)), (5, (.osl 0 0 9 0 0)), (8, (.sl .any 9 (List.map Card.row l))), (9, (.int .i64 ((l.length : Nat) : Int))), (10, (.int .i64 0))]) ([⟨0, 9, (List.map Card.row []), none⟩] : Heap) (.exit 0) (mkF 32 [(3, (.ref (Card.row x) 0)), (5, (.osl 0 q 9 0 (l.filter (fun y => !Key.eqb y.key x.key)).length)), (8, (.sl .any 9 (List.map Card.row l))), (9, (.int .i64 ((l.length : Nat) : Int))), (10, (.int .i64 ((l.length : Nat) : Int)))]) ([⟨q, 9, (List.map Card.row (l.filter (fun y => !Key.eqb y.key x.key))), none⟩] : Heap) from (cput_loop l x ow l.length [] 0 0 0 _ ow rfl ow hq)) (.r (.g (.two (!x.gone) (fun h1 h1' => (.r (.ap 3 33 (AV.osl 0 q 9 0 (l.filter (fun y => !Key.eqb y.key x.key)).length) (AV.sl .clip 9 [(Card.row x)]) (AV.osl 0 (q + 1) 9 0 ((l.filter (fun y => !Key.eqb y.key x.key)).length + 1)) ([⟨(q + 1), 9, (List.map Card.row ((l.filter (fun y => !Key.eqb y.key x.key)) ++ [x])), none⟩] : Heap) (evAppend_one (row := Card.row) (l := (l.filter (fun y => !Key.eqb y.key x.key))) (x := x) (T := tt) (e := 58) (te := { d := .struct [(31, 0), (3, 2), (3, 3), (2, 4), (56, 5), (4, 8)], size := 9, bytes := 88, zero := [.str ⟨#[]⟩, .str ⟨#[]⟩, .int .i64 0, .int .i64 0, .int .i64 0, .int .i64 0, .int .i64 0, .int .i64 0, .bool false] }) (z := 1) (b := 24) (y := [.sl .nil 0 []]) kr kr rfl (by decide) (by decide) kr (by first | assumption | omega | (simp; done) | (simp; omega)) rfl rfl (by first | omega | (show _ * 88 ≤ _; omega) | (simp; omega))) (.g (.r (.w 5 (List.map Card.row ((l.filter (fun y => !Key.eqb y.key x.key)) ++ [x])) (And.intro (rowsIn_all (room := none) kr om) (Card.rows_bdd _ _) : rowsIn ([⟨(q + 1), 9, (List.map Card.row ((l.filter (fun y => !Key.eqb y.key x.key)) ++ [x])), none⟩] : Heap) 9 (AV.osl 0 (q + 1) 9 0 ((l.filter (fun y => !Key.eqb y.key x.key)).length + 1)) = some (List.map Card.row ((l.filter (fun y => !Key.eqb y.key x.key)) ++ [x])) ∧ AV.bddss 0 (List.map Card.row ((l.filter (fun y => !Key.eqb y.key x.key)) ++ [x])) = true) (.g (.h' ([] : Heap) (.f 0 (AV.sl .any 9 (List.map Card.row ((l.filter (fun y => !Key.eqb y.key x.key)) ++ [x]))) (.e (AV.sl .any 9 (List.map Card.row ((l.filter (fun y => !Key.eqb y.key x.key)) ++ [x]))) (by
        have e : putD l x = (l.filter (fun y => !Key.eqb y.key x.key)) ++ [x] := by unfold putD; rw [if_pos h1]
        rw [e]))))))))))) (fun h1 h1' => (.r (.w 5 (List.map Card.row (l.filter (fun y => !Key.eqb y.key x.key))) (And.intro (rowsIn_all (room := none) kr om) (Card.rows_bdd _ _) : rowsIn ([⟨q, 9, (List.map Card.row (l.filter (fun y => !Key.eqb y.key x.key))), none⟩] : Heap) 9 (AV.osl 0 q 9 0 (l.filter (fun y => !Key.eqb y.key x.key)).length) = some (List.map Card.row (l.filter (fun y => !Key.eqb y.key x.key))) ∧ AV.bddss 0 (List.map Card.row (l.filter (fun y => !Key.eqb y.key x.key))) = true) (.g (.h' ([] : Heap) (.f 0 (AV.sl .any 9 (List.map Card.row (l.filter (fun y => !Key.eqb y.key x.key)))) (.e (AV.sl .any 9 (List.map Card.row (l.filter (fun y => !Key.eqb y.key x.key)))) (by
        have e : putD l x = (l.filter (fun y => !Key.eqb y.key x.key)) ++ [] := by unfold putD; rw [if_neg (by rw [h1]; simp)]
        rw [e]; simp))))))))))))))))))))
theorem cput_spec (l : List Card) (x : Card) (hl : l.length < 100000) : ACalls Try.prog 61 [(.sl .any 9 (List.map Card.row l)), (.agg (Card.row x))] ([] : Heap) ((AV.sl .any 9 (List.map Card.row (putD l x))), ([] : Heap)) := by
  obtain ⟨q, hq⟩ := cput_iter l x
  exact cput0_spec l x q hl hq
theorem cput_at (l : List Card) (x : Card) (hl : l.length < 100000) (H : Heap) : ACalls Try.prog 61 [(.sl .any 9 (List.map Card.row l)), (.agg (Card.row x))] H ((AV.sl .any 9 (List.map Card.row (putD l x))), H) := (cput_spec l x hl).lift kr kr H
def cnew_ann : Ann := { gha := [(1, .frzf 2 0 9)], fin := some 1 }
set_option maxRecDepth 100000 in
theorem cnew_spec   : ACalls Try.prog 17 [] ([] : Heap) ((AV.obj 0 0 0 0), ([⟨0, 2, [[(.sl .any 9 (List.map Card.row ([] : List Card))), (.int .i64 (-1))]], none⟩] : Heap)) :=
  specO (fn := Try.f17) (ann := cnew_ann) (Has.o Try.func17) (.r (.g (.r (.o (rfl : 0 = 0) (.g (.h' ([⟨0, 2, [[(AV.sl .any 9 (List.map Card.row [])), (AV.int .i64 (-1))]], none⟩] : Heap) (.f 1 (AV.obj 0 0 0 0) (.e (AV.obj 0 0 0 0)))))))))
def csince_ann : Ann := { base := 1, fin := some 1 }
@[simp] abbrev Wo_o1 (v1_ : List Card) (v2_ : Int) : Ob := ⟨0, 2, [[(AV.sl .any 9 (List.map Card.row v1_)), (AV.int .i64 v2_)]], none⟩
@[simp] abbrev Wo_6 (v1_ : List Card) (v2_ : Int) : Heap := [Wo_o1 v1_ v2_]
set_option maxRecDepth 100000 in
theorem csince_spec (l : List Card) (s : Int)  : ACalls Try.prog 23 [(.obj 0 0 0 0)] (Wo_6 l s) ((AV.int .i64 s), (Wo_6 l s)) :=
  specO (fn := Try.f23) (ann := csince_ann) (Has.o Try.func23) (.r (.g (.r (.g (.f 1 (AV.int .i64 s) (.e (AV.int .i64 s)))))))
theorem csince_at (l : List Card) (s : Int)  (H : Heap) : ACalls Try.prog 23 [(.obj 0 0 0 0)] ((Wo_6 l s) ++ H) ((AV.int .i64 s), (Wo_6 l s) ++ H) := (csince_spec l s ).ext kr kr ob ob kr H
def cforget_ann : Ann := { base := 1, fin := some 1 }
@[simp] abbrev Wo_7 (v1_ : List Card) : Heap := [⟨0, 2, [[(AV.sl .any 9 (List.map Card.row v1_)), (AV.int .i64 (-1))]], none⟩]
set_option maxRecDepth 100000 in
theorem cforget_spec (l : List Card) (s : Int)  : ACalls Try.prog 26 [(.obj 0 0 0 0)] (Wo_6 l s) ((AV.tup []), (Wo_7 l)) :=
  specO (fn := Try.f26) (ann := cforget_ann) (Has.o Try.func26) (.r (.g (.h' (Wo_7 l) (.f 1 (AV.tup []) (.e (AV.tup []))))))
def ccards_ann : Ann := { base := 1, fin := some 1 }
set_option maxRecDepth 100000 in
theorem ccards_spec (l : List Card) (s : Int) (hl : l.length < 1000) : ACalls Try.prog 25 [(.obj 0 0 0 0)] (Wo_6 l s) ((AV.sl .any 9 (List.map Card.row (sortP l))), (Wo_6 l s)) :=
  specO (fn := Try.f25) (ann := ccards_ann) (Has.o Try.func25) (.r (.g (.r (.c 4 (sortCardX_at l oa (Wo_6 l s)) (.g (.f 1 (AV.sl .any 9 (List.map Card.row (sortP l))) (.e (AV.sl .any 9 (List.map Card.row (sortP l))))))))))
theorem ccards_at (l : List Card) (s : Int) (hl : l.length < 1000) (H : Heap) : ACalls Try.prog 25 [(.obj 0 0 0 0)] ((Wo_6 l s) ++ H) ((AV.sl .any 9 (List.map Card.row (sortP l))), (Wo_6 l s) ++ H) := (ccards_spec l s hl).ext kr kr ob ob kr H
def apL (full : Bool) (l cs : List Card) : List Card := sortP (cs.foldl putD (if full = true then [] else l))
def apE (full : Bool) (l cs : List Card) (s sum : Int) : Int := if full = false ∧ s = -1 then 25 else if ofB (apL full l cs) = sum then 0 else 25
def apC (full : Bool) (l cs : List Card) (s : Int) : List Card := if full = false ∧ s = -1 then l else apL full l cs
def apS (full : Bool) (l cs : List Card) (s seq sum : Int) : Int := if full = false ∧ s = -1 then s else if ofB (apL full l cs) = sum then seq else -1
attribute [local irreducible] putD ofB
def cap_ann : Ann := { refs := [3], gha := [(5, .any 5 9), (7, .any 5 9), (12, .cut 1)], base := 1, fin := some 1, live := [(9, [0, 3, 5, 43, 44, 45])], out := [(9, [0, 3, 5, 43, 44, 45])] }
@[simp] abbrev Wo_8 (v1_ : Int) (v2_ : Int) (v3_ : Bool) (v4_ : Int) (v5_ : List Card) (v6_ : List Card) (v7_ : Nat) : Fr := (mkF 74 [(0, (AV.obj 0 0 0 0)), (3, (AV.ref [(AV.int .i64 2), (AV.int .i64 5), (AV.int .i64 0), (AV.int .i64 0), (AV.int .i64 v1_), (AV.int .i64 0), (AV.int .i64 v2_), (AV.str ⟨#[]⟩), (AV.str ⟨#[]⟩), (AV.bool v3_), (AV.int .u32 v4_), (AV.sl .any 9 (List.map Card.row v5_)), (AV.sl .nil 0 [])] 0)), (5, (AV.sl .any 9 (List.map Card.row v6_))), (43, (AV.sl .any 9 (List.map Card.row v5_))), (44, (AV.int .i64 ((v5_.length : Nat) : Int))), (45, (AV.int .i64 ((v7_ : Nat) : Int)))])
@[simp] abbrev Wo_9 (v1_ : List Card) (v2_ : Int) (v3_ : List Card) (v4_ : Nat) : Heap := [Wo_o1 v1_ v2_, ⟨0, 9, [(Card.row (nth v3_ v4_))], none⟩]
set_option maxRecDepth 100000 in
theorem cap_step (tag : Int) (seq : Int) (sum : Int) (full : Bool) (cs : List Card) (l : List Card) (s : Int) (y0 : Nat) (y : List Card) (i : Nat) (hc : cs.length + y0 < 1000) (hy : y.length ≤ y0 + i) (hle_ : i ≤ cs.length) {eX : Ex} {FX : Fr} {HX : Heap} (k1 : (decide (((i : Nat) : Int) < ((cs.length : Nat) : Int))) = true → LoopTo (codeQ Try.prog (X cap_ann) (loopOf Try.f22 0)) (some [0, 3, 5, 43, 44, 45]) (some [0, 3, 5, 43, 44, 45]) (mkF 74 [(0, (.obj 0 0 0 0)), (3, (.ref [(.int .i64 2), (.int .i64 5), (.int .i64 0), (.int .i64 0), (.int .i64 tag), (.int .i64 0), (.int .i64 seq), (.str ⟨#[]⟩), (.str ⟨#[]⟩), (.bool full), (.int .u32 sum), (.sl .any 9 (List.map Card.row cs)), (.sl .nil 0 [])] 0)), (5, (.sl .any 9 (List.map Card.row (putD y (nth cs i))))), (43, (.sl .any 9 (List.map Card.row cs))), (44, (.int .i64 ((cs.length : Nat) : Int))), (45, (.int .i64 ((i + 1 : Nat) : Int)))]) (Wo_6 l s) eX FX HX) (k2 : (decide (((i : Nat) : Int) < ((cs.length : Nat) : Int))) = false → ((.exit 0 : Ex), (Wo_8 tag seq full sum cs y i), (Wo_6 l s)) = (eX, FX, HX)) : LoopTo (codeQ Try.prog (X cap_ann) (loopOf Try.f22 0)) (some [0, 3, 5, 43, 44, 45]) (some [0, 3, 5, 43, 44, 45]) (Wo_8 tag seq full sum cs y i) (Wo_6 l s) eX FX HX := by
  have u1 := putD_len y (nth cs i)
  exact stepO (.r (.g (.two (decide (((i : Nat) : Int) < ((cs.length : Nat) : Int))) (fun h1 h1' => (.r (.h' ([⟨0, 2, [[(AV.sl .any 9 (List.map Card.row l)), (AV.int .i64 s)]], none⟩, ⟨0, 9, [[(AV.str ⟨#[]⟩), (AV.str ⟨#[]⟩), (AV.int .i64 0), (AV.int .i64 0), (AV.int .i64 0), (AV.int .i64 0), (AV.int .i64 0), (AV.int .i64 0), (AV.bool false)]], none⟩] : Heap) (.is 0 9 9 (List.map Card.row cs) ((i : Nat) : Int) (Card.row (nth cs i)) (IdxSl.mk _ ow ow) (.g (.r (.c 2 (cput_at y (nth cs i) oa (Wo_9 l s cs i)) (.g (.r (.h' (Wo_9 l s cs i) (.y 0 (.int .i64 (IntKind.i64.wrap (((i : Nat) : Int) + 1))) (AV.int .i64 ((i + 1 : Nat) : Int)) (Yes.add ow ow ow) (.h' (Wo_6 l s) (.b 1 (.g (.l (k1 h1)))))))))))))))) (fun h1 h1' => (.l (k2 h1))))))
def cap_f (tag : Int) (seq : Int) (sum : Int) (full : Bool) (cs : List Card) (l : List Card) (s : Int) (y0 : Nat) (i : Nat) (s : (List Card)) : (List Card) := ((putD s (nth cs i)))
theorem cap_loop (tag : Int) (seq : Int) (sum : Int) (full : Bool) (cs : List Card) (l : List Card) (s : Int) (y0 : Nat) (hc : cs.length + y0 < 1000)  (r_ : Nat) : ∀ (y : List Card) (i : Nat) (sF : (List Card)), i + r_ = cs.length → y.length ≤ y0 + i → sF = iter (cap_f tag seq sum full cs l s y0) r_ i (y) →
    LoopTo (codeQ Try.prog (X cap_ann) (loopOf Try.f22 0)) (some [0, 3, 5, 43, 44, 45]) (some [0, 3, 5, 43, 44, 45]) (Wo_8 tag seq full sum cs y i) (Wo_6 l s) (.exit 0) (mkF 74 [(0, (.obj 0 0 0 0)), (3, (.ref [(.int .i64 2), (.int .i64 5), (.int .i64 0), (.int .i64 0), (.int .i64 tag), (.int .i64 0), (.int .i64 seq), (.str ⟨#[]⟩), (.str ⟨#[]⟩), (.bool full), (.int .u32 sum), (.sl .any 9 (List.map Card.row cs)), (.sl .nil 0 [])] 0)), (5, (.sl .any 9 (List.map Card.row sF))), (43, (.sl .any 9 (List.map Card.row cs))), (44, (.int .i64 ((cs.length : Nat) : Int))), (45, (.int .i64 ((cs.length : Nat) : Int)))]) (Wo_6 l s) := by
  induction r_ with
  | zero =>
    intro y i sF hi_ hy  hF
    obtain rfl : cs.length = i := by omega
    have e_ : sF = (y) := hF
    refine cap_step tag seq sum full cs l s y0 y cs.length hc hy (Nat.le_refl _) (fun h => by simp at h <;> omega) (fun _ => ?_)
    first | done | rfl | (rw [e_]; done) | (rw [e_]; rfl)
  | succ r_ ih =>
    intro y i sF hi_ hy  hF
    refine cap_step tag seq sum full cs l s y0 y i hc hy ow (fun h1 => ?_) (fun h => by simp at h <;> omega)
    · exact ih (putD y (nth cs i)) (i + 1) sF ow (by have u1 := putD_len y (nth cs i); first | omega | assumption | (simp; done) | (simp; omega) | (simp [*]; done) | (simp [*]; omega))  (by rw [hF] <;> simp only [iter, cap_f, if_true, Bool.false_eq_true, if_false])
theorem cap_iter (tag seq sum : Int) (full : Bool) (cs l : List Card) (s : Int) (y0 : Nat) (y : List Card) : cs.foldl putD y = iter (cap_f tag seq sum full cs l s y0) cs.length 0 y := by
  rw [iter_all (cap_f tag seq sum full cs l s y0) putD cs (fun i s hi => rfl)]
@[simp] abbrev Wo_10 (v1_ : List Card) (v2_ : Int) : Heap := [⟨0, 2, [[(AV.sl .any 9 (List.map Card.row (sortP (List.foldl putD ([] : List Card) v1_)))), (AV.int .i64 v2_)]], none⟩]
@[simp] abbrev Wo_11 (v1_ : Int) (v2_ : Int) (v3_ : Int) (v4_ : List Card) : Fr := (mkF 74 [(0, (AV.obj 0 0 0 0)), (3, (AV.ref [(AV.int .i64 2), (AV.int .i64 5), (AV.int .i64 0), (AV.int .i64 0), (AV.int .i64 v1_), (AV.int .i64 0), (AV.int .i64 v2_), (AV.str ⟨#[]⟩), (AV.str ⟨#[]⟩), (AV.bool true), (AV.int .u32 v3_), (AV.sl .any 9 (List.map Card.row v4_)), (AV.sl .nil 0 [])] 0)), (5, (AV.sl .any 9 (List.map Card.row (List.foldl putD ([] : List Card) v4_)))), (43, (AV.sl .any 9 (List.map Card.row v4_))), (44, (AV.int .i64 ((v4_.length : Nat) : Int))), (45, (AV.int .i64 ((v4_.length : Nat) : Int)))])
@[simp] abbrev Wo_12 (v1_ : Int) (v2_ : Int) (v3_ : Int) (v4_ : List Card) : Fr := (mkF 74 [(0, (AV.obj 0 0 0 0)), (3, (AV.ref [(AV.int .i64 2), (AV.int .i64 5), (AV.int .i64 0), (AV.int .i64 0), (AV.int .i64 v1_), (AV.int .i64 0), (AV.int .i64 v2_), (AV.str ⟨#[]⟩), (AV.str ⟨#[]⟩), (AV.bool true), (AV.int .u32 v3_), (AV.sl .any 9 (List.map Card.row v4_)), (AV.sl .nil 0 [])] 0)), (5, (AV.sl .any 9 [])), (43, (AV.sl .any 9 (List.map Card.row v4_))), (44, (AV.int .i64 ((v4_.length : Nat) : Int))), (45, (AV.int .i64 0))])
set_option maxRecDepth 100000 in
theorem capOKtrue_spec (tag seq sum : Int) (cs l : List Card) (s : Int) (hs : -1 ≤ seq) (hl : cs.length ≤ 64) (hr : ∀ c ∈ cs, cardR c = true) (hll : l.length < 900) (h : ofB (sortP (List.foldl putD ([] : List Card) cs)) = sum) : ACalls Try.prog 22 [(.obj 0 0 0 0), (.agg [(.int .i64 2), (.int .i64 5), (.int .i64 0), (.int .i64 0), (.int .i64 tag), (.int .i64 0), (.int .i64 seq), (.str ⟨#[]⟩), (.str ⟨#[]⟩), (.bool true), (.int .u32 sum), (.sl .any 9 (List.map Card.row cs)), (.sl .nil 0 [])])] (Wo_6 l s) ((AV.int .i64 0), (Wo_10 cs seq)) := by
  have u2 := putsD_len cs ([] : List Card)
  have u3 : (([] : List Card) : List Card).length ≤ l.length := by simp
  have u4 := sortP_len (List.foldl putD ([] : List Card) cs)
  exact specO (fn := Try.f22) (ann := cap_ann) (Has.o Try.func22) (.r (.g (.r (.no (.no (.no (.no (.no (.no (.no (.no (.c 15 (mrightF_at tag seq sum true cs oa oa oa (Wo_6 l s)) (.no (.g (.no (.r (.no (.no (.no (.no (.no (.g (.no (.r (.g (.r (.g (.yes (.r (.g (.r (.y 2 (.int .i64 ((List.length (List.map Card.row cs) : Nat) : Int)) (AV.int .i64 ((cs.length : Nat) : Int)) (Yes.len _ _ _) (.g (.loop (Wo_11 tag seq sum cs) (show LoopTo (codeQ Try.prog (X cap_ann) (loopOf Try.f22 0)) (some [0, 3, 5, 43, 44, 45]) (some [0, 3, 5, 43, 44, 45]) (Wo_12 tag seq sum cs) (Wo_6 l s) (.exit 0) (Wo_11 tag seq sum cs) (Wo_6 l s) from (cap_loop tag seq sum true cs l s ([] : List Card).length ow cs.length ([] : List Card) 0 _ ow ow (cap_iter tag seq sum true cs l s ([] : List Card).length ([] : List Card)))) (.r (.c 2 (sortCardX_at (List.foldl putD ([] : List Card) cs) oa (Wo_6 l s)) (.g (.r (.c 4 (sealOfX_at (sortP (List.foldl putD ([] : List Card) cs)) oa (Wo_10 cs s)) (.h' (Wo_10 cs s) (.y 7 (AV.bool ((ofB (sortP (List.foldl putD ([] : List Card) cs))) != sum)) (AV.bool false) (Yes.bool (by rw [h]; simp)) (.g (.no (.r (.g (.r (.g (.h' (Wo_10 cs seq) (.f 1 (AV.int .i64 0) (.e (AV.int .i64 0)))))))))))))))))))))))))))))))))))))))))))))))))))
@[simp] abbrev Wo_13 (v1_ : List Card) : Heap := [⟨0, 2, [[(AV.sl .any 9 (List.map Card.row (sortP (List.foldl putD ([] : List Card) v1_)))), (AV.int .i64 (-1))]], none⟩]
set_option maxRecDepth 100000 in
theorem capNOtrue_spec (tag seq sum : Int) (cs l : List Card) (s : Int) (hs : -1 ≤ seq) (hl : cs.length ≤ 64) (hr : ∀ c ∈ cs, cardR c = true) (hll : l.length < 900) (h : ¬ ofB (sortP (List.foldl putD ([] : List Card) cs)) = sum) : ACalls Try.prog 22 [(.obj 0 0 0 0), (.agg [(.int .i64 2), (.int .i64 5), (.int .i64 0), (.int .i64 0), (.int .i64 tag), (.int .i64 0), (.int .i64 seq), (.str ⟨#[]⟩), (.str ⟨#[]⟩), (.bool true), (.int .u32 sum), (.sl .any 9 (List.map Card.row cs)), (.sl .nil 0 [])])] (Wo_6 l s) ((AV.int .i64 25), (Wo_13 cs)) := by
  have u2 := putsD_len cs ([] : List Card)
  have u3 : (([] : List Card) : List Card).length ≤ l.length := by simp
  have u4 := sortP_len (List.foldl putD ([] : List Card) cs)
  exact specO (fn := Try.f22) (ann := cap_ann) (Has.o Try.func22) (.r (.g (.r (.no (.no (.no (.no (.no (.no (.no (.no (.c 15 (mrightF_at tag seq sum true cs oa oa oa (Wo_6 l s)) (.no (.g (.no (.r (.no (.no (.no (.no (.no (.g (.no (.r (.g (.r (.g (.yes (.r (.g (.r (.y 2 (.int .i64 ((List.length (List.map Card.row cs) : Nat) : Int)) (AV.int .i64 ((cs.length : Nat) : Int)) (Yes.len _ _ _) (.g (.loop (Wo_11 tag seq sum cs) (show LoopTo (codeQ Try.prog (X cap_ann) (loopOf Try.f22 0)) (some [0, 3, 5, 43, 44, 45]) (some [0, 3, 5, 43, 44, 45]) (Wo_12 tag seq sum cs) (Wo_6 l s) (.exit 0) (Wo_11 tag seq sum cs) (Wo_6 l s) from (cap_loop tag seq sum true cs l s ([] : List Card).length ow cs.length ([] : List Card) 0 _ ow ow (cap_iter tag seq sum true cs l s ([] : List Card).length ([] : List Card)))) (.r (.c 2 (sortCardX_at (List.foldl putD ([] : List Card) cs) oa (Wo_6 l s)) (.g (.r (.c 4 (sealOfX_at (sortP (List.foldl putD ([] : List Card) cs)) oa (Wo_10 cs s)) (.h' (Wo_10 cs s) (.y 7 (AV.bool ((ofB (sortP (List.foldl putD ([] : List Card) cs))) != sum)) (AV.bool true) (Yes.bool (by simpa using h)) (.g (.yes (.r (.g (.r (.g (.h' (Wo_13 cs) (.f 1 (AV.int .i64 25) (.e (AV.int .i64 25)))))))))))))))))))))))))))))))))))))))))))))))))))
@[simp] abbrev Wo_14 (v1_ : List Card) (v2_ : List Card) (v3_ : Int) : Heap := [⟨0, 2, [[(AV.sl .any 9 (List.map Card.row (sortP (List.foldl putD v1_ v2_)))), (AV.int .i64 v3_)]], none⟩]
@[simp] abbrev Wo_15 (v1_ : Int) (v2_ : Int) (v3_ : Int) (v4_ : List Card) (v5_ : List Card) : Fr := (mkF 74 [(0, (AV.obj 0 0 0 0)), (3, (AV.ref [(AV.int .i64 2), (AV.int .i64 5), (AV.int .i64 0), (AV.int .i64 0), (AV.int .i64 v1_), (AV.int .i64 0), (AV.int .i64 v2_), (AV.str ⟨#[]⟩), (AV.str ⟨#[]⟩), (AV.bool false), (AV.int .u32 v3_), (AV.sl .any 9 (List.map Card.row v4_)), (AV.sl .nil 0 [])] 0)), (5, (AV.sl .any 9 (List.map Card.row (List.foldl putD v5_ v4_)))), (43, (AV.sl .any 9 (List.map Card.row v4_))), (44, (AV.int .i64 ((v4_.length : Nat) : Int))), (45, (AV.int .i64 ((v4_.length : Nat) : Int)))])
@[simp] abbrev Wo_16 (v1_ : Int) (v2_ : Int) (v3_ : Int) (v4_ : List Card) (v5_ : List Card) : Fr := (mkF 74 [(0, (AV.obj 0 0 0 0)), (3, (AV.ref [(AV.int .i64 2), (AV.int .i64 5), (AV.int .i64 0), (AV.int .i64 0), (AV.int .i64 v1_), (AV.int .i64 0), (AV.int .i64 v2_), (AV.str ⟨#[]⟩), (AV.str ⟨#[]⟩), (AV.bool false), (AV.int .u32 v3_), (AV.sl .any 9 (List.map Card.row v4_)), (AV.sl .nil 0 [])] 0)), (5, (AV.sl .any 9 (List.map Card.row v5_))), (43, (AV.sl .any 9 (List.map Card.row v4_))), (44, (AV.int .i64 ((v4_.length : Nat) : Int))), (45, (AV.int .i64 0))])
set_option maxRecDepth 100000 in
theorem capOKfalse_spec (tag seq sum : Int) (cs l : List Card) (s : Int) (hs : -1 ≤ seq) (hl : cs.length ≤ 64) (hr : ∀ c ∈ cs, cardR c = true) (hll : l.length < 900) (h0 : ¬ s = -1) (h : ofB (sortP (List.foldl putD l cs)) = sum) : ACalls Try.prog 22 [(.obj 0 0 0 0), (.agg [(.int .i64 2), (.int .i64 5), (.int .i64 0), (.int .i64 0), (.int .i64 tag), (.int .i64 0), (.int .i64 seq), (.str ⟨#[]⟩), (.str ⟨#[]⟩), (.bool false), (.int .u32 sum), (.sl .any 9 (List.map Card.row cs)), (.sl .nil 0 [])])] (Wo_6 l s) ((AV.int .i64 0), (Wo_14 l cs seq)) := by
  have u2 := putsD_len cs l
  have u3 : (l : List Card).length ≤ l.length := by simp
  have u4 := sortP_len (List.foldl putD l cs)
  exact specO (fn := Try.f22) (ann := cap_ann) (Has.o Try.func22) (.r (.g (.r (.no (.no (.no (.no (.no (.no (.no (.no (.c 15 (mrightF_at tag seq sum false cs oa oa oa (Wo_6 l s)) (.no (.g (.no (.r (.yes (.yes (.yes (.yes (.yes (.y 8 (AV.bool (s == (-1))) (AV.bool false) (Yes.bool (beq_eq_false_iff_ne.2 h0)) (.g (.no (.r (.g (.r (.g (.no (.r (.y 2 (.int .i64 ((List.length (List.map Card.row cs) : Nat) : Int)) (AV.int .i64 ((cs.length : Nat) : Int)) (Yes.len _ _ _) (.g (.loop (Wo_15 tag seq sum cs l) (show LoopTo (codeQ Try.prog (X cap_ann) (loopOf Try.f22 0)) (some [0, 3, 5, 43, 44, 45]) (some [0, 3, 5, 43, 44, 45]) (Wo_16 tag seq sum cs l) (Wo_6 l s) (.exit 0) (Wo_15 tag seq sum cs l) (Wo_6 l s) from (cap_loop tag seq sum false cs l s l.length ow cs.length l 0 _ ow ow (cap_iter tag seq sum false cs l s l.length l))) (.r (.c 2 (sortCardX_at (List.foldl putD l cs) oa (Wo_6 l s)) (.g (.r (.c 4 (sealOfX_at (sortP (List.foldl putD l cs)) oa (Wo_14 l cs s)) (.h' (Wo_14 l cs s) (.y 7 (AV.bool ((ofB (sortP (List.foldl putD l cs))) != sum)) (AV.bool false) (Yes.bool (by rw [h]; simp)) (.g (.no (.r (.g (.r (.g (.h' (Wo_14 l cs seq) (.f 1 (AV.int .i64 0) (.e (AV.int .i64 0))))))))))))))))))))))))))))))))))))))))))))))))))
@[simp] abbrev Wo_17 (v1_ : List Card) (v2_ : List Card) : Heap := [⟨0, 2, [[(AV.sl .any 9 (List.map Card.row (sortP (List.foldl putD v1_ v2_)))), (AV.int .i64 (-1))]], none⟩]
set_option maxRecDepth 100000 in
theorem capNOfalse_spec (tag seq sum : Int) (cs l : List Card) (s : Int) (hs : -1 ≤ seq) (hl : cs.length ≤ 64) (hr : ∀ c ∈ cs, cardR c = true) (hll : l.length < 900) (h0 : ¬ s = -1) (h : ¬ ofB (sortP (List.foldl putD l cs)) = sum) : ACalls Try.prog 22 [(.obj 0 0 0 0), (.agg [(.int .i64 2), (.int .i64 5), (.int .i64 0), (.int .i64 0), (.int .i64 tag), (.int .i64 0), (.int .i64 seq), (.str ⟨#[]⟩), (.str ⟨#[]⟩), (.bool false), (.int .u32 sum), (.sl .any 9 (List.map Card.row cs)), (.sl .nil 0 [])])] (Wo_6 l s) ((AV.int .i64 25), (Wo_17 l cs)) := by
  have u2 := putsD_len cs l
  have u3 : (l : List Card).length ≤ l.length := by simp
  have u4 := sortP_len (List.foldl putD l cs)
  exact specO (fn := Try.f22) (ann := cap_ann) (Has.o Try.func22) (.r (.g (.r (.no (.no (.no (.no (.no (.no (.no (.no (.c 15 (mrightF_at tag seq sum false cs oa oa oa (Wo_6 l s)) (.no (.g (.no (.r (.yes (.yes (.yes (.yes (.yes (.y 8 (AV.bool (s == (-1))) (AV.bool false) (Yes.bool (beq_eq_false_iff_ne.2 h0)) (.g (.no (.r (.g (.r (.g (.no (.r (.y 2 (.int .i64 ((List.length (List.map Card.row cs) : Nat) : Int)) (AV.int .i64 ((cs.length : Nat) : Int)) (Yes.len _ _ _) (.g (.loop (Wo_15 tag seq sum cs l) (show LoopTo (codeQ Try.prog (X cap_ann) (loopOf Try.f22 0)) (some [0, 3, 5, 43, 44, 45]) (some [0, 3, 5, 43, 44, 45]) (Wo_16 tag seq sum cs l) (Wo_6 l s) (.exit 0) (Wo_15 tag seq sum cs l) (Wo_6 l s) from (cap_loop tag seq sum false cs l s l.length ow cs.length l 0 _ ow ow (cap_iter tag seq sum false cs l s l.length l))) (.r (.c 2 (sortCardX_at (List.foldl putD l cs) oa (Wo_6 l s)) (.g (.r (.c 4 (sealOfX_at (sortP (List.foldl putD l cs)) oa (Wo_14 l cs s)) (.h' (Wo_14 l cs s) (.y 7 (AV.bool ((ofB (sortP (List.foldl putD l cs))) != sum)) (AV.bool true) (Yes.bool (by simpa using h)) (.g (.yes (.r (.g (.r (.g (.h' (Wo_17 l cs) (.f 1 (AV.int .i64 25) (.e (AV.int .i64 25))))))))))))))))))))))))))))))))))))))))))))))))))
set_option maxRecDepth 100000 in
theorem capST_spec (tag seq sum : Int) (cs l : List Card) (hs : -1 ≤ seq) (hl : cs.length ≤ 64) (hr : ∀ c ∈ cs, cardR c = true) (hll : l.length < 900) : ACalls Try.prog 22 [(.obj 0 0 0 0), (.agg [(.int .i64 2), (.int .i64 5), (.int .i64 0), (.int .i64 0), (.int .i64 tag), (.int .i64 0), (.int .i64 seq), (.str ⟨#[]⟩), (.str ⟨#[]⟩), (.bool false), (.int .u32 sum), (.sl .any 9 (List.map Card.row cs)), (.sl .nil 0 [])])] (Wo_7 l) ((AV.int .i64 25), (Wo_7 l)) :=
  specO (fn := Try.f22) (ann := cap_ann) (Has.o Try.func22) (.r (.g (.r (.no (.no (.no (.no (.no (.no (.no (.no (.c 15 (mrightF_at tag seq sum false cs oa oa oa (Wo_7 l)) (.no (.g (.no (.r (.yes (.yes (.yes (.yes (.yes (.g (.yes (.r (.g (.f 1 (AV.int .i64 25) (.e (AV.int .i64 25))))))))))))))))))))))))))))
theorem cap_spec (tag seq sum : Int) (full : Bool) (cs l : List Card) (s : Int) (hs : -1 ≤ seq) (hl : cs.length ≤ 64) (hr : ∀ c ∈ cs, cardR c = true) (hll : l.length < 900) : ACalls Try.prog 22 [(.obj 0 0 0 0), (.agg [(.int .i64 2), (.int .i64 5), (.int .i64 0), (.int .i64 0), (.int .i64 tag), (.int .i64 0), (.int .i64 seq), (.str ⟨#[]⟩), (.str ⟨#[]⟩), (.bool full), (.int .u32 sum), (.sl .any 9 (List.map Card.row cs)), (.sl .nil 0 [])])] ([⟨0, 2, [[(.sl .any 9 (List.map Card.row l)), (.int .i64 s)]], none⟩] : Heap) ((AV.int .i64 (apE full l cs s sum)), ([⟨0, 2, [[(.sl .any 9 (List.map Card.row (apC full l cs s))), (.int .i64 (apS full l cs s seq sum))]], none⟩] : Heap)) := by
  cases full with
  | true =>
    by_cases h : ofB (apL true l cs) = sum
    · have e1 : apE true l cs s sum = 0 := by unfold apE; rw [if_neg (by simp), if_pos h]
      have e2 : apC true l cs s = apL true l cs := by unfold apC; rw [if_neg (by simp)]
      have e3 : apS true l cs s seq sum = seq := by unfold apS; rw [if_neg (by simp), if_pos h]
      rw [e1, e2, e3]
      exact capOKtrue_spec tag seq sum cs l s hs hl hr hll h
    · have e1 : apE true l cs s sum = 25 := by unfold apE; rw [if_neg (by simp), if_neg h]
      have e2 : apC true l cs s = apL true l cs := by unfold apC; rw [if_neg (by simp)]
      have e3 : apS true l cs s seq sum = -1 := by unfold apS; rw [if_neg (by simp), if_neg h]
      rw [e1, e2, e3]
      exact capNOtrue_spec tag seq sum cs l s hs hl hr hll h
  | false =>
    by_cases h0 : s = -1
    · subst h0
      have e1 : apE false l cs (-1) sum = 25 := by unfold apE; rw [if_pos ⟨rfl, rfl⟩]
      have e2 : apC false l cs (-1) = l := by unfold apC; rw [if_pos ⟨rfl, rfl⟩]
      have e3 : apS false l cs (-1) seq sum = -1 := by unfold apS; rw [if_pos ⟨rfl, rfl⟩]
      rw [e1, e2, e3]
      exact capST_spec tag seq sum cs l hs hl hr hll
    · by_cases h : ofB (apL false l cs) = sum
      · have e1 : apE false l cs s sum = 0 := by unfold apE; rw [if_neg (by simp [h0]), if_pos h]
        have e2 : apC false l cs s = apL false l cs := by unfold apC; rw [if_neg (by simp [h0])]
        have e3 : apS false l cs s seq sum = seq := by unfold apS; rw [if_neg (by simp [h0]), if_pos h]
        rw [e1, e2, e3]
        exact capOKfalse_spec tag seq sum cs l s hs hl hr hll h0 h
      · have e1 : apE false l cs s sum = 25 := by unfold apE; rw [if_neg (by simp [h0]), if_neg h]
        have e2 : apC false l cs s = apL false l cs := by unfold apC; rw [if_neg (by simp [h0])]
        have e3 : apS false l cs s seq sum = -1 := by unfold apS; rw [if_neg (by simp [h0]), if_neg h]
        rw [e1, e2, e3]
        exact capNOfalse_spec tag seq sum cs l s hs hl hr hll h0 h
theorem cap_at (tag seq sum : Int) (full : Bool) (cs l : List Card) (s : Int) (hs : -1 ≤ seq) (hl : cs.length ≤ 64) (hr : ∀ c ∈ cs, cardR c = true) (hll : l.length < 900) (H : Heap) : ACalls Try.prog 22 [(.obj 0 0 0 0), (.agg [(.int .i64 2), (.int .i64 5), (.int .i64 0), (.int .i64 0), (.int .i64 tag), (.int .i64 0), (.int .i64 seq), (.str ⟨#[]⟩), (.str ⟨#[]⟩), (.bool full), (.int .u32 sum), (.sl .any 9 (List.map Card.row cs)), (.sl .nil 0 [])])] ((Wo_6 l s) ++ H) ((AV.int .i64 (apE full l cs s sum)), ([⟨0, 2, [[(.sl .any 9 (List.map Card.row (apC full l cs s))), (.int .i64 (apS full l cs s seq sum))]], none⟩] : Heap) ++ H) := (cap_spec tag seq sum full cs l s hs hl hr hll).ext kr kr ob ob kr H
end Go.Proofs.Ytcmfnfkahdconaa.AM

set_option linter.unusedVariables false
set_option linter.unusedSimpArgs false
namespace Go.Proofs.Ytcmfnfkahdconaa.AM
open Go
def kE (e : Entry) : Key := e.card.key
abbrev SrtK (l : List Key) : Prop := List.Pairwise (fun a b : Key => beforeK a b = true) l
abbrev SrtE (l : List Entry) : Prop := SrtK (l.map kE)
end Go.Proofs.Ytcmfnfkahdconaa.AM

set_option linter.unusedVariables false
set_option linter.unusedSimpArgs false
namespace Go.Proofs.Ytcmfnfkahdconaa.AM
open Go
theorem apps_ok : ∀ i, i < 4 → nameB (nth apps i) = true
  | 0, _ => by kernel_rfl
  | 1, _ => by kernel_rfl
  | 2, _ => by kernel_rfl
  | 3, _ => by kernel_rfl
  | _ + 4, h => by omega
theorem ids_ok : ∀ i, i < 5 → nameB (nth idsL i) = true
  | 0, _ => by kernel_rfl
  | 1, _ => by kernel_rfl
  | 2, _ => by kernel_rfl
  | 3, _ => by kernel_rfl
  | 4, _ => by kernel_rfl
  | _ + 5, h => by omega
theorem tape_right (t : Tp) : cardR t.card = true := by
  have h1 := t.next_lt 4 (by omega)
  have h2 := (t.step 4).next_lt 5 (by omega)
  have h3 := t.keyT.next_lt 2 (by omega)
  have h4 := t.c1.next_lt 7 (by omega)
  have h5 := t.c2.next_lt 60 (by omega)
  have h6 := t.c3.next_lt 40 (by omega)
  have h7 := (t.c3.step 40).next_lt 6 (by omega)
  have h8 := ((t.c3.step 40).step 6).next_lt 9 (by omega)
  simp only [cardR, Tp.card, Tp.key, Tp.stamp, stR, apps_ok _ h1, ids_ok _ h2, Bool.and_eq_true, Bool.or_eq_true, true_and]
  refine ⟨?_, ⟨decide_eq_true (by omega), decide_eq_true (by omega)⟩, ⟨decide_eq_true (by omega), decide_eq_true (by omega)⟩, decide_eq_true (by omega), decide_eq_true (by omega), decide_eq_true (by omega), decide_eq_true (by omega)⟩
  rcases Nat.eq_zero_or_pos (t.keyT.next 2) with h | h
  · exact .inl (decide_eq_true (by omega))
  · exact .inr (decide_eq_true (by omega))
theorem cards_right {n : Nat} {t : Tp} {c : Card} (h : c ∈ t.cards n) : cardR c = true := by
  obtain ⟨t', rfl⟩ := Tp.cards_mem n t c h
  exact tape_right t'
theorem stC_inj {l : List Card} (h : List.Pairwise StC l) {a b : Card} (ha : a ∈ l) (hb : b ∈ l) (hk : a.key = b.key) : a = b := by
  obtain ⟨i, hi, rfl⟩ := mem_nth ha
  obtain ⟨j, hj, rfl⟩ := mem_nth hb
  rcases Nat.lt_trichotomy i j with h1 | rfl | h1
  · have := pw_nth.1 h i j h1 hj
    exact absurd hk (bk_ne this)
  · rfl
  · have := pw_nth.1 h j i h1 hi
    exact absurd hk.symm (bk_ne this)
theorem srt_unique {a b : List Card} (hp : List.Perm a b) (ha : List.Pairwise WkC a) (hb : List.Pairwise WkC b) (hi : ∀ x ∈ a, ∀ y ∈ a, x.key = y.key → x = y) : a = b :=
  List.Perm.eq_of_pairwise (le := WkC) (fun x y hx hy h1 h2 => hi x hx y (hp.symm.subset hy) (bk_tri h2 h1)) ha hb hp
end Go.Proofs.Ytcmfnfkahdconaa.AM

set_option linter.unusedVariables false
set_option linter.unusedSimpArgs false
set_option maxRecDepth 100000
namespace Go.Proofs.Ytcmfnfkahdconaa.AM
open Go
attribute [local irreducible] Tp.card Tp.cardT Tp.next Tp.step Tp.cards Tp.cardsT Tp.key Tp.keyT
theorem here_mem {l : List Card} {c : Card} (h : c ∈ seenK l) : c.gone = false := by
  unfold seenK at h
  rw [sortP_sortK] at h
  have h1 := (sortK_perm _).mem_iff.1 h
  unfold hereL at h1
  simpa using (List.mem_filter.1 h1).2
end Go.Proofs.Ytcmfnfkahdconaa.AM

set_option linter.unusedVariables false
set_option linter.unusedSimpArgs false
namespace Go.Proofs.Ytcmfnfkahdconaa.AM
open Go
theorem sortP_st {l : List Card} (h : List.Pairwise StC l) : sortP l = l := by
  rw [sortP_sortK]
  refine srt_unique (sortK_perm l) (sortK_sorted l) (h.imp fun h => bk_asymm h) fun x hx y hy hk => ?_
  exact stC_inj h ((sortK_perm l).subset hx) ((sortK_perm l).subset hy) hk
theorem puts_st : ∀ (l s : List Card), List.Pairwise StC l → (∀ c ∈ l, c.gone = false) → (∀ x ∈ s, ∀ c ∈ l, x.key ≠ c.key) → l.foldl putD s = s ++ l
  | [], s, _, _, _ => by simp
  | c :: l, s, h, hg, hs => by
    rw [List.pairwise_cons] at h
    have h1 : putD s c = s ++ [c] := by
      unfold putD
      rw [hg c (by simp), Bool.not_false, if_pos rfl]
      congr 1
      refine List.filter_eq_self.2 fun x hx => ?_
      have := hs x hx c (by simp)
      rw [Key.eqb_false.2 this]; rfl
    rw [List.foldl_cons, h1, puts_st l (s ++ [c]) h.2 (fun x hx => hg x (by simp [hx])) fun x hx d hd => ?_]
    · simp
    · rw [List.mem_append, List.mem_singleton] at hx
      rcases hx with hx | rfl
      · exact hs x hx d (by simp [hd])
      · exact bk_ne (h.1 d hd)
theorem seen_once (l : List Card) : List.Pairwise StC (seenK (onceK l)) ∧ (∀ c ∈ seenK (onceK l), c.gone = false) ∧ (∀ c ∈ seenK (onceK l), c ∈ l) ∧ seenK (onceK l) = hereL (onceK l) := by
  have h1 : List.Pairwise StC (hereL (onceK l)) := (onceK_sorted l).sublist List.filter_sublist
  have h2 : seenK (onceK l) = hereL (onceK l) := sortP_st h1
  refine ⟨h2 ▸ h1, fun c hc => here_mem hc, fun c hc => ?_, h2⟩
  rw [h2] at hc
  exact onceK_mem ((List.mem_filter.1 hc).1)
theorem full_same (l cs : List Card) : apL true l (seenK (onceK cs)) = seenK (onceK cs) := by
  obtain ⟨h1, h2, _, _⟩ := seen_once cs
  unfold apL
  rw [if_pos rfl, puts_st _ _ h1 h2 (by simp), List.nil_append]
  exact sortP_st h1
theorem full_ok (l cs : List Card) (s : Int) (seq : Int) : apE true l (seenK (onceK cs)) s (ofB (seenK (onceK cs))) = 0 ∧ apC true l (seenK (onceK cs)) s = seenK (onceK cs) ∧ apS true l (seenK (onceK cs)) s seq (ofB (seenK (onceK cs))) = seq := by
  unfold apE apC apS
  rw [full_same]; simp
theorem stale_ok (l cs : List Card) (seq sum : Int) : apE false l cs (-1) sum = 25 ∧ apC false l cs (-1) = l ∧ apS false l cs (-1) seq sum = -1 := by
  unfold apE apC apS; simp
end Go.Proofs.Ytcmfnfkahdconaa.AM

set_option maxRecDepth 100000
set_option linter.unusedVariables false
set_option linter.unusedSimpArgs false
namespace Go.Proofs.Ytcmfnfkahdconaa.AM
open Go Go.Proofs.Ytcmfnfkahdconaa
attribute [local irreducible] ACalls funT codeT codeQ LoopTo
attribute [local irreducible] nameB stR cardR sortP sortK putD ofB apE apC apS apL seenK onceK Tp.cards Tp.cardsT Tp.next Tp.step
def capP_ann : Ann := { refs := [3], base := 1, fin := some 1 }
@[simp] abbrev Wp_o1 (v1_ : List Card) (v2_ : Int) : Ob := ⟨0, 2, [[(AV.sl .any 9 (List.map Card.row v1_)), (AV.int .i64 v2_)]], none⟩
@[simp] abbrev Wp_1 (v1_ : List Card) (v2_ : Int) : Heap := [Wp_o1 v1_ v2_]
set_option maxRecDepth 100000 in
theorem capP_spec (l : List Card) (s : Int)  : ACalls Try.prog 22 [(.obj 0 0 0 0), (.agg [(.int .i64 3), (.int .i64 0), (.int .i64 0), (.int .i64 0), (.int .i64 0), (.int .i64 0), (.int .i64 0), (.str ⟨#[]⟩), (.str ⟨#[]⟩), (.bool false), (.int .u32 0), (.sl .nil 0 []), (.sl .nil 0 [])])] (Wp_1 l s) ((AV.int .i64 1), (Wp_1 l s)) :=
  specO (fn := Try.f22) (ann := capP_ann) (Has.o Try.func22) (.r (.g (.r (.yes (.yes (.yes (.yes (.yes (.yes (.yes (.yes (.yes (.g (.yes (.r (.g (.f 1 (AV.int .i64 1) (.e (AV.int .i64 1)))))))))))))))))))
theorem capP_at (l : List Card) (s : Int)  (H : Heap) : ACalls Try.prog 22 [(.obj 0 0 0 0), (.agg [(.int .i64 3), (.int .i64 0), (.int .i64 0), (.int .i64 0), (.int .i64 0), (.int .i64 0), (.int .i64 0), (.str ⟨#[]⟩), (.str ⟨#[]⟩), (.bool false), (.int .u32 0), (.sl .nil 0 []), (.sl .nil 0 [])])] ((Wp_1 l s) ++ H) ((AV.int .i64 1), (Wp_1 l s) ++ H) := (capP_spec l s ).ext kr kr ob ob kr H
def known21_ann : Ann := { fin := some 0 }
@[simp] abbrev Wp_o2  : Ob := ⟨0, 2, [[(AV.sl .any 9 (List.map Card.row ([] : List Card))), (AV.int .i64 (-1))]], none⟩
@[simp] abbrev Wp_2  : Heap := [Wp_o2]
set_option maxRecDepth 100000 in
theorem known21_spec   : ACalls Try.prog 16 [] ([] : Heap) ((AV.bool true), ([] : Heap)) :=
  specO (fn := Try.f16) (ann := known21_ann) (Has.o Try.func16) (.r (.g (.r (.ch 0 Wp_2 (ACalls.put2 [] ([] : Heap) (AV.obj 0 0 0 0) Wp_2 (cnew_spec  ) (trivial) (⟨rfl, trivial⟩)) (.g (.r (.g (.no (.r (.c 1 (csince_at ([] : List Card) (-1)  ([] : Heap)) (.g (.r (.ch 2 ([⟨0, 2, [[(AV.sl .any 9 (List.map Card.row (apC true ([] : List Card) [] (-1)))), (AV.int .i64 (apS true ([] : List Card) [] (-1) 4 17))]], none⟩] : Heap) (ACalls.pre (args' := [(AV.obj 0 0 0 0), (AV.agg [(AV.int .i64 2), (AV.int .i64 5), (AV.int .i64 0), (AV.int .i64 0), (AV.int .i64 0), (AV.int .i64 0), (AV.int .i64 4), (AV.str ⟨#[]⟩), (AV.str ⟨#[]⟩), (AV.bool true), (AV.int .u32 17), (AV.sl .nil 0 []), (AV.sl .nil 0 [])])]) (cap_at 0 4 17 true [] ([] : List Card) (-1) (by first | omega | (simp; done) | exact Nat.lt_of_le_of_lt (Nat.le_of_eq (by kernel_rfl : _ = 0)) (by decide)) (by first | omega | (simp; done) | exact Nat.lt_of_le_of_lt (Nat.le_of_eq (by kernel_rfl : _ = 0)) (by decide)) (by first | omega | (simp; done) | exact Nat.lt_of_le_of_lt (Nat.le_of_eq (by kernel_rfl : _ = 0)) (by decide)) (by first | omega | (simp; done) | exact Nat.lt_of_le_of_lt (Nat.le_of_eq (by kernel_rfl : _ = 0)) (by decide)) ([] : Heap)) ⟨AV.wk_refl_any _, ⟨AV.wk_refl_any _, AV.wk_refl_any _, AV.wk_refl_any _, AV.wk_refl_any _, AV.wk_refl_any _, AV.wk_refl_any _, AV.wk_refl_any _, AV.wk_refl_any _, AV.wk_refl_any _, AV.wk_refl_any _, AV.wk_refl_any _, ⟨rfl, rfl, .inr rfl⟩, ⟨rfl, rfl, .inl rfl⟩, trivial⟩, trivial⟩) (.g (.r (.c 1 (csince_at (apC true ([] : List Card) [] (-1)) (apS true ([] : List Card) [] (-1) 4 17)  ([] : Heap)) (.g (.r (.ch 2 ([⟨0, 2, [[(AV.sl .any 9 (List.map Card.row (apC false (apC true ([] : List Card) [] (-1)) [] (apS true ([] : List Card) [] (-1) 4 17)))), (AV.int .i64 (apS false (apC true ([] : List Card) [] (-1)) [] (apS true ([] : List Card) [] (-1) 4 17) 5 18))]], none⟩] : Heap) (ACalls.pre (args' := [(AV.obj 0 0 0 0), (AV.agg [(AV.int .i64 2), (AV.int .i64 5), (AV.int .i64 0), (AV.int .i64 0), (AV.int .i64 0), (AV.int .i64 0), (AV.int .i64 5), (AV.str ⟨#[]⟩), (AV.str ⟨#[]⟩), (AV.bool false), (AV.int .u32 18), (AV.sl .nil 0 []), (AV.sl .nil 0 [])])]) (cap_at 0 5 18 false [] (apC true ([] : List Card) [] (-1)) (apS true ([] : List Card) [] (-1) 4 17) (by first | omega | (simp; done) | exact Nat.lt_of_le_of_lt (Nat.le_of_eq (by kernel_rfl : _ = 0)) (by decide)) (by first | omega | (simp; done) | exact Nat.lt_of_le_of_lt (Nat.le_of_eq (by kernel_rfl : _ = 0)) (by decide)) (by first | omega | (simp; done) | exact Nat.lt_of_le_of_lt (Nat.le_of_eq (by kernel_rfl : _ = 0)) (by decide)) (by first | omega | (simp; done) | exact Nat.lt_of_le_of_lt (Nat.le_of_eq (by kernel_rfl : _ = 0)) (by decide)) ([] : Heap)) ⟨AV.wk_refl_any _, ⟨AV.wk_refl_any _, AV.wk_refl_any _, AV.wk_refl_any _, AV.wk_refl_any _, AV.wk_refl_any _, AV.wk_refl_any _, AV.wk_refl_any _, AV.wk_refl_any _, AV.wk_refl_any _, AV.wk_refl_any _, AV.wk_refl_any _, ⟨rfl, rfl, .inr rfl⟩, ⟨rfl, rfl, .inl rfl⟩, trivial⟩, trivial⟩) (.g (.r (.ch 2 ([⟨0, 2, [[(AV.sl .any 9 (List.map Card.row (apC false (apC false (apC true ([] : List Card) [] (-1)) [] (apS true ([] : List Card) [] (-1) 4 17)) [] (apS false (apC true ([] : List Card) [] (-1)) [] (apS true ([] : List Card) [] (-1) 4 17) 5 18)))), (AV.int .i64 (apS false (apC false (apC true ([] : List Card) [] (-1)) [] (apS true ([] : List Card) [] (-1) 4 17)) [] (apS false (apC true ([] : List Card) [] (-1)) [] (apS true ([] : List Card) [] (-1) 4 17) 5 18) 5 17))]], none⟩] : Heap) (ACalls.pre (args' := [(AV.obj 0 0 0 0), (AV.agg [(AV.int .i64 2), (AV.int .i64 5), (AV.int .i64 0), (AV.int .i64 0), (AV.int .i64 0), (AV.int .i64 0), (AV.int .i64 5), (AV.str ⟨#[]⟩), (AV.str ⟨#[]⟩), (AV.bool false), (AV.int .u32 17), (AV.sl .nil 0 []), (AV.sl .nil 0 [])])]) (cap_at 0 5 17 false [] (apC false (apC true ([] : List Card) [] (-1)) [] (apS true ([] : List Card) [] (-1) 4 17)) (apS false (apC true ([] : List Card) [] (-1)) [] (apS true ([] : List Card) [] (-1) 4 17) 5 18) (by first | omega | (simp; done) | exact Nat.lt_of_le_of_lt (Nat.le_of_eq (by kernel_rfl : _ = 0)) (by decide)) (by first | omega | (simp; done) | exact Nat.lt_of_le_of_lt (Nat.le_of_eq (by kernel_rfl : _ = 0)) (by decide)) (by first | omega | (simp; done) | exact Nat.lt_of_le_of_lt (Nat.le_of_eq (by kernel_rfl : _ = 0)) (by decide)) (by first | omega | (simp; done) | exact Nat.lt_of_le_of_lt (Nat.le_of_eq (by kernel_rfl : _ = 0)) (by decide)) ([] : Heap)) ⟨AV.wk_refl_any _, ⟨AV.wk_refl_any _, AV.wk_refl_any _, AV.wk_refl_any _, AV.wk_refl_any _, AV.wk_refl_any _, AV.wk_refl_any _, AV.wk_refl_any _, AV.wk_refl_any _, AV.wk_refl_any _, AV.wk_refl_any _, AV.wk_refl_any _, ⟨rfl, rfl, .inr rfl⟩, ⟨rfl, rfl, .inl rfl⟩, trivial⟩, trivial⟩) (.g (.r (.c 2 (capP_at (apC false (apC false (apC true ([] : List Card) [] (-1)) [] (apS true ([] : List Card) [] (-1) 4 17)) [] (apS false (apC true ([] : List Card) [] (-1)) [] (apS true ([] : List Card) [] (-1) 4 17) 5 18)) (apS false (apC false (apC true ([] : List Card) [] (-1)) [] (apS true ([] : List Card) [] (-1) 4 17)) [] (apS false (apC true ([] : List Card) [] (-1)) [] (apS true ([] : List Card) [] (-1) 4 17) 5 18) 5 17)  ([] : Heap)) (.g (.r (.yes (.yes (.y 4 (AV.bool ((apE true ([] : List Card) [] (-1) 17) == 0)) (AV.bool true) (Yes.bool kr) (.yes (.yes (.y 8 (AV.bool ((apS true ([] : List Card) [] (-1) 4 17) == 4)) (AV.bool true) (Yes.bool kr) (.yes (.yes (.y 12 (AV.bool ((apE false (apC true ([] : List Card) [] (-1)) [] (apS true ([] : List Card) [] (-1) 4 17) 18) == 25)) (AV.bool true) (Yes.bool kr) (.yes (.yes (.c 16 (csince_at (apC false (apC false (apC true ([] : List Card) [] (-1)) [] (apS true ([] : List Card) [] (-1) 4 17)) [] (apS false (apC true ([] : List Card) [] (-1)) [] (apS true ([] : List Card) [] (-1) 4 17) 5 18)) (apS false (apC false (apC true ([] : List Card) [] (-1)) [] (apS true ([] : List Card) [] (-1) 4 17)) [] (apS false (apC true ([] : List Card) [] (-1)) [] (apS true ([] : List Card) [] (-1) 4 17) 5 18) 5 17)  ([] : Heap)) (.yes (.y 17 (AV.bool ((apS false (apC false (apC true ([] : List Card) [] (-1)) [] (apS true ([] : List Card) [] (-1) 4 17)) [] (apS false (apC true ([] : List Card) [] (-1)) [] (apS true ([] : List Card) [] (-1) 4 17) 5 18) 5 17) == (-1))) (AV.bool true) (Yes.bool kr) (.yes (.yes (.y 21 (AV.bool ((apE false (apC false (apC true ([] : List Card) [] (-1)) [] (apS true ([] : List Card) [] (-1) 4 17)) [] (apS false (apC true ([] : List Card) [] (-1)) [] (apS true ([] : List Card) [] (-1) 4 17) 5 18) 17) == 25)) (AV.bool true) (Yes.bool kr) (.yes (.yes (.yes (.yes (.c 29 (ccards_at (apC false (apC false (apC true ([] : List Card) [] (-1)) [] (apS true ([] : List Card) [] (-1) 4 17)) [] (apS false (apC true ([] : List Card) [] (-1)) [] (apS true ([] : List Card) [] (-1) 4 17) 5 18)) (apS false (apC false (apC true ([] : List Card) [] (-1)) [] (apS true ([] : List Card) [] (-1) 4 17)) [] (apS false (apC true ([] : List Card) [] (-1)) [] (apS true ([] : List Card) [] (-1) 4 17) 5 18) 5 17) (Nat.lt_of_le_of_lt (Nat.le_of_eq (by kernel_rfl : _ = 0)) (by decide)) ([] : Heap)) (.yes (.y 30 (.int .i64 ((List.length (List.map Card.row (sortP (apC false (apC false (apC true ([] : List Card) [] (-1)) [] (apS true ([] : List Card) [] (-1) 4 17)) [] (apS false (apC true ([] : List Card) [] (-1)) [] (apS true ([] : List Card) [] (-1) 4 17) 5 18)))) : Nat) : Int)) (AV.int .i64 (((sortP (apC false (apC false (apC true ([] : List Card) [] (-1)) [] (apS true ([] : List Card) [] (-1) 4 17)) [] (apS false (apC true ([] : List Card) [] (-1)) [] (apS true ([] : List Card) [] (-1) 4 17) 5 18))).length : Nat) : Int)) (Yes.len _ _ _) (.yes (.y 31 (AV.bool ((((sortP (apC false (apC false (apC true ([] : List Card) [] (-1)) [] (apS true ([] : List Card) [] (-1) 4 17)) [] (apS false (apC true ([] : List Card) [] (-1)) [] (apS true ([] : List Card) [] (-1) 4 17) 5 18))).length : Nat) : Int) == 0)) (AV.bool true) (Yes.bool kr) (.g (.h' ([] : Heap) (.f 0 (AV.bool true) (.e (AV.bool true))))))))))))))))))))))))))))))))))))))))))))))))))))))))))
theorem known21_at   (H : Heap) : ACalls Try.prog 16 [] H ((AV.bool true), H) := (known21_spec  ).lift kr kr H
theorem cf_ok (t : Tp) (l : List Card) (s seq : Int) :
    (∀ c ∈ (seenK (onceK ((t.step (9 + 1)).cards (t.next (9 + 1))))), cardR c = true) ∧ (seenK (onceK ((t.step (9 + 1)).cards (t.next (9 + 1))))).length ≤ 9 ∧ (onceK ((t.step (9 + 1)).cards (t.next (9 + 1)))).length ≤ 9 ∧ (apC true l (seenK (onceK ((t.step (9 + 1)).cards (t.next (9 + 1))))) s) = (seenK (onceK ((t.step (9 + 1)).cards (t.next (9 + 1))))) ∧ (apC false (apC true l (seenK (onceK ((t.step (9 + 1)).cards (t.next (9 + 1))))) s) (seenK (onceK ((t.step (9 + 1)).cards (t.next (9 + 1))))) (-1)) = (seenK (onceK ((t.step (9 + 1)).cards (t.next (9 + 1))))) ∧ sortP (seenK (onceK ((t.step (9 + 1)).cards (t.next (9 + 1))))) = (seenK (onceK ((t.step (9 + 1)).cards (t.next (9 + 1))))) ∧ (apE true l (seenK (onceK ((t.step (9 + 1)).cards (t.next (9 + 1))))) s (ofB (seenK (onceK ((t.step (9 + 1)).cards (t.next (9 + 1))))))) = 0 ∧ (apS true l (seenK (onceK ((t.step (9 + 1)).cards (t.next (9 + 1))))) s seq (ofB (seenK (onceK ((t.step (9 + 1)).cards (t.next (9 + 1))))))) = seq ∧
    apE false (seenK (onceK ((t.step (9 + 1)).cards (t.next (9 + 1))))) (seenK (onceK ((t.step (9 + 1)).cards (t.next (9 + 1))))) (-1) (ofB (seenK (onceK ((t.step (9 + 1)).cards (t.next (9 + 1)))))) = 25 ∧ ((t.step (9 + 1)).cards (t.next (9 + 1))).length ≤ 9 ∧ ((t.step (9 + 1)).cardsT (t.next (9 + 1))).l = t.l := by
  have h0 := t.next_lt (9 + 1) ow
  have h1 := seen_once ((t.step (9 + 1)).cards (t.next (9 + 1)))
  have h2 := seenK_len (onceK ((t.step (9 + 1)).cards (t.next (9 + 1))))
  have h3 := onceK_len ((t.step (9 + 1)).cards (t.next (9 + 1)))
  have h4 : ((t.step (9 + 1)).cards (t.next (9 + 1))).length = t.next (9 + 1) := Tp.cards_len _ _
  obtain ⟨f1, f2, f3⟩ := full_ok l ((t.step (9 + 1)).cards (t.next (9 + 1))) s seq
  refine ⟨fun c hc => cards_right (h1.2.2.1 c hc), by omega, by omega, f2, ?_, sortP_st h1.1, f1, f3, (stale_ok _ _ 0 _).1, by omega, by rw [Tp.cardsT_l, Tp.step_l]⟩
  rw [(stale_ok _ _ 0 0).2.1, f2]
def cf_ann : Ann := { gha := [(8, .cut 2)], fin := some 0, live := [(7, [5, 6, 7, 8])], out := [(7, [5, 6, 7, 8])] }
@[simp] abbrev Wp_o3 (v1_ : Tp) : Ob := ⟨0, 2, [(Tp.row ((v1_.step (9 + 1)).cardsT (v1_.next (9 + 1))))], none⟩
@[simp] abbrev Wp_o4 (v1_ : List Card) (v2_ : Tp) (v3_ : Int) (v4_ : Nat) : Ob := ⟨0, 2, [[(AV.sl .any 9 (List.map Card.row (apC false (apC true v1_ (seenK (onceK (v2_.step (9 + 1) |>.cards (v2_.next (9 + 1))))) v3_) (seenK (onceK (v2_.step (9 + 1) |>.cards (v2_.next (9 + 1))))) (-1)))), (AV.int .i64 (apS false (apC true v1_ (seenK (onceK (v2_.step (9 + 1) |>.cards (v2_.next (9 + 1))))) v3_) (seenK (onceK (v2_.step (9 + 1) |>.cards (v2_.next (9 + 1))))) (-1) ((v4_ : Nat) : Int) (ofB (seenK (onceK (v2_.step (9 + 1) |>.cards (v2_.next (9 + 1))))))))]], none⟩
@[simp] abbrev Wp_3 (v1_ : Tp) (v2_ : List Card) (v3_ : Int) (v4_ : Nat) : Heap := [Wp_o3 v1_, Wp_o4 v2_ v1_ v3_ v4_]
@[simp] abbrev Wp_4 (v1_ : Nat) (v2_ : Nat) : Fr := (mkF 69 [(5, (AV.obj 0 0 0 0)), (6, (AV.obj 1 0 0 0)), (7, (AV.int .i64 ((v1_ : Nat) : Int))), (8, (AV.int .i64 ((v2_ : Nat) : Int)))])
@[simp] abbrev Wp_5 (v1_ : Tp) (v2_ : List Card) (v3_ : Int) : Heap := [⟨0, 2, [(Tp.row v1_)], none⟩, Wp_o1 v2_ v3_]
@[simp] abbrev Wp_6 (v1_ : Tp) (v2_ : List Card) (v3_ : Int) : Heap := [Wp_o3 v1_, Wp_o1 v2_ v3_]
@[simp] abbrev Wp_o5 (v1_ : Nat) (v2_ : Tp) : Ob := ⟨0, 13, [[(AV.int .i64 2), (AV.int .i64 5), (AV.int .i64 0), (AV.int .i64 0), (AV.int .i64 0), (AV.int .i64 0), (AV.int .i64 ((v1_ : Nat) : Int)), (AV.str ⟨#[]⟩), (AV.str ⟨#[]⟩), (AV.bool true), (AV.int .u32 (ofB (seenK (onceK (v2_.step (9 + 1) |>.cards (v2_.next (9 + 1))))))), (AV.sl .any 9 (List.map Card.row (seenK (onceK (v2_.step (9 + 1) |>.cards (v2_.next (9 + 1))))))), (AV.sl .nil 0 [])]], none⟩
@[simp] abbrev Wp_7 (v1_ : Tp) (v2_ : List Card) (v3_ : Int) (v4_ : Nat) : Heap := [Wp_o3 v1_, ⟨0, 2, [[(AV.sl .any 9 (List.map Card.row (apC true v2_ (seenK (onceK (v1_.step (9 + 1) |>.cards (v1_.next (9 + 1))))) v3_))), (AV.int .i64 (apS true v2_ (seenK (onceK (v1_.step (9 + 1) |>.cards (v1_.next (9 + 1))))) v3_ ((v4_ : Nat) : Int) (ofB (seenK (onceK (v1_.step (9 + 1) |>.cards (v1_.next (9 + 1))))))))]], none⟩, Wp_o5 v4_ v1_]
@[simp] abbrev Wp_o6 (v1_ : List Card) (v2_ : Tp) (v3_ : Int) : Ob := ⟨0, 2, [[(AV.sl .any 9 (List.map Card.row (apC true v1_ (seenK (onceK (v2_.step (9 + 1) |>.cards (v2_.next (9 + 1))))) v3_))), (AV.int .i64 (-1))]], none⟩
@[simp] abbrev Wp_8 (v1_ : Tp) (v2_ : List Card) (v3_ : Int) (v4_ : Nat) : Heap := [Wp_o3 v1_, Wp_o6 v2_ v1_ v3_, Wp_o5 v4_ v1_]
@[simp] abbrev Wp_o7 (v1_ : Nat) (v2_ : Tp) : Ob := ⟨0, 13, [[(AV.int .i64 2), (AV.int .i64 5), (AV.int .i64 0), (AV.int .i64 0), (AV.int .i64 0), (AV.int .i64 0), (AV.int .i64 ((v1_ : Nat) : Int)), (AV.str ⟨#[]⟩), (AV.str ⟨#[]⟩), (AV.bool false), (AV.int .u32 (ofB (seenK (onceK (v2_.step (9 + 1) |>.cards (v2_.next (9 + 1))))))), (AV.sl .any 9 (List.map Card.row (seenK (onceK (v2_.step (9 + 1) |>.cards (v2_.next (9 + 1))))))), (AV.sl .nil 0 [])]], none⟩
@[simp] abbrev Wp_9 (v1_ : Tp) (v2_ : List Card) (v3_ : Int) (v4_ : Nat) : Heap := [Wp_o3 v1_, Wp_o6 v2_ v1_ v3_, Wp_o7 v4_ v1_]
@[simp] abbrev Wp_10 (v1_ : Tp) (v2_ : List Card) (v3_ : Int) (v4_ : Nat) : Heap := [Wp_o3 v1_, Wp_o4 v2_ v1_ v3_ v4_, Wp_o7 v4_ v1_]
set_option maxRecDepth 100000 in
theorem cf_step (nn : Nat) (t : Tp) (l : List Card) (s : Int) (i : Nat) (hnn : nn < 65536) (ht : t.l.length < 9223372036854775808) (hl : l.length < 100) (hle_ : i ≤ 5) {eX : Ex} {FX : Fr} {HX : Heap} (k1 : (decide (((i : Nat) : Int) < 5)) = true → LoopTo (codeQ Try.prog (X cf_ann) (loopOf Try.f4 0)) (some [5, 6, 7, 8]) (some [5, 6, 7, 8]) (mkF 69 [(5, (.obj 0 0 0 0)), (6, (.obj 1 0 0 0)), (7, (.int .i64 ((nn : Nat) : Int))), (8, (.int .i64 ((i + 1 : Nat) : Int)))]) (Wp_3 t l s nn) eX FX HX) (k2 : (decide (((i : Nat) : Int) < 5)) = false → ((.exit 0 : Ex), (Wp_4 nn i), (Wp_5 t l s)) = (eX, FX, HX)) : LoopTo (codeQ Try.prog (X cf_ann) (loopOf Try.f4 0)) (some [5, 6, 7, 8]) (some [5, 6, 7, 8]) (Wp_4 nn i) (Wp_5 t l s) eX FX HX := by
  obtain ⟨e1, e2, e3, e4, e5, e6, e7, e8, e9, e10, e11⟩ := cf_ok t l s ((nn : Nat) : Int)
  exact stepO (.r (.g (.two (decide (((i : Nat) : Int) < 5)) (fun h1 h1' => (.r (.ch 1 (Wp_6 t l s) (ACalls.pre (args' := [(AV.obj 0 0 0 0), (AV.int .i64 9)]) (cards_at t 9 (by first | omega | assumption | (simp; done) | (simp; omega) | (rw [Tp.cards_len]; omega) | (rw [e4]; omega) | (rw [e5]; omega)) (by first | omega | assumption | (simp; done) | (simp; omega) | (rw [Tp.cards_len]; omega) | (rw [e4]; omega) | (rw [e5]; omega)) (Wp_1 l s)) ⟨AV.wk_refl_any _, AV.wk_refl_any _, trivial⟩) (.c 2 (once_at (t.step (9 + 1) |>.cards (t.next (9 + 1))) (by first | omega | assumption | (simp; done) | (simp; omega) | (rw [Tp.cards_len]; omega) | (rw [e4]; omega) | (rw [e5]; omega)) (Wp_6 t l s)) (.c 3 (rseen_at (onceK (t.step (9 + 1) |>.cards (t.next (9 + 1)))) (by first | omega | assumption | (simp; done) | (simp; omega) | (rw [Tp.cards_len]; omega) | (rw [e4]; omega) | (rw [e5]; omega)) (Wp_6 t l s)) (.g (.r (.c 2 (rseal_at (seenK (onceK (t.step (9 + 1) |>.cards (t.next (9 + 1))))) (by first | omega | assumption | (simp; done) | (simp; omega) | (rw [Tp.cards_len]; omega) | (rw [e4]; omega) | (rw [e5]; omega)) ([⟨0, 2, [(Tp.row ((t.step (9 + 1)).cardsT (t.next (9 + 1))))], none⟩, ⟨0, 2, [[(AV.sl .any 9 (List.map Card.row l)), (AV.int .i64 s)]], none⟩, ⟨0, 13, [[(AV.int .i64 0), (AV.int .i64 0), (AV.int .i64 0), (AV.int .i64 0), (AV.int .i64 0), (AV.int .i64 0), (AV.int .i64 0), (AV.str ⟨#[]⟩), (AV.str ⟨#[]⟩), (AV.bool false), (AV.int .u32 0), (AV.sl .nil 0 []), (AV.sl .nil 0 [])]], none⟩] : Heap)) (.g (.r (.ch 2 (Wp_7 t l s nn) (ACalls.pre (args' := [(AV.obj 1 0 0 0), (AV.agg [(AV.int .i64 2), (AV.int .i64 5), (AV.int .i64 0), (AV.int .i64 0), (AV.int .i64 0), (AV.int .i64 0), (AV.int .i64 ((nn : Nat) : Int)), (AV.str ⟨#[]⟩), (AV.str ⟨#[]⟩), (AV.bool true), (AV.int .u32 (ofB (seenK (onceK (t.step (9 + 1) |>.cards (t.next (9 + 1))))))), (AV.sl .any 9 (List.map Card.row (seenK (onceK (t.step (9 + 1) |>.cards (t.next (9 + 1))))))), (AV.sl .nil 0 [])])]) (ACalls.put2 [1] ([⟨0, 2, [(Tp.row ((t.step (9 + 1)).cardsT (t.next (9 + 1))))], none⟩, ⟨0, 2, [[(AV.sl .any 9 (List.map Card.row l)), (AV.int .i64 s)]], none⟩, ⟨0, 13, [[(AV.int .i64 2), (AV.int .i64 5), (AV.int .i64 0), (AV.int .i64 0), (AV.int .i64 0), (AV.int .i64 0), (AV.int .i64 ((nn : Nat) : Int)), (AV.str ⟨#[]⟩), (AV.str ⟨#[]⟩), (AV.bool true), (AV.int .u32 (ofB (seenK (onceK (t.step (9 + 1) |>.cards (t.next (9 + 1))))))), (AV.sl .any 9 (List.map Card.row (seenK (onceK (t.step (9 + 1) |>.cards (t.next (9 + 1))))))), (AV.sl .nil 0 [])]], none⟩] : Heap) (AV.int .i64 (apE true l (seenK (onceK (t.step (9 + 1) |>.cards (t.next (9 + 1))))) s (ofB (seenK (onceK (t.step (9 + 1) |>.cards (t.next (9 + 1)))))))) (Wp_7 t l s nn) (cap_spec 0 ((nn : Nat) : Int) (ofB (seenK (onceK (t.step (9 + 1) |>.cards (t.next (9 + 1)))))) true (seenK (onceK (t.step (9 + 1) |>.cards (t.next (9 + 1))))) l s (by first | omega | assumption | (simp; done) | (simp; omega) | (rw [Tp.cards_len]; omega) | (rw [e4]; omega) | (rw [e5]; omega)) (by first | omega | assumption | (simp; done) | (simp; omega) | (rw [Tp.cards_len]; omega) | (rw [e4]; omega) | (rw [e5]; omega)) (by first | omega | assumption | (simp; done) | (simp; omega) | (rw [Tp.cards_len]; omega) | (rw [e4]; omega) | (rw [e5]; omega)) (by first | omega | assumption | (simp; done) | (simp; omega) | (rw [Tp.cards_len]; omega) | (rw [e4]; omega) | (rw [e5]; omega))) (⟨rfl, trivial⟩) (⟨rfl, trivial⟩)) ⟨AV.wk_refl_any _, ⟨AV.wk_refl_any _, AV.wk_refl_any _, AV.wk_refl_any _, AV.wk_refl_any _, AV.wk_refl_any _, AV.wk_refl_any _, AV.wk_refl_any _, AV.wk_refl_any _, AV.wk_refl_any _, AV.wk_refl_any _, AV.wk_refl_any _, ⟨rfl, rfl, .inl rfl⟩, ⟨rfl, rfl, .inl rfl⟩, trivial⟩, trivial⟩) (.y 3 (AV.bool ((apE true l (seenK (onceK (t.step (9 + 1) |>.cards (t.next (9 + 1))))) s (ofB (seenK (onceK (t.step (9 + 1) |>.cards (t.next (9 + 1))))))) != 0)) (AV.bool false) (Yes.bool (by simp only [e4, e5, e6, e7, e8, e9]; rfl)) (.no (.no (.c 6 (ACalls.pre (args' := [(AV.obj 1 0 0 0)]) (ACalls.put2 [1] (Wp_7 t l s nn) (AV.int .i64 (apS true l (seenK (onceK (t.step (9 + 1) |>.cards (t.next (9 + 1))))) s ((nn : Nat) : Int) (ofB (seenK (onceK (t.step (9 + 1) |>.cards (t.next (9 + 1)))))))) (Wp_7 t l s nn) (csince_spec (apC true l (seenK (onceK (t.step (9 + 1) |>.cards (t.next (9 + 1))))) s) (apS true l (seenK (onceK (t.step (9 + 1) |>.cards (t.next (9 + 1))))) s ((nn : Nat) : Int) (ofB (seenK (onceK (t.step (9 + 1) |>.cards (t.next (9 + 1))))))) ) (⟨rfl, trivial⟩) (⟨rfl, trivial⟩)) ⟨AV.wk_refl_any _, trivial⟩) (.no (.no (.y 8 (AV.bool ((apS true l (seenK (onceK (t.step (9 + 1) |>.cards (t.next (9 + 1))))) s ((nn : Nat) : Int) (ofB (seenK (onceK (t.step (9 + 1) |>.cards (t.next (9 + 1))))))) != ((nn : Nat) : Int))) (AV.bool false) (Yes.bool (by simp only [e4, e5, e6, e7, e8, e9]; simp)) (.no (.no (.c 12 (ACalls.pre (args' := [(AV.obj 1 0 0 0)]) (ACalls.put2 [1] (Wp_7 t l s nn) (AV.sl .any 9 (List.map Card.row (sortP (apC true l (seenK (onceK (t.step (9 + 1) |>.cards (t.next (9 + 1))))) s)))) (Wp_7 t l s nn) (ccards_spec (apC true l (seenK (onceK (t.step (9 + 1) |>.cards (t.next (9 + 1))))) s) (apS true l (seenK (onceK (t.step (9 + 1) |>.cards (t.next (9 + 1))))) s ((nn : Nat) : Int) (ofB (seenK (onceK (t.step (9 + 1) |>.cards (t.next (9 + 1))))))) (by first | omega | assumption | (simp; done) | (simp; omega) | (rw [Tp.cards_len]; omega) | (rw [e4]; omega) | (rw [e5]; omega))) (⟨rfl, trivial⟩) (⟨rfl, trivial⟩)) ⟨AV.wk_refl_any _, trivial⟩) (.no (.no (.c 14 (sameC_at (sortP (apC true l (seenK (onceK (t.step (9 + 1) |>.cards (t.next (9 + 1))))) s)) (seenK (onceK (t.step (9 + 1) |>.cards (t.next (9 + 1))))) (by rw [e4, e6]; omega) (by rw [e4, e6]) (Wp_7 t l s nn)) (.no (.g (.no (.r (.ch 1 (Wp_8 t l s nn) (ACalls.pre (args' := [(AV.obj 1 0 0 0)]) (ACalls.put2 [1] (Wp_7 t l s nn) (AV.tup []) (Wp_8 t l s nn) (cforget_spec (apC true l (seenK (onceK (t.step (9 + 1) |>.cards (t.next (9 + 1))))) s) (apS true l (seenK (onceK (t.step (9 + 1) |>.cards (t.next (9 + 1))))) s ((nn : Nat) : Int) (ofB (seenK (onceK (t.step (9 + 1) |>.cards (t.next (9 + 1))))))) ) (⟨rfl, trivial⟩) (⟨rfl, trivial⟩)) ⟨AV.wk_refl_any _, trivial⟩) (.g (.r (.g (.r (.c 1 (ACalls.pre (args' := [(AV.obj 1 0 0 0)]) (ACalls.put2 [1] (Wp_9 t l s nn) (AV.int .i64 (-1)) (Wp_9 t l s nn) (csince_spec (apC true l (seenK (onceK (t.step (9 + 1) |>.cards (t.next (9 + 1))))) s) (-1) ) (⟨rfl, trivial⟩) (⟨rfl, trivial⟩)) ⟨AV.wk_refl_any _, trivial⟩) (.no (.no (.no (.ch 6 (Wp_10 t l s nn) (ACalls.pre (args' := [(AV.obj 1 0 0 0), (AV.agg [(AV.int .i64 2), (AV.int .i64 5), (AV.int .i64 0), (AV.int .i64 0), (AV.int .i64 0), (AV.int .i64 0), (AV.int .i64 ((nn : Nat) : Int)), (AV.str ⟨#[]⟩), (AV.str ⟨#[]⟩), (AV.bool false), (AV.int .u32 (ofB (seenK (onceK (t.step (9 + 1) |>.cards (t.next (9 + 1))))))), (AV.sl .any 9 (List.map Card.row (seenK (onceK (t.step (9 + 1) |>.cards (t.next (9 + 1))))))), (AV.sl .nil 0 [])])]) (ACalls.put2 [1] (Wp_9 t l s nn) (AV.int .i64 (apE false (apC true l (seenK (onceK (t.step (9 + 1) |>.cards (t.next (9 + 1))))) s) (seenK (onceK (t.step (9 + 1) |>.cards (t.next (9 + 1))))) (-1) (ofB (seenK (onceK (t.step (9 + 1) |>.cards (t.next (9 + 1)))))))) (Wp_10 t l s nn) (cap_spec 0 ((nn : Nat) : Int) (ofB (seenK (onceK (t.step (9 + 1) |>.cards (t.next (9 + 1)))))) false (seenK (onceK (t.step (9 + 1) |>.cards (t.next (9 + 1))))) (apC true l (seenK (onceK (t.step (9 + 1) |>.cards (t.next (9 + 1))))) s) (-1) (by first | omega | assumption | (simp; done) | (simp; omega) | (rw [Tp.cards_len]; omega) | (rw [e4]; omega) | (rw [e5]; omega)) (by first | omega | assumption | (simp; done) | (simp; omega) | (rw [Tp.cards_len]; omega) | (rw [e4]; omega) | (rw [e5]; omega)) (by first | omega | assumption | (simp; done) | (simp; omega) | (rw [Tp.cards_len]; omega) | (rw [e4]; omega) | (rw [e5]; omega)) (by first | omega | assumption | (simp; done) | (simp; omega) | (rw [Tp.cards_len]; omega) | (rw [e4]; omega) | (rw [e5]; omega))) (⟨rfl, trivial⟩) (⟨rfl, trivial⟩)) ⟨AV.wk_refl_any _, ⟨AV.wk_refl_any _, AV.wk_refl_any _, AV.wk_refl_any _, AV.wk_refl_any _, AV.wk_refl_any _, AV.wk_refl_any _, AV.wk_refl_any _, AV.wk_refl_any _, AV.wk_refl_any _, AV.wk_refl_any _, AV.wk_refl_any _, ⟨rfl, rfl, .inl rfl⟩, ⟨rfl, rfl, .inl rfl⟩, trivial⟩, trivial⟩) (.no (.y 7 (AV.bool ((apE false (apC true l (seenK (onceK (t.step (9 + 1) |>.cards (t.next (9 + 1))))) s) (seenK (onceK (t.step (9 + 1) |>.cards (t.next (9 + 1))))) (-1) (ofB (seenK (onceK (t.step (9 + 1) |>.cards (t.next (9 + 1))))))) != 25)) (AV.bool false) (Yes.bool (by simp only [e4, e5, e6, e7, e8, e9]; rfl)) (.no (.no (.c 11 (ACalls.pre (args' := [(AV.obj 1 0 0 0)]) (ACalls.put2 [1] (Wp_10 t l s nn) (AV.sl .any 9 (List.map Card.row (sortP (apC false (apC true l (seenK (onceK (t.step (9 + 1) |>.cards (t.next (9 + 1))))) s) (seenK (onceK (t.step (9 + 1) |>.cards (t.next (9 + 1))))) (-1))))) (Wp_10 t l s nn) (ccards_spec (apC false (apC true l (seenK (onceK (t.step (9 + 1) |>.cards (t.next (9 + 1))))) s) (seenK (onceK (t.step (9 + 1) |>.cards (t.next (9 + 1))))) (-1)) (apS false (apC true l (seenK (onceK (t.step (9 + 1) |>.cards (t.next (9 + 1))))) s) (seenK (onceK (t.step (9 + 1) |>.cards (t.next (9 + 1))))) (-1) ((nn : Nat) : Int) (ofB (seenK (onceK (t.step (9 + 1) |>.cards (t.next (9 + 1))))))) (by rw [e5]; omega)) (⟨rfl, trivial⟩) (⟨rfl, trivial⟩)) ⟨AV.wk_refl_any _, trivial⟩) (.no (.no (.c 13 (sameC_at (sortP (apC false (apC true l (seenK (onceK (t.step (9 + 1) |>.cards (t.next (9 + 1))))) s) (seenK (onceK (t.step (9 + 1) |>.cards (t.next (9 + 1))))) (-1))) (seenK (onceK (t.step (9 + 1) |>.cards (t.next (9 + 1))))) (by rw [e5, e6]; omega) (by rw [e5, e6]) (Wp_10 t l s nn)) (.no (.g (.no (.r (.y 1 (.int .i64 (IntKind.i64.wrap (((i : Nat) : Int) + 1))) (AV.int .i64 ((i + 1 : Nat) : Int)) (Yes.add ow ow ow) (.h' (Wp_3 t l s nn) (.b 2 (.g (.l (k1 h1)))))))))))))))))))))))))))))))))))))))))))))))))))))))) (fun h1 h1' => (.l (k2 h1))))))
def cf_f (nn : Nat) (i : Nat) (s : Tp × (List Card) × Int) : Tp × (List Card) × Int := (((s.1.step (9 + 1)).cardsT (s.1.next (9 + 1))), (apC false (apC true s.2.1 (seenK (onceK (s.1.step (9 + 1) |>.cards (s.1.next (9 + 1))))) s.2.2) (seenK (onceK (s.1.step (9 + 1) |>.cards (s.1.next (9 + 1))))) (-1)), (apS false (apC true s.2.1 (seenK (onceK (s.1.step (9 + 1) |>.cards (s.1.next (9 + 1))))) s.2.2) (seenK (onceK (s.1.step (9 + 1) |>.cards (s.1.next (9 + 1))))) (-1) ((nn : Nat) : Int) (ofB (seenK (onceK (s.1.step (9 + 1) |>.cards (s.1.next (9 + 1))))))))
theorem cf_loop (nn : Nat) (hnn : nn < 65536)  (r_ : Nat) : ∀ (t : Tp) (l : List Card) (s : Int) (i : Nat) (sF : Tp × (List Card) × Int), i + r_ = 5 → t.l.length < 9223372036854775808 → l.length < 100 → sF = iter (cf_f nn) r_ i (t, l, s) →
    LoopTo (codeQ Try.prog (X cf_ann) (loopOf Try.f4 0)) (some [5, 6, 7, 8]) (some [5, 6, 7, 8]) (Wp_4 nn i) (Wp_5 t l s) (.exit 0) (mkF 69 [(5, (.obj 0 0 0 0)), (6, (.obj 1 0 0 0)), (7, (.int .i64 ((nn : Nat) : Int))), (8, (.int .i64 ((5 : Nat) : Int)))]) ([⟨0, 2, [(Tp.row sF.1)], none⟩, ⟨0, 2, [[(.sl .any 9 (List.map Card.row sF.2.1)), (.int .i64 sF.2.2)]], none⟩] : Heap) := by
  induction r_ with
  | zero =>
    intro t l s i sF hi_ ht hl  hF
    obtain rfl : 5 = i := by omega
    have e_ : sF = (t, l, s) := hF
    refine cf_step nn t l s 5 hnn ht hl (Nat.le_refl _) (fun h => by simp at h <;> omega) (fun _ => ?_)
    first | done | rfl | (rw [e_]; done) | (rw [e_]; rfl)
  | succ r_ ih =>
    intro t l s i sF hi_ ht hl  hF
    refine cf_step nn t l s i hnn ht hl ow (fun h1 => ?_) (fun h => by simp at h <;> omega)
    · exact ih ((t.step (9 + 1)).cardsT (t.next (9 + 1))) (apC false (apC true l (seenK (onceK (t.step (9 + 1) |>.cards (t.next (9 + 1))))) s) (seenK (onceK (t.step (9 + 1) |>.cards (t.next (9 + 1))))) (-1)) (apS false (apC true l (seenK (onceK (t.step (9 + 1) |>.cards (t.next (9 + 1))))) s) (seenK (onceK (t.step (9 + 1) |>.cards (t.next (9 + 1))))) (-1) ((nn : Nat) : Int) (ofB (seenK (onceK (t.step (9 + 1) |>.cards (t.next (9 + 1))))))) (i + 1) sF ow (by obtain ⟨e1, e2, e3, e4, e5, e6, e7, e8, e9, e10, e11⟩ := cf_ok t l s ((nn : Nat) : Int); (try rw [e11]); (try rw [e5]); first | omega | assumption | (simp; done) | (simp; omega) | (simp [*]; done) | (simp [*]; omega)) (by obtain ⟨e1, e2, e3, e4, e5, e6, e7, e8, e9, e10, e11⟩ := cf_ok t l s ((nn : Nat) : Int); (try rw [e11]); (try rw [e5]); first | omega | assumption | (simp; done) | (simp; omega) | (simp [*]; done) | (simp [*]; omega))  (by rw [hF] <;> simp only [iter, cf_f, if_true, Bool.false_eq_true, if_false])
def cfF (nn : Nat) (tape : List Int) : Tp × List Card × Int := iter (cf_f nn) 5 0 (⟨tape, 0⟩, [], -1)
attribute [local irreducible] cfF
@[simp] abbrev Wp_11 (v1_ : List Int) : Heap := [⟨0, 2, [[(AV.sl .any 1 (List.map rI64 v1_)), (AV.int .i64 0)]], none⟩, Wp_o2]
@[simp] abbrev Wp_12 (v1_ : Int) : Fr := (mkF 69 [(5, (AV.obj 0 0 0 0)), (6, (AV.obj 1 0 0 0)), (7, (AV.int .i64 (((maskN v1_ 65535) : Nat) : Int))), (8, (AV.int .i64 5))])
@[simp] abbrev Wp_13 (v1_ : Int) (v2_ : List Int) : Heap := [⟨0, 2, [(Tp.row (cfF (maskN v1_ 65535) v2_).1)], none⟩, ⟨0, 2, [[(AV.sl .any 9 (List.map Card.row (cfF (maskN v1_ 65535) v2_).2.1)), (AV.int .i64 (cfF (maskN v1_ 65535) v2_).2.2)]], none⟩]
set_option maxRecDepth 100000 in
theorem cfull_spec (tape : List Int) (seq : Int) (hl : tape.length < 9223372036854775808) : ACalls Try.prog 4 [(.sl .any 1 (List.map rI64 tape)), (.int .i64 seq)] ([] : Heap) ((AV.bool true), ([] : Heap)) := by
  have hk := maskN_le seq 65535 ow
  exact specO (fn := Try.f4) (ann := cf_ann) (Has.o Try.func4) (.r (.g (.r (.g (.r (.ch 0 (Wp_11 tape) (ACalls.put2 [] ([⟨0, 2, [[(.sl .any 1 (List.map rI64 tape)), (.int .i64 0)]], none⟩] : Heap) (AV.obj 1 0 0 0) (Wp_11 tape) (cnew_spec  ) (trivial) (⟨rfl, trivial⟩)) (.g (.r (.g (.no (.r (.y 1 (.int .i64 (IntKind.i64.wrap ((BitVec.ofInt 64 seq &&& BitVec.ofInt 64 65535).toNat))) (AV.int .i64 ((maskN seq 65535 : Nat) : Int)) (Yes.mask (m := 65535) ow) (.g (.r (.g (.loop (Wp_12 seq) (show LoopTo (codeQ Try.prog (X cf_ann) (loopOf Try.f4 0)) (some [5, 6, 7, 8]) (some [5, 6, 7, 8]) (mkF 69 [(5, (.obj 0 0 0 0)), (6, (.obj 1 0 0 0)), (7, (.int .i64 ((maskN seq 65535 : Nat) : Int))), (8, (.int .i64 0))]) (Wp_11 tape) (.exit 0) (Wp_12 seq) (Wp_13 seq tape) from (cf_loop (maskN seq 65535) ow 5 (⟨tape, 0⟩ : Tp) [] (-1) 0 (cfF (maskN seq 65535) tape) ow hl (by simp) (by with_unfolding_all rfl))) (.r (.c 0 (known21_at   (Wp_13 seq tape)) (.g (.h' ([] : Heap) (.f 0 (AV.bool true) (.e (AV.bool true)))))))))))))))))))))))
end Go.Proofs.Ytcmfnfkahdconaa.AM

set_option linter.unusedVariables false
set_option linter.unusedSimpArgs false
namespace Go.Proofs.Ytcmfnfkahdconaa.AM
open Go Go.RowKit
theorem Ev.below {G G' : Nat → Prop} {w w' : World} {C' : Cx} (h : Ev G w Cx.none G' w' C') : Below w.heap.size w w' :=
  ⟨h.os, h.tape, h.output, h.size, fun b hb => h.rest b hb fun id l hl => by simp [Cx.none] at hl⟩
def IsInts (w : World) (a : Option Addr) (len cap : Nat) (zs : List Int) : Prop :=
  (a = none ∧ len = 0 ∧ cap = 0 ∧ zs = []) ∨ ∃ x, a = some x ∧ len ≤ cap ∧ cap ≤ maxLen ∧ zs.length = cap ∧ ∀ i, i < zs.length → w.cell? (x.add i) = some (.int .i64 (zs.getD i 0))
theorem cell?_lt {w : World} {a : Addr} {v : Value} (h : w.cell? a = some v) : a.block < w.heap.size := by
  unfold World.cell? at h
  rcases Nat.lt_or_ge a.block w.heap.size with h' | h'
  · exact h'
  · rw [Array.getElem?_eq_none (by omega)] at h; simp at h
theorem cell?_plain {w : World} {a : Addr} {v : Value} (h : w.cell? a = some v) : a.spot = none := by
  unfold World.cell? at h
  split at h
  · split at h
    · simp at h
    · rename_i hs; simpa using hs
  · simp at h
theorem IsInts.rel {w : World} {a : Option Addr} {len cap : Nat} {zs : List Int} (h : IsInts w a len cap zs) : VR (fun b => b < w.heap.size) w Cx.none (.sl .any 1 ((zs.take len).map rI64)) (.slice a len cap) ∧ (zs.take len).length < 9223372036854775808 := by
  rcases h with ⟨rfl, rfl, rfl, rfl⟩ | ⟨x, rfl, hl, hm, hz, hc⟩
  · exact ⟨.nils _ _ _ (by simp), by simp⟩
  · have hm' : cap ≤ 9223372036854775807 := by simpa [maxLen] using hm
    have hlen : ((zs.take len).map rI64).length = len := by simp; omega
    refine ⟨?_, by simp; omega⟩
    have key := VR.sl (G := fun b => b < w.heap.size) (w := w) Cx.none .any ((zs.take len).map rI64) 1 x cap (by simp) (by simp) (by omega) (fun hne => ?_) (fun i _ => .int .i64 (zs.getD i 0)) (fun i hi => ?_) (fun i j hi hj => ?_) (fun _ _ _ _ => rfl) fun i j hi hj => ?_
    · rwa [hlen] at key
    · have h0 : 0 < zs.length := by
        rcases Nat.eq_zero_or_pos zs.length with h | h
        · have : zs = [] := List.eq_nil_of_length_eq_zero h
          subst this; simp at hne
        · exact h
      have := hc 0 h0
      simp only [Addr.add, if_true] at this
      exact ⟨cell?_plain this, cell?_lt this⟩
    · have : ((zs.take len).map rI64)[i]? = some (rI64 ((zs.take len)[i]'(by rw [hlen] at hi; simp; omega))) := by
        rw [List.getElem?_map, List.getElem?_eq_getElem (by rw [hlen] at hi; simp; omega)]; rfl
      rw [List.getD_eq_getElem?_getD, this]; rfl
    · obtain rfl : j = 0 := by omega
      have h0 : 0 < zs.length := by omega
      have hsp := cell?_plain (hc 0 h0)
      simp only [Addr.add, if_true] at hsp
      have := hc i (by omega)
      obtain ⟨xb, xo, xs⟩ := x
      simp only at hsp
      subst hsp
      rw [add_addr] at this
      simpa using this
    · obtain rfl : j = 0 := by omega
      have hi' : i < zs.length := by omega
      have : ((zs.take len).map rI64).getD i [] = [.int .i64 (zs.getD i 0)] := by
        simp [List.getD_eq_getElem?_getD, List.getElem?_take, show i < len by omega, hi', rI64]
      rw [this]
      exact .int ..
theorem ACalls.yes {P : Program} {f : FuncId} {fn : Func} (hf : Has P f fn) {args : List AV} {H' : Heap} (h : ACalls P f args [] (.bool true, H')) {vs : Array Value} {w : World} (hsz : vs.size = args.length)
    (hargs : ∀ i, i < args.length → VR (fun b => b < w.heap.size) w Cx.none (args.getD i .skip) (vs.getD i undef)) :
    Calls P f vs w fun e w' => e = .returned (.bool true) ∧ Below w.heap.size w w' :=
  Calls.mono (h.calls hf hsz hargs (fun b hb => hb)) fun e w' ⟨v, G', C', he, h1, h2⟩ => by
    cases h2
    exact ⟨he, h1.below⟩
end Go.Proofs.Ytcmfnfkahdconaa.AM
