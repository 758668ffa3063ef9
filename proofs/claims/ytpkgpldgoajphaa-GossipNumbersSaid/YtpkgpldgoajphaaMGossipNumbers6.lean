/-
  Texts of this claim, part 6 of 7: an abstract machine over the model; what functions come to; plain laws.
-/
import Derived.Test.YtpkgpldgoajphaaMGossipNumbers5
set_option linter.unusedVariables false
set_option linter.unusedSimpArgs false
set_option linter.unusedSectionVars false
namespace Go.Proofs.Ytpkgpldgoajphaa.AM
open Go

section
variable {α : Type} [Inhabited α]
theorem sink_shift (cmp : α → α → Int) (X : List α) (j : Nat) : ∀ (l : List α), j < l.length → sink cmp X.length (X.length + j) (X ++ l) = X ++ sink cmp 0 j l := by
  induction j with
  | zero =>
    intro l hl
    have h1 : sink cmp X.length X.length (X ++ l) = X ++ l := by
      cases h : X.length with
      | zero => simp only [sink]
      | succ q => simp only [sink]; rw [if_neg]; simp
    simpa [sink] using h1
  | succ j ih =>
    intro l hl
    have e1 : nth (X ++ l) (X.length + j + 1) = nth l (j + 1) := by rw [nth_appM, if_neg (by omega)]; congr 1; omega
    have e2 : nth (X ++ l) (X.length + j) = nth l j := by rw [nth_appM, if_neg (by omega)]; congr 1; omega
    have L : sink cmp X.length (X.length + (j + 1)) (X ++ l) = if decide (cmp (nth (X ++ l) (X.length + j + 1)) (nth (X ++ l) (X.length + j)) < 0) = true then sink cmp X.length (X.length + j) (((X ++ l).set (X.length + j + 1) (nth (X ++ l) (X.length + j))).set (X.length + j) (nth (X ++ l) (X.length + j + 1))) else X ++ l := by
      rw [← Nat.add_assoc]; simp only [sink]; rw [if_pos (by simp; omega)]
    have R : sink cmp 0 (j + 1) l = if decide (cmp (nth l (j + 1)) (nth l j) < 0) = true then sink cmp 0 j ((l.set (j + 1) (nth l j)).set j (nth l (j + 1))) else l := by
      simp only [sink]; rw [if_pos (by simp)]
    rw [L, R, e1, e2]
    split
    · have e3 : ((X ++ l).set (X.length + j + 1) (nth l j)).set (X.length + j) (nth l (j + 1)) = X ++ (l.set (j + 1) (nth l j)).set j (nth l (j + 1)) := by
        rw [List.set_append_right _ _ (by omega), List.set_append_right _ _ (by omega)]
        congr 2
        · congr 1; omega
        · omega
      rw [e3]
      exact ih _ (by simpa using (by omega : j < l.length))
    · rfl
theorem insSort_shift (cmp : α → α → Int) (X : List α) (k : Nat) : ∀ (i : Nat) (l : List α), i + k ≤ l.length → insSort cmp X.length k (X.length + i) (X ++ l) = X ++ insSort cmp 0 k i l := by
  induction k with
  | zero => intro i l _; simp only [insSort]
  | succ k ih =>
    intro i l h
    simp only [insSort]
    rw [sink_shift cmp X i l (by omega)]
    exact ih (i + 1) _ (by rw [sink_len]; omega)
theorem insSort_mid (cmp : α → α → Int) (Y : List α) (rest : List α) : ∀ (S : List α), insSort cmp 0 rest.length S.length (S ++ (rest ++ Y)) = rest.foldl (insG fun a b => decide (cmp a b < 0)) S ++ Y := by
  induction rest with
  | nil => intro S; simp only [List.length_nil, insSort, List.nil_append, List.foldl_nil]
  | cons x rest ih =>
    intro S
    simp only [List.length_cons, insSort, List.foldl_cons]
    have h1 := sink_ins cmp S.length (S ++ (x :: rest ++ Y)) (by simp)
    have e1 : (S ++ (x :: rest ++ Y)).take S.length = S := by rw [List.take_append_of_le_length (Nat.le_refl _), List.take_length]
    have e2 : nth (S ++ (x :: rest ++ Y)) S.length = x := by rw [nth_appM, if_neg (by omega), Nat.sub_self]; rfl
    have e3 : (S ++ (x :: rest ++ Y)).drop (S.length + 1) = rest ++ Y := by
      rw [← List.drop_drop, List.drop_append_of_le_length (Nat.le_refl _), List.drop_length]; rfl
    rw [e1, e2, e3] at h1
    rw [h1]
    have := ih (insG (fun a b => decide (cmp a b < 0)) S x)
    rw [insG_len] at this
    exact this
theorem insSort_part (cmp : α → α → Int) (X M Y : List α) {a b : Nat} (ha : a = X.length) (hb : b = a + M.length) : insSort cmp a (b - (a + 1)) (a + 1) (X ++ (M ++ Y)) = X ++ (sortG (fun a b => decide (cmp a b < 0)) M ++ Y) := by
  subst ha hb
  cases M with
  | nil => rw [show X.length + ([] : List α).length - (X.length + 1) = 0 by simp]; simp only [insSort]; rfl
  | cons x M =>
    rw [show X.length + (x :: M).length - (X.length + 1) = M.length by simp; omega, insSort_shift cmp X M.length 1 (x :: M ++ Y) (by simp; omega)]
    have := insSort_mid cmp Y M [x]
    simp only [List.length_singleton, List.singleton_append] at this
    rw [show x :: M ++ Y = x :: (M ++ Y) from rfl, this]
    have e : sortG (fun a b => decide (cmp a b < 0)) (x :: M) = M.foldl (insG fun a b => decide (cmp a b < 0)) [x] := by
      unfold sortG
      rw [List.foldl_cons]
      congr 1
    rw [e]
/-- K blocks of bs rows, each sorted, and what is behind them. -/
def blk (lt : α → α → Bool) (bs : Nat) : Nat → List α → List α
  | 0, l => l
  | K + 1, l => sortG lt (l.take bs) ++ blk lt bs K (l.drop bs)
theorem sortG_len (lt : α → α → Bool) (l : List α) : (sortG lt l).length = l.length := (sortG_perm lt l).length_eq
theorem blk_nil (lt : α → α → Bool) (bs K : Nat) : blk lt bs K ([] : List α) = [] := by
  induction K with
  | zero => rfl
  | succ K ih => simp only [blk, List.take_nil, List.drop_nil]; rw [ih]; rfl
theorem blk_len (lt : α → α → Bool) (bs K : Nat) : ∀ (l : List α), (blk lt bs K l).length = l.length := by
  induction K with
  | zero => intro l; rfl
  | succ K ih => intro l; simp only [blk, List.length_append]; rw [sortG_len, ih, List.length_take, List.length_drop]; omega
theorem blk_next (lt : α → α → Bool) (bs K : Nat) : ∀ (l : List α), K * bs ≤ l.length → ∃ X, X.length = K * bs ∧ blk lt bs K l = X ++ l.drop (K * bs) ∧ ∀ (D : Nat), blk lt bs (K + D) l = X ++ blk lt bs D (l.drop (K * bs)) := by
  induction K with
  | zero => intro l h; exact ⟨[], by simp, by simp [blk], fun D => by simp⟩
  | succ K ih =>
    intro l h
    rw [Nat.succ_mul] at h
    obtain ⟨X, h1, h2, h3⟩ := ih (l.drop bs) (by simp; omega)
    refine ⟨sortG lt (l.take bs) ++ X, by rw [List.length_append, sortG_len, h1, Nat.succ_mul]; simp; omega, ?_, fun D => ?_⟩
    · simp only [blk]
      rw [h2, List.drop_drop, List.append_assoc, Nat.succ_mul, Nat.add_comm bs]
    · rw [show K + 1 + D = (K + D) + 1 by omega]
      simp only [blk]
      rw [h3, List.drop_drop, List.append_assoc, Nat.succ_mul, Nat.add_comm bs]
theorem blk_more (lt : α → α → Bool) (bs D : Nat) (K : Nat) : ∀ (l : List α), l.length ≤ K * bs → blk lt bs (K + D) l = blk lt bs K l := by
  induction K with
  | zero => intro l h; obtain rfl : l = [] := List.eq_nil_of_length_eq_zero (by omega); rw [blk_nil, blk_nil]
  | succ K ih =>
    intro l h
    rw [Nat.succ_mul] at h
    rw [show K + 1 + D = (K + D) + 1 by omega]
    simp only [blk]
    rw [ih _ (by simp; omega)]
/-- All blocks. -/
def allB (lt : α → α → Bool) (bs : Nat) (l : List α) : List α := blk lt bs (l.length + 1) l
theorem allB_of (lt : α → α → Bool) {bs K : Nat} (hb : 0 < bs) {l : List α} (h : l.length ≤ K * bs) : blk lt bs K l = allB lt bs l := by
  unfold allB
  have h2 : l.length ≤ (l.length + 1) * bs := Nat.le_trans (Nat.le_succ _) (Nat.le_mul_of_pos_right _ hb)
  rcases Nat.le_total K (l.length + 1) with h1 | h1
  · obtain ⟨D, hD⟩ := Nat.le.dest h1
    rw [← hD, blk_more lt bs D K l h]
  · obtain ⟨D, hD⟩ := Nat.le.dest h1
    rw [← hD, blk_more lt bs D _ l h2]
theorem allB_one (lt : α → α → Bool) {bs : Nat} {l : List α} (h : l.length ≤ bs) (hb : 0 < bs) : allB lt bs l = sortG lt l := by
  rw [← allB_of lt (K := 1) hb (by omega)]
  simp only [blk]
  rw [List.take_of_length_le h, List.drop_of_length_le h, List.append_nil]
theorem allB_step (lt : α → α → Bool) {bs : Nat} (hb : 0 < bs) (l : List α) : allB lt bs l = sortG lt (l.take bs) ++ allB lt bs (l.drop bs) := by
  have h2 : ∀ q : Nat, q ≤ (q + 1) * bs := fun q => Nat.le_trans (Nat.le_succ _) (Nat.le_mul_of_pos_right _ hb)
  rw [← allB_of lt (K := (l.length + 1) + 1) hb (Nat.le_trans (h2 _) (Nat.mul_le_mul_right _ (Nat.le_succ _)))]
  have e : blk lt bs (l.length + 1 + 1) l = sortG lt (l.take bs) ++ blk lt bs (l.length + 1) (l.drop bs) := rfl
  rw [e, allB_of lt hb (Nat.le_trans (by simp) (h2 l.length))]
theorem allB_len (lt : α → α → Bool) (bs : Nat) (l : List α) : (allB lt bs l).length = l.length := blk_len lt bs _ l
/-- J blocks of twice bs rows, and blocks of bs rows behind them. -/
def mix (lt : α → α → Bool) (bs : Nat) : Nat → List α → List α
  | 0, l => allB lt bs l
  | J + 1, l => sortG lt (l.take (2 * bs)) ++ mix lt bs J (l.drop (2 * bs))
theorem mix_next (lt : α → α → Bool) {bs : Nat} (hb : 0 < bs) (J : Nat) : ∀ (l : List α), J * (2 * bs) ≤ l.length → ∃ X, X.length = J * (2 * bs) ∧ mix lt bs J l = X ++ allB lt bs (l.drop (J * (2 * bs))) ∧ mix lt bs (J + 1) l = X ++ (sortG lt ((l.drop (J * (2 * bs))).take (2 * bs)) ++ allB lt bs ((l.drop (J * (2 * bs))).drop (2 * bs))) ∧ ∀ D, blk lt (2 * bs) (J + D) l = X ++ blk lt (2 * bs) D (l.drop (J * (2 * bs))) := by
  induction J with
  | zero => intro l h; exact ⟨[], by simp, by simp [mix], by simp [mix], fun D => by simp⟩
  | succ J ih =>
    intro l h
    rw [Nat.succ_mul] at h
    obtain ⟨X, h1, h2, h3, h4⟩ := ih (l.drop (2 * bs)) (by simp; omega)
    have hmul : (J + 1) * (2 * bs) = J * (2 * bs) + 2 * bs := Nat.succ_mul _ _
    have hd0 : (l.drop (2 * bs)).drop (J * (2 * bs)) = l.drop ((J + 1) * (2 * bs)) := by rw [List.drop_drop, hmul, Nat.add_comm]
    refine ⟨sortG lt (l.take (2 * bs)) ++ X, by rw [List.length_append, sortG_len, h1, hmul, List.length_take]; omega, ?_, ?_, fun D => ?_⟩
    · rw [mix, h2, hd0, List.append_assoc]
    · rw [mix, h3, hd0, List.append_assoc]
    · rw [show J + 1 + D = (J + D) + 1 by omega]
      simp only [blk]
      rw [h4, hd0, List.append_assoc]
theorem mix_len (lt : α → α → Bool) (bs J : Nat) : ∀ (l : List α), (mix lt bs J l).length = l.length := by
  induction J with
  | zero => intro l; exact allB_len lt bs l
  | succ J ih => intro l; simp only [mix, List.length_append]; rw [sortG_len, ih, List.length_take, List.length_drop]; omega
variable {lt : α → α → Bool}
/-- Two blocks that lie one behind the other are merged. -/
theorem mix_merge (W : Weak lt) {bs J : Nat} (hb : 0 < bs) {l : List α} {a b : Nat} (ha : a = J * (2 * bs)) (hbe : b = a + 2 * bs) (hn : b ≤ l.length) :
    mAt lt a (a + bs) b (mix lt bs J l) = mix lt bs (J + 1) l ∧ Srt lt (((mix lt bs J l).drop a).take (a + bs - a)) ∧ Srt lt (((mix lt bs J l).drop (a + bs)).take (b - (a + bs))) := by
  obtain ⟨X, h1, h2, h3, _⟩ := mix_next lt hb J l (by omega)
  rw [← ha] at h1 h2 h3
  rw [h2, h3, allB_step lt hb, allB_step lt hb ((l.drop a).drop bs)]
  have l1 : (sortG lt ((l.drop a).take bs)).length = bs := by rw [sortG_len]; simp; omega
  have l2 : (sortG lt (((l.drop a).drop bs).take bs)).length = bs := by rw [sortG_len]; simp; omega
  refine ⟨?_, ?_, ?_⟩
  · rw [mAt_parts lt X _ _ _ h1.symm (by omega) (by omega), ← sortG_app W]
    have e : (l.drop a).take bs ++ ((l.drop a).drop bs).take bs = (l.drop a).take (2 * bs) := by
      rw [show 2 * bs = bs + bs by omega, List.take_add]
    rw [e, List.drop_drop, show bs + bs = 2 * bs by omega]
  · rw [piece X _ _ h1.symm (by omega)]; exact sortG_sorted W _
  · have := piece (X ++ sortG lt ((l.drop a).take bs)) (sortG lt (((l.drop a).drop bs).take bs)) (allB lt bs (((l.drop a).drop bs).drop bs)) (a := a + bs) (k := b - (a + bs)) (by simp [l1, h1]) (by omega)
    rw [List.append_assoc] at this
    rw [this]; exact sortG_sorted W _
/-- The last blocks, behind those of twice the size. -/
theorem mix_last (W : Weak lt) {bs J : Nat} (hb : 0 < bs) {l : List α} {a n : Nat} (ha : a = J * (2 * bs)) (hn : n = l.length) (han : a ≤ n) (hlt : n < a + 2 * bs) :
    (a + bs < n → mAt lt a (a + bs) n (mix lt bs J l) = allB lt (2 * bs) l ∧ Srt lt (((mix lt bs J l).drop a).take (a + bs - a)) ∧ Srt lt (((mix lt bs J l).drop (a + bs)).take (n - (a + bs)))) ∧ (n ≤ a + bs → mix lt bs J l = allB lt (2 * bs) l) := by
  obtain ⟨X, h1, h2, _, h4⟩ := mix_next lt hb J l (by omega)
  rw [← ha] at h1 h2
  have h5 := h4 1
  rw [allB_of lt (by omega) (by rw [Nat.succ_mul]; omega), ← ha] at h5
  simp only [blk] at h5
  rw [List.take_of_length_le (by simp; omega), List.drop_of_length_le (i := 2 * bs) (by simp; omega), List.append_nil] at h5
  rw [h2, h5]
  refine ⟨fun h => ?_, fun h => ?_⟩
  · rw [allB_step lt hb, allB_one lt (l := (l.drop a).drop bs) (by simp; omega) hb]
    have l1 : (sortG lt ((l.drop a).take bs)).length = bs := by rw [sortG_len]; simp; omega
    have l2 : (sortG lt ((l.drop a).drop bs)).length = n - (a + bs) := by rw [sortG_len]; simp; omega
    refine ⟨?_, ?_, ?_⟩
    · have := mAt_parts lt X (sortG lt ((l.drop a).take bs)) (sortG lt ((l.drop a).drop bs)) [] (a := a) (m := a + bs) (b := n) h1.symm (by omega) (by omega)
      rw [List.append_nil, List.append_nil] at this
      rw [this, ← sortG_app W, List.take_append_drop]
    · rw [piece X _ _ h1.symm (by omega)]; exact sortG_sorted W _
    · have := piece (X ++ sortG lt ((l.drop a).take bs)) (sortG lt ((l.drop a).drop bs)) [] (a := a + bs) (k := n - (a + bs)) (by simp [l1, h1]) (by omega)
      rw [List.append_assoc, List.append_nil] at this
      rw [this]; exact sortG_sorted W _
  · rw [allB_one lt (by simp; omega) hb]
end
end Go.Proofs.Ytpkgpldgoajphaa.AM

set_option linter.unusedVariables false
set_option linter.unusedSimpArgs false
set_option linter.unusedSectionVars false
namespace Go.Proofs.Ytpkgpldgoajphaa.AM
open Go
section
variable {α : Type} [Inhabited α]
theorem st_block (cmp : α → α → Int) {l : List α} {j a b : Nat} (ha : a = j * 20) (hb : b = a + 20) (hn : b ≤ l.length) : insSort cmp a (b - (a + 1)) (a + 1) (blk (ltF cmp) 20 j l) = blk (ltF cmp) 20 (j + 1) l := by
  obtain ⟨X, h1, h2, h3⟩ := blk_next (ltF cmp) 20 j l (by omega)
  have h4 : blk (ltF cmp) 20 1 (l.drop (j * 20)) = sortG (ltF cmp) ((l.drop (j * 20)).take 20) ++ (l.drop (j * 20)).drop 20 := by simp only [blk]
  rw [h2, h3 1, h4, ← ha]
  have := insSort_part cmp X ((l.drop a).take 20) ((l.drop a).drop 20) (a := a) (b := b) (by omega) (by simp; omega)
  rw [List.take_append_drop] at this
  exact this
theorem st_tail (cmp : α → α → Int) {l : List α} {j a n : Nat} (ha : a = j * 20) (hn : n = l.length) (han : a ≤ n) (hlt : n < a + 20) : insSort cmp a (n - (a + 1)) (a + 1) (blk (ltF cmp) 20 j l) = allB (ltF cmp) 20 l := by
  obtain ⟨X, h1, h2, h3⟩ := blk_next (ltF cmp) 20 j l (by omega)
  have h4 : blk (ltF cmp) 20 1 (l.drop (j * 20)) = sortG (ltF cmp) ((l.drop (j * 20)).take 20) ++ (l.drop (j * 20)).drop 20 := by simp only [blk]
  rw [← allB_of (ltF cmp) (bs := 20) (K := j + 1) (by omega) (by omega), h2, h3 1, h4, ← ha]
  have := insSort_part cmp X (l.drop a) [] (a := a) (b := n) (by omega) (by simp; omega)
  rw [List.append_nil, List.append_nil] at this
  rw [this, List.take_of_length_le (by simp; omega), List.drop_of_length_le (i := 20) (by simp; omega), List.append_nil]
  rfl
end
end Go.Proofs.Ytpkgpldgoajphaa.AM

set_option maxRecDepth 100000
set_option linter.unusedVariables false
set_option linter.unusedSimpArgs false
namespace Go.Proofs.Ytpkgpldgoajphaa.AM
open Go Go.Proofs.Ytpkgpldgoajphaa
attribute [local irreducible] ACalls funT codeT codeQ LoopTo
attribute [local irreducible] Tp.card Tp.cardT Tp.next Tp.step Tp.cards Tp.cardsT Tp.key Tp.keyT sink insSort sortK insK posK beforeK onceStep sortP lastS lastK cmpK
attribute [local irreducible] mgL mg mAt blk allB mix sortG
theorem sCm_spec (cmp : Card → Card → Int) (f : Nat) (xs : List AV) (a p b n g : Nat) (l : List Card) (hc : ∀ (x y : Card) (H : Heap), ACalls Try.prog f ([AV.agg (Card.row x), AV.agg (Card.row y)] ++ xs) H (AV.int .i64 (cmp x y), H)) (hxs : AV.bdds 1 xs = true) (W : Weak (ltF cmp)) (h1 : n = l.length) (h2 : n < 1048576) (h3 : a < p) (h4 : p < b) (h5 : b ≤ n) (h7 : Srt (ltF cmp) ((l.drop a).take (p - a))) (h8 : Srt (ltF cmp) ((l.drop p).take (b - p))) : ACalls Try.prog 140 [(AV.osl 0 g 9 0 n), (AV.int .i64 ((a : Nat) : Int)), (AV.int .i64 ((p : Nat) : Int)), (AV.int .i64 ((b : Nat) : Int)), (AV.func f xs)] ([⟨g, 9, (List.map Card.row l), none⟩] : Heap) ((AV.tup []), ([⟨g, 9, (List.map Card.row (mAt (ltF cmp) a p b l)), none⟩] : Heap)) := sC_all cmp f xs hc hxs W (b - a + 1) a p b n g l h1 h2 h3 h4 h5 (by omega) h7 h8
theorem sCm_at (cmp : Card → Card → Int) (f : Nat) (xs : List AV) (a p b n g : Nat) (l : List Card) (hc : ∀ (x y : Card) (H : Heap), ACalls Try.prog f ([AV.agg (Card.row x), AV.agg (Card.row y)] ++ xs) H (AV.int .i64 (cmp x y), H)) (hxs : AV.bdds 1 xs = true) (W : Weak (ltF cmp)) (h1 : n = l.length) (h2 : n < 1048576) (h3 : a < p) (h4 : p < b) (h5 : b ≤ n) (h7 : Srt (ltF cmp) ((l.drop a).take (p - a))) (h8 : Srt (ltF cmp) ((l.drop p).take (b - p))) (H : Heap) : ACalls Try.prog 140 [(AV.osl 0 g 9 0 n), (AV.int .i64 ((a : Nat) : Int)), (AV.int .i64 ((p : Nat) : Int)), (AV.int .i64 ((b : Nat) : Int)), (AV.func f xs)] (([⟨g, 9, (List.map Card.row l), none⟩] : Heap) ++ H) ((AV.tup []), ([⟨g, 9, (List.map Card.row (mAt (ltF cmp) a p b l)), none⟩] : Heap) ++ H) := (sCm_spec cmp f xs a p b n g l hc hxs W h1 h2 h3 h4 h5 h7 h8).ext (by simp [AV.bdds, AV.bdd, *]) (by kernel_rfl) (by first | (simp [obsB, AV.bddss, AV.bdds, AV.bdd]; done) | (simp [obsB, AV.bddss, AV.bdds, AV.bdd, -List.map_append]; done) | simp [obsB, AV.bddss, AV.bdds, AV.bdd, -List.map_append, -List.map_set, -List.map_take, -List.map_drop, -List.map_cons, -List.map_map]) (by first | (simp [obsB, AV.bddss, AV.bdds, AV.bdd]; done) | (simp [obsB, AV.bddss, AV.bdds, AV.bdd, -List.map_append]; done) | simp [obsB, AV.bddss, AV.bdds, AV.bdd, -List.map_append, -List.map_set, -List.map_take, -List.map_drop, -List.map_cons, -List.map_map]) (by kernel_rfl) H
def sCst_ann : Ann := { base := 1, fin := some 1, live := [(2, [0, 1, 2, 6, 7, 8]), (7, [0, 1, 2, 6]), (9, [0, 1, 2, 6, 7, 8])], out := [(2, [0, 1, 2, 6, 7]), (7, []), (9, [0, 1, 2, 6, 7])] }
set_option maxRecDepth 100000 in
theorem sCstb_step (cmp : Card → Card → Int) (f : Nat) (xs : List AV) (a b n g : Nat) (l : List Card) (hc : ∀ (x y : Card) (H : Heap), ACalls Try.prog f ([AV.agg (Card.row x), AV.agg (Card.row y)] ++ xs) H (AV.int .i64 (cmp x y), H)) (hxs : AV.bdds 1 xs = true) (W : Weak (ltF cmp)) (hn : n = l.length) (hnb : n < 524288) (hb : b = a + 20) (han : a ≤ n) {eX : Ex} {FX : Fr} {HX : Heap} (k1 : (decide (((b : Nat) : Int) ≤ ((n : Nat) : Int))) = true → LoopTo (codeQ Try.prog (X sCst_ann) (loopOf Try.f134 0)) (some [0, 1, 2, 6, 7, 8]) (some [0, 1, 2, 6, 7]) (mkF 63 [(0, (AV.osl 0 g 9 0 n)), (1, (AV.int .i64 ((n : Nat) : Int))), (2, (AV.func f xs)), (6, (AV.int .i64 20)), (7, (AV.int .i64 ((b : Nat) : Int))), (8, (AV.int .i64 ((b + 20 : Nat) : Int)))]) ([⟨g, 9, (List.map Card.row (insSort cmp a (b - (a + 1)) (a + 1) l)), none⟩] : Heap) eX FX HX) (k2 : (decide (((b : Nat) : Int) ≤ ((n : Nat) : Int))) = false → ((.exit 0 : Ex), (mkF 63 [(0, (AV.osl 0 g 9 0 n)), (1, (AV.int .i64 ((n : Nat) : Int))), (2, (AV.func f xs)), (6, (AV.int .i64 20)), (7, (AV.int .i64 ((a : Nat) : Int)))]), ([⟨g, 9, (List.map Card.row l), none⟩] : Heap)) = (eX, FX, HX)) : LoopTo (codeQ Try.prog (X sCst_ann) (loopOf Try.f134 0)) (some [0, 1, 2, 6, 7, 8]) (some [0, 1, 2, 6, 7]) (mkF 63 [(0, (AV.osl 0 g 9 0 n)), (1, (AV.int .i64 ((n : Nat) : Int))), (2, (AV.func f xs)), (6, (AV.int .i64 20)), (7, (AV.int .i64 ((a : Nat) : Int))), (8, (AV.int .i64 ((b : Nat) : Int)))]) ([⟨g, 9, (List.map Card.row l), none⟩] : Heap) eX FX HX := by
  refine LoopTo.step (.reg [] [] [] (.two (.reg [(4, ((AV.tup []), ([⟨g, 9, (List.map Card.row (insSort cmp a (b - (a + 1)) (a + 1) l)), none⟩] : Heap)))] [] [] (.reg [] [] [] (.reg [(2, ((AV.int .i64 ((b + 20 : Nat) : Int)), ([⟨g, 9, (List.map Card.row (insSort cmp a (b - (a + 1)) (a + 1) l)), none⟩] : Heap)))] [] [] .nil))) .nil)) ?_
  refine Eq.mp (by kernel_rfl : (cond (decide (((b : Nat) : Int) ≤ ((n : Nat) : Int))) ((ACalls Try.prog 139 [(AV.osl 0 g 9 0 n), (AV.int .i64 ((a : Nat) : Int)), (AV.int .i64 ((b : Nat) : Int)), (AV.func f xs)] ([⟨g, 9, (List.map Card.row l), none⟩] : Heap) ((AV.tup []), ([⟨g, 9, (List.map Card.row (insSort cmp a (b - (a + 1)) (a + 1) l)), none⟩] : Heap))) ∧ (Yes (.int .i64 (IntKind.i64.wrap (((b : Nat) : Int) + 20))) ([⟨g, 9, (List.map Card.row (insSort cmp a (b - (a + 1)) (a + 1) l)), none⟩] : Heap) (AV.int .i64 ((b + 20 : Nat) : Int))) ∧ LoopTo (codeQ Try.prog (X sCst_ann) (loopOf Try.f134 0)) (some [0, 1, 2, 6, 7, 8]) (some [0, 1, 2, 6, 7]) (mkF 63 [(0, (AV.osl 0 g 9 0 n)), (1, (AV.int .i64 ((n : Nat) : Int))), (2, (AV.func f xs)), (6, (AV.int .i64 20)), (7, (AV.int .i64 ((b : Nat) : Int))), (8, (AV.int .i64 ((b + 20 : Nat) : Int)))]) ([⟨g, 9, (List.map Card.row (insSort cmp a (b - (a + 1)) (a + 1) l)), none⟩] : Heap) eX FX HX) (((.exit 0 : Ex), (mkF 63 [(0, (AV.osl 0 g 9 0 n)), (1, (AV.int .i64 ((n : Nat) : Int))), (2, (AV.func f xs)), (6, (AV.int .i64 20)), (7, (AV.int .i64 ((a : Nat) : Int)))]), ([⟨g, 9, (List.map Card.row l), none⟩] : Heap)) = (eX, FX, HX))) = _) ?_
  refine cond_split (fun h1 => ?_) (fun h1 => ?_)
  · have h1' := h1
    try simp at h1'
    refine And.intro (insC_at _ f xs a b n g l (by first | exact hc | exact hxs | exact W | omega | (simp; omega)) (by first | exact hc | exact hxs | exact W | omega | (simp; omega)) (by first | exact hc | exact hxs | exact W | omega | (simp; omega)) (by first | exact hc | exact hxs | exact W | omega | (simp; omega)) (by first | exact hc | exact hxs | exact W | omega | (simp; omega)) (by first | exact hc | exact hxs | exact W | omega | (simp; omega)) ([] : Heap)) ?_
    refine And.intro (Yes.add (by omega) (by omega) (by omega)) ?_
    exact k1 h1
  · have h1' := h1
    try simp at h1'
    exact k2 h1
theorem sCstb_loop (cmp : Card → Card → Int) (f : Nat) (xs : List AV) (hc : ∀ (x y : Card) (H : Heap), ACalls Try.prog f ([AV.agg (Card.row x), AV.agg (Card.row y)] ++ xs) H (AV.int .i64 (cmp x y), H)) (hxs : AV.bdds 1 xs = true) (W : Weak (ltF cmp)) (n g : Nat) (l0 : List Card) (hn : n = l0.length) (hnb : n < 524288) (r : Nat) : ∀ (j a b : Nat) (l : List Card), j + r = n / 20 → a = j * 20 → b = a + 20 → l = blk (ltF cmp) 20 j l0 →
    LoopTo (codeQ Try.prog (X sCst_ann) (loopOf Try.f134 0)) (some [0, 1, 2, 6, 7, 8]) (some [0, 1, 2, 6, 7]) (mkF 63 [(0, (AV.osl 0 g 9 0 n)), (1, (AV.int .i64 ((n : Nat) : Int))), (2, (AV.func f xs)), (6, (AV.int .i64 20)), (7, (AV.int .i64 ((a : Nat) : Int))), (8, (AV.int .i64 ((b : Nat) : Int)))]) ([⟨g, 9, (List.map Card.row l), none⟩] : Heap) (.exit 0) (mkF 63 [(0, (AV.osl 0 g 9 0 n)), (1, (AV.int .i64 ((n : Nat) : Int))), (2, (AV.func f xs)), (6, (AV.int .i64 20)), (7, (AV.int .i64 (((n / 20 * 20) : Nat) : Int)))]) ([⟨g, 9, (List.map Card.row (blk (ltF cmp) 20 (n / 20) l0)), none⟩] : Heap) := by
  induction r with
  | zero =>
    intro j a b l hj ha hb hl
    subst hl
    refine sCstb_step cmp f xs a b n g _ hc hxs W (by rw [blk_len]; exact hn) hnb hb (by omega) (fun h => by simp at h; omega) (fun _ => ?_)
    rw [show n / 20 = j by omega, ← ha]
  | succ r ih =>
    intro j a b l hj ha hb hl
    subst hl
    refine sCstb_step cmp f xs a b n g _ hc hxs W (by rw [blk_len]; exact hn) hnb hb (by omega) (fun h => ?_) (fun h => by simp at h; omega)
    rw [st_block cmp ha hb (by omega)]
    exact ih (j + 1) b (b + 20) _ (by omega) (by omega) rfl rfl
set_option maxRecDepth 100000 in
theorem sCstm_step (cmp : Card → Card → Int) (f : Nat) (xs : List AV) (bs a b n g : Nat) (l : List Card) (hc : ∀ (x y : Card) (H : Heap), ACalls Try.prog f ([AV.agg (Card.row x), AV.agg (Card.row y)] ++ xs) H (AV.int .i64 (cmp x y), H)) (hxs : AV.bdds 1 xs = true) (W : Weak (ltF cmp)) (hn : n = l.length) (hnb : n < 524288) (hb : b = a + 2 * bs) (hbs : 0 < bs) (hbn : bs < 524288) (han : a ≤ n) (hs7 : b ≤ n → Srt (ltF cmp) ((l.drop a).take (a + bs - a))) (hs8 : b ≤ n → Srt (ltF cmp) ((l.drop (a + bs)).take (b - (a + bs)))) {eX : Ex} {FX : Fr} {HX : Heap} (k1 : (decide (((b : Nat) : Int) ≤ ((n : Nat) : Int))) = true → LoopTo (codeQ Try.prog (X sCst_ann) (loopOf Try.f134 2)) (some [0, 1, 2, 6, 7, 8]) (some [0, 1, 2, 6, 7]) (mkF 63 [(0, (AV.osl 0 g 9 0 n)), (1, (AV.int .i64 ((n : Nat) : Int))), (2, (AV.func f xs)), (6, (AV.int .i64 ((bs : Nat) : Int))), (7, (AV.int .i64 ((b : Nat) : Int))), (8, (AV.int .i64 ((b + (2 * bs) : Nat) : Int)))]) ([⟨g, 9, (List.map Card.row (mAt (ltF cmp) a (a + bs) b l)), none⟩] : Heap) eX FX HX) (k2 : (decide (((b : Nat) : Int) ≤ ((n : Nat) : Int))) = false → ((.exit 4 : Ex), (mkF 63 [(0, (AV.osl 0 g 9 0 n)), (1, (AV.int .i64 ((n : Nat) : Int))), (2, (AV.func f xs)), (6, (AV.int .i64 ((bs : Nat) : Int))), (7, (AV.int .i64 ((a : Nat) : Int)))]), ([⟨g, 9, (List.map Card.row l), none⟩] : Heap)) = (eX, FX, HX)) : LoopTo (codeQ Try.prog (X sCst_ann) (loopOf Try.f134 2)) (some [0, 1, 2, 6, 7, 8]) (some [0, 1, 2, 6, 7]) (mkF 63 [(0, (AV.osl 0 g 9 0 n)), (1, (AV.int .i64 ((n : Nat) : Int))), (2, (AV.func f xs)), (6, (AV.int .i64 ((bs : Nat) : Int))), (7, (AV.int .i64 ((a : Nat) : Int))), (8, (AV.int .i64 ((b : Nat) : Int)))]) ([⟨g, 9, (List.map Card.row l), none⟩] : Heap) eX FX HX := by
  refine LoopTo.step (.reg [] [] [] (.two (.reg [(4, ((AV.int .i64 ((a + bs : Nat) : Int)), ([⟨g, 9, (List.map Card.row l), none⟩] : Heap))), (7, ((AV.tup []), ([⟨g, 9, (List.map Card.row (mAt (ltF cmp) a (a + bs) b l)), none⟩] : Heap)))] [] [] (.reg [] [] [] (.reg [(2, ((AV.int .i64 ((2 * bs : Nat) : Int)), ([⟨g, 9, (List.map Card.row (mAt (ltF cmp) a (a + bs) b l)), none⟩] : Heap))), (3, ((AV.int .i64 ((b + (2 * bs) : Nat) : Int)), ([⟨g, 9, (List.map Card.row (mAt (ltF cmp) a (a + bs) b l)), none⟩] : Heap)))] [] [] .nil))) .nil)) ?_
  refine Eq.mp (by kernel_rfl : (cond (decide (((b : Nat) : Int) ≤ ((n : Nat) : Int))) ((Yes (.int .i64 (IntKind.i64.wrap (((a : Nat) : Int) + ((bs : Nat) : Int)))) ([⟨g, 9, (List.map Card.row l), none⟩] : Heap) (AV.int .i64 ((a + bs : Nat) : Int))) ∧ (ACalls Try.prog 140 [(AV.osl 0 g 9 0 n), (AV.int .i64 ((a : Nat) : Int)), (AV.int .i64 ((a + bs : Nat) : Int)), (AV.int .i64 ((b : Nat) : Int)), (AV.func f xs)] ([⟨g, 9, (List.map Card.row l), none⟩] : Heap) ((AV.tup []), ([⟨g, 9, (List.map Card.row (mAt (ltF cmp) a (a + bs) b l)), none⟩] : Heap))) ∧ (Yes (.int .i64 (IntKind.i64.wrap (2 * ((bs : Nat) : Int)))) ([⟨g, 9, (List.map Card.row (mAt (ltF cmp) a (a + bs) b l)), none⟩] : Heap) (AV.int .i64 ((2 * bs : Nat) : Int))) ∧ (Yes (.int .i64 (IntKind.i64.wrap (((b : Nat) : Int) + ((2 * bs : Nat) : Int)))) ([⟨g, 9, (List.map Card.row (mAt (ltF cmp) a (a + bs) b l)), none⟩] : Heap) (AV.int .i64 ((b + (2 * bs) : Nat) : Int))) ∧ LoopTo (codeQ Try.prog (X sCst_ann) (loopOf Try.f134 2)) (some [0, 1, 2, 6, 7, 8]) (some [0, 1, 2, 6, 7]) (mkF 63 [(0, (AV.osl 0 g 9 0 n)), (1, (AV.int .i64 ((n : Nat) : Int))), (2, (AV.func f xs)), (6, (AV.int .i64 ((bs : Nat) : Int))), (7, (AV.int .i64 ((b : Nat) : Int))), (8, (AV.int .i64 ((b + (2 * bs) : Nat) : Int)))]) ([⟨g, 9, (List.map Card.row (mAt (ltF cmp) a (a + bs) b l)), none⟩] : Heap) eX FX HX) (((.exit 4 : Ex), (mkF 63 [(0, (AV.osl 0 g 9 0 n)), (1, (AV.int .i64 ((n : Nat) : Int))), (2, (AV.func f xs)), (6, (AV.int .i64 ((bs : Nat) : Int))), (7, (AV.int .i64 ((a : Nat) : Int)))]), ([⟨g, 9, (List.map Card.row l), none⟩] : Heap)) = (eX, FX, HX))) = _) ?_
  refine cond_split (fun h1 => ?_) (fun h1 => ?_)
  · have h1' := h1
    try simp at h1'
    refine And.intro (Yes.add (by omega) (by omega) (by omega)) ?_
    refine And.intro ((sCm_at _ f xs a (a + bs) b n g l (by first | exact hc | exact hxs | exact W | omega | (simp; omega)) (by first | exact hc | exact hxs | exact W | omega | (simp; omega)) (by first | exact hc | exact hxs | exact W | omega | (simp; omega)) (by first | exact hc | exact hxs | exact W | omega | (simp; omega)) (by first | exact hc | exact hxs | exact W | omega | (simp; omega)) (by first | exact hc | exact hxs | exact W | omega | (simp; omega)) (by first | exact hc | exact hxs | exact W | omega | (simp; omega)) (by first | exact hc | exact hxs | exact W | omega | (simp; omega)) (hs7 (by have := of_decide_eq_true h1; omega)) (hs8 (by have := of_decide_eq_true h1; omega)) ([] : Heap)).pre ⟨AV.wk_refl_any _, AV.wk_refl_any _, AV.wk_refl_any _, AV.wk_refl_any _, AV.wk_refl_any _, trivial⟩) ?_
    refine And.intro (Yes.add (by omega) (by omega) (by omega)) ?_
    refine And.intro (Yes.add (by omega) (by omega) (by omega)) ?_
    exact k1 h1
  · have h1' := h1
    try simp at h1'
    exact k2 h1
theorem sCstm_loop (cmp : Card → Card → Int) (f : Nat) (xs : List AV) (hc : ∀ (x y : Card) (H : Heap), ACalls Try.prog f ([AV.agg (Card.row x), AV.agg (Card.row y)] ++ xs) H (AV.int .i64 (cmp x y), H)) (hxs : AV.bdds 1 xs = true) (W : Weak (ltF cmp)) (bs n g : Nat) (l0 : List Card) (hn : n = l0.length) (hnb : n < 524288) (hbs : 0 < bs) (hbn : bs < 524288) (J : Nat) (hJ : J = n / (2 * bs)) (r : Nat) : ∀ (j a b : Nat) (l : List Card), j + r = J → a = j * (2 * bs) → b = a + 2 * bs → l = mix (ltF cmp) bs j l0 →
    LoopTo (codeQ Try.prog (X sCst_ann) (loopOf Try.f134 2)) (some [0, 1, 2, 6, 7, 8]) (some [0, 1, 2, 6, 7]) (mkF 63 [(0, (AV.osl 0 g 9 0 n)), (1, (AV.int .i64 ((n : Nat) : Int))), (2, (AV.func f xs)), (6, (AV.int .i64 ((bs : Nat) : Int))), (7, (AV.int .i64 ((a : Nat) : Int))), (8, (AV.int .i64 ((b : Nat) : Int)))]) ([⟨g, 9, (List.map Card.row l), none⟩] : Heap) (.exit 4) (mkF 63 [(0, (AV.osl 0 g 9 0 n)), (1, (AV.int .i64 ((n : Nat) : Int))), (2, (AV.func f xs)), (6, (AV.int .i64 ((bs : Nat) : Int))), (7, (AV.int .i64 (((J * (2 * bs)) : Nat) : Int)))]) ([⟨g, 9, (List.map Card.row (mix (ltF cmp) bs J l0)), none⟩] : Heap) := by
  have hdm := Nat.div_mul_le_self n (2 * bs)
  have hlt := Nat.lt_div_mul_add (a := n) (b := 2 * bs) (by omega)
  rw [← hJ] at hdm hlt
  induction r with
  | zero =>
    intro j a b l hj ha hb hl
    subst hl
    obtain rfl : j = J := by omega
    refine sCstm_step cmp f xs bs a b n g _ hc hxs W (by rw [mix_len]; exact hn) hnb hb hbs hbn (by omega) (fun h => by omega) (fun h => by omega) (fun h => by simp at h; omega) (fun _ => ?_)
    rw [← ha]
  | succ r ih =>
    intro j a b l hj ha hb hl
    subst hl
    have hmul : (j + 1) * (2 * bs) = j * (2 * bs) + 2 * bs := Nat.succ_mul _ _
    have hle : (j + 1) * (2 * bs) ≤ J * (2 * bs) := Nat.mul_le_mul_right _ (by omega)
    obtain ⟨q1, q2, q3⟩ := mix_merge W hbs (l := l0) ha hb (by omega)
    refine sCstm_step cmp f xs bs a b n g _ hc hxs W (by rw [mix_len]; exact hn) hnb hb hbs hbn (by omega) (fun _ => q2) (fun _ => q3) (fun h => ?_) (fun h => by simp at h; omega)
    rw [q1]
    exact ih (j + 1) b (b + 2 * bs) _ (by omega) (by omega) rfl rfl
set_option maxRecDepth 100000 in
theorem sCsto_step (cmp : Card → Card → Int) (f : Nat) (xs : List AV) (bs J n g : Nat) (l l0 : List Card) (hc : ∀ (x y : Card) (H : Heap), ACalls Try.prog f ([AV.agg (Card.row x), AV.agg (Card.row y)] ++ xs) H (AV.int .i64 (cmp x y), H)) (hxs : AV.bdds 1 xs = true) (W : Weak (ltF cmp)) (hn : n = l0.length) (hnb : n < 524288) (hbs : 0 < bs) (hbn : bs < 1048576) (hl : l = allB (ltF cmp) bs l0) (hJ : J = n / (2 * bs)) (hJn : J * (2 * bs) ≤ n) (hs7 : J * (2 * bs) + bs < n → Srt (ltF cmp) (((mix (ltF cmp) bs J l0).drop (J * (2 * bs))).take (J * (2 * bs) + bs - J * (2 * bs)))) (hs8 : J * (2 * bs) + bs < n → Srt (ltF cmp) (((mix (ltF cmp) bs J l0).drop (J * (2 * bs) + bs)).take (n - (J * (2 * bs) + bs)))) {eX : Ex} {FX : Fr} {HX : Heap} (k1 : (decide (((bs : Nat) : Int) < ((n : Nat) : Int))) = true → (decide ((((J * (2 * bs)) + bs : Nat) : Int) < ((n : Nat) : Int))) = true → LoopTo (codeQ Try.prog (X sCst_ann) (loopOf Try.f134 1)) (some [0, 1, 2, 6]) (some []) (mkF 63 [(0, (AV.osl 0 g 9 0 n)), (1, (AV.int .i64 ((n : Nat) : Int))), (2, (AV.func f xs)), (6, (AV.int .i64 ((bs * 2 : Nat) : Int)))]) ([⟨g, 9, (List.map Card.row (mAt (ltF cmp) (J * (2 * bs)) ((J * (2 * bs)) + bs) n (mix (ltF cmp) bs J l0))), none⟩] : Heap) eX FX HX) (k2 : (decide (((bs : Nat) : Int) < ((n : Nat) : Int))) = true → (decide ((((J * (2 * bs)) + bs : Nat) : Int) < ((n : Nat) : Int))) = false → LoopTo (codeQ Try.prog (X sCst_ann) (loopOf Try.f134 1)) (some [0, 1, 2, 6]) (some []) (mkF 63 [(0, (AV.osl 0 g 9 0 n)), (1, (AV.int .i64 ((n : Nat) : Int))), (2, (AV.func f xs)), (6, (AV.int .i64 ((bs * 2 : Nat) : Int)))]) ([⟨g, 9, (List.map Card.row (mix (ltF cmp) bs J l0)), none⟩] : Heap) eX FX HX) (k3 : (decide (((bs : Nat) : Int) < ((n : Nat) : Int))) = false → ((.exit 2 : Ex), (mkF 63 []), ([⟨g, 9, (List.map Card.row l), none⟩] : Heap)) = (eX, FX, HX)) : LoopTo (codeQ Try.prog (X sCst_ann) (loopOf Try.f134 1)) (some [0, 1, 2, 6]) (some []) (mkF 63 [(0, (AV.osl 0 g 9 0 n)), (1, (AV.int .i64 ((n : Nat) : Int))), (2, (AV.func f xs)), (6, (AV.int .i64 ((bs : Nat) : Int)))]) ([⟨g, 9, (List.map Card.row l), none⟩] : Heap) eX FX HX := by
  refine LoopTo.step (.reg [] [] [] (.two (.reg [(1, ((AV.int .i64 ((2 * bs : Nat) : Int)), ([⟨g, 9, (List.map Card.row l), none⟩] : Heap)))] [] [] (.loop (.exit 4) (mkF 63 [(0, (AV.osl 0 g 9 0 n)), (1, (AV.int .i64 ((n : Nat) : Int))), (2, (AV.func f xs)), (6, (AV.int .i64 ((bs : Nat) : Int))), (7, (AV.int .i64 (((J * (2 * bs)) : Nat) : Int)))]) ([⟨g, 9, (List.map Card.row (mix (ltF cmp) bs J l0)), none⟩] : Heap) (.reg [(2, ((AV.int .i64 (((J * (2 * bs)) + bs : Nat) : Int)), ([⟨g, 9, (List.map Card.row (mix (ltF cmp) bs J l0)), none⟩] : Heap)))] [] [] (.reg [] [] [] (.two (.reg [(5, ((AV.tup []), ([⟨g, 9, (List.map Card.row (mAt (ltF cmp) (J * (2 * bs)) ((J * (2 * bs)) + bs) n (mix (ltF cmp) bs J l0))), none⟩] : Heap)))] [] [] (.reg [(1, ((AV.int .i64 ((bs * 2 : Nat) : Int)), ([⟨g, 9, (List.map Card.row (mAt (ltF cmp) (J * (2 * bs)) ((J * (2 * bs)) + bs) n (mix (ltF cmp) bs J l0))), none⟩] : Heap)))] [] [] .nil)) (.reg [(1, ((AV.int .i64 ((bs * 2 : Nat) : Int)), ([⟨g, 9, (List.map Card.row (mix (ltF cmp) bs J l0)), none⟩] : Heap)))] [] [] .nil)))))) .nil)) ?_
  refine Eq.mp (by kernel_rfl : (cond (decide (((bs : Nat) : Int) < ((n : Nat) : Int))) ((Yes (.int .i64 (IntKind.i64.wrap (2 * ((bs : Nat) : Int)))) ([⟨g, 9, (List.map Card.row l), none⟩] : Heap) (AV.int .i64 ((2 * bs : Nat) : Int))) ∧ (LoopTo (codeQ Try.prog (X sCst_ann) (loopOf Try.f134 2)) (some [0, 1, 2, 6, 7, 8]) (some [0, 1, 2, 6, 7]) (mkF 63 [(0, (AV.osl 0 g 9 0 n)), (1, (AV.int .i64 ((n : Nat) : Int))), (2, (AV.func f xs)), (6, (AV.int .i64 ((bs : Nat) : Int))), (7, (AV.int .i64 0)), (8, (AV.int .i64 ((2 * bs : Nat) : Int)))]) ([⟨g, 9, (List.map Card.row l), none⟩] : Heap) (.exit 4) (mkF 63 [(0, (AV.osl 0 g 9 0 n)), (1, (AV.int .i64 ((n : Nat) : Int))), (2, (AV.func f xs)), (6, (AV.int .i64 ((bs : Nat) : Int))), (7, (AV.int .i64 (((J * (2 * bs)) : Nat) : Int)))]) ([⟨g, 9, (List.map Card.row (mix (ltF cmp) bs J l0)), none⟩] : Heap)) ∧ (Yes (.int .i64 (IntKind.i64.wrap ((((J * (2 * bs)) : Nat) : Int) + ((bs : Nat) : Int)))) ([⟨g, 9, (List.map Card.row (mix (ltF cmp) bs J l0)), none⟩] : Heap) (AV.int .i64 (((J * (2 * bs)) + bs : Nat) : Int))) ∧ cond (decide ((((J * (2 * bs)) + bs : Nat) : Int) < ((n : Nat) : Int))) ((ACalls Try.prog 140 [(AV.osl 0 g 9 0 n), (AV.int .i64 (((J * (2 * bs)) : Nat) : Int)), (AV.int .i64 (((J * (2 * bs)) + bs : Nat) : Int)), (AV.int .i64 ((n : Nat) : Int)), (AV.func f xs)] ([⟨g, 9, (List.map Card.row (mix (ltF cmp) bs J l0)), none⟩] : Heap) ((AV.tup []), ([⟨g, 9, (List.map Card.row (mAt (ltF cmp) (J * (2 * bs)) ((J * (2 * bs)) + bs) n (mix (ltF cmp) bs J l0))), none⟩] : Heap))) ∧ (Yes (.int .i64 (IntKind.i64.wrap (((bs : Nat) : Int) * 2))) ([⟨g, 9, (List.map Card.row (mAt (ltF cmp) (J * (2 * bs)) ((J * (2 * bs)) + bs) n (mix (ltF cmp) bs J l0))), none⟩] : Heap) (AV.int .i64 ((bs * 2 : Nat) : Int))) ∧ LoopTo (codeQ Try.prog (X sCst_ann) (loopOf Try.f134 1)) (some [0, 1, 2, 6]) (some []) (mkF 63 [(0, (AV.osl 0 g 9 0 n)), (1, (AV.int .i64 ((n : Nat) : Int))), (2, (AV.func f xs)), (6, (AV.int .i64 ((bs * 2 : Nat) : Int)))]) ([⟨g, 9, (List.map Card.row (mAt (ltF cmp) (J * (2 * bs)) ((J * (2 * bs)) + bs) n (mix (ltF cmp) bs J l0))), none⟩] : Heap) eX FX HX) ((Yes (.int .i64 (IntKind.i64.wrap (((bs : Nat) : Int) * 2))) ([⟨g, 9, (List.map Card.row (mix (ltF cmp) bs J l0)), none⟩] : Heap) (AV.int .i64 ((bs * 2 : Nat) : Int))) ∧ LoopTo (codeQ Try.prog (X sCst_ann) (loopOf Try.f134 1)) (some [0, 1, 2, 6]) (some []) (mkF 63 [(0, (AV.osl 0 g 9 0 n)), (1, (AV.int .i64 ((n : Nat) : Int))), (2, (AV.func f xs)), (6, (AV.int .i64 ((bs * 2 : Nat) : Int)))]) ([⟨g, 9, (List.map Card.row (mix (ltF cmp) bs J l0)), none⟩] : Heap) eX FX HX)) (((.exit 2 : Ex), (mkF 63 []), ([⟨g, 9, (List.map Card.row l), none⟩] : Heap)) = (eX, FX, HX))) = _) ?_
  refine cond_split (fun h1 => ?_) (fun h1 => ?_)
  · have h1' := h1
    try simp at h1'
    refine And.intro (Yes.add (by omega) (by omega) (by omega)) ?_
    refine And.intro ((sCstm_loop cmp f xs hc hxs W bs n g l0 hn hnb hbs (by omega) J hJ J 0 0 (2 * bs) l (by omega) (by omega) (by omega) (by rw [hl]; simp only [mix]))) ?_
    refine And.intro (Yes.add (by omega) (by omega) (by omega)) ?_
    refine cond_split (fun h2 => ?_) (fun h2 => ?_)
    · have h2' := h2
      try simp at h2'
      refine And.intro ((sCm_at _ f xs (J * (2 * bs)) ((J * (2 * bs)) + bs) n n g (mix (ltF cmp) bs J l0) (by first | exact hc | exact hxs | exact W | omega | (rw [mix_len]; exact hn) | (simp; omega)) (by first | exact hc | exact hxs | exact W | omega | (rw [mix_len]; exact hn) | (simp; omega)) (by first | exact hc | exact hxs | exact W | omega | (rw [mix_len]; exact hn) | (simp; omega)) (by first | exact hc | exact hxs | exact W | omega | (rw [mix_len]; exact hn) | (simp; omega)) (by first | exact hc | exact hxs | exact W | omega | (rw [mix_len]; exact hn) | (simp; omega)) (by first | exact hc | exact hxs | exact W | omega | (rw [mix_len]; exact hn) | (simp; omega)) (by have := of_decide_eq_true h2; omega) (by omega) (hs7 (by have := of_decide_eq_true h2; omega)) (hs8 (by have := of_decide_eq_true h2; omega)) ([] : Heap)).pre ⟨AV.wk_refl_any _, AV.wk_refl_any _, AV.wk_refl_any _, AV.wk_refl_any _, AV.wk_refl_any _, trivial⟩) ?_
      refine And.intro (Yes.add (by omega) (by omega) (by omega)) ?_
      exact k1 h1 h2
    · have h2' := h2
      try simp at h2'
      refine And.intro (Yes.add (by omega) (by omega) (by omega)) ?_
      exact k2 h1 h2
  · have h1' := h1
    try simp at h1'
    exact k3 h1
theorem sCsto_loop (cmp : Card → Card → Int) (f : Nat) (xs : List AV) (hc : ∀ (x y : Card) (H : Heap), ACalls Try.prog f ([AV.agg (Card.row x), AV.agg (Card.row y)] ++ xs) H (AV.int .i64 (cmp x y), H)) (hxs : AV.bdds 1 xs = true) (W : Weak (ltF cmp)) (n g : Nat) (l0 : List Card) (hn : n = l0.length) (hnb : n < 524288) (r : Nat) : ∀ (bs : Nat) (l : List Card), n - bs ≤ r → 0 < bs → bs < 1048576 → l = allB (ltF cmp) bs l0 →
    LoopTo (codeQ Try.prog (X sCst_ann) (loopOf Try.f134 1)) (some [0, 1, 2, 6]) (some []) (mkF 63 [(0, (AV.osl 0 g 9 0 n)), (1, (AV.int .i64 ((n : Nat) : Int))), (2, (AV.func f xs)), (6, (AV.int .i64 ((bs : Nat) : Int)))]) ([⟨g, 9, (List.map Card.row l), none⟩] : Heap) (.exit 2) (mkF 63 []) ([⟨g, 9, (List.map Card.row (sortG (ltF cmp) l0)), none⟩] : Heap) := by
  have key : ∀ bs, 0 < bs → (n / (2 * bs) * (2 * bs) ≤ n ∧ n < n / (2 * bs) * (2 * bs) + 2 * bs) := fun bs hbs => ⟨Nat.div_mul_le_self n (2 * bs), Nat.lt_div_mul_add (a := n) (b := 2 * bs) (by omega)⟩
  induction r with
  | zero =>
    intro bs l h1 hbs hbn hl
    obtain ⟨k1, k2⟩ := key bs hbs
    obtain ⟨q1, q2⟩ := mix_last W hbs (l := l0) (J := n / (2 * bs)) rfl hn k1 k2
    refine sCsto_step cmp f xs bs (n / (2 * bs)) n g l l0 hc hxs W hn hnb hbs hbn hl rfl k1 (fun h => (q1 h).2.1) (fun h => (q1 h).2.2) (fun h => by simp at h; omega) (fun h => by simp at h; omega) (fun _ => ?_)
    rw [hl, allB_one (ltF cmp) (by omega) hbs]
  | succ r ih =>
    intro bs l h1 hbs hbn hl
    obtain ⟨k1, k2⟩ := key bs hbs
    obtain ⟨q1, q2⟩ := mix_last W hbs (l := l0) (J := n / (2 * bs)) rfl hn k1 k2
    refine sCsto_step cmp f xs bs (n / (2 * bs)) n g l l0 hc hxs W hn hnb hbs hbn hl rfl k1 (fun h => (q1 h).2.1) (fun h => (q1 h).2.2) (fun h h2 => ?_) (fun h h2 => ?_) (fun h => ?_)
    · rw [(q1 (by have := of_decide_eq_true h2; omega)).1]
      exact ih (bs * 2) _ (by simp at h; omega) (by omega) (by simp at h; omega) (by rw [Nat.mul_comm])
    · rw [q2 (by have := of_decide_eq_false h2; omega)]
      exact ih (bs * 2) _ (by simp at h; omega) (by omega) (by simp at h; omega) (by rw [Nat.mul_comm])
    · rw [hl, allB_one (ltF cmp) (by simp at h; omega) hbs]
set_option maxRecDepth 100000 in
theorem sCst_spec (cmp : Card → Card → Int) (f : Nat) (xs : List AV) (n g : Nat) (l : List Card) (hc : ∀ (x y : Card) (H : Heap), ACalls Try.prog f ([AV.agg (Card.row x), AV.agg (Card.row y)] ++ xs) H (AV.int .i64 (cmp x y), H)) (hxs : AV.bdds 1 xs = true) (W : Weak (ltF cmp)) (hn : n = l.length) (hb : n < 524288) : ACalls Try.prog 134 [(AV.osl 0 g 9 0 n), (AV.int .i64 ((n : Nat) : Int)), (AV.func f xs)] ([⟨g, 9, (List.map Card.row l), none⟩] : Heap) ((AV.tup []), ([⟨g, 9, (List.map Card.row (insSort cmp 0 (n - 1) 1 l)), none⟩] : Heap)) := by
  have hq : (blk (ltF cmp) 20 (n / 20) l).length = n := by rw [blk_len]; exact hn.symm
  have ht := st_tail cmp (l := l) (j := n / 20) (a := n / 20 * 20) rfl hn (by omega) (by omega)
  have hfin : sortG (ltF cmp) l = insSort cmp 0 (n - 1) 1 l := by subst hn; exact (insSort_sortG cmp l).symm
  refine spec (fn := Try.f134) (ann := sCst_ann) (t := (.reg [] [] [] (.reg [] [] [] (.loop (.exit 0) (mkF 63 [(0, (AV.osl 0 g 9 0 n)), (1, (AV.int .i64 ((n : Nat) : Int))), (2, (AV.func f xs)), (6, (AV.int .i64 20)), (7, (AV.int .i64 (((n / 20 * 20) : Nat) : Int)))]) ([⟨g, 9, (List.map Card.row (blk (ltF cmp) 20 (n / 20) l)), none⟩] : Heap) (.reg [(4, ((AV.tup []), ([⟨g, 9, (List.map Card.row (insSort cmp (n / 20 * 20) (n - ((n / 20 * 20) + 1)) ((n / 20 * 20) + 1) (blk (ltF cmp) 20 (n / 20) l))), none⟩] : Heap)))] [] [] (.loop (.exit 2) (mkF 63 []) ([⟨g, 9, (List.map Card.row (sortG (ltF cmp) l)), none⟩] : Heap) .nil)))))) (Nat.le_of_ble_eq_true (by kernel_rfl)) ⟨Try.func134, by kernel_rfl, by kernel_rfl, by kernel_rfl⟩ ?_
  refine Eq.mp (by kernel_rfl : ((LoopTo (codeQ Try.prog (X sCst_ann) (loopOf Try.f134 0)) (some [0, 1, 2, 6, 7, 8]) (some [0, 1, 2, 6, 7]) (mkF 63 [(0, (AV.osl 0 g 9 0 n)), (1, (AV.int .i64 ((n : Nat) : Int))), (2, (AV.func f xs)), (6, (AV.int .i64 20)), (7, (AV.int .i64 0)), (8, (AV.int .i64 20))]) ([⟨g, 9, (List.map Card.row l), none⟩] : Heap) (.exit 0) (mkF 63 [(0, (AV.osl 0 g 9 0 n)), (1, (AV.int .i64 ((n : Nat) : Int))), (2, (AV.func f xs)), (6, (AV.int .i64 20)), (7, (AV.int .i64 (((n / 20 * 20) : Nat) : Int)))]) ([⟨g, 9, (List.map Card.row (blk (ltF cmp) 20 (n / 20) l)), none⟩] : Heap)) ∧ (ACalls Try.prog 139 [(AV.osl 0 g 9 0 n), (AV.int .i64 (((n / 20 * 20) : Nat) : Int)), (AV.int .i64 ((n : Nat) : Int)), (AV.func f xs)] ([⟨g, 9, (List.map Card.row (blk (ltF cmp) 20 (n / 20) l)), none⟩] : Heap) ((AV.tup []), ([⟨g, 9, (List.map Card.row (insSort cmp (n / 20 * 20) (n - ((n / 20 * 20) + 1)) ((n / 20 * 20) + 1) (blk (ltF cmp) 20 (n / 20) l))), none⟩] : Heap))) ∧ (LoopTo (codeQ Try.prog (X sCst_ann) (loopOf Try.f134 1)) (some [0, 1, 2, 6]) (some []) (mkF 63 [(0, (AV.osl 0 g 9 0 n)), (1, (AV.int .i64 ((n : Nat) : Int))), (2, (AV.func f xs)), (6, (AV.int .i64 20))]) ([⟨g, 9, (List.map Card.row (insSort cmp (n / 20 * 20) (n - ((n / 20 * 20) + 1)) ((n / 20 * 20) + 1) (blk (ltF cmp) 20 (n / 20) l))), none⟩] : Heap) (.exit 2) (mkF 63 []) ([⟨g, 9, (List.map Card.row (sortG (ltF cmp) l)), none⟩] : Heap)) ∧ (AV.bdd 1 (AV.tup []) = true ∧ obsB 1 ([⟨g, 9, (List.map Card.row (sortG (ltF cmp) l)), none⟩] : Heap) = true) ∧ ((AV.tup []), ([⟨g, 9, (List.map Card.row (sortG (ltF cmp) l)), none⟩] : Heap)) = ((AV.tup []), ([⟨g, 9, (List.map Card.row (insSort cmp 0 (n - 1) 1 l)), none⟩] : Heap))) = _) ?_
  refine And.intro ((sCstb_loop cmp f xs hc hxs W n g l hn hb (n / 20) 0 0 20 l (by omega) rfl (by omega) (by simp only [blk]))) ?_
  refine And.intro (insC_at _ f xs (n / 20 * 20) n n g (blk (ltF cmp) 20 (n / 20) l) (by first | exact hc | exact hxs | omega | (rw [blk_len]; omega) | (simp; omega)) (by first | exact hc | exact hxs | omega | (rw [blk_len]; omega) | (simp; omega)) (by first | exact hc | exact hxs | omega | (rw [blk_len]; omega) | (simp; omega)) (by first | exact hc | exact hxs | omega | (rw [blk_len]; omega) | (simp; omega)) (by first | exact hc | exact hxs | omega | (rw [blk_len]; omega) | (simp; omega)) (by first | exact hc | exact hxs | omega | (rw [blk_len]; omega) | (simp; omega)) ([] : Heap)) ?_
  refine And.intro ((sCsto_loop cmp f xs hc hxs W n g l hn hb n 20 (insSort cmp (n / 20 * 20) (n - ((n / 20 * 20) + 1)) ((n / 20 * 20) + 1) (blk (ltF cmp) 20 (n / 20) l)) (by omega) (by omega) (by omega) ht)) ?_
  refine And.intro (by first | (simp [obsB, AV.bddss, AV.bdds, AV.bdd]; done) | (simp [obsB, AV.bddss, AV.bdds, AV.bdd, -List.map_append]; done) | simp [obsB, AV.bddss, AV.bdds, AV.bdd, -List.map_append, -List.map_set, -List.map_take, -List.map_drop, -List.map_cons, -List.map_map]) ?_
  rw [hfin]
theorem sCst_at (cmp : Card → Card → Int) (f : Nat) (xs : List AV) (n g : Nat) (l : List Card) (hc : ∀ (x y : Card) (H : Heap), ACalls Try.prog f ([AV.agg (Card.row x), AV.agg (Card.row y)] ++ xs) H (AV.int .i64 (cmp x y), H)) (hxs : AV.bdds 1 xs = true) (W : Weak (ltF cmp)) (hn : n = l.length) (hb : n < 524288) (H : Heap) : ACalls Try.prog 134 [(AV.osl 0 g 9 0 n), (AV.int .i64 ((n : Nat) : Int)), (AV.func f xs)] (([⟨g, 9, (List.map Card.row l), none⟩] : Heap) ++ H) ((AV.tup []), ([⟨g, 9, (List.map Card.row (insSort cmp 0 (n - 1) 1 l)), none⟩] : Heap) ++ H) := (sCst_spec cmp f xs n g l hc hxs W hn hb).ext (by simp [AV.bdds, AV.bdd, *]) (by kernel_rfl) (by first | (simp [obsB, AV.bddss, AV.bdds, AV.bdd]; done) | (simp [obsB, AV.bddss, AV.bdds, AV.bdd, -List.map_append]; done) | simp [obsB, AV.bddss, AV.bdds, AV.bdd, -List.map_append, -List.map_set, -List.map_take, -List.map_drop, -List.map_cons, -List.map_map]) (by first | (simp [obsB, AV.bddss, AV.bdds, AV.bdd]; done) | (simp [obsB, AV.bddss, AV.bdds, AV.bdd, -List.map_append]; done) | simp [obsB, AV.bddss, AV.bdds, AV.bdd, -List.map_append, -List.map_set, -List.map_take, -List.map_drop, -List.map_cons, -List.map_map]) (by kernel_rfl) H
def sortCW_ann : Ann := { base := 1, fin := some 1 }
set_option maxRecDepth 100000 in
theorem sortCW_spec (cmp : Card → Card → Int) (f : Nat) (xs : List AV) (n g : Nat) (l : List Card) (hc : ∀ (x y : Card) (H : Heap), ACalls Try.prog f ([AV.agg (Card.row x), AV.agg (Card.row y)] ++ xs) H (AV.int .i64 (cmp x y), H)) (hxs : AV.bdds 1 xs = true) (W : Weak (ltF cmp)) (hn : n = l.length) (hb : n < 524288) : ACalls Try.prog 118 [(AV.osl 0 g 9 0 n), (AV.func f xs)] ([⟨g, 9, (List.map Card.row l), none⟩] : Heap) ((AV.tup []), ([⟨g, 9, (List.map Card.row (insSort cmp 0 (n - 1) 1 l)), none⟩] : Heap)) := by
  refine spec (fn := Try.f118) (ann := sortCW_ann) (t := (.reg [(4, ((AV.tup []), ([⟨g, 9, (List.map Card.row (insSort cmp 0 (n - 1) 1 l)), none⟩] : Heap)))] [] [] .nil)) (Nat.le_of_ble_eq_true (by kernel_rfl)) ⟨Try.func118, by kernel_rfl, by kernel_rfl, by kernel_rfl⟩ ?_
  refine Eq.mp (by kernel_rfl : ((ACalls Try.prog 134 [(AV.osl 0 g 9 0 n), (AV.int .i64 ((n : Nat) : Int)), (AV.func f xs)] ([⟨g, 9, (List.map Card.row l), none⟩] : Heap) ((AV.tup []), ([⟨g, 9, (List.map Card.row (insSort cmp 0 (n - 1) 1 l)), none⟩] : Heap))) ∧ (AV.bdd 1 (AV.tup []) = true ∧ obsB 1 ([⟨g, 9, (List.map Card.row (insSort cmp 0 (n - 1) 1 l)), none⟩] : Heap) = true) ∧ ((AV.tup []), ([⟨g, 9, (List.map Card.row (insSort cmp 0 (n - 1) 1 l)), none⟩] : Heap)) = ((AV.tup []), ([⟨g, 9, (List.map Card.row (insSort cmp 0 (n - 1) 1 l)), none⟩] : Heap))) = _) ?_
  refine And.intro (sCst_at _ f xs n g l (by first | exact hc | exact hxs | exact W | omega) (by first | exact hc | exact hxs | exact W | omega) (by first | exact hc | exact hxs | exact W | omega) (by first | exact hc | exact hxs | exact W | omega) (by first | exact hc | exact hxs | exact W | omega) ([] : Heap)) ?_
  refine And.intro (by first | (simp [obsB, AV.bddss, AV.bdds, AV.bdd]; done) | (simp [obsB, AV.bddss, AV.bdds, AV.bdd, -List.map_append]; done) | simp [obsB, AV.bddss, AV.bdds, AV.bdd, -List.map_append, -List.map_set, -List.map_take, -List.map_drop, -List.map_cons, -List.map_map]) ?_
  rfl
theorem sortCW_at (cmp : Card → Card → Int) (f : Nat) (xs : List AV) (n g : Nat) (l : List Card) (hc : ∀ (x y : Card) (H : Heap), ACalls Try.prog f ([AV.agg (Card.row x), AV.agg (Card.row y)] ++ xs) H (AV.int .i64 (cmp x y), H)) (hxs : AV.bdds 1 xs = true) (W : Weak (ltF cmp)) (hn : n = l.length) (hb : n < 524288) (H : Heap) : ACalls Try.prog 118 [(AV.osl 0 g 9 0 n), (AV.func f xs)] (([⟨g, 9, (List.map Card.row l), none⟩] : Heap) ++ H) ((AV.tup []), ([⟨g, 9, (List.map Card.row (insSort cmp 0 (n - 1) 1 l)), none⟩] : Heap) ++ H) := (sortCW_spec cmp f xs n g l hc hxs W hn hb).ext (by simp [AV.bdds, AV.bdd, *]) (by kernel_rfl) (by first | (simp [obsB, AV.bddss, AV.bdds, AV.bdd]; done) | (simp [obsB, AV.bddss, AV.bdds, AV.bdd, -List.map_append]; done) | simp [obsB, AV.bddss, AV.bdds, AV.bdd, -List.map_append, -List.map_set, -List.map_take, -List.map_drop, -List.map_cons, -List.map_map]) (by first | (simp [obsB, AV.bddss, AV.bdds, AV.bdd]; done) | (simp [obsB, AV.bddss, AV.bdds, AV.bdd, -List.map_append]; done) | simp [obsB, AV.bddss, AV.bdds, AV.bdd, -List.map_append, -List.map_set, -List.map_take, -List.map_drop, -List.map_cons, -List.map_map]) (by kernel_rfl) H
end Go.Proofs.Ytpkgpldgoajphaa.AM

set_option linter.unusedVariables false
set_option linter.unusedSimpArgs false
set_option maxRecDepth 100000
namespace Go.Proofs.Ytpkgpldgoajphaa.AM
open Go
attribute [local irreducible] Tp.card Tp.cardT Tp.next Tp.step Tp.cards Tp.cardsT Tp.key Tp.keyT
abbrev ltE (a b : Card) : Bool := decide (cmpK a.key b.key < 0)
theorem ltE_before : (fun a b : Card => beforeK a.key b.key) = ltE := by funext a b; exact (less_before a.key b.key).symm
theorem weakE : Weak ltE := ⟨fun a b h => by rw [← ltE_before] at h ⊢; exact bk_asymm h, fun a b c h k => by rw [← ltE_before] at h k ⊢; exact bk_le_trans h k⟩
theorem posK_posG (c : Card) (out : List Card) (k : Nat) : posK c out k = posG (fun a b : Card => beforeK a.key b.key) c out k := by
  induction k with
  | zero => rfl
  | succ k ih => simp only [posK, posG, ih]
theorem sortK_sortG (l : List Card) : sortK l = sortG ltE l := by
  rw [← ltE_before]
  have : insK = insG (fun a b : Card => beforeK a.key b.key) := by funext out c; unfold insK insG; rw [posK_posG]
  unfold sortK sortG; rw [this]
theorem sortP_sortK (l : List Card) : sortP l = sortK l := by rw [sortK_sortG]; exact insSort_sortG _ l
end Go.Proofs.Ytpkgpldgoajphaa.AM

set_option maxRecDepth 100000
set_option linter.unusedVariables false
set_option linter.unusedSimpArgs false
namespace Go.Proofs.Ytpkgpldgoajphaa.AM
open Go Go.Proofs.Ytpkgpldgoajphaa
attribute [local irreducible] ACalls funT codeT codeQ LoopTo
attribute [local irreducible] Tp.card Tp.cardT Tp.next Tp.step Tp.cards Tp.cardsT Tp.key Tp.keyT sink insSort sortK insK posK beforeK onceStep sortP lastS lastK cmpK ixI findC inC isKey cmpSt aheadB aheadK ansK digK
theorem weakN : Weak (ltF fun a b : Card => cmpK a.key b.key) := weakE
def sortCard0W_ann : Ann := { gha := [(2, .frz 3)], fin := some 0 }
set_option maxRecDepth 100000 in
theorem sortCard0W_spec (l : List Card) (hl : l.length < 1000) : ACalls Try.prog 87 [(AV.sl .any 9 (List.map Card.row l))] ([] : Heap) ((AV.sl .cn 9 (List.map Card.row (sortP l))), ([] : Heap)) := by
  have hpl := sortP_len l
  refine spec (fn := Try.f87) (ann := sortCard0W_ann) (t := (.reg [] [] [] (.reg [(1, ((AV.osl 0 0 9 0 l.length), ([⟨0, 9, (List.map Card.row l), none⟩] : Heap)))] [] [] (.reg [(1, ((AV.tup []), ([⟨0, 9, (List.map Card.row (insSort (fun a b => cmpK a.key b.key) 0 (l.length - 1) 1 l)), none⟩] : Heap)))] [] [(3, (List.map Card.row (insSort (fun a b => cmpK a.key b.key) 0 (l.length - 1) 1 l)))] (.reg [(1, ((AV.sl .cn 9 (List.map Card.row (insSort (fun a b => cmpK a.key b.key) 0 (l.length - 1) 1 l))), ([⟨1, 9, [], none⟩] : Heap)))] [] [] .nil))))) (Nat.le_of_ble_eq_true (by kernel_rfl)) ⟨Try.func87, by kernel_rfl, by kernel_rfl, by kernel_rfl⟩ ?_
  refine Eq.mp (by kernel_rfl : ((ACalls Try.prog 98 [(AV.sl .any 9 (List.map Card.row l))] ([] : Heap) ((AV.osl 0 0 9 0 l.length), ([⟨0, 9, (List.map Card.row l), none⟩] : Heap))) ∧ (ACalls Try.prog 118 [(AV.osl 0 0 9 0 l.length), (AV.func 119 [])] ([⟨0, 9, (List.map Card.row l), none⟩] : Heap) ((AV.tup []), ([⟨0, 9, (List.map Card.row (insSort (fun a b => cmpK a.key b.key) 0 (l.length - 1) 1 l)), none⟩] : Heap))) ∧ (rowsIn ([⟨0, 9, (List.map Card.row (insSort (fun a b => cmpK a.key b.key) 0 (l.length - 1) 1 l)), none⟩] : Heap) 9 (AV.osl 0 0 9 0 l.length) = some (List.map Card.row (insSort (fun a b => cmpK a.key b.key) 0 (l.length - 1) 1 l)) ∧ AV.bddss 0 (List.map Card.row (insSort (fun a b => cmpK a.key b.key) 0 (l.length - 1) 1 l)) = true) ∧ (ACalls Try.prog 121 [(AV.sl .any 9 (List.map Card.row (insSort (fun a b => cmpK a.key b.key) 0 (l.length - 1) 1 l)))] ([⟨1, 9, [], none⟩] : Heap) ((AV.sl .cn 9 (List.map Card.row (insSort (fun a b => cmpK a.key b.key) 0 (l.length - 1) 1 l))), ([⟨1, 9, [], none⟩] : Heap))) ∧ (AV.bdd 0 (AV.sl .cn 9 (List.map Card.row (insSort (fun a b => cmpK a.key b.key) 0 (l.length - 1) 1 l))) = true ∧ obsB 0 ([] : Heap) = true) ∧ ((AV.sl .cn 9 (List.map Card.row (insSort (fun a b => cmpK a.key b.key) 0 (l.length - 1) 1 l))), ([] : Heap)) = ((AV.sl .cn 9 (List.map Card.row (sortP l))), ([] : Heap))) = _) ?_
  refine And.intro (cloneC_at l (by first | omega | assumption | (simp; done) | (simp; omega) | (simp_all; done) | (simp_all; omega)) ([] : Heap)) ?_
  refine And.intro (sortCW_at (fun a b => cmpK a.key b.key) 119 [] l.length 0 l (fun x y H => sortcmp_at x y H) (rfl) (weakN) (by first | omega | assumption | (simp; done) | (simp; omega) | (simp_all; done) | (simp_all; omega)) (by first | omega | assumption | (simp; done) | (simp; omega) | (simp_all; done) | (simp_all; omega)) ([] : Heap)) ?_
  refine And.intro (And.intro (rowsIn_all (room := none) (by kernel_rfl) (by first | omega | (simp [insSort_len]; done) | (simp [insSort_len]; omega))) (Card.rows_bdd _ _)) ?_
  refine And.intro (clipC_at (insSort (fun a b => cmpK a.key b.key) 0 (l.length - 1) 1 l) (by rw [insSort_len]; omega) ([⟨1, 9, [], none⟩] : Heap)) ?_
  refine And.intro (by first | (simp [obsB, AV.bddss, AV.bdds, AV.bdd]; done) | (simp [obsB, AV.bddss, AV.bdds, AV.bdd, -List.map_append]; done) | simp [obsB, AV.bddss, AV.bdds, AV.bdd, -List.map_append, -List.map_set, -List.map_take, -List.map_drop, -List.map_cons, -List.map_map]) ?_
  with_unfolding_all rfl
theorem sortCardW_spec (l : List Card) (hl : l.length < 1000) : ACalls Try.prog 87 [(AV.sl .any 9 (List.map Card.row l))] ([] : Heap) ((AV.sl .any 9 (List.map Card.row (sortP l))), ([] : Heap)) := (sortCard0W_spec l hl).post ⟨rfl, rfl, .inl rfl⟩
theorem sortCardW_at (l : List Card) (hl : l.length < 1000) (H : Heap) : ACalls Try.prog 87 [(AV.sl .any 9 (List.map Card.row l))] H ((AV.sl .any 9 (List.map Card.row (sortP l))), H) := (sortCardW_spec l hl).lift (by kernel_rfl) (by kernel_rfl) H
set_option maxRecDepth 100000 in
theorem lastW_spec (l : List Card) (hl : l.length < 1000) : ACalls Try.prog 96 [(AV.sl .any 9 (List.map Card.row l))] ([] : Heap) ((AV.sl .any 9 (List.map Card.row (lastK l))), ([] : Heap)) := by
  have hs := sortP_len l
  refine spec (fn := Try.f96) (ann := last_ann) (t := (.reg [] [] [] (.reg [] [] [] (.reg [(1, ((AV.sl .any 9 (List.map Card.row (sortP l))), ([⟨0, 9, (List.map Card.row []), none⟩] : Heap))), (2, ((AV.int .i64 (((sortP l).length : Nat) : Int)), ([⟨0, 9, (List.map Card.row []), none⟩] : Heap)))] [] [] (.loop (.exit 0) (mkF 40 [(3, (AV.osl 0 ((lastS (sortP l)).2) 9 0 ((lastS (sortP l)).1.length))), (8, (AV.sl .any 9 (List.map Card.row (sortP l)))), (9, (AV.int .i64 (((sortP l).length : Nat) : Int))), (10, (AV.int .i64 (((sortP l).length : Nat) : Int)))]) ([⟨((lastS (sortP l)).2), 9, (List.map Card.row ((lastS (sortP l)).1)), none⟩] : Heap) (.reg [] [] [(2, (List.map Card.row ((lastS (sortP l)).1)))] .nil)))))) (Nat.le_of_ble_eq_true (by kernel_rfl)) ⟨Try.func96, by kernel_rfl, by kernel_rfl, by kernel_rfl⟩ ?_
  refine Eq.mp (by kernel_rfl : ((ACalls Try.prog 87 [(AV.sl .any 9 (List.map Card.row l))] ([⟨0, 9, (List.map Card.row []), none⟩] : Heap) ((AV.sl .any 9 (List.map Card.row (sortP l))), ([⟨0, 9, (List.map Card.row []), none⟩] : Heap))) ∧ (Yes (.int .i64 ((List.length (List.map Card.row (sortP l)) : Nat) : Int)) ([⟨0, 9, (List.map Card.row []), none⟩] : Heap) (AV.int .i64 (((sortP l).length : Nat) : Int))) ∧ (LoopTo (codeQ Try.prog (X last_ann) (loopOf Try.f96 0)) (some [3, 8, 9, 10]) (some [3, 8, 9, 10]) (mkF 40 [(3, (AV.osl 0 0 9 0 0)), (8, (AV.sl .any 9 (List.map Card.row (sortP l)))), (9, (AV.int .i64 (((sortP l).length : Nat) : Int))), (10, (AV.int .i64 0))]) ([⟨0, 9, (List.map Card.row []), none⟩] : Heap) (.exit 0) (mkF 40 [(3, (AV.osl 0 ((lastS (sortP l)).2) 9 0 ((lastS (sortP l)).1.length))), (8, (AV.sl .any 9 (List.map Card.row (sortP l)))), (9, (AV.int .i64 (((sortP l).length : Nat) : Int))), (10, (AV.int .i64 (((sortP l).length : Nat) : Int)))]) ([⟨((lastS (sortP l)).2), 9, (List.map Card.row ((lastS (sortP l)).1)), none⟩] : Heap)) ∧ (rowsIn ([⟨((lastS (sortP l)).2), 9, (List.map Card.row ((lastS (sortP l)).1)), none⟩] : Heap) 9 (AV.osl 0 ((lastS (sortP l)).2) 9 0 ((lastS (sortP l)).1.length)) = some (List.map Card.row ((lastS (sortP l)).1)) ∧ AV.bddss 0 (List.map Card.row ((lastS (sortP l)).1)) = true) ∧ (AV.bdd 0 (AV.sl .any 9 (List.map Card.row ((lastS (sortP l)).1))) = true ∧ obsB 0 ([] : Heap) = true) ∧ ((AV.sl .any 9 (List.map Card.row ((lastS (sortP l)).1))), ([] : Heap)) = ((AV.sl .any 9 (List.map Card.row (lastK l))), ([] : Heap))) = _) ?_
  refine And.intro (sortCardW_at l (by first | omega | assumption | (simp; done) | (simp; omega) | (simp_all; done) | (simp_all; omega)) ([⟨0, 9, (List.map Card.row []), none⟩] : Heap)) ?_
  refine And.intro (Yes.len _ _ _) ?_
  refine And.intro ((last_loop (sortP l) (List.length (sortP l)) [] 0 0 0 _ (by omega) rfl (by omega) (by omega) (by unfold lastS; rfl))) ?_
  refine And.intro (And.intro (rowsIn_all (room := none) (by kernel_rfl) (by first | omega | (simp; done) | (simp; omega))) (Card.rows_bdd _ _)) ?_
  refine And.intro (by first | (simp [obsB, AV.bddss, AV.bdds, AV.bdd]; done) | (simp [obsB, AV.bddss, AV.bdds, AV.bdd, -List.map_append]; done) | simp [obsB, AV.bddss, AV.bdds, AV.bdd, -List.map_append, -List.map_set, -List.map_take, -List.map_drop, -List.map_cons, -List.map_map]) ?_
  with_unfolding_all rfl
theorem lastW_at (l : List Card) (hl : l.length < 1000) (H : Heap) : ACalls Try.prog 96 [(AV.sl .any 9 (List.map Card.row l))] H ((AV.sl .any 9 (List.map Card.row (lastK l))), H) := (lastW_spec l hl).lift (by kernel_rfl) (by kernel_rfl) H
set_option maxRecDepth 100000 in
theorem cmpGW_spec (mine dig : List Card) (hm : mine.length < 1000) (hd : dig.length < 1000) : ACalls Try.prog 53 [(AV.sl .any 9 (List.map Card.row mine)), (AV.sl .any 9 (List.map Card.row dig))] ([] : Heap) ((AV.tup [(AV.sl .any 2 (List.map Key.row (wantK mine dig))), (AV.sl .any 9 (List.map Card.row (tellK mine dig)))]), ([] : Heap)) := by
  have h1 := lastK_len mine
  have h2 := lastK_len dig
  have h3 := aheadK_len (lastK dig) (lastK mine)
  have h4 := keysC_len (aheadK (lastK dig) (lastK mine))
  refine spec (fn := Try.f53) (ann := cmpG_ann) (t := (.reg [] [] [] (.reg [(1, ((AV.sl .any 9 (List.map Card.row (lastK mine))), ([] : Heap))), (3, ((AV.sl .any 9 (List.map Card.row (lastK dig))), ([] : Heap)))] [] [] (.reg [] [] [] (.reg [(2, ((AV.sl .any 9 (List.map Card.row (aheadK (lastK dig) (lastK mine)))), ([⟨0, 2, (List.map Key.row []), none⟩] : Heap))), (3, ((AV.int .i64 (((aheadK (lastK dig) (lastK mine)).length : Nat) : Int)), ([⟨0, 2, (List.map Key.row []), none⟩] : Heap)))] [] [] (.loop (.exit 0) (mkF 33 [(6, (AV.sl .any 9 (List.map Card.row (lastK mine)))), (7, (AV.sl .any 9 (List.map Card.row (lastK dig)))), (8, (AV.osl 0 (keysC (aheadK (lastK dig) (lastK mine))).length 2 0 (keysC (aheadK (lastK dig) (lastK mine))).length)), (17, (AV.sl .any 9 (List.map Card.row (aheadK (lastK dig) (lastK mine))))), (18, (AV.int .i64 (((aheadK (lastK dig) (lastK mine)).length : Nat) : Int))), (19, (AV.int .i64 (((aheadK (lastK dig) (lastK mine)).length : Nat) : Int)))]) ([⟨(keysC (aheadK (lastK dig) (lastK mine))).length, 2, (List.map Key.row (keysC (aheadK (lastK dig) (lastK mine)))), none⟩] : Heap) (.reg [(3, ((AV.sl .any 9 (List.map Card.row (aheadK (lastK mine) (lastK dig)))), ([⟨((keysC (aheadK (lastK dig) (lastK mine))).length + 1), 2, [], none⟩] : Heap)))] [(8, (List.map Key.row (keysC (aheadK (lastK dig) (lastK mine)))))] [] .nil))))))) (Nat.le_of_ble_eq_true (by kernel_rfl)) ⟨Try.func53, by kernel_rfl, by kernel_rfl, by kernel_rfl⟩ ?_
  refine Eq.mp (by kernel_rfl : ((ACalls Try.prog 96 [(AV.sl .any 9 (List.map Card.row mine))] ([] : Heap) ((AV.sl .any 9 (List.map Card.row (lastK mine))), ([] : Heap))) ∧ (ACalls Try.prog 96 [(AV.sl .any 9 (List.map Card.row dig))] ([] : Heap) ((AV.sl .any 9 (List.map Card.row (lastK dig))), ([] : Heap))) ∧ (ACalls Try.prog 97 [(AV.sl .any 9 (List.map Card.row (lastK dig))), (AV.sl .any 9 (List.map Card.row (lastK mine)))] ([⟨0, 2, (List.map Key.row []), none⟩] : Heap) ((AV.sl .any 9 (List.map Card.row (aheadK (lastK dig) (lastK mine)))), ([⟨0, 2, (List.map Key.row []), none⟩] : Heap))) ∧ (Yes (.int .i64 ((List.length (List.map Card.row (aheadK (lastK dig) (lastK mine))) : Nat) : Int)) ([⟨0, 2, (List.map Key.row []), none⟩] : Heap) (AV.int .i64 (((aheadK (lastK dig) (lastK mine)).length : Nat) : Int))) ∧ (LoopTo (codeQ Try.prog (X cmpG_ann) (loopOf Try.f53 0)) (some [6, 7, 8, 17, 18, 19]) (some [6, 7, 8, 17, 18, 19]) (mkF 33 [(6, (AV.sl .any 9 (List.map Card.row (lastK mine)))), (7, (AV.sl .any 9 (List.map Card.row (lastK dig)))), (8, (AV.osl 0 0 2 0 0)), (17, (AV.sl .any 9 (List.map Card.row (aheadK (lastK dig) (lastK mine))))), (18, (AV.int .i64 (((aheadK (lastK dig) (lastK mine)).length : Nat) : Int))), (19, (AV.int .i64 0))]) ([⟨0, 2, (List.map Key.row []), none⟩] : Heap) (.exit 0) (mkF 33 [(6, (AV.sl .any 9 (List.map Card.row (lastK mine)))), (7, (AV.sl .any 9 (List.map Card.row (lastK dig)))), (8, (AV.osl 0 (keysC (aheadK (lastK dig) (lastK mine))).length 2 0 (keysC (aheadK (lastK dig) (lastK mine))).length)), (17, (AV.sl .any 9 (List.map Card.row (aheadK (lastK dig) (lastK mine))))), (18, (AV.int .i64 (((aheadK (lastK dig) (lastK mine)).length : Nat) : Int))), (19, (AV.int .i64 (((aheadK (lastK dig) (lastK mine)).length : Nat) : Int)))]) ([⟨(keysC (aheadK (lastK dig) (lastK mine))).length, 2, (List.map Key.row (keysC (aheadK (lastK dig) (lastK mine)))), none⟩] : Heap)) ∧ (rowsIn ([⟨(keysC (aheadK (lastK dig) (lastK mine))).length, 2, (List.map Key.row (keysC (aheadK (lastK dig) (lastK mine)))), none⟩] : Heap) 2 (AV.osl 0 (keysC (aheadK (lastK dig) (lastK mine))).length 2 0 (keysC (aheadK (lastK dig) (lastK mine))).length) = some (List.map Key.row (keysC (aheadK (lastK dig) (lastK mine)))) ∧ AV.bddss 0 (List.map Key.row (keysC (aheadK (lastK dig) (lastK mine)))) = true) ∧ (ACalls Try.prog 97 [(AV.sl .any 9 (List.map Card.row (lastK mine))), (AV.sl .any 9 (List.map Card.row (lastK dig)))] ([⟨((keysC (aheadK (lastK dig) (lastK mine))).length + 1), 2, [], none⟩] : Heap) ((AV.sl .any 9 (List.map Card.row (aheadK (lastK mine) (lastK dig)))), ([⟨((keysC (aheadK (lastK dig) (lastK mine))).length + 1), 2, [], none⟩] : Heap))) ∧ (AV.bdd 0 (AV.tup [(AV.sl .any 2 (List.map Key.row (keysC (aheadK (lastK dig) (lastK mine))))), (AV.sl .any 9 (List.map Card.row (aheadK (lastK mine) (lastK dig))))]) = true ∧ obsB 0 ([] : Heap) = true) ∧ ((AV.tup [(AV.sl .any 2 (List.map Key.row (keysC (aheadK (lastK dig) (lastK mine))))), (AV.sl .any 9 (List.map Card.row (aheadK (lastK mine) (lastK dig))))]), ([] : Heap)) = ((AV.tup [(AV.sl .any 2 (List.map Key.row (wantK mine dig))), (AV.sl .any 9 (List.map Card.row (tellK mine dig)))]), ([] : Heap))) = _) ?_
  refine And.intro (lastW_at mine (by first | omega | assumption | (simp; done) | (simp; omega) | (simp_all; done) | (simp_all; omega)) ([] : Heap)) ?_
  refine And.intro (lastW_at dig (by first | omega | assumption | (simp; done) | (simp; omega) | (simp_all; done) | (simp_all; omega)) ([] : Heap)) ?_
  refine And.intro (ahead_at (lastK dig) (lastK mine) (by first | omega | assumption | (simp; done) | (simp; omega) | (simp_all; done) | (simp_all; omega)) (by first | omega | assumption | (simp; done) | (simp; omega) | (simp_all; done) | (simp_all; omega)) ([⟨0, 2, (List.map Key.row []), none⟩] : Heap)) ?_
  refine And.intro (Yes.len _ _ _) ?_
  refine And.intro ((cmpG_loop (aheadK (lastK dig) (lastK mine)) (lastK mine) (lastK dig) (by omega) (List.length (aheadK (lastK dig) (lastK mine))) [] 0 0 0 (keysC (aheadK (lastK dig) (lastK mine)), (keysC (aheadK (lastK dig) (lastK mine))).length, (keysC (aheadK (lastK dig) (lastK mine))).length) (by omega) rfl (by omega) (cmpG_iter _ _ _))) ?_
  refine And.intro (And.intro (rowsIn_all (room := none) (by kernel_rfl) (by first | omega | (simp; done) | (simp; omega))) (Key.rows_bdd _ _)) ?_
  refine And.intro (ahead_at (lastK mine) (lastK dig) (by first | omega | assumption | (simp; done) | (simp; omega) | (simp_all; done) | (simp_all; omega)) (by first | omega | assumption | (simp; done) | (simp; omega) | (simp_all; done) | (simp_all; omega)) ([⟨((keysC (aheadK (lastK dig) (lastK mine))).length + 1), 2, [], none⟩] : Heap)) ?_
  refine And.intro (by first | (simp [obsB, AV.bddss, AV.bdds, AV.bdd]; done) | (simp [obsB, AV.bddss, AV.bdds, AV.bdd, -List.map_append]; done) | simp [obsB, AV.bddss, AV.bdds, AV.bdd, -List.map_append, -List.map_set, -List.map_take, -List.map_drop, -List.map_cons, -List.map_map]) ?_
  with_unfolding_all rfl
theorem cmpGW_at (mine dig : List Card) (hm : mine.length < 1000) (hd : dig.length < 1000) (H : Heap) : ACalls Try.prog 53 [(AV.sl .any 9 (List.map Card.row mine)), (AV.sl .any 9 (List.map Card.row dig))] H ((AV.tup [(AV.sl .any 2 (List.map Key.row (wantK mine dig))), (AV.sl .any 9 (List.map Card.row (tellK mine dig)))]), H) := (cmpGW_spec mine dig hm hd).lift (by kernel_rfl) (by kernel_rfl) H
def digestW_ann : Ann := { fin := some 0 }
set_option maxRecDepth 100000 in
theorem digestW_spec (l : List Card) (hl : l.length < 1000) : ACalls Try.prog 54 [(AV.sl .any 9 (List.map Card.row l))] ([] : Heap) ((AV.agg [(AV.int .i64 4), (AV.int .i64 0), (AV.int .i64 0), (AV.int .i64 0), (AV.int .i64 0), (AV.int .i64 0), (AV.int .i64 0), (AV.str (ByteArray.mk #[])), (AV.str (ByteArray.mk #[])), (AV.bool false), (AV.int .u32 0), (AV.sl .any 9 (List.map Card.row (digK l))), (AV.sl .nil 0 [])]), ([] : Heap)) := by
  have h1 := sortP_len l
  refine spec (fn := Try.f54) (ann := digestW_ann) (t := (.reg [] [] [] (.reg [(1, ((AV.sl .any 9 (List.map Card.row (sortP l))), ([⟨0, 13, [[(AV.int .i64 0), (AV.int .i64 0), (AV.int .i64 0), (AV.int .i64 0), (AV.int .i64 0), (AV.int .i64 0), (AV.int .i64 0), (AV.str (ByteArray.mk #[])), (AV.str (ByteArray.mk #[])), (AV.bool false), (AV.int .u32 0), (AV.sl .nil 0 []), (AV.sl .nil 0 [])]], none⟩] : Heap)))] [] [] (.reg [(2, ((AV.int .i64 (((sortP l).length : Nat) : Int)), ([⟨0, 13, [[(AV.int .i64 0), (AV.int .i64 0), (AV.int .i64 0), (AV.int .i64 0), (AV.int .i64 0), (AV.int .i64 0), (AV.int .i64 0), (AV.str (ByteArray.mk #[])), (AV.str (ByteArray.mk #[])), (AV.bool false), (AV.int .u32 0), (AV.sl .nil 0 []), (AV.sl .nil 0 [])]], none⟩] : Heap))), (3, ((AV.int .i64 ((min (sortP l).length 64 : Nat) : Int)), ([⟨0, 13, [[(AV.int .i64 0), (AV.int .i64 0), (AV.int .i64 0), (AV.int .i64 0), (AV.int .i64 0), (AV.int .i64 0), (AV.int .i64 0), (AV.str (ByteArray.mk #[])), (AV.str (ByteArray.mk #[])), (AV.bool false), (AV.int .u32 0), (AV.sl .nil 0 []), (AV.sl .nil 0 [])]], none⟩] : Heap))), (4, ((AV.sl .any 9 (List.map Card.row ((sortP l).take (min (sortP l).length 64)))), ([⟨0, 13, [[(AV.int .i64 0), (AV.int .i64 0), (AV.int .i64 0), (AV.int .i64 0), (AV.int .i64 0), (AV.int .i64 0), (AV.int .i64 0), (AV.str (ByteArray.mk #[])), (AV.str (ByteArray.mk #[])), (AV.bool false), (AV.int .u32 0), (AV.sl .nil 0 []), (AV.sl .nil 0 [])]], none⟩] : Heap))), (5, ((AV.sl .any 9 (List.map Card.row ((sortP l).take (min (sortP l).length 64)))), ([⟨0, 13, [[(AV.int .i64 0), (AV.int .i64 0), (AV.int .i64 0), (AV.int .i64 0), (AV.int .i64 0), (AV.int .i64 0), (AV.int .i64 0), (AV.str (ByteArray.mk #[])), (AV.str (ByteArray.mk #[])), (AV.bool false), (AV.int .u32 0), (AV.sl .nil 0 []), (AV.sl .nil 0 [])]], none⟩] : Heap)))] [] [] .nil)))) (Nat.le_of_ble_eq_true (by kernel_rfl)) ⟨Try.func54, by kernel_rfl, by kernel_rfl, by kernel_rfl⟩ ?_
  refine Eq.mp (by kernel_rfl : ((ACalls Try.prog 87 [(AV.sl .any 9 (List.map Card.row l))] ([⟨0, 13, [[(AV.int .i64 0), (AV.int .i64 0), (AV.int .i64 0), (AV.int .i64 0), (AV.int .i64 0), (AV.int .i64 0), (AV.int .i64 0), (AV.str (ByteArray.mk #[])), (AV.str (ByteArray.mk #[])), (AV.bool false), (AV.int .u32 0), (AV.sl .nil 0 []), (AV.sl .nil 0 [])]], none⟩] : Heap) ((AV.sl .any 9 (List.map Card.row (sortP l))), ([⟨0, 13, [[(AV.int .i64 0), (AV.int .i64 0), (AV.int .i64 0), (AV.int .i64 0), (AV.int .i64 0), (AV.int .i64 0), (AV.int .i64 0), (AV.str (ByteArray.mk #[])), (AV.str (ByteArray.mk #[])), (AV.bool false), (AV.int .u32 0), (AV.sl .nil 0 []), (AV.sl .nil 0 [])]], none⟩] : Heap))) ∧ (Yes (.int .i64 ((List.length (List.map Card.row (sortP l)) : Nat) : Int)) ([⟨0, 13, [[(AV.int .i64 0), (AV.int .i64 0), (AV.int .i64 0), (AV.int .i64 0), (AV.int .i64 0), (AV.int .i64 0), (AV.int .i64 0), (AV.str (ByteArray.mk #[])), (AV.str (ByteArray.mk #[])), (AV.bool false), (AV.int .u32 0), (AV.sl .nil 0 []), (AV.sl .nil 0 [])]], none⟩] : Heap) (AV.int .i64 (((sortP l).length : Nat) : Int))) ∧ (Yes (.int .i64 (if 64 < (((sortP l).length : Nat) : Int) then 64 else (((sortP l).length : Nat) : Int))) ([⟨0, 13, [[(AV.int .i64 0), (AV.int .i64 0), (AV.int .i64 0), (AV.int .i64 0), (AV.int .i64 0), (AV.int .i64 0), (AV.int .i64 0), (AV.str (ByteArray.mk #[])), (AV.str (ByteArray.mk #[])), (AV.bool false), (AV.int .u32 0), (AV.sl .nil 0 []), (AV.sl .nil 0 [])]], none⟩] : Heap) (AV.int .i64 ((min (sortP l).length 64 : Nat) : Int))) ∧ (Option.map (fun a => (a, ([⟨0, 13, [[(AV.int .i64 0), (AV.int .i64 0), (AV.int .i64 0), (AV.int .i64 0), (AV.int .i64 0), (AV.int .i64 0), (AV.int .i64 0), (AV.str (ByteArray.mk #[])), (AV.str (ByteArray.mk #[])), (AV.bool false), (AV.int .u32 0), (AV.sl .nil 0 []), (AV.sl .nil 0 [])]], none⟩] : Heap))) (if 9 = 9 ∨ ((List.map Card.row (sortP l))).isEmpty = true then (bounds 0 ((min (sortP l).length 64 : Nat) : Int) (List.length (List.map Card.row (sortP l)))).map fun p => AV.sl .any 9 ((List.take p.2 (List.map Card.row (sortP l))).drop p.1) else none) = some ((AV.sl .any 9 (List.map Card.row ((sortP l).take (min (sortP l).length 64)))), ([⟨0, 13, [[(AV.int .i64 0), (AV.int .i64 0), (AV.int .i64 0), (AV.int .i64 0), (AV.int .i64 0), (AV.int .i64 0), (AV.int .i64 0), (AV.str (ByteArray.mk #[])), (AV.str (ByteArray.mk #[])), (AV.bool false), (AV.int .u32 0), (AV.sl .nil 0 []), (AV.sl .nil 0 [])]], none⟩] : Heap))) ∧ (ACalls Try.prog 98 [(AV.sl .any 9 (List.map Card.row ((sortP l).take (min (sortP l).length 64))))] ([⟨0, 13, [[(AV.int .i64 0), (AV.int .i64 0), (AV.int .i64 0), (AV.int .i64 0), (AV.int .i64 0), (AV.int .i64 0), (AV.int .i64 0), (AV.str (ByteArray.mk #[])), (AV.str (ByteArray.mk #[])), (AV.bool false), (AV.int .u32 0), (AV.sl .nil 0 []), (AV.sl .nil 0 [])]], none⟩] : Heap) ((AV.sl .any 9 (List.map Card.row ((sortP l).take (min (sortP l).length 64)))), ([⟨0, 13, [[(AV.int .i64 0), (AV.int .i64 0), (AV.int .i64 0), (AV.int .i64 0), (AV.int .i64 0), (AV.int .i64 0), (AV.int .i64 0), (AV.str (ByteArray.mk #[])), (AV.str (ByteArray.mk #[])), (AV.bool false), (AV.int .u32 0), (AV.sl .nil 0 []), (AV.sl .nil 0 [])]], none⟩] : Heap))) ∧ (AV.bdd 0 (AV.agg [(AV.int .i64 4), (AV.int .i64 0), (AV.int .i64 0), (AV.int .i64 0), (AV.int .i64 0), (AV.int .i64 0), (AV.int .i64 0), (AV.str (ByteArray.mk #[])), (AV.str (ByteArray.mk #[])), (AV.bool false), (AV.int .u32 0), (AV.sl .any 9 (List.map Card.row ((sortP l).take (min (sortP l).length 64)))), (AV.sl .nil 0 [])]) = true ∧ obsB 0 ([] : Heap) = true) ∧ ((AV.agg [(AV.int .i64 4), (AV.int .i64 0), (AV.int .i64 0), (AV.int .i64 0), (AV.int .i64 0), (AV.int .i64 0), (AV.int .i64 0), (AV.str (ByteArray.mk #[])), (AV.str (ByteArray.mk #[])), (AV.bool false), (AV.int .u32 0), (AV.sl .any 9 (List.map Card.row ((sortP l).take (min (sortP l).length 64)))), (AV.sl .nil 0 [])]), ([] : Heap)) = ((AV.agg [(AV.int .i64 4), (AV.int .i64 0), (AV.int .i64 0), (AV.int .i64 0), (AV.int .i64 0), (AV.int .i64 0), (AV.int .i64 0), (AV.str (ByteArray.mk #[])), (AV.str (ByteArray.mk #[])), (AV.bool false), (AV.int .u32 0), (AV.sl .any 9 (List.map Card.row (digK l))), (AV.sl .nil 0 [])]), ([] : Heap))) = _) ?_
  refine And.intro (sortCardW_at l (by first | omega | assumption | (simp; done) | (simp; omega) | (simp_all; done) | (simp_all; omega)) ([⟨0, 13, [[(AV.int .i64 0), (AV.int .i64 0), (AV.int .i64 0), (AV.int .i64 0), (AV.int .i64 0), (AV.int .i64 0), (AV.int .i64 0), (AV.str (ByteArray.mk #[])), (AV.str (ByteArray.mk #[])), (AV.bool false), (AV.int .u32 0), (AV.sl .nil 0 []), (AV.sl .nil 0 [])]], none⟩] : Heap)) ?_
  refine And.intro (Yes.len _ _ _) ?_
  refine And.intro (Yes.int (by split <;> omega)) ?_
  refine And.intro (slice_sl (l := 0) (h := min (sortP l).length 64) (by first | omega | (simp; done) | (simp; omega)) (by first | omega | (simp; done) | (simp; omega)) (by first | omega | (simp; done) | (simp; omega)) (by first | omega | (simp; done) | (simp; omega)) (by simp [List.map_take, List.map_drop, List.take_of_length_le])) ?_
  refine And.intro (cloneCF_at ((sortP l).take (min (sortP l).length 64)) (by first | omega | assumption | (simp; done) | (simp; omega) | (simp_all; done) | (simp_all; omega)) ([⟨0, 13, [[(AV.int .i64 0), (AV.int .i64 0), (AV.int .i64 0), (AV.int .i64 0), (AV.int .i64 0), (AV.int .i64 0), (AV.int .i64 0), (AV.str (ByteArray.mk #[])), (AV.str (ByteArray.mk #[])), (AV.bool false), (AV.int .u32 0), (AV.sl .nil 0 []), (AV.sl .nil 0 [])]], none⟩] : Heap)) ?_
  refine And.intro (by first | (simp [obsB, AV.bddss, AV.bdds, AV.bdd]; done) | (simp [obsB, AV.bddss, AV.bdds, AV.bdd, -List.map_append]; done) | simp [obsB, AV.bddss, AV.bdds, AV.bdd, -List.map_append, -List.map_set, -List.map_take, -List.map_drop, -List.map_cons, -List.map_map]) ?_
  with_unfolding_all rfl
theorem digestW_at (l : List Card) (hl : l.length < 1000) (H : Heap) : ACalls Try.prog 54 [(AV.sl .any 9 (List.map Card.row l))] H ((AV.agg [(AV.int .i64 4), (AV.int .i64 0), (AV.int .i64 0), (AV.int .i64 0), (AV.int .i64 0), (AV.int .i64 0), (AV.int .i64 0), (AV.str (ByteArray.mk #[])), (AV.str (ByteArray.mk #[])), (AV.bool false), (AV.int .u32 0), (AV.sl .any 9 (List.map Card.row (digK l))), (AV.sl .nil 0 [])]), H) := (digestW_spec l hl).lift (by kernel_rfl) (by kernel_rfl) H
set_option maxRecDepth 100000 in
theorem answerW_spec (mine : List Card) (keys : List Key) (hm : mine.length < 1000) (hks : keys.length < 1048576) : ACalls Try.prog 56 [(AV.sl .any 9 (List.map Card.row mine)), (AV.sl .any 2 (List.map Key.row keys))] ([] : Heap) ((AV.sl .any 9 (List.map Card.row (answerK mine keys))), ([] : Heap)) := by
  have h1 := lastK_len mine
  have h2 := ansK_len (lastK mine) keys []
  refine spec (fn := Try.f56) (ann := answer_ann) (t := (.reg [] [] [] (.reg [(1, ((AV.sl .any 9 (List.map Card.row (lastK mine))), ([] : Heap)))] [] [] (.reg [] [] [] (.reg [(1, ((AV.int .i64 ((keys.length : Nat) : Int)), ([⟨0, 9, (List.map Card.row []), none⟩] : Heap)))] [] [] (.loop (.exit 0) (mkF 41 [(1, (AV.sl .any 2 (List.map Key.row keys))), (5, (AV.sl .any 9 (List.map Card.row (lastK mine)))), (6, (AV.osl 0 (ansK (lastK mine) [] keys).length 9 0 (ansK (lastK mine) [] keys).length)), (13, (AV.sl .any 2 (List.map Key.row keys))), (14, (AV.int .i64 ((keys.length : Nat) : Int))), (15, (AV.int .i64 ((keys.length : Nat) : Int)))]) ([⟨(ansK (lastK mine) [] keys).length, 9, (List.map Card.row (ansK (lastK mine) [] keys)), none⟩] : Heap) (.reg [] [(6, (List.map Card.row (ansK (lastK mine) [] keys)))] [] .nil))))))) (Nat.le_of_ble_eq_true (by kernel_rfl)) ⟨Try.func56, by kernel_rfl, by kernel_rfl, by kernel_rfl⟩ ?_
  refine Eq.mp (by kernel_rfl : ((ACalls Try.prog 96 [(AV.sl .any 9 (List.map Card.row mine))] ([] : Heap) ((AV.sl .any 9 (List.map Card.row (lastK mine))), ([] : Heap))) ∧ (Yes (.int .i64 ((List.length (List.map Key.row keys) : Nat) : Int)) ([⟨0, 9, (List.map Card.row []), none⟩] : Heap) (AV.int .i64 ((keys.length : Nat) : Int))) ∧ (LoopTo (codeQ Try.prog (X answer_ann) (loopOf Try.f56 0)) (some [1, 5, 6, 13, 14, 15]) (some [1, 5, 6, 13, 14, 15]) (mkF 41 [(1, (AV.sl .any 2 (List.map Key.row keys))), (5, (AV.sl .any 9 (List.map Card.row (lastK mine)))), (6, (AV.osl 0 0 9 0 0)), (13, (AV.sl .any 2 (List.map Key.row keys))), (14, (AV.int .i64 ((keys.length : Nat) : Int))), (15, (AV.int .i64 0))]) ([⟨0, 9, (List.map Card.row []), none⟩] : Heap) (.exit 0) (mkF 41 [(1, (AV.sl .any 2 (List.map Key.row keys))), (5, (AV.sl .any 9 (List.map Card.row (lastK mine)))), (6, (AV.osl 0 (ansK (lastK mine) [] keys).length 9 0 (ansK (lastK mine) [] keys).length)), (13, (AV.sl .any 2 (List.map Key.row keys))), (14, (AV.int .i64 ((keys.length : Nat) : Int))), (15, (AV.int .i64 ((keys.length : Nat) : Int)))]) ([⟨(ansK (lastK mine) [] keys).length, 9, (List.map Card.row (ansK (lastK mine) [] keys)), none⟩] : Heap)) ∧ (rowsIn ([⟨(ansK (lastK mine) [] keys).length, 9, (List.map Card.row (ansK (lastK mine) [] keys)), none⟩] : Heap) 9 (AV.osl 0 (ansK (lastK mine) [] keys).length 9 0 (ansK (lastK mine) [] keys).length) = some (List.map Card.row (ansK (lastK mine) [] keys)) ∧ AV.bddss 0 (List.map Card.row (ansK (lastK mine) [] keys)) = true) ∧ (AV.bdd 0 (AV.sl .any 9 (List.map Card.row (ansK (lastK mine) [] keys))) = true ∧ obsB 0 ([] : Heap) = true) ∧ ((AV.sl .any 9 (List.map Card.row (ansK (lastK mine) [] keys))), ([] : Heap)) = ((AV.sl .any 9 (List.map Card.row (answerK mine keys))), ([] : Heap))) = _) ?_
  refine And.intro (lastW_at mine (by first | omega | assumption | (simp; done) | (simp; omega) | (simp_all; done) | (simp_all; omega)) ([] : Heap)) ?_
  refine And.intro (Yes.len _ _ _) ?_
  refine And.intro ((answer_loop keys (lastK mine) (by omega) (by omega) (List.length keys) [] 0 0 0 (ansK (lastK mine) [] keys, (ansK (lastK mine) [] keys).length, (ansK (lastK mine) [] keys).length) (by omega) rfl (by omega) (answer_iter _ _))) ?_
  refine And.intro (And.intro (rowsIn_all (room := none) (by kernel_rfl) (by first | omega | (simp; done) | (simp; omega))) (Card.rows_bdd _ _)) ?_
  refine And.intro (by first | (simp [obsB, AV.bddss, AV.bdds, AV.bdd]; done) | (simp [obsB, AV.bddss, AV.bdds, AV.bdd, -List.map_append]; done) | simp [obsB, AV.bddss, AV.bdds, AV.bdd, -List.map_append, -List.map_set, -List.map_take, -List.map_drop, -List.map_cons, -List.map_map]) ?_
  with_unfolding_all rfl
theorem answerW_at (mine : List Card) (keys : List Key) (hm : mine.length < 1000) (hks : keys.length < 1048576) (H : Heap) : ACalls Try.prog 56 [(AV.sl .any 9 (List.map Card.row mine)), (AV.sl .any 2 (List.map Key.row keys))] H ((AV.sl .any 9 (List.map Card.row (answerK mine keys))), H) := (answerW_spec mine keys hm hks).lift (by kernel_rfl) (by kernel_rfl) H
def rstLess_ann : Ann := { refs := [2, 3], fin := some 0 }
set_option maxRecDepth 100000 in
theorem rstLess_spec (a b : Stamp)  : ACalls Try.prog 126 [(AV.agg (Stamp.row a)), (AV.agg (Stamp.row b))] ([] : Heap) ((AV.bool (decide (cmpSt a b < 0))), ([] : Heap)) := by
  refine spec (fn := Try.f126) (ann := rstLess_ann) (t := (.reg [] [] [] (.reg [] [] [] (.two (.reg [] [] [] .nil) (.reg [] [] [] (.two (.reg [] [] [] .nil) (.reg [] [] [] .nil))))))) (Nat.le_of_ble_eq_true (by kernel_rfl)) ⟨Try.func126, by kernel_rfl, by kernel_rfl, by kernel_rfl⟩ ?_
  refine Eq.mp (by kernel_rfl : (cond (a.t != b.t) ((AV.bdd 0 (AV.bool (decide (a.t < b.t))) = true ∧ obsB 0 ([] : Heap) = true) ∧ ((AV.bool (decide (a.t < b.t))), ([] : Heap)) = ((AV.bool (decide (cmpSt a b < 0))), ([] : Heap))) (cond (a.n != b.n) ((AV.bdd 0 (AV.bool (decide (a.n < b.n))) = true ∧ obsB 0 ([] : Heap) = true) ∧ ((AV.bool (decide (a.n < b.n))), ([] : Heap)) = ((AV.bool (decide (cmpSt a b < 0))), ([] : Heap))) ((AV.bdd 0 (AV.bool (decide (a.node < b.node))) = true ∧ obsB 0 ([] : Heap) = true) ∧ ((AV.bool (decide (a.node < b.node))), ([] : Heap)) = ((AV.bool (decide (cmpSt a b < 0))), ([] : Heap))))) = _) ?_
  refine cond_split (fun h1 => ?_) (fun h1 => ?_)
  · have h1' := h1
    try simp at h1'
    refine And.intro (by first | (simp [obsB, AV.bddss, AV.bdds, AV.bdd]; done) | (simp [obsB, AV.bddss, AV.bdds, AV.bdd, -List.map_append]; done) | simp [obsB, AV.bddss, AV.bdds, AV.bdd, -List.map_append, -List.map_set, -List.map_take, -List.map_drop, -List.map_cons, -List.map_map]) ?_
    simp only [cmpSt, cmpI]
    simp_all <;> (try (split <;> simp_all <;> omega)) <;> (try omega)
  · have h1' := h1
    try simp at h1'
    refine cond_split (fun h2 => ?_) (fun h2 => ?_)
    · have h2' := h2
      try simp at h2'
      refine And.intro (by first | (simp [obsB, AV.bddss, AV.bdds, AV.bdd]; done) | (simp [obsB, AV.bddss, AV.bdds, AV.bdd, -List.map_append]; done) | simp [obsB, AV.bddss, AV.bdds, AV.bdd, -List.map_append, -List.map_set, -List.map_take, -List.map_drop, -List.map_cons, -List.map_map]) ?_
      simp only [cmpSt, cmpI]
      simp_all <;> (try (split <;> simp_all <;> omega)) <;> (try omega)
    · have h2' := h2
      try simp at h2'
      refine And.intro (by first | (simp [obsB, AV.bddss, AV.bdds, AV.bdd]; done) | (simp [obsB, AV.bddss, AV.bdds, AV.bdd, -List.map_append]; done) | simp [obsB, AV.bddss, AV.bdds, AV.bdd, -List.map_append, -List.map_set, -List.map_take, -List.map_drop, -List.map_cons, -List.map_map]) ?_
      simp only [cmpSt, cmpI]
      simp_all <;> (try (split <;> simp_all <;> omega)) <;> (try omega)
theorem rstLess_at (a b : Stamp)  (H : Heap) : ACalls Try.prog 126 [(AV.agg (Stamp.row a)), (AV.agg (Stamp.row b))] H ((AV.bool (decide (cmpSt a b < 0))), H) := (rstLess_spec a b ).lift (by kernel_rfl) (by kernel_rfl) H
def rfO (l : List Card) (k : Key) : Option Card := (l.filter (isKey k)).getLast?
def rfC (l : List Card) (k : Key) : Card := (rfO l k).getD zeroC
def rinC (l : List Card) (k : Key) : Bool := (rfO l k).isSome
theorem rfO_at {l : List Card} {k : Key} {n : Nat} (hn : n < l.length) (hp : isKey k (nth l n) = true) (h : ∀ j, n < j → j < l.length → isKey k (nth l j) = false) : rfO l k = some (nth l n) := by
  have e : l = l.take n ++ (nth l n :: l.drop (n + 1)) := by rw [← drop_nth hn, List.take_append_drop]
  have e2 : (l.drop (n + 1)).filter (isKey k) = [] := List.filter_eq_nil_iff.2 fun x hx => by
    obtain ⟨j, hj, rfl⟩ := mem_nth hx
    rw [nth_drop]
    simp only [List.length_drop] at hj
    rw [h (n + 1 + j) (by omega) (by omega)]; simp
  unfold rfO
  conv => lhs; rw [e]
  rw [List.filter_append, List.filter_cons, if_pos hp, e2]; simp
theorem rfO_none {l : List Card} {k : Key} (h : ∀ j, j < l.length → isKey k (nth l j) = false) : rfO l k = none := by
  have e2 : l.filter (isKey k) = [] := List.filter_eq_nil_iff.2 fun x hx => by
    obtain ⟨j, hj, rfl⟩ := mem_nth hx
    rw [h j hj]; simp
  unfold rfO; rw [e2]; rfl
def lastIx (p : Nat → Bool) : Nat → Option Nat
  | 0 => none
  | i + 1 => if p i = true then some i else lastIx p i
theorem lastIx_some {p : Nat → Bool} : ∀ {i n : Nat}, lastIx p i = some n → n < i ∧ p n = true ∧ ∀ j, n < j → j < i → p j = false
  | 0, n, h => by simp [lastIx] at h
  | i + 1, n, h => by
    simp only [lastIx] at h
    split at h
    · rename_i hp
      simp only [Option.some.injEq] at h
      subst h
      exact ⟨by omega, hp, fun j h1 h2 => by omega⟩
    · rename_i hp
      obtain ⟨h1, h2, h3⟩ := lastIx_some h
      refine ⟨by omega, h2, fun j q1 q2 => ?_⟩
      rcases Nat.lt_or_ge j i with q | q
      · exact h3 j q1 q
      · obtain rfl : j = i := by omega
        simpa using hp
theorem lastIx_none {p : Nat → Bool} : ∀ {i : Nat}, lastIx p i = none → ∀ j, j < i → p j = false
  | 0, h, j, hj => by omega
  | i + 1, h, j, hj => by
    simp only [lastIx] at h
    split at h
    · simp at h
    · rename_i hp
      rcases Nat.lt_or_ge j i with q | q
      · exact lastIx_none h j q
      · obtain rfl : j = i := by omega
        simpa using hp
def rfind_ann : Ann := { refs := [3], fin := some 0, live := [(2, [0, 3, 4, 6])], out := [(2, [4, 5])] }
set_option maxRecDepth 100000 in
theorem rfind_step (l : List Card) (k : Key) (x : Int) (hl : l.length < 1048576) (h1 : -1 ≤ x) (h2 : x < (l.length : Int)) {eX : Ex} {FX : Fr} {HX : Heap} (k1 : (decide (x ≥ 0)) = true → (Key.eqb (nth l (Int.toNat x)).key k) = true → ((.ret : Ex), (mkF 26 [(4, (AV.obj 0 0 0 0)), (5, (AV.bool true))]), ([⟨0, 9, [(Card.row (nth l (Int.toNat x)))], none⟩] : Heap)) = (eX, FX, HX)) (k2 : (decide (x ≥ 0)) = true → (Key.eqb (nth l (Int.toNat x)).key k) = false → LoopTo (codeQ Try.prog (X rfind_ann) (loopOf Try.f125 0)) (some [0, 3, 4, 6]) (some [4, 5]) (mkF 26 [(0, (AV.sl .any 9 (List.map Card.row l))), (3, (AV.ref (Key.row k) 0)), (4, (AV.obj 0 0 0 0)), (6, (AV.int .i64 (x - 1)))]) ([⟨0, 9, [(Card.row zeroC)], none⟩] : Heap) eX FX HX) (k3 : (decide (x ≥ 0)) = false → ((.exit 0 : Ex), (mkF 26 [(4, (AV.obj 0 0 0 0))]), ([⟨0, 9, [(Card.row zeroC)], none⟩] : Heap)) = (eX, FX, HX)) : LoopTo (codeQ Try.prog (X rfind_ann) (loopOf Try.f125 0)) (some [0, 3, 4, 6]) (some [4, 5]) (mkF 26 [(0, (AV.sl .any 9 (List.map Card.row l))), (3, (AV.ref (Key.row k) 0)), (4, (AV.obj 0 0 0 0)), (6, (AV.int .i64 x))]) ([⟨0, 9, [(Card.row zeroC)], none⟩] : Heap) eX FX HX := by
  refine LoopTo.step (.reg [] [] [] (.two (.reg [(2, ((AV.ref (Card.row (nth l (Int.toNat x))) 0), ([⟨0, 9, [(Card.row zeroC)], none⟩] : Heap)))] [] [] (.two (.reg [(2, ((AV.ref (Card.row (nth l (Int.toNat x))) 0), ([⟨0, 9, [(Card.row zeroC)], none⟩] : Heap)))] [] [] .nil) (.reg [(1, ((AV.int .i64 (x - 1)), ([⟨0, 9, [(Card.row zeroC)], none⟩] : Heap)))] [] [] .nil))) .nil)) ?_
  refine Eq.mp (by kernel_rfl : (cond (decide (x ≥ 0)) ((IdxSl 9 9 (List.map Card.row l) x ([⟨0, 9, [(Card.row zeroC)], none⟩] : Heap) (Card.row (nth l (Int.toNat x)))) ∧ cond (Key.eqb (nth l (Int.toNat x)).key k) ((IdxSl 9 9 (List.map Card.row l) x ([⟨0, 9, [(Card.row zeroC)], none⟩] : Heap) (Card.row (nth l (Int.toNat x)))) ∧ ((.ret : Ex), (mkF 26 [(4, (AV.obj 0 0 0 0)), (5, (AV.bool true))]), ([⟨0, 9, [(Card.row (nth l (Int.toNat x)))], none⟩] : Heap)) = (eX, FX, HX)) ((Yes (.int .i64 (IntKind.i64.wrap (x - 1))) ([⟨0, 9, [(Card.row zeroC)], none⟩] : Heap) (AV.int .i64 (x - 1))) ∧ LoopTo (codeQ Try.prog (X rfind_ann) (loopOf Try.f125 0)) (some [0, 3, 4, 6]) (some [4, 5]) (mkF 26 [(0, (AV.sl .any 9 (List.map Card.row l))), (3, (AV.ref (Key.row k) 0)), (4, (AV.obj 0 0 0 0)), (6, (AV.int .i64 (x - 1)))]) ([⟨0, 9, [(Card.row zeroC)], none⟩] : Heap) eX FX HX)) (((.exit 0 : Ex), (mkF 26 [(4, (AV.obj 0 0 0 0))]), ([⟨0, 9, [(Card.row zeroC)], none⟩] : Heap)) = (eX, FX, HX))) = _) ?_
  refine cond_split (fun h1 => ?_) (fun h1 => ?_)
  · have h1' := h1
    try simp at h1'
    refine And.intro (IdxSl.mk _ (by omega) (by omega)) ?_
    refine cond_split (fun h2 => ?_) (fun h2 => ?_)
    · have h2' := h2
      try simp at h2'
      refine And.intro (IdxSl.mk _ (by omega) (by omega)) ?_
      exact k1 h1 h2
    · have h2' := h2
      try simp at h2'
      refine And.intro (Yes.add (by omega) (by omega) rfl) ?_
      exact k2 h1 h2
  · have h1' := h1
    try simp at h1'
    exact k3 h1
theorem rfind_some (l : List Card) (k : Key) (hl : l.length < 1048576) (n : Nat) : ∀ (i : Nat) (x : Int), x = (i : Int) - 1 → i ≤ l.length → lastIx (fun j => isKey k (nth l j)) i = some n →
    LoopTo (codeQ Try.prog (X rfind_ann) (loopOf Try.f125 0)) (some [0, 3, 4, 6]) (some [4, 5]) (mkF 26 [(0, (AV.sl .any 9 (List.map Card.row l))), (3, (AV.ref (Key.row k) 0)), (4, (AV.obj 0 0 0 0)), (6, (AV.int .i64 x))]) ([⟨0, 9, [(Card.row zeroC)], none⟩] : Heap) (.ret) (mkF 26 [(4, (AV.obj 0 0 0 0)), (5, (AV.bool true))]) ([⟨0, 9, [(Card.row (nth l n))], none⟩] : Heap) := by
  intro i
  induction i with
  | zero => intro x _ _ h; simp [lastIx] at h
  | succ i ih =>
    intro x hx hi h
    obtain rfl : x = (i : Int) := by omega
    simp only [lastIx] at h
    refine rfind_step l k (i : Int) hl (by omega) (by omega) (fun _ h2 => ?_) (fun _ h2 => ?_) (fun h1 => by simp at h1)
    · have h2' : isKey k (nth l i) = true := by unfold isKey; rw [Int.toNat_natCast] at h2; exact h2
      rw [if_pos h2'] at h
      simp only [Option.some.injEq] at h
      subst h; rfl
    · have h2' : isKey k (nth l i) = false := by unfold isKey; rw [Int.toNat_natCast] at h2; exact h2
      rw [if_neg (by rw [h2']; simp)] at h
      exact ih ((i : Int) - 1) rfl (by omega) h
theorem rfind_none (l : List Card) (k : Key) (hl : l.length < 1048576) : ∀ (i : Nat) (x : Int), x = (i : Int) - 1 → i ≤ l.length → lastIx (fun j => isKey k (nth l j)) i = none →
    LoopTo (codeQ Try.prog (X rfind_ann) (loopOf Try.f125 0)) (some [0, 3, 4, 6]) (some [4, 5]) (mkF 26 [(0, (AV.sl .any 9 (List.map Card.row l))), (3, (AV.ref (Key.row k) 0)), (4, (AV.obj 0 0 0 0)), (6, (AV.int .i64 x))]) ([⟨0, 9, [(Card.row zeroC)], none⟩] : Heap) (.exit 0) (mkF 26 [(4, (AV.obj 0 0 0 0))]) ([⟨0, 9, [(Card.row zeroC)], none⟩] : Heap) := by
  intro i
  induction i with
  | zero =>
    intro x hx _ h
    exact rfind_step l k x hl (by omega) (by omega) (fun h1 _ => by simp at h1; omega) (fun h1 _ => by simp at h1; omega) (fun _ => rfl)
  | succ i ih =>
    intro x hx hi h
    obtain rfl : x = (i : Int) := by omega
    simp only [lastIx] at h
    refine rfind_step l k (i : Int) hl (by omega) (by omega) (fun _ h2 => ?_) (fun _ h2 => ?_) (fun h1 => by simp at h1)
    · have h2' : isKey k (nth l i) = true := by unfold isKey; rw [Int.toNat_natCast] at h2; exact h2
      rw [if_pos h2'] at h; simp at h
    · have h2' : isKey k (nth l i) = false := by unfold isKey; rw [Int.toNat_natCast] at h2; exact h2
      rw [if_neg (by rw [h2']; simp)] at h
      exact ih ((i : Int) - 1) rfl (by omega) h
set_option maxRecDepth 100000 in
theorem rfindS_spec (l : List Card) (k : Key) (n : Nat) (hl : l.length < 1048576) (hn : lastIx (fun j => isKey k (nth l j)) l.length = some n) : ACalls Try.prog 125 [(AV.sl .any 9 (List.map Card.row l)), (AV.agg (Key.row k))] ([] : Heap) ((AV.tup [(AV.agg (Card.row (nth l n))), (AV.bool true)]), ([] : Heap)) := by
  refine spec (fn := Try.f125) (ann := rfind_ann) (t := (.reg [] [] [] (.reg [(1, ((AV.int .i64 ((l.length : Nat) : Int)), ([⟨0, 9, [[(AV.str (ByteArray.mk #[])), (AV.str (ByteArray.mk #[])), (AV.int .i64 0), (AV.int .i64 0), (AV.int .i64 0), (AV.int .i64 0), (AV.int .i64 0), (AV.int .i64 0), (AV.bool false)]], none⟩] : Heap))), (2, ((AV.int .i64 (((l.length : Nat) : Int) - 1)), ([⟨0, 9, [[(AV.str (ByteArray.mk #[])), (AV.str (ByteArray.mk #[])), (AV.int .i64 0), (AV.int .i64 0), (AV.int .i64 0), (AV.int .i64 0), (AV.int .i64 0), (AV.int .i64 0), (AV.bool false)]], none⟩] : Heap)))] [] [] (.loop (.ret) (mkF 26 [(4, (AV.obj 0 0 0 0)), (5, (AV.bool true))]) ([⟨0, 9, [(Card.row (nth l n))], none⟩] : Heap) .nil)))) (Nat.le_of_ble_eq_true (by kernel_rfl)) ⟨Try.func125, by kernel_rfl, by kernel_rfl, by kernel_rfl⟩ ?_
  refine Eq.mp (by kernel_rfl : ((Yes (.int .i64 ((List.length (List.map Card.row l) : Nat) : Int)) ([⟨0, 9, [[(AV.str (ByteArray.mk #[])), (AV.str (ByteArray.mk #[])), (AV.int .i64 0), (AV.int .i64 0), (AV.int .i64 0), (AV.int .i64 0), (AV.int .i64 0), (AV.int .i64 0), (AV.bool false)]], none⟩] : Heap) (AV.int .i64 ((l.length : Nat) : Int))) ∧ (Yes (.int .i64 (IntKind.i64.wrap (((l.length : Nat) : Int) - 1))) ([⟨0, 9, [[(AV.str (ByteArray.mk #[])), (AV.str (ByteArray.mk #[])), (AV.int .i64 0), (AV.int .i64 0), (AV.int .i64 0), (AV.int .i64 0), (AV.int .i64 0), (AV.int .i64 0), (AV.bool false)]], none⟩] : Heap) (AV.int .i64 (((l.length : Nat) : Int) - 1))) ∧ (LoopTo (codeQ Try.prog (X rfind_ann) (loopOf Try.f125 0)) (some [0, 3, 4, 6]) (some [4, 5]) (mkF 26 [(0, (AV.sl .any 9 (List.map Card.row l))), (3, (AV.ref (Key.row k) 0)), (4, (AV.obj 0 0 0 0)), (6, (AV.int .i64 (((l.length : Nat) : Int) - 1)))]) ([⟨0, 9, [[(AV.str (ByteArray.mk #[])), (AV.str (ByteArray.mk #[])), (AV.int .i64 0), (AV.int .i64 0), (AV.int .i64 0), (AV.int .i64 0), (AV.int .i64 0), (AV.int .i64 0), (AV.bool false)]], none⟩] : Heap) (.ret) (mkF 26 [(4, (AV.obj 0 0 0 0)), (5, (AV.bool true))]) ([⟨0, 9, [(Card.row (nth l n))], none⟩] : Heap)) ∧ (AV.bdd 0 (AV.tup [(AV.agg (Card.row (nth l n))), (AV.bool true)]) = true ∧ obsB 0 ([] : Heap) = true) ∧ ((AV.tup [(AV.agg (Card.row (nth l n))), (AV.bool true)]), ([] : Heap)) = ((AV.tup [(AV.agg (Card.row (nth l n))), (AV.bool true)]), ([] : Heap))) = _) ?_
  refine And.intro (Yes.len _ _ _) ?_
  refine And.intro (Yes.add (by omega) (by omega) rfl) ?_
  refine And.intro ((rfind_some l k hl n l.length _ rfl (Nat.le_refl _) hn)) ?_
  refine And.intro (by first | (simp [obsB, AV.bddss, AV.bdds, AV.bdd]; done) | (simp [obsB, AV.bddss, AV.bdds, AV.bdd, -List.map_append]; done) | simp [obsB, AV.bddss, AV.bdds, AV.bdd, -List.map_append, -List.map_set, -List.map_take, -List.map_drop, -List.map_cons, -List.map_map]) ?_
  rfl
set_option maxRecDepth 100000 in
theorem rfindN_spec (l : List Card) (k : Key) (hl : l.length < 1048576) (hn : lastIx (fun j => isKey k (nth l j)) l.length = none) : ACalls Try.prog 125 [(AV.sl .any 9 (List.map Card.row l)), (AV.agg (Key.row k))] ([] : Heap) ((AV.tup [(AV.agg (Card.row zeroC)), (AV.bool false)]), ([] : Heap)) := by
  refine spec (fn := Try.f125) (ann := rfind_ann) (t := (.reg [] [] [] (.reg [(1, ((AV.int .i64 ((l.length : Nat) : Int)), ([⟨0, 9, [[(AV.str (ByteArray.mk #[])), (AV.str (ByteArray.mk #[])), (AV.int .i64 0), (AV.int .i64 0), (AV.int .i64 0), (AV.int .i64 0), (AV.int .i64 0), (AV.int .i64 0), (AV.bool false)]], none⟩] : Heap))), (2, ((AV.int .i64 (((l.length : Nat) : Int) - 1)), ([⟨0, 9, [[(AV.str (ByteArray.mk #[])), (AV.str (ByteArray.mk #[])), (AV.int .i64 0), (AV.int .i64 0), (AV.int .i64 0), (AV.int .i64 0), (AV.int .i64 0), (AV.int .i64 0), (AV.bool false)]], none⟩] : Heap)))] [] [] (.loop (.exit 0) (mkF 26 [(4, (AV.obj 0 0 0 0))]) ([⟨0, 9, [(Card.row zeroC)], none⟩] : Heap) (.reg [] [] [] .nil))))) (Nat.le_of_ble_eq_true (by kernel_rfl)) ⟨Try.func125, by kernel_rfl, by kernel_rfl, by kernel_rfl⟩ ?_
  refine Eq.mp (by kernel_rfl : ((Yes (.int .i64 ((List.length (List.map Card.row l) : Nat) : Int)) ([⟨0, 9, [[(AV.str (ByteArray.mk #[])), (AV.str (ByteArray.mk #[])), (AV.int .i64 0), (AV.int .i64 0), (AV.int .i64 0), (AV.int .i64 0), (AV.int .i64 0), (AV.int .i64 0), (AV.bool false)]], none⟩] : Heap) (AV.int .i64 ((l.length : Nat) : Int))) ∧ (Yes (.int .i64 (IntKind.i64.wrap (((l.length : Nat) : Int) - 1))) ([⟨0, 9, [[(AV.str (ByteArray.mk #[])), (AV.str (ByteArray.mk #[])), (AV.int .i64 0), (AV.int .i64 0), (AV.int .i64 0), (AV.int .i64 0), (AV.int .i64 0), (AV.int .i64 0), (AV.bool false)]], none⟩] : Heap) (AV.int .i64 (((l.length : Nat) : Int) - 1))) ∧ (LoopTo (codeQ Try.prog (X rfind_ann) (loopOf Try.f125 0)) (some [0, 3, 4, 6]) (some [4, 5]) (mkF 26 [(0, (AV.sl .any 9 (List.map Card.row l))), (3, (AV.ref (Key.row k) 0)), (4, (AV.obj 0 0 0 0)), (6, (AV.int .i64 (((l.length : Nat) : Int) - 1)))]) ([⟨0, 9, [[(AV.str (ByteArray.mk #[])), (AV.str (ByteArray.mk #[])), (AV.int .i64 0), (AV.int .i64 0), (AV.int .i64 0), (AV.int .i64 0), (AV.int .i64 0), (AV.int .i64 0), (AV.bool false)]], none⟩] : Heap) (.exit 0) (mkF 26 [(4, (AV.obj 0 0 0 0))]) ([⟨0, 9, [(Card.row zeroC)], none⟩] : Heap)) ∧ (AV.bdd 0 (AV.tup [(AV.agg [(AV.str (ByteArray.mk #[])), (AV.str (ByteArray.mk #[])), (AV.int .i64 0), (AV.int .i64 0), (AV.int .i64 0), (AV.int .i64 0), (AV.int .i64 0), (AV.int .i64 0), (AV.bool false)]), (AV.bool false)]) = true ∧ obsB 0 ([] : Heap) = true) ∧ ((AV.tup [(AV.agg [(AV.str (ByteArray.mk #[])), (AV.str (ByteArray.mk #[])), (AV.int .i64 0), (AV.int .i64 0), (AV.int .i64 0), (AV.int .i64 0), (AV.int .i64 0), (AV.int .i64 0), (AV.bool false)]), (AV.bool false)]), ([] : Heap)) = ((AV.tup [(AV.agg (Card.row zeroC)), (AV.bool false)]), ([] : Heap))) = _) ?_
  refine And.intro (Yes.len _ _ _) ?_
  refine And.intro (Yes.add (by omega) (by omega) rfl) ?_
  refine And.intro ((rfind_none l k hl l.length _ rfl (Nat.le_refl _) hn)) ?_
  refine And.intro (by first | (simp [obsB, AV.bddss, AV.bdds, AV.bdd]; done) | (simp [obsB, AV.bddss, AV.bdds, AV.bdd, -List.map_append]; done) | simp [obsB, AV.bddss, AV.bdds, AV.bdd, -List.map_append, -List.map_set, -List.map_take, -List.map_drop, -List.map_cons, -List.map_map]) ?_
  rfl
theorem rfind_spec (l : List Card) (k : Key) (hl : l.length < 1048576) : ACalls Try.prog 125 [(AV.sl .any 9 (List.map Card.row l)), (AV.agg (Key.row k))] ([] : Heap) ((AV.tup [(AV.agg (Card.row (rfC l k))), (AV.bool (rinC l k))]), ([] : Heap)) := by
  cases hn : lastIx (fun j => isKey k (nth l j)) l.length with
  | some n =>
    obtain ⟨h1, h2, h3⟩ := lastIx_some hn
    have h := rfO_at h1 h2 (fun j q1 q2 => h3 j q1 q2)
    have e1 : rfC l k = nth l n := by unfold rfC; rw [h]; rfl
    have e2 : rinC l k = true := by unfold rinC; rw [h]; rfl
    rw [e1, e2]
    exact rfindS_spec l k n hl hn
  | none =>
    have h := rfO_none (l := l) (k := k) (fun j hj => lastIx_none hn j hj)
    have e1 : rfC l k = zeroC := by unfold rfC; rw [h]; rfl
    have e2 : rinC l k = false := by unfold rinC; rw [h]; rfl
    rw [e1, e2]
    exact rfindN_spec l k hl hn
theorem rfind_at (l : List Card) (k : Key) (hl : l.length < 1048576) (H : Heap) : ACalls Try.prog 125 [(AV.sl .any 9 (List.map Card.row l)), (AV.agg (Key.row k))] H ((AV.tup [(AV.agg (Card.row (rfC l k))), (AV.bool (rinC l k))]), H) := (rfind_spec l k hl).lift (by kernel_rfl) (by kernel_rfl) H
attribute [local irreducible] rfO rfC rinC
def rlast_ann : Ann := { gha := [(1, .vir 3 9), (9, .cut 1), (10, .frz 2)], fin := some 0, live := [(3, [3, 8, 9, 10])], out := [(3, [3, 8, 9, 10])] }
set_option maxRecDepth 100000 in
theorem rlast_step (s out : List Card) (i k g : Nat) (hk : k = out.length) (hki : k ≤ s.length) (hl : s.length < 1048576) {eX : Ex} {FX : Fr} {HX : Heap} (k1 : (decide (((i : Nat) : Int) < ((s.length : Nat) : Int))) = true → (decide (((k : Nat) : Int) > 0)) = true → (Key.eqb (nth out (k - 1)).key (nth s i).key) = true → LoopTo (codeQ Try.prog (X rlast_ann) (loopOf Try.f124 0)) (some [3, 8, 9, 10]) (some [3, 8, 9, 10]) (mkF 40 [(3, (AV.osl 0 g 9 0 k)), (8, (AV.sl .any 9 (List.map Card.row s))), (9, (AV.int .i64 ((s.length : Nat) : Int))), (10, (AV.int .i64 ((i + 1 : Nat) : Int)))]) ([⟨g, 9, (List.map Card.row (out.set (k - 1) (nth s i))), none⟩] : Heap) eX FX HX) (k2 : (decide (((i : Nat) : Int) < ((s.length : Nat) : Int))) = true → (decide (((k : Nat) : Int) > 0)) = true → (Key.eqb (nth out (k - 1)).key (nth s i).key) = false → LoopTo (codeQ Try.prog (X rlast_ann) (loopOf Try.f124 0)) (some [3, 8, 9, 10]) (some [3, 8, 9, 10]) (mkF 40 [(3, (AV.osl 0 (g + 1) 9 0 (k + 1))), (8, (AV.sl .any 9 (List.map Card.row s))), (9, (AV.int .i64 ((s.length : Nat) : Int))), (10, (AV.int .i64 ((i + 1 : Nat) : Int)))]) ([⟨(g + 1), 9, (List.map Card.row (out ++ [(nth s i)])), none⟩] : Heap) eX FX HX) (k3 : (decide (((i : Nat) : Int) < ((s.length : Nat) : Int))) = true → (decide (((k : Nat) : Int) > 0)) = false → LoopTo (codeQ Try.prog (X rlast_ann) (loopOf Try.f124 0)) (some [3, 8, 9, 10]) (some [3, 8, 9, 10]) (mkF 40 [(3, (AV.osl 0 (g + 1) 9 0 (k + 1))), (8, (AV.sl .any 9 (List.map Card.row s))), (9, (AV.int .i64 ((s.length : Nat) : Int))), (10, (AV.int .i64 ((i + 1 : Nat) : Int)))]) ([⟨(g + 1), 9, (List.map Card.row (out ++ [(nth s i)])), none⟩] : Heap) eX FX HX) (k4 : (decide (((i : Nat) : Int) < ((s.length : Nat) : Int))) = false → ((.exit 0 : Ex), (mkF 40 [(3, (AV.osl 0 g 9 0 k)), (8, (AV.sl .any 9 (List.map Card.row s))), (9, (AV.int .i64 ((s.length : Nat) : Int))), (10, (AV.int .i64 ((i : Nat) : Int)))]), ([⟨g, 9, (List.map Card.row out), none⟩] : Heap)) = (eX, FX, HX)) : LoopTo (codeQ Try.prog (X rlast_ann) (loopOf Try.f124 0)) (some [3, 8, 9, 10]) (some [3, 8, 9, 10]) (mkF 40 [(3, (AV.osl 0 g 9 0 k)), (8, (AV.sl .any 9 (List.map Card.row s))), (9, (AV.int .i64 ((s.length : Nat) : Int))), (10, (AV.int .i64 ((i : Nat) : Int)))]) ([⟨g, 9, (List.map Card.row out), none⟩] : Heap) eX FX HX := by
  refine LoopTo.step (.reg [] [] [] (.two (.reg [(0, ((AV.ref (Card.row (nth s i)) 0), ([⟨g, 9, (List.map Card.row out), none⟩, ⟨0, 9, [[(AV.str (ByteArray.mk #[])), (AV.str (ByteArray.mk #[])), (AV.int .i64 0), (AV.int .i64 0), (AV.int .i64 0), (AV.int .i64 0), (AV.int .i64 0), (AV.int .i64 0), (AV.bool false)]], none⟩] : Heap)))] [] [] (.reg [] [] [] (.reg [(5, ((AV.int .i64 ((k - 1 : Nat) : Int)), ([⟨g, 9, (List.map Card.row out), none⟩, ⟨0, 9, [(Card.row (nth s i))], none⟩] : Heap))), (6, ((AV.obj 0 g (k - 1) 0), ([⟨g, 9, (List.map Card.row out), none⟩, ⟨0, 9, [(Card.row (nth s i))], none⟩] : Heap))), (8, ((AV.agg (Key.row (nth out (k - 1)).key)), ([⟨g, 9, (List.map Card.row out), none⟩, ⟨0, 9, [(Card.row (nth s i))], none⟩] : Heap)))] [] [] (.two (.two (.two (.two (.two (.two (.two (.two (.two (.two (.reg [(2, ((AV.int .i64 ((k - 1 : Nat) : Int)), ([⟨g, 9, (List.map Card.row out), none⟩, ⟨0, 9, [(Card.row (nth s i))], none⟩] : Heap))), (4, ((AV.obj 0 g (k - 1) 0), ([⟨g, 9, (List.map Card.row out), none⟩, ⟨0, 9, [(Card.row (nth s i))], none⟩] : Heap))), (5, (AV.skip, ([⟨g, 9, (List.map Card.row (out.set (k - 1) (nth s i))), none⟩, ⟨0, 9, [(Card.row (nth s i))], none⟩] : Heap)))] [] [] (.reg [(0, ((AV.int .i64 ((i + 1 : Nat) : Int)), ([⟨g, 9, (List.map Card.row (out.set (k - 1) (nth s i))), none⟩, ⟨0, 9, [(Card.row (nth s i))], none⟩] : Heap)))] [] [] .nil)) (.reg [(3, ((AV.osl 0 (g + 1) 9 0 (k + 1)), ([⟨(g + 1), 9, (List.map Card.row (out ++ [(nth s i)])), none⟩, ⟨0, 9, [(Card.row (nth s i))], none⟩] : Heap)))] [] [] (.reg [(0, ((AV.int .i64 ((i + 1 : Nat) : Int)), ([⟨(g + 1), 9, (List.map Card.row (out ++ [(nth s i)])), none⟩, ⟨0, 9, [(Card.row (nth s i))], none⟩] : Heap)))] [] [] .nil))) .nil) .nil) .nil) .nil) .nil) .nil) .nil) .nil) (.two .nil (.two .nil (.two .nil (.two .nil (.two .nil (.two .nil (.two .nil (.two .nil (.two .nil (.reg [(3, ((AV.osl 0 (g + 1) 9 0 (k + 1)), ([⟨(g + 1), 9, (List.map Card.row (out ++ [(nth s i)])), none⟩, ⟨0, 9, [(Card.row (nth s i))], none⟩] : Heap)))] [] [] (.reg [(0, ((AV.int .i64 ((i + 1 : Nat) : Int)), ([⟨(g + 1), 9, (List.map Card.row (out ++ [(nth s i)])), none⟩, ⟨0, 9, [(Card.row (nth s i))], none⟩] : Heap)))] [] [] .nil))))))))))))))) .nil)) ?_
  refine Eq.mp (by kernel_rfl : (cond (decide (((i : Nat) : Int) < ((s.length : Nat) : Int))) ((IdxSl 9 9 (List.map Card.row s) ((i : Nat) : Int) ([⟨g, 9, (List.map Card.row out), none⟩, ⟨0, 9, [[(AV.str (ByteArray.mk #[])), (AV.str (ByteArray.mk #[])), (AV.int .i64 0), (AV.int .i64 0), (AV.int .i64 0), (AV.int .i64 0), (AV.int .i64 0), (AV.int .i64 0), (AV.bool false)]], none⟩] : Heap) (Card.row (nth s i))) ∧ cond (decide (((k : Nat) : Int) > 0)) ((Yes (.int .i64 (IntKind.i64.wrap (((k : Nat) : Int) - 1))) ([⟨g, 9, (List.map Card.row out), none⟩, ⟨0, 9, [(Card.row (nth s i))], none⟩] : Heap) (AV.int .i64 ((k - 1 : Nat) : Int))) ∧ (IdxOsl 0 g 9 9 0 k ((k - 1 : Nat) : Int) ([⟨g, 9, (List.map Card.row out), none⟩, ⟨0, 9, [(Card.row (nth s i))], none⟩] : Heap) (k - 1)) ∧ (LoadTo tt 30 0 ([⟨g, 9, (List.map Card.row out), none⟩, ⟨0, 9, [(Card.row (nth s i))], none⟩] : Heap) (rowAt ([⟨g, 9, (List.map Card.row out), none⟩, ⟨0, 9, [(Card.row (nth s i))], none⟩] : Heap) 0 g (k - 1)) = some ((AV.agg (Key.row (nth out (k - 1)).key)), ([⟨g, 9, (List.map Card.row out), none⟩, ⟨0, 9, [(Card.row (nth s i))], none⟩] : Heap))) ∧ cond (Key.eqb (nth out (k - 1)).key (nth s i).key) ((Yes (.int .i64 (IntKind.i64.wrap (((k : Nat) : Int) - 1))) ([⟨g, 9, (List.map Card.row out), none⟩, ⟨0, 9, [(Card.row (nth s i))], none⟩] : Heap) (AV.int .i64 ((k - 1 : Nat) : Int))) ∧ (IdxOsl 0 g 9 9 0 k ((k - 1 : Nat) : Int) ([⟨g, 9, (List.map Card.row out), none⟩, ⟨0, 9, [(Card.row (nth s i))], none⟩] : Heap) (k - 1)) ∧ (StoreTo ([⟨g, 9, (List.map Card.row out), none⟩, ⟨0, 9, [(Card.row (nth s i))], none⟩] : Heap) 0 (k - 1) 9 0 (rowAt ([⟨g, 9, (List.map Card.row out), none⟩, ⟨0, 9, [(Card.row (nth s i))], none⟩] : Heap) 0 g (k - 1)) (AV.fit (AV.agg (Card.row (nth s i))) 9) = some (AV.skip, ([⟨g, 9, (List.map Card.row (out.set (k - 1) (nth s i))), none⟩, ⟨0, 9, [(Card.row (nth s i))], none⟩] : Heap))) ∧ (Yes (.int .i64 (IntKind.i64.wrap (((i : Nat) : Int) + 1))) ([⟨g, 9, (List.map Card.row (out.set (k - 1) (nth s i))), none⟩, ⟨0, 9, [(Card.row (nth s i))], none⟩] : Heap) (AV.int .i64 ((i + 1 : Nat) : Int))) ∧ (obsB 1 ([⟨g, 9, (List.map Card.row (out.set (k - 1) (nth s i))), none⟩] : Heap) = true) ∧ LoopTo (codeQ Try.prog (X rlast_ann) (loopOf Try.f124 0)) (some [3, 8, 9, 10]) (some [3, 8, 9, 10]) (mkF 40 [(3, (AV.osl 0 g 9 0 k)), (8, (AV.sl .any 9 (List.map Card.row s))), (9, (AV.int .i64 ((s.length : Nat) : Int))), (10, (AV.int .i64 ((i + 1 : Nat) : Int)))]) ([⟨g, 9, (List.map Card.row (out.set (k - 1) (nth s i))), none⟩] : Heap) eX FX HX) ((evAppend tt ([⟨g, 9, (List.map Card.row out), none⟩, ⟨0, 9, [(Card.row (nth s i))], none⟩] : Heap) 48 (AV.osl 0 g 9 0 k) (AV.sl .clip 9 [(Card.row (nth s i))]) = some ((AV.osl 0 (g + 1) 9 0 (k + 1)), ([⟨(g + 1), 9, (List.map Card.row (out ++ [(nth s i)])), none⟩, ⟨0, 9, [(Card.row (nth s i))], none⟩] : Heap))) ∧ (Yes (.int .i64 (IntKind.i64.wrap (((i : Nat) : Int) + 1))) ([⟨(g + 1), 9, (List.map Card.row (out ++ [(nth s i)])), none⟩, ⟨0, 9, [(Card.row (nth s i))], none⟩] : Heap) (AV.int .i64 ((i + 1 : Nat) : Int))) ∧ (obsB 1 ([⟨(g + 1), 9, (List.map Card.row (out ++ [(nth s i)])), none⟩] : Heap) = true) ∧ LoopTo (codeQ Try.prog (X rlast_ann) (loopOf Try.f124 0)) (some [3, 8, 9, 10]) (some [3, 8, 9, 10]) (mkF 40 [(3, (AV.osl 0 (g + 1) 9 0 (k + 1))), (8, (AV.sl .any 9 (List.map Card.row s))), (9, (AV.int .i64 ((s.length : Nat) : Int))), (10, (AV.int .i64 ((i + 1 : Nat) : Int)))]) ([⟨(g + 1), 9, (List.map Card.row (out ++ [(nth s i)])), none⟩] : Heap) eX FX HX)) ((evAppend tt ([⟨g, 9, (List.map Card.row out), none⟩, ⟨0, 9, [(Card.row (nth s i))], none⟩] : Heap) 48 (AV.osl 0 g 9 0 k) (AV.sl .clip 9 [(Card.row (nth s i))]) = some ((AV.osl 0 (g + 1) 9 0 (k + 1)), ([⟨(g + 1), 9, (List.map Card.row (out ++ [(nth s i)])), none⟩, ⟨0, 9, [(Card.row (nth s i))], none⟩] : Heap))) ∧ (Yes (.int .i64 (IntKind.i64.wrap (((i : Nat) : Int) + 1))) ([⟨(g + 1), 9, (List.map Card.row (out ++ [(nth s i)])), none⟩, ⟨0, 9, [(Card.row (nth s i))], none⟩] : Heap) (AV.int .i64 ((i + 1 : Nat) : Int))) ∧ (obsB 1 ([⟨(g + 1), 9, (List.map Card.row (out ++ [(nth s i)])), none⟩] : Heap) = true) ∧ LoopTo (codeQ Try.prog (X rlast_ann) (loopOf Try.f124 0)) (some [3, 8, 9, 10]) (some [3, 8, 9, 10]) (mkF 40 [(3, (AV.osl 0 (g + 1) 9 0 (k + 1))), (8, (AV.sl .any 9 (List.map Card.row s))), (9, (AV.int .i64 ((s.length : Nat) : Int))), (10, (AV.int .i64 ((i + 1 : Nat) : Int)))]) ([⟨(g + 1), 9, (List.map Card.row (out ++ [(nth s i)])), none⟩] : Heap) eX FX HX)) (((.exit 0 : Ex), (mkF 40 [(3, (AV.osl 0 g 9 0 k)), (8, (AV.sl .any 9 (List.map Card.row s))), (9, (AV.int .i64 ((s.length : Nat) : Int))), (10, (AV.int .i64 ((i : Nat) : Int)))]), ([⟨g, 9, (List.map Card.row out), none⟩] : Heap)) = (eX, FX, HX))) = _) ?_
  refine cond_split (fun h1 => ?_) (fun h1 => ?_)
  · have h1' := h1
    try simp at h1'
    refine And.intro (IdxSl.mk _ (by omega) (by omega)) ?_
    refine cond_split (fun h2 => ?_) (fun h2 => ?_)
    · have h2' := h2
      try simp at h2'
      refine And.intro (Yes.add (by omega) (by omega) (by omega)) ?_
      refine And.intro (IdxOsl.mk _ (by omega) (by omega)) ?_
      refine And.intro (load_row (rowAt_map (row := Card.row) (l := out) (k := 9) (room := none) (by kernel_rfl) (by first | omega | (simp; done) | (simp; omega))) (by kernel_rfl)) ?_
      refine cond_split (fun h3 => ?_) (fun h3 => ?_)
      · have h3' := h3
        try simp at h3'
        refine And.intro (Yes.add (by omega) (by omega) (by omega)) ?_
        refine And.intro (IdxOsl.mk _ (by omega) (by omega)) ?_
        refine And.intro (store_row (us := (Card.row (nth s i))) (rowAt_map (row := Card.row) (l := out) (k := 9) (room := none) (by kernel_rfl) (by first | omega | (simp; done) | (simp; omega))) (by kernel_rfl) (by simp [Card.row]) (by simp [setAt, fillAt, List.map_set, Card.row])) ?_
        refine And.intro (Yes.add (by omega) (by omega) (by omega)) ?_
        refine And.intro (by first | (simp [obsB, AV.bddss, AV.bdds, AV.bdd]; done) | (simp [obsB, AV.bddss, AV.bdds, AV.bdd, -List.map_append]; done) | simp [obsB, AV.bddss, AV.bdds, AV.bdd, -List.map_append, -List.map_set, -List.map_take, -List.map_drop, -List.map_cons, -List.map_map]) ?_
        exact k1 h1 h2 h3
      · have h3' := h3
        try simp at h3'
        refine And.intro (evAppend_one (row := Card.row) (l := out) (x := (nth s i)) (T := tt) (e := 34) (te := { d := .struct [(30, 0), (3, 2), (3, 3), (2, 4), (32, 5), (4, 8)], size := 9, bytes := 88, zero := [.str ⟨#[]⟩, .str ⟨#[]⟩, .int .i64 0, .int .i64 0, .int .i64 0, .int .i64 0, .int .i64 0, .int .i64 0, .bool false] }) (z := 1) (b := 24) (y := [.sl .nil 0 []]) (by kernel_rfl) (by kernel_rfl) rfl (by decide) (by decide) (by kernel_rfl) (by first | assumption | omega | (simp; done) | (simp; omega)) rfl rfl (by first | omega | (show _ * 88 ≤ _; omega) | (simp; omega))) ?_
        refine And.intro (Yes.add (by omega) (by omega) (by omega)) ?_
        refine And.intro (by first | (simp [obsB, AV.bddss, AV.bdds, AV.bdd]; done) | (simp [obsB, AV.bddss, AV.bdds, AV.bdd, -List.map_append]; done) | simp [obsB, AV.bddss, AV.bdds, AV.bdd, -List.map_append, -List.map_set, -List.map_take, -List.map_drop, -List.map_cons, -List.map_map]) ?_
        exact k2 h1 h2 h3
    · have h2' := h2
      try simp at h2'
      refine And.intro (evAppend_one (row := Card.row) (l := out) (x := (nth s i)) (T := tt) (e := 34) (te := { d := .struct [(30, 0), (3, 2), (3, 3), (2, 4), (32, 5), (4, 8)], size := 9, bytes := 88, zero := [.str ⟨#[]⟩, .str ⟨#[]⟩, .int .i64 0, .int .i64 0, .int .i64 0, .int .i64 0, .int .i64 0, .int .i64 0, .bool false] }) (z := 1) (b := 24) (y := [.sl .nil 0 []]) (by kernel_rfl) (by kernel_rfl) rfl (by decide) (by decide) (by kernel_rfl) (by first | assumption | omega | (simp; done) | (simp; omega)) rfl rfl (by first | omega | (show _ * 88 ≤ _; omega) | (simp; omega))) ?_
      refine And.intro (Yes.add (by omega) (by omega) (by omega)) ?_
      refine And.intro (by first | (simp [obsB, AV.bddss, AV.bdds, AV.bdd]; done) | (simp [obsB, AV.bddss, AV.bdds, AV.bdd, -List.map_append]; done) | simp [obsB, AV.bddss, AV.bdds, AV.bdd, -List.map_append, -List.map_set, -List.map_take, -List.map_drop, -List.map_cons, -List.map_map]) ?_
      exact k3 h1 h2
  · have h1' := h1
    try simp at h1'
    exact k4 h1
theorem rlast_loop (s : List Card) (r : Nat) : ∀ (out : List Card) (i k g : Nat) (sF : List Card × Nat), i + r = s.length → k = out.length → k ≤ i → s.length < 1048576 → sF = (s.drop i).foldl onceStep (out, g) →
    LoopTo (codeQ Try.prog (X rlast_ann) (loopOf Try.f124 0)) (some [3, 8, 9, 10]) (some [3, 8, 9, 10]) (mkF 40 [(3, (AV.osl 0 g 9 0 k)), (8, (AV.sl .any 9 (List.map Card.row s))), (9, (AV.int .i64 ((s.length : Nat) : Int))), (10, (AV.int .i64 ((i : Nat) : Int)))]) ([⟨g, 9, (List.map Card.row out), none⟩] : Heap) (.exit 0) (mkF 40 [(3, (AV.osl 0 sF.2 9 0 sF.1.length)), (8, (AV.sl .any 9 (List.map Card.row s))), (9, (AV.int .i64 ((s.length : Nat) : Int))), (10, (AV.int .i64 ((s.length : Nat) : Int)))]) ([⟨sF.2, 9, (List.map Card.row sF.1), none⟩] : Heap) := by
  induction r with
  | zero =>
    intro out i k g sF hi hk hki hl h
    refine rlast_step s out i k g hk (by omega) hl (fun h => by simp at h; omega) (fun h => by simp at h; omega) (fun h => by simp at h; omega) fun _ => ?_
    have : s.drop i = [] := List.drop_of_length_le (by omega)
    rw [this] at h
    have e3 : i = s.length := by omega
    rw [h, e3, hk]
    rfl
  | succ r ih =>
    intro out i k g sF hi hk hki hl h
    rw [drop_nth (by omega), List.foldl_cons] at h
    refine rlast_step s out i k g hk (by omega) hl (fun _ h2 h3 => ?_) (fun _ h2 h3 => ?_) (fun _ h2 => ?_) fun h => by simp at h; omega
    · rw [hk] at h2 h3
      exact ih (out.set (k - 1) (nth s i)) (i + 1) k g sF (by omega) (by simp [hk]) (by omega) hl (by rw [h, hk]; simp only [onceStep]; rw [if_pos h2, if_pos h3])
    · rw [hk] at h2 h3
      exact ih (out ++ [nth s i]) (i + 1) (k + 1) (g + 1) sF (by omega) (by simp [hk]) (by omega) hl (by rw [h]; simp only [onceStep]; rw [if_pos h2, if_neg (by rw [h3]; simp)])
    · rw [hk] at h2
      exact ih (out ++ [nth s i]) (i + 1) (k + 1) (g + 1) sF (by omega) (by simp [hk]) (by omega) hl (by rw [h]; simp only [onceStep]; rw [if_neg (by rw [h2]; simp)])
set_option maxRecDepth 100000 in
theorem rlast_spec (l : List Card) (hl : l.length < 1000) : ACalls Try.prog 124 [(AV.sl .any 9 (List.map Card.row l))] ([] : Heap) ((AV.sl .any 9 (List.map Card.row (lastK l))), ([] : Heap)) := by
  have hs := sortK_len l
  have hfin : (lastS (sortK l)).1 = lastK l := by rw [← sortP_sortK]; unfold lastK; rfl
  refine spec (fn := Try.f124) (ann := rlast_ann) (t := (.reg [] [] [] (.reg [] [] [] (.reg [(1, ((AV.sl .any 9 (List.map Card.row (sortK l))), ([⟨0, 9, (List.map Card.row []), none⟩] : Heap))), (2, ((AV.int .i64 (((sortK l).length : Nat) : Int)), ([⟨0, 9, (List.map Card.row []), none⟩] : Heap)))] [] [] (.loop (.exit 0) (mkF 40 [(3, (AV.osl 0 ((lastS (sortK l)).2) 9 0 ((lastS (sortK l)).1.length))), (8, (AV.sl .any 9 (List.map Card.row (sortK l)))), (9, (AV.int .i64 (((sortK l).length : Nat) : Int))), (10, (AV.int .i64 (((sortK l).length : Nat) : Int)))]) ([⟨((lastS (sortK l)).2), 9, (List.map Card.row ((lastS (sortK l)).1)), none⟩] : Heap) (.reg [] [] [(2, (List.map Card.row ((lastS (sortK l)).1)))] .nil)))))) (Nat.le_of_ble_eq_true (by kernel_rfl)) ⟨Try.func124, by kernel_rfl, by kernel_rfl, by kernel_rfl⟩ ?_
  refine Eq.mp (by kernel_rfl : ((ACalls Try.prog 63 [(AV.sl .any 9 (List.map Card.row l))] ([⟨0, 9, (List.map Card.row []), none⟩] : Heap) ((AV.sl .any 9 (List.map Card.row (sortK l))), ([⟨0, 9, (List.map Card.row []), none⟩] : Heap))) ∧ (Yes (.int .i64 ((List.length (List.map Card.row (sortK l)) : Nat) : Int)) ([⟨0, 9, (List.map Card.row []), none⟩] : Heap) (AV.int .i64 (((sortK l).length : Nat) : Int))) ∧ (LoopTo (codeQ Try.prog (X rlast_ann) (loopOf Try.f124 0)) (some [3, 8, 9, 10]) (some [3, 8, 9, 10]) (mkF 40 [(3, (AV.osl 0 0 9 0 0)), (8, (AV.sl .any 9 (List.map Card.row (sortK l)))), (9, (AV.int .i64 (((sortK l).length : Nat) : Int))), (10, (AV.int .i64 0))]) ([⟨0, 9, (List.map Card.row []), none⟩] : Heap) (.exit 0) (mkF 40 [(3, (AV.osl 0 ((lastS (sortK l)).2) 9 0 ((lastS (sortK l)).1.length))), (8, (AV.sl .any 9 (List.map Card.row (sortK l)))), (9, (AV.int .i64 (((sortK l).length : Nat) : Int))), (10, (AV.int .i64 (((sortK l).length : Nat) : Int)))]) ([⟨((lastS (sortK l)).2), 9, (List.map Card.row ((lastS (sortK l)).1)), none⟩] : Heap)) ∧ (rowsIn ([⟨((lastS (sortK l)).2), 9, (List.map Card.row ((lastS (sortK l)).1)), none⟩] : Heap) 9 (AV.osl 0 ((lastS (sortK l)).2) 9 0 ((lastS (sortK l)).1.length)) = some (List.map Card.row ((lastS (sortK l)).1)) ∧ AV.bddss 0 (List.map Card.row ((lastS (sortK l)).1)) = true) ∧ (AV.bdd 0 (AV.sl .any 9 (List.map Card.row ((lastS (sortK l)).1))) = true ∧ obsB 0 ([] : Heap) = true) ∧ ((AV.sl .any 9 (List.map Card.row ((lastS (sortK l)).1))), ([] : Heap)) = ((AV.sl .any 9 (List.map Card.row (lastK l))), ([] : Heap))) = _) ?_
  refine And.intro (rsort_at l (by first | omega | assumption | (simp; done) | (simp; omega) | (simp_all; done) | (simp_all; omega)) ([⟨0, 9, (List.map Card.row []), none⟩] : Heap)) ?_
  refine And.intro (Yes.len _ _ _) ?_
  refine And.intro ((rlast_loop (sortK l) (List.length (sortK l)) [] 0 0 0 _ (by omega) rfl (by omega) (by omega) (by unfold lastS; rfl))) ?_
  refine And.intro (And.intro (rowsIn_all (room := none) (by kernel_rfl) (by first | omega | (simp; done) | (simp; omega))) (Card.rows_bdd _ _)) ?_
  refine And.intro (by first | (simp [obsB, AV.bddss, AV.bdds, AV.bdd]; done) | (simp [obsB, AV.bddss, AV.bdds, AV.bdd, -List.map_append]; done) | simp [obsB, AV.bddss, AV.bdds, AV.bdd, -List.map_append, -List.map_set, -List.map_take, -List.map_drop, -List.map_cons, -List.map_map]) ?_
  rw [hfin]
theorem rlast_at (l : List Card) (hl : l.length < 1000) (H : Heap) : ACalls Try.prog 124 [(AV.sl .any 9 (List.map Card.row l))] H ((AV.sl .any 9 (List.map Card.row (lastK l))), H) := (rlast_spec l hl).lift (by kernel_rfl) (by kernel_rfl) H
end Go.Proofs.Ytpkgpldgoajphaa.AM

set_option linter.unusedVariables false
set_option linter.unusedSimpArgs false
set_option maxRecDepth 100000
namespace Go.Proofs.Ytpkgpldgoajphaa.AM
open Go
attribute [local irreducible] Tp.card Tp.cardT Tp.next Tp.step Tp.cards Tp.cardsT Tp.key Tp.keyT
def fO (l : List Card) (k : Key) : Option Card := (l.filter (isKey k)).head?
theorem ix_fO (l : List Card) (k : Key) : findC l k = (fO l k).getD zeroC ∧ inC l k = (fO l k).isSome := by
  cases h : ixOf (isKey k) l 0 with
  | none =>
    have hi : ixI (isKey k) l = -1 := by unfold ixI; rw [h]
    have e : l.filter (isKey k) = [] := List.filter_eq_nil_iff.2 fun x hx => by
      obtain ⟨j, hj, rfl⟩ := mem_nth hx
      rw [ixOf_none l 0 h j hj]; simp
    constructor
    · unfold findC fO; rw [hi, e]; rfl
    · unfold inC fO; rw [hi, e]; rfl
  | some n =>
    obtain ⟨_, h2, h3, h4⟩ := ixOf_some l 0 n h
    have hi : ixI (isKey k) l = (n : Int) := by unfold ixI; rw [h]
    have hn : n < l.length := by omega
    have e : l = l.take n ++ (nth l n :: l.drop (n + 1)) := by rw [← drop_nth hn, List.take_append_drop]
    have e2 : (l.take n).filter (isKey k) = [] := List.filter_eq_nil_iff.2 fun x hx => by
      obtain ⟨j, hj, rfl⟩ := mem_nth hx
      simp only [List.length_take] at hj
      rw [nth_take (by omega), h4 j (by omega)]; simp
    have h3' : isKey k (nth l n) = true := by simpa using h3
    have e3 : fO l k = some (nth l n) := by
      unfold fO
      conv => lhs; rw [e]
      rw [List.filter_append, e2, List.nil_append, List.filter_cons, if_pos h3']; rfl
    constructor
    · unfold findC; rw [hi, e3, if_neg (by omega)]; simp
    · unfold inC; rw [hi, e3]; simp
theorem onceStep_or (out : List Card) (g : Nat) (c : Card) : (onceStep (out, g) c).1 = out ++ [c] ∨ ∃ init last, out = init ++ [last] ∧ last.key = c.key ∧ (onceStep (out, g) c).1 = init ++ [c] := by
  rcases List.eq_nil_or_concat out with rfl | ⟨init, last, hc⟩
  · left; simp [onceStep]
  · have hc' : out = init ++ [last] := by simpa using hc
    have hlen : out.length = init.length + 1 := by rw [hc']; simp
    have hlast : nth out (out.length - 1) = last := by rw [hlen, hc', Nat.add_sub_cancel]; exact nth_append_len init last []
    have h0 : decide ((out.length : Int) > 0) = true := by simp; omega
    by_cases he : Key.eqb last.key c.key = true
    · right
      have hset : out.set (out.length - 1) c = init ++ [c] := by rw [hlen, Nat.add_sub_cancel, hc']; simp
      refine ⟨init, last, hc', (Key.eqb_iff _ _).1 he, ?_⟩
      simp only [onceStep]
      rw [if_pos h0, hlast, if_pos he, hset]
    · left
      simp only [onceStep]
      rw [if_pos h0, hlast, if_neg he]
theorem isKey_iff (k : Key) (c : Card) : isKey k c = true ↔ c.key = k := by unfold isKey; exact Key.eqb_iff _ _
theorem strict_one (k : Key) : ∀ (l : List Card), List.Pairwise StC l → l.filter (isKey k) = (l.filter (isKey k)).getLast?.toList := by
  intro l h
  have h2 := h.filter (isKey k)
  generalize hf : l.filter (isKey k) = m at *
  have hm : ∀ x ∈ m, x.key = k := fun x hx => by rw [← hf] at hx; exact (isKey_iff _ _).1 (List.mem_filter.1 hx).2
  match m, h2, hm with
  | [], _, _ => rfl
  | [x], _, _ => rfl
  | x :: y :: m, h2, hm =>
    have := (List.pairwise_cons.1 h2).1 y (by simp)
    exact absurd (by rw [hm x (by simp), hm y (by simp)]) (bk_ne this)
theorem once_flt (k : Key) (s : List Card) : ∀ (out : List Card) (g : Nat), List.Pairwise WkC (out ++ s) → List.Pairwise StC out →
    ((s.foldl onceStep (out, g)).1).filter (isKey k) = ((out ++ s).filter (isKey k)).getLast?.toList := by
  induction s with
  | nil => intro out g h1 h2; simpa using strict_one k out h2
  | cons c s ih =>
    intro out g h1 h2
    rw [List.foldl_cons]
    have h3 := (onceF [c] out g (h1.sublist (by simp)) h2).1
    rw [List.foldl_cons, List.foldl_nil] at h3
    have h4 := onceStep_or out g c
    generalize onceStep (out, g) c = o at *
    obtain ⟨o, g'⟩ := o
    rcases h4 with h4 | ⟨init, last, h5, h6, h4⟩
    · simp only at h3 h4
      subst h4
      rw [ih (out ++ [c]) g' (by simpa using h1) h3]
      simp
    · simp only at h3 h4
      subst h4 h5
      rw [ih (init ++ [c]) g' (h1.sublist (by simp)) h3]
      congr 1
      simp only [List.filter_append, List.filter_cons, List.filter_nil]
      have : isKey k last = isKey k c := by unfold isKey; rw [h6]
      rw [this]
      by_cases hk : isKey k c = true
      · simp [hk, List.getLast?_append, List.getLast?_cons]
      · simp [hk]
theorem sortG_id {α : Type} [Inhabited α] (lt : α → α → Bool) (l : List α) (h : ∀ a ∈ l, ∀ b ∈ l, lt a b = false) : sortG lt l = l := by
  have ins : ∀ (out : List α) (x : α), (∀ y ∈ out, lt x y = false) → insG lt out x = out ++ [x] := by
    intro out x hx
    have hp : posG lt x out out.length = out.length := by
      cases hn : out.length with
      | zero => rfl
      | succ n =>
        simp only [posG]
        rw [if_neg]
        rw [hx _ (nth_mem (by omega))]; simp
    unfold insG; rw [hp]; simp
  have fold : ∀ (m out : List α), (∀ a ∈ out ++ m, ∀ b ∈ out ++ m, lt a b = false) → m.foldl (insG lt) out = out ++ m := by
    intro m
    induction m with
    | nil => intro out _; simp
    | cons x m ih =>
      intro out h
      rw [List.foldl_cons, ins out x (fun y hy => h x (by simp) y (by simp [hy])), ih (out ++ [x]) (by simpa using h)]
      simp
  simpa [sortG] using fold l [] (by simpa using h)
theorem lastK_flt (m : List Card) (k : Key) : (lastK m).filter (isKey k) = (m.filter (isKey k)).getLast?.toList := by
  have h1 : List.Pairwise WkC (sortP m) := by rw [sortP_sortK]; exact sortK_sorted m
  have h2 := once_flt k (sortP m) [] 0 (by simpa using h1) List.Pairwise.nil
  have h3 : (sortP m).filter (isKey k) = m.filter (isKey k) := by
    rw [sortP_sortK, sortK_sortG, filter_sortG weakE]
    refine sortG_id _ _ fun a ha b hb => ?_
    have ea := (isKey_iff _ _).1 (List.mem_filter.1 ha).2
    have eb := (isKey_iff _ _).1 (List.mem_filter.1 hb).2
    have := weakE.asymm a b
    cases hh : ltE a b with
    | false => rfl
    | true =>
      have h5 := this hh
      unfold ltE at hh h5
      rw [ea, eb] at hh h5
      rw [hh] at h5; simp at h5
  unfold lastK lastS
  rw [h2]; simp [h3]
theorem rfO_last (m : List Card) (k : Key) : rfO (lastK m) k = rfO m k := by
  unfold rfO; rw [lastK_flt]
  cases (m.filter (isKey k)).getLast? <;> rfl
theorem fO_last (m : List Card) (k : Key) : fO (lastK m) k = rfO m k := by
  unfold rfO fO; rw [lastK_flt]
  cases (m.filter (isKey k)).getLast? <;> rfl
theorem findC_last (m : List Card) (k : Key) : findC (lastK m) k = rfC m k := by rw [(ix_fO _ _).1, fO_last]; rfl
theorem inC_last (m : List Card) (k : Key) : inC (lastK m) k = rinC m k := by rw [(ix_fO _ _).2, fO_last]; rfl
theorem rfC_last (m : List Card) (k : Key) : rfC (lastK m) k = rfC m k := by unfold rfC; rw [rfO_last]
theorem rinC_last (m : List Card) (k : Key) : rinC (lastK m) k = rinC m k := by unfold rinC; rw [rfO_last]
end Go.Proofs.Ytpkgpldgoajphaa.AM

set_option maxRecDepth 100000
set_option linter.unusedVariables false
set_option linter.unusedSimpArgs false
namespace Go.Proofs.Ytpkgpldgoajphaa.AM
open Go Go.Proofs.Ytpkgpldgoajphaa
attribute [local irreducible] ACalls funT codeT codeQ LoopTo
attribute [local irreducible] Tp.card Tp.cardT Tp.next Tp.step Tp.cards Tp.cardsT Tp.key Tp.keyT sink insSort sortK insK posK beforeK onceStep sortP lastS lastK cmpK ixI findC inC isKey cmpSt aheadB aheadK ansK digK rfO rfC rinC hasK wantK tellK answerK
def rcmp_ann : Ann := { gh := [(18, .frz 8), (18, .frz 9)], gha := [(2, .vir 8 2), (3, .vir 9 9), (10, .cut 2), (17, .cut 2)], fin := some 0, live := [(5, [6, 7, 8, 9, 22, 23, 24]), (12, [6, 7, 8, 9, 50, 51, 52])], out := [(5, [6, 7, 8, 9, 22, 23, 24]), (12, [6, 7, 8, 9, 50, 51, 52])] }
set_option maxRecDepth 100000 in
theorem rcmp5_step (b : List Card) (a : List Card) (out : List Key) (k : Nat) (g : Nat) (i : Nat) (hb : b.length < 1000) (ha : a.length < 1000) (hk : k = out.length) (hki : k ≤ i) (hle_ : i ≤ b.length) {eX : Ex} {FX : Fr} {HX : Heap} (k1 : (decide (((i : Nat) : Int) < ((b.length : Nat) : Int))) = true → (!(rinC a (nth b i).key)) = true → LoopTo (codeQ Try.prog (X rcmp_ann) (loopOf Try.f92 0)) (some [6, 7, 8, 9, 22, 23, 24]) (some [6, 7, 8, 9, 22, 23, 24]) (mkF 79 [(6, (AV.sl .any 9 (List.map Card.row a))), (7, (AV.sl .any 9 (List.map Card.row b))), (8, (AV.osl 0 (g + 1) 2 0 (k + 1))), (9, (AV.osl 1 0 9 0 0)), (22, (AV.sl .any 9 (List.map Card.row b))), (23, (AV.int .i64 ((b.length : Nat) : Int))), (24, (AV.int .i64 ((i + 1 : Nat) : Int)))]) ([⟨(g + 1), 2, (List.map Key.row (out ++ [(nth b i).key])), none⟩, ⟨0, 9, (List.map Card.row []), none⟩] : Heap) eX FX HX) (k2 : (decide (((i : Nat) : Int) < ((b.length : Nat) : Int))) = true → (!(rinC a (nth b i).key)) = false → (decide (cmpSt (rfC a (nth b i).key).stamp (nth b i).stamp < 0)) = true → LoopTo (codeQ Try.prog (X rcmp_ann) (loopOf Try.f92 0)) (some [6, 7, 8, 9, 22, 23, 24]) (some [6, 7, 8, 9, 22, 23, 24]) (mkF 79 [(6, (AV.sl .any 9 (List.map Card.row a))), (7, (AV.sl .any 9 (List.map Card.row b))), (8, (AV.osl 0 (g + 1) 2 0 (k + 1))), (9, (AV.osl 1 0 9 0 0)), (22, (AV.sl .any 9 (List.map Card.row b))), (23, (AV.int .i64 ((b.length : Nat) : Int))), (24, (AV.int .i64 ((i + 1 : Nat) : Int)))]) ([⟨(g + 1), 2, (List.map Key.row (out ++ [(nth b i).key])), none⟩, ⟨0, 9, (List.map Card.row []), none⟩] : Heap) eX FX HX) (k3 : (decide (((i : Nat) : Int) < ((b.length : Nat) : Int))) = true → (!(rinC a (nth b i).key)) = false → (decide (cmpSt (rfC a (nth b i).key).stamp (nth b i).stamp < 0)) = false → LoopTo (codeQ Try.prog (X rcmp_ann) (loopOf Try.f92 0)) (some [6, 7, 8, 9, 22, 23, 24]) (some [6, 7, 8, 9, 22, 23, 24]) (mkF 79 [(6, (AV.sl .any 9 (List.map Card.row a))), (7, (AV.sl .any 9 (List.map Card.row b))), (8, (AV.osl 0 g 2 0 k)), (9, (AV.osl 1 0 9 0 0)), (22, (AV.sl .any 9 (List.map Card.row b))), (23, (AV.int .i64 ((b.length : Nat) : Int))), (24, (AV.int .i64 ((i + 1 : Nat) : Int)))]) ([⟨g, 2, (List.map Key.row out), none⟩, ⟨0, 9, (List.map Card.row []), none⟩] : Heap) eX FX HX) (k4 : (decide (((i : Nat) : Int) < ((b.length : Nat) : Int))) = false → ((.exit 0 : Ex), (mkF 79 [(6, (AV.sl .any 9 (List.map Card.row a))), (7, (AV.sl .any 9 (List.map Card.row b))), (8, (AV.osl 0 g 2 0 k)), (9, (AV.osl 1 0 9 0 0)), (22, (AV.sl .any 9 (List.map Card.row b))), (23, (AV.int .i64 ((b.length : Nat) : Int))), (24, (AV.int .i64 ((i : Nat) : Int)))]), ([⟨g, 2, (List.map Key.row out), none⟩, ⟨0, 9, (List.map Card.row []), none⟩] : Heap)) = (eX, FX, HX)) : LoopTo (codeQ Try.prog (X rcmp_ann) (loopOf Try.f92 0)) (some [6, 7, 8, 9, 22, 23, 24]) (some [6, 7, 8, 9, 22, 23, 24]) (mkF 79 [(6, (AV.sl .any 9 (List.map Card.row a))), (7, (AV.sl .any 9 (List.map Card.row b))), (8, (AV.osl 0 g 2 0 k)), (9, (AV.osl 1 0 9 0 0)), (22, (AV.sl .any 9 (List.map Card.row b))), (23, (AV.int .i64 ((b.length : Nat) : Int))), (24, (AV.int .i64 ((i : Nat) : Int)))]) ([⟨g, 2, (List.map Key.row out), none⟩, ⟨0, 9, (List.map Card.row []), none⟩] : Heap) eX FX HX := by
  refine LoopTo.step (.reg [] [] [] (.two (.reg [(0, ((AV.ref (Card.row (nth b i)) 0), ([⟨g, 2, (List.map Key.row out), none⟩, ⟨0, 9, (List.map Card.row []), none⟩, ⟨0, 9, [[(AV.str (ByteArray.mk #[])), (AV.str (ByteArray.mk #[])), (AV.int .i64 0), (AV.int .i64 0), (AV.int .i64 0), (AV.int .i64 0), (AV.int .i64 0), (AV.int .i64 0), (AV.bool false)]], none⟩] : Heap)))] [] [] (.reg [(3, ((AV.tup [(AV.agg (Card.row (rfC a (nth b i).key))), (AV.bool (rinC a (nth b i).key))]), ([⟨g, 2, (List.map Key.row out), none⟩, ⟨0, 9, (List.map Card.row []), none⟩, ⟨0, 9, [(Card.row (nth b i))], none⟩, ⟨0, 9, [[(AV.str (ByteArray.mk #[])), (AV.str (ByteArray.mk #[])), (AV.int .i64 0), (AV.int .i64 0), (AV.int .i64 0), (AV.int .i64 0), (AV.int .i64 0), (AV.int .i64 0), (AV.bool false)]], none⟩] : Heap)))] [] [] (.reg [(7, ((AV.bool (decide (cmpSt (rfC a (nth b i).key).stamp (nth b i).stamp < 0))), ([⟨g, 2, (List.map Key.row out), none⟩, ⟨0, 9, (List.map Card.row []), none⟩, ⟨0, 9, [(Card.row (nth b i))], none⟩, ⟨0, 9, [(Card.row (rfC a (nth b i).key))], none⟩] : Heap)))] [] [] (.two (.two (.two (.two (.two (.two (.reg [(4, ((AV.osl 0 (g + 1) 2 0 (k + 1)), ([⟨(g + 1), 2, (List.map Key.row (out ++ [(nth b i).key])), none⟩, ⟨0, 9, (List.map Card.row []), none⟩, ⟨0, 9, [(Card.row (nth b i))], none⟩, ⟨0, 9, [(Card.row (rfC a (nth b i).key))], none⟩] : Heap)))] [] [] (.reg [(0, ((AV.int .i64 ((i + 1 : Nat) : Int)), ([⟨(g + 1), 2, (List.map Key.row (out ++ [(nth b i).key])), none⟩, ⟨0, 9, (List.map Card.row []), none⟩, ⟨0, 9, [(Card.row (nth b i))], none⟩, ⟨0, 9, [(Card.row (rfC a (nth b i).key))], none⟩] : Heap)))] [] [] .nil)) .nil) .nil) .nil) .nil) .nil) (.two .nil (.two .nil (.two .nil (.two .nil (.two (.reg [(4, ((AV.osl 0 (g + 1) 2 0 (k + 1)), ([⟨(g + 1), 2, (List.map Key.row (out ++ [(nth b i).key])), none⟩, ⟨0, 9, (List.map Card.row []), none⟩, ⟨0, 9, [(Card.row (nth b i))], none⟩, ⟨0, 9, [(Card.row (rfC a (nth b i).key))], none⟩] : Heap)))] [] [] (.reg [(0, ((AV.int .i64 ((i + 1 : Nat) : Int)), ([⟨(g + 1), 2, (List.map Key.row (out ++ [(nth b i).key])), none⟩, ⟨0, 9, (List.map Card.row []), none⟩, ⟨0, 9, [(Card.row (nth b i))], none⟩, ⟨0, 9, [(Card.row (rfC a (nth b i).key))], none⟩] : Heap)))] [] [] .nil)) (.reg [(0, ((AV.int .i64 ((i + 1 : Nat) : Int)), ([⟨g, 2, (List.map Key.row out), none⟩, ⟨0, 9, (List.map Card.row []), none⟩, ⟨0, 9, [(Card.row (nth b i))], none⟩, ⟨0, 9, [(Card.row (rfC a (nth b i).key))], none⟩] : Heap)))] [] [] .nil)))))))))) .nil)) ?_
  refine Eq.mp (by kernel_rfl : (cond (decide (((i : Nat) : Int) < ((b.length : Nat) : Int))) ((IdxSl 9 9 (List.map Card.row b) ((i : Nat) : Int) ([⟨g, 2, (List.map Key.row out), none⟩, ⟨0, 9, (List.map Card.row []), none⟩, ⟨0, 9, [[(AV.str (ByteArray.mk #[])), (AV.str (ByteArray.mk #[])), (AV.int .i64 0), (AV.int .i64 0), (AV.int .i64 0), (AV.int .i64 0), (AV.int .i64 0), (AV.int .i64 0), (AV.bool false)]], none⟩] : Heap) (Card.row (nth b i))) ∧ (ACalls Try.prog 125 [(AV.sl .any 9 (List.map Card.row a)), (AV.agg (Key.row (nth b i).key))] ([⟨g, 2, (List.map Key.row out), none⟩, ⟨0, 9, (List.map Card.row []), none⟩, ⟨0, 9, [(Card.row (nth b i))], none⟩, ⟨0, 9, [[(AV.str (ByteArray.mk #[])), (AV.str (ByteArray.mk #[])), (AV.int .i64 0), (AV.int .i64 0), (AV.int .i64 0), (AV.int .i64 0), (AV.int .i64 0), (AV.int .i64 0), (AV.bool false)]], none⟩] : Heap) ((AV.tup [(AV.agg (Card.row (rfC a (nth b i).key))), (AV.bool (rinC a (nth b i).key))]), ([⟨g, 2, (List.map Key.row out), none⟩, ⟨0, 9, (List.map Card.row []), none⟩, ⟨0, 9, [(Card.row (nth b i))], none⟩, ⟨0, 9, [[(AV.str (ByteArray.mk #[])), (AV.str (ByteArray.mk #[])), (AV.int .i64 0), (AV.int .i64 0), (AV.int .i64 0), (AV.int .i64 0), (AV.int .i64 0), (AV.int .i64 0), (AV.bool false)]], none⟩] : Heap))) ∧ cond (!(rinC a (nth b i).key)) ((evAppend tt ([⟨g, 2, (List.map Key.row out), none⟩, ⟨0, 9, (List.map Card.row []), none⟩, ⟨0, 9, [(Card.row (nth b i))], none⟩, ⟨0, 9, [(Card.row (rfC a (nth b i).key))], none⟩] : Heap) 66 (AV.osl 0 g 2 0 k) (AV.sl .clip 2 [(Key.row (nth b i).key)]) = some ((AV.osl 0 (g + 1) 2 0 (k + 1)), ([⟨(g + 1), 2, (List.map Key.row (out ++ [(nth b i).key])), none⟩, ⟨0, 9, (List.map Card.row []), none⟩, ⟨0, 9, [(Card.row (nth b i))], none⟩, ⟨0, 9, [(Card.row (rfC a (nth b i).key))], none⟩] : Heap))) ∧ (Yes (.int .i64 (IntKind.i64.wrap (((i : Nat) : Int) + 1))) ([⟨(g + 1), 2, (List.map Key.row (out ++ [(nth b i).key])), none⟩, ⟨0, 9, (List.map Card.row []), none⟩, ⟨0, 9, [(Card.row (nth b i))], none⟩, ⟨0, 9, [(Card.row (rfC a (nth b i).key))], none⟩] : Heap) (AV.int .i64 ((i + 1 : Nat) : Int))) ∧ (obsB 2 ([⟨(g + 1), 2, (List.map Key.row (out ++ [(nth b i).key])), none⟩, ⟨0, 9, (List.map Card.row []), none⟩] : Heap) = true) ∧ LoopTo (codeQ Try.prog (X rcmp_ann) (loopOf Try.f92 0)) (some [6, 7, 8, 9, 22, 23, 24]) (some [6, 7, 8, 9, 22, 23, 24]) (mkF 79 [(6, (AV.sl .any 9 (List.map Card.row a))), (7, (AV.sl .any 9 (List.map Card.row b))), (8, (AV.osl 0 (g + 1) 2 0 (k + 1))), (9, (AV.osl 1 0 9 0 0)), (22, (AV.sl .any 9 (List.map Card.row b))), (23, (AV.int .i64 ((b.length : Nat) : Int))), (24, (AV.int .i64 ((i + 1 : Nat) : Int)))]) ([⟨(g + 1), 2, (List.map Key.row (out ++ [(nth b i).key])), none⟩, ⟨0, 9, (List.map Card.row []), none⟩] : Heap) eX FX HX) ((ACalls Try.prog 126 [(AV.agg (Stamp.row (rfC a (nth b i).key).stamp)), (AV.agg (Stamp.row (nth b i).stamp))] ([⟨g, 2, (List.map Key.row out), none⟩, ⟨0, 9, (List.map Card.row []), none⟩, ⟨0, 9, [(Card.row (nth b i))], none⟩, ⟨0, 9, [(Card.row (rfC a (nth b i).key))], none⟩] : Heap) ((AV.bool (decide (cmpSt (rfC a (nth b i).key).stamp (nth b i).stamp < 0))), ([⟨g, 2, (List.map Key.row out), none⟩, ⟨0, 9, (List.map Card.row []), none⟩, ⟨0, 9, [(Card.row (nth b i))], none⟩, ⟨0, 9, [(Card.row (rfC a (nth b i).key))], none⟩] : Heap))) ∧ cond (decide (cmpSt (rfC a (nth b i).key).stamp (nth b i).stamp < 0)) ((evAppend tt ([⟨g, 2, (List.map Key.row out), none⟩, ⟨0, 9, (List.map Card.row []), none⟩, ⟨0, 9, [(Card.row (nth b i))], none⟩, ⟨0, 9, [(Card.row (rfC a (nth b i).key))], none⟩] : Heap) 66 (AV.osl 0 g 2 0 k) (AV.sl .clip 2 [(Key.row (nth b i).key)]) = some ((AV.osl 0 (g + 1) 2 0 (k + 1)), ([⟨(g + 1), 2, (List.map Key.row (out ++ [(nth b i).key])), none⟩, ⟨0, 9, (List.map Card.row []), none⟩, ⟨0, 9, [(Card.row (nth b i))], none⟩, ⟨0, 9, [(Card.row (rfC a (nth b i).key))], none⟩] : Heap))) ∧ (Yes (.int .i64 (IntKind.i64.wrap (((i : Nat) : Int) + 1))) ([⟨(g + 1), 2, (List.map Key.row (out ++ [(nth b i).key])), none⟩, ⟨0, 9, (List.map Card.row []), none⟩, ⟨0, 9, [(Card.row (nth b i))], none⟩, ⟨0, 9, [(Card.row (rfC a (nth b i).key))], none⟩] : Heap) (AV.int .i64 ((i + 1 : Nat) : Int))) ∧ (obsB 2 ([⟨(g + 1), 2, (List.map Key.row (out ++ [(nth b i).key])), none⟩, ⟨0, 9, (List.map Card.row []), none⟩] : Heap) = true) ∧ LoopTo (codeQ Try.prog (X rcmp_ann) (loopOf Try.f92 0)) (some [6, 7, 8, 9, 22, 23, 24]) (some [6, 7, 8, 9, 22, 23, 24]) (mkF 79 [(6, (AV.sl .any 9 (List.map Card.row a))), (7, (AV.sl .any 9 (List.map Card.row b))), (8, (AV.osl 0 (g + 1) 2 0 (k + 1))), (9, (AV.osl 1 0 9 0 0)), (22, (AV.sl .any 9 (List.map Card.row b))), (23, (AV.int .i64 ((b.length : Nat) : Int))), (24, (AV.int .i64 ((i + 1 : Nat) : Int)))]) ([⟨(g + 1), 2, (List.map Key.row (out ++ [(nth b i).key])), none⟩, ⟨0, 9, (List.map Card.row []), none⟩] : Heap) eX FX HX) ((Yes (.int .i64 (IntKind.i64.wrap (((i : Nat) : Int) + 1))) ([⟨g, 2, (List.map Key.row out), none⟩, ⟨0, 9, (List.map Card.row []), none⟩, ⟨0, 9, [(Card.row (nth b i))], none⟩, ⟨0, 9, [(Card.row (rfC a (nth b i).key))], none⟩] : Heap) (AV.int .i64 ((i + 1 : Nat) : Int))) ∧ (obsB 2 ([⟨g, 2, (List.map Key.row out), none⟩, ⟨0, 9, (List.map Card.row []), none⟩] : Heap) = true) ∧ LoopTo (codeQ Try.prog (X rcmp_ann) (loopOf Try.f92 0)) (some [6, 7, 8, 9, 22, 23, 24]) (some [6, 7, 8, 9, 22, 23, 24]) (mkF 79 [(6, (AV.sl .any 9 (List.map Card.row a))), (7, (AV.sl .any 9 (List.map Card.row b))), (8, (AV.osl 0 g 2 0 k)), (9, (AV.osl 1 0 9 0 0)), (22, (AV.sl .any 9 (List.map Card.row b))), (23, (AV.int .i64 ((b.length : Nat) : Int))), (24, (AV.int .i64 ((i + 1 : Nat) : Int)))]) ([⟨g, 2, (List.map Key.row out), none⟩, ⟨0, 9, (List.map Card.row []), none⟩] : Heap) eX FX HX))) (((.exit 0 : Ex), (mkF 79 [(6, (AV.sl .any 9 (List.map Card.row a))), (7, (AV.sl .any 9 (List.map Card.row b))), (8, (AV.osl 0 g 2 0 k)), (9, (AV.osl 1 0 9 0 0)), (22, (AV.sl .any 9 (List.map Card.row b))), (23, (AV.int .i64 ((b.length : Nat) : Int))), (24, (AV.int .i64 ((i : Nat) : Int)))]), ([⟨g, 2, (List.map Key.row out), none⟩, ⟨0, 9, (List.map Card.row []), none⟩] : Heap)) = (eX, FX, HX))) = _) ?_
  refine cond_split (fun h1 => ?_) (fun h1 => ?_)
  · have h1' := h1
    try simp at h1'
    refine And.intro (IdxSl.mk _ (by omega) (by omega)) ?_
    refine And.intro (rfind_at a (nth b i).key (by first | omega | assumption | (simp; done) | (simp; omega) | (simp_all; done) | (simp_all; omega)) ([⟨g, 2, (List.map Key.row out), none⟩, ⟨0, 9, (List.map Card.row []), none⟩, ⟨0, 9, [(Card.row (nth b i))], none⟩, ⟨0, 9, [[(AV.str (ByteArray.mk #[])), (AV.str (ByteArray.mk #[])), (AV.int .i64 0), (AV.int .i64 0), (AV.int .i64 0), (AV.int .i64 0), (AV.int .i64 0), (AV.int .i64 0), (AV.bool false)]], none⟩] : Heap)) ?_
    refine cond_split (fun h2 => ?_) (fun h2 => ?_)
    · have h2' := h2
      try simp at h2'
      refine And.intro (evAppend_one (row := Key.row) (l := out) (x := (nth b i).key) (T := tt) (e := 30) (te := { d := .struct [(9, 0), (9, 1)], size := 2, bytes := 32, zero := [.str ⟨#[]⟩, .str ⟨#[]⟩] }) (z := 1) (b := 24) (y := [.sl .nil 0 []]) (by kernel_rfl) (by kernel_rfl) rfl (by decide) (by decide) (by kernel_rfl) (by first | assumption | omega | (simp; done) | (simp; omega)) rfl rfl (by first | omega | (show _ * 32 ≤ _; omega) | (simp; omega))) ?_
      refine And.intro (Yes.add (by omega) (by omega) (by omega)) ?_
      refine And.intro (by first | (simp [obsB, AV.bddss, AV.bdds, AV.bdd]; done) | (simp [obsB, AV.bddss, AV.bdds, AV.bdd, -List.map_append]; done) | simp [obsB, AV.bddss, AV.bdds, AV.bdd, -List.map_append, -List.map_set, -List.map_take, -List.map_drop, -List.map_cons, -List.map_map]) ?_
      exact k1 h1 h2
    · have h2' := h2
      try simp at h2'
      refine And.intro (rstLess_at (rfC a (nth b i).key).stamp (nth b i).stamp  ([⟨g, 2, (List.map Key.row out), none⟩, ⟨0, 9, (List.map Card.row []), none⟩, ⟨0, 9, [(Card.row (nth b i))], none⟩, ⟨0, 9, [(Card.row (rfC a (nth b i).key))], none⟩] : Heap)) ?_
      refine cond_split (fun h3 => ?_) (fun h3 => ?_)
      · have h3' := h3
        try simp at h3'
        refine And.intro (evAppend_one (row := Key.row) (l := out) (x := (nth b i).key) (T := tt) (e := 30) (te := { d := .struct [(9, 0), (9, 1)], size := 2, bytes := 32, zero := [.str ⟨#[]⟩, .str ⟨#[]⟩] }) (z := 1) (b := 24) (y := [.sl .nil 0 []]) (by kernel_rfl) (by kernel_rfl) rfl (by decide) (by decide) (by kernel_rfl) (by first | assumption | omega | (simp; done) | (simp; omega)) rfl rfl (by first | omega | (show _ * 32 ≤ _; omega) | (simp; omega))) ?_
        refine And.intro (Yes.add (by omega) (by omega) (by omega)) ?_
        refine And.intro (by first | (simp [obsB, AV.bddss, AV.bdds, AV.bdd]; done) | (simp [obsB, AV.bddss, AV.bdds, AV.bdd, -List.map_append]; done) | simp [obsB, AV.bddss, AV.bdds, AV.bdd, -List.map_append, -List.map_set, -List.map_take, -List.map_drop, -List.map_cons, -List.map_map]) ?_
        exact k2 h1 h2 h3
      · have h3' := h3
        try simp at h3'
        refine And.intro (Yes.add (by omega) (by omega) (by omega)) ?_
        refine And.intro (by first | (simp [obsB, AV.bddss, AV.bdds, AV.bdd]; done) | (simp [obsB, AV.bddss, AV.bdds, AV.bdd, -List.map_append]; done) | simp [obsB, AV.bddss, AV.bdds, AV.bdd, -List.map_append, -List.map_set, -List.map_take, -List.map_drop, -List.map_cons, -List.map_map]) ?_
        exact k3 h1 h2 h3
  · have h1' := h1
    try simp at h1'
    exact k4 h1
def rcmp5_f (b : List Card) (a : List Card) (i : Nat) (s : (List Key) × Nat × Nat) : (List Key) × Nat × Nat := (if (!(rinC a (nth b i).key)) = true then (s.1 ++ [(nth b i).key], (s.2.1 + 1), (s.2.2 + 1)) else (if (decide (cmpSt (rfC a (nth b i).key).stamp (nth b i).stamp < 0)) = true then (s.1 ++ [(nth b i).key], (s.2.1 + 1), (s.2.2 + 1)) else (s.1, s.2.1, s.2.2)))
theorem rcmp5_loop (b : List Card) (a : List Card) (hb : b.length < 1000) (ha : a.length < 1000)  (r_ : Nat) : ∀ (out : List Key) (k : Nat) (g : Nat) (i : Nat) (sF : (List Key) × Nat × Nat), i + r_ = b.length → k = out.length → k ≤ i → sF = iter (rcmp5_f b a) r_ i (out, k, g) →
    LoopTo (codeQ Try.prog (X rcmp_ann) (loopOf Try.f92 0)) (some [6, 7, 8, 9, 22, 23, 24]) (some [6, 7, 8, 9, 22, 23, 24]) (mkF 79 [(6, (AV.sl .any 9 (List.map Card.row a))), (7, (AV.sl .any 9 (List.map Card.row b))), (8, (AV.osl 0 g 2 0 k)), (9, (AV.osl 1 0 9 0 0)), (22, (AV.sl .any 9 (List.map Card.row b))), (23, (AV.int .i64 ((b.length : Nat) : Int))), (24, (AV.int .i64 ((i : Nat) : Int)))]) ([⟨g, 2, (List.map Key.row out), none⟩, ⟨0, 9, (List.map Card.row []), none⟩] : Heap) (.exit 0) (mkF 79 [(6, (AV.sl .any 9 (List.map Card.row a))), (7, (AV.sl .any 9 (List.map Card.row b))), (8, (AV.osl 0 sF.2.2 2 0 sF.2.1)), (9, (AV.osl 1 0 9 0 0)), (22, (AV.sl .any 9 (List.map Card.row b))), (23, (AV.int .i64 ((b.length : Nat) : Int))), (24, (AV.int .i64 ((b.length : Nat) : Int)))]) ([⟨sF.2.2, 2, (List.map Key.row sF.1), none⟩, ⟨0, 9, (List.map Card.row []), none⟩] : Heap) := by
  induction r_ with
  | zero =>
    intro out k g i sF hi_ hk hki  hF
    obtain rfl : b.length = i := by omega
    have e_ : sF = (out, k, g) := hF
    refine rcmp5_step b a out k g b.length hb ha hk hki (Nat.le_refl _) (fun h _ => by simp at h <;> omega) (fun h _ _ => by simp at h <;> omega) (fun h _ _ => by simp at h <;> omega) (fun _ => ?_)
    first | done | rfl | (rw [e_]; done) | (rw [e_]; rfl)
  | succ r_ ih =>
    intro out k g i sF hi_ hk hki  hF
    refine rcmp5_step b a out k g i hb ha hk hki (by omega) (fun h1 h2 => ?_) (fun h1 h2 h3 => ?_) (fun h1 h2 h3 => ?_) (fun h => by simp at h <;> omega)
    · exact ih (out ++ [(nth b i).key]) (k + 1) (g + 1) (i + 1) sF (by omega) (by first | omega | assumption | (simp; done) | (simp; omega) | (simp [*]; done) | (simp [*]; omega)) (by first | omega | assumption | (simp; done) | (simp; omega) | (simp [*]; done) | (simp [*]; omega))  (by rw [hF] <;> simp only [iter, rcmp5_f, h2, if_true, Bool.false_eq_true, if_false])
    · exact ih (out ++ [(nth b i).key]) (k + 1) (g + 1) (i + 1) sF (by omega) (by first | omega | assumption | (simp; done) | (simp; omega) | (simp [*]; done) | (simp [*]; omega)) (by first | omega | assumption | (simp; done) | (simp; omega) | (simp [*]; done) | (simp [*]; omega))  (by rw [hF] <;> simp only [iter, rcmp5_f, h2, h3, if_true, Bool.false_eq_true, if_false])
    · exact ih out k g (i + 1) sF (by omega) (by first | omega | assumption | (simp; done) | (simp; omega) | (simp [*]; done) | (simp [*]; omega)) (by first | omega | assumption | (simp; done) | (simp; omega) | (simp [*]; done) | (simp [*]; omega))  (by rw [hF] <;> simp only [iter, rcmp5_f, h2, h3, if_true, Bool.false_eq_true, if_false])
set_option maxRecDepth 100000 in
theorem rcmp12_step (a : List Card) (b : List Card) (ks : List Key) (kq : Nat) (gq : Nat) (out : List Card) (k : Nat) (g : Nat) (i : Nat) (ha : a.length < 1000) (hb : b.length < 1000) (hk : k = out.length) (hki : k ≤ i) (hle_ : i ≤ a.length) {eX : Ex} {FX : Fr} {HX : Heap} (k1 : (decide (((i : Nat) : Int) < ((a.length : Nat) : Int))) = true → (!(rinC b (nth a i).key)) = true → LoopTo (codeQ Try.prog (X rcmp_ann) (loopOf Try.f92 1)) (some [6, 7, 8, 9, 50, 51, 52]) (some [6, 7, 8, 9, 50, 51, 52]) (mkF 79 [(6, (AV.sl .any 9 (List.map Card.row a))), (7, (AV.sl .any 9 (List.map Card.row b))), (8, (AV.osl 0 gq 2 0 kq)), (9, (AV.osl 1 (g + 1) 9 0 (k + 1))), (50, (AV.sl .any 9 (List.map Card.row a))), (51, (AV.int .i64 ((a.length : Nat) : Int))), (52, (AV.int .i64 ((i + 1 : Nat) : Int)))]) ([⟨gq, 2, (List.map Key.row ks), none⟩, ⟨(g + 1), 9, (List.map Card.row (out ++ [(nth a i)])), none⟩] : Heap) eX FX HX) (k2 : (decide (((i : Nat) : Int) < ((a.length : Nat) : Int))) = true → (!(rinC b (nth a i).key)) = false → (decide (cmpSt (rfC b (nth a i).key).stamp (nth a i).stamp < 0)) = true → LoopTo (codeQ Try.prog (X rcmp_ann) (loopOf Try.f92 1)) (some [6, 7, 8, 9, 50, 51, 52]) (some [6, 7, 8, 9, 50, 51, 52]) (mkF 79 [(6, (AV.sl .any 9 (List.map Card.row a))), (7, (AV.sl .any 9 (List.map Card.row b))), (8, (AV.osl 0 gq 2 0 kq)), (9, (AV.osl 1 (g + 1) 9 0 (k + 1))), (50, (AV.sl .any 9 (List.map Card.row a))), (51, (AV.int .i64 ((a.length : Nat) : Int))), (52, (AV.int .i64 ((i + 1 : Nat) : Int)))]) ([⟨gq, 2, (List.map Key.row ks), none⟩, ⟨(g + 1), 9, (List.map Card.row (out ++ [(nth a i)])), none⟩] : Heap) eX FX HX) (k3 : (decide (((i : Nat) : Int) < ((a.length : Nat) : Int))) = true → (!(rinC b (nth a i).key)) = false → (decide (cmpSt (rfC b (nth a i).key).stamp (nth a i).stamp < 0)) = false → LoopTo (codeQ Try.prog (X rcmp_ann) (loopOf Try.f92 1)) (some [6, 7, 8, 9, 50, 51, 52]) (some [6, 7, 8, 9, 50, 51, 52]) (mkF 79 [(6, (AV.sl .any 9 (List.map Card.row a))), (7, (AV.sl .any 9 (List.map Card.row b))), (8, (AV.osl 0 gq 2 0 kq)), (9, (AV.osl 1 g 9 0 k)), (50, (AV.sl .any 9 (List.map Card.row a))), (51, (AV.int .i64 ((a.length : Nat) : Int))), (52, (AV.int .i64 ((i + 1 : Nat) : Int)))]) ([⟨gq, 2, (List.map Key.row ks), none⟩, ⟨g, 9, (List.map Card.row out), none⟩] : Heap) eX FX HX) (k4 : (decide (((i : Nat) : Int) < ((a.length : Nat) : Int))) = false → ((.exit 2 : Ex), (mkF 79 [(6, (AV.sl .any 9 (List.map Card.row a))), (7, (AV.sl .any 9 (List.map Card.row b))), (8, (AV.osl 0 gq 2 0 kq)), (9, (AV.osl 1 g 9 0 k)), (50, (AV.sl .any 9 (List.map Card.row a))), (51, (AV.int .i64 ((a.length : Nat) : Int))), (52, (AV.int .i64 ((i : Nat) : Int)))]), ([⟨gq, 2, (List.map Key.row ks), none⟩, ⟨g, 9, (List.map Card.row out), none⟩] : Heap)) = (eX, FX, HX)) : LoopTo (codeQ Try.prog (X rcmp_ann) (loopOf Try.f92 1)) (some [6, 7, 8, 9, 50, 51, 52]) (some [6, 7, 8, 9, 50, 51, 52]) (mkF 79 [(6, (AV.sl .any 9 (List.map Card.row a))), (7, (AV.sl .any 9 (List.map Card.row b))), (8, (AV.osl 0 gq 2 0 kq)), (9, (AV.osl 1 g 9 0 k)), (50, (AV.sl .any 9 (List.map Card.row a))), (51, (AV.int .i64 ((a.length : Nat) : Int))), (52, (AV.int .i64 ((i : Nat) : Int)))]) ([⟨gq, 2, (List.map Key.row ks), none⟩, ⟨g, 9, (List.map Card.row out), none⟩] : Heap) eX FX HX := by
  refine LoopTo.step (.reg [] [] [] (.two (.reg [(0, ((AV.ref (Card.row (nth a i)) 0), ([⟨gq, 2, (List.map Key.row ks), none⟩, ⟨g, 9, (List.map Card.row out), none⟩, ⟨0, 9, [[(AV.str (ByteArray.mk #[])), (AV.str (ByteArray.mk #[])), (AV.int .i64 0), (AV.int .i64 0), (AV.int .i64 0), (AV.int .i64 0), (AV.int .i64 0), (AV.int .i64 0), (AV.bool false)]], none⟩] : Heap)))] [] [] (.reg [(3, ((AV.tup [(AV.agg (Card.row (rfC b (nth a i).key))), (AV.bool (rinC b (nth a i).key))]), ([⟨gq, 2, (List.map Key.row ks), none⟩, ⟨g, 9, (List.map Card.row out), none⟩, ⟨0, 9, [(Card.row (nth a i))], none⟩, ⟨0, 9, [[(AV.str (ByteArray.mk #[])), (AV.str (ByteArray.mk #[])), (AV.int .i64 0), (AV.int .i64 0), (AV.int .i64 0), (AV.int .i64 0), (AV.int .i64 0), (AV.int .i64 0), (AV.bool false)]], none⟩] : Heap)))] [] [] (.reg [(7, ((AV.bool (decide (cmpSt (rfC b (nth a i).key).stamp (nth a i).stamp < 0))), ([⟨gq, 2, (List.map Key.row ks), none⟩, ⟨g, 9, (List.map Card.row out), none⟩, ⟨0, 9, [(Card.row (nth a i))], none⟩, ⟨0, 9, [(Card.row (rfC b (nth a i).key))], none⟩] : Heap)))] [] [] (.two (.two (.two (.two (.two (.two (.reg [(3, ((AV.osl 1 (g + 1) 9 0 (k + 1)), ([⟨gq, 2, (List.map Key.row ks), none⟩, ⟨(g + 1), 9, (List.map Card.row (out ++ [(nth a i)])), none⟩, ⟨0, 9, [(Card.row (nth a i))], none⟩, ⟨0, 9, [(Card.row (rfC b (nth a i).key))], none⟩] : Heap)))] [] [] (.reg [(0, ((AV.int .i64 ((i + 1 : Nat) : Int)), ([⟨gq, 2, (List.map Key.row ks), none⟩, ⟨(g + 1), 9, (List.map Card.row (out ++ [(nth a i)])), none⟩, ⟨0, 9, [(Card.row (nth a i))], none⟩, ⟨0, 9, [(Card.row (rfC b (nth a i).key))], none⟩] : Heap)))] [] [] .nil)) .nil) .nil) .nil) .nil) .nil) (.two .nil (.two .nil (.two .nil (.two .nil (.two (.reg [(3, ((AV.osl 1 (g + 1) 9 0 (k + 1)), ([⟨gq, 2, (List.map Key.row ks), none⟩, ⟨(g + 1), 9, (List.map Card.row (out ++ [(nth a i)])), none⟩, ⟨0, 9, [(Card.row (nth a i))], none⟩, ⟨0, 9, [(Card.row (rfC b (nth a i).key))], none⟩] : Heap)))] [] [] (.reg [(0, ((AV.int .i64 ((i + 1 : Nat) : Int)), ([⟨gq, 2, (List.map Key.row ks), none⟩, ⟨(g + 1), 9, (List.map Card.row (out ++ [(nth a i)])), none⟩, ⟨0, 9, [(Card.row (nth a i))], none⟩, ⟨0, 9, [(Card.row (rfC b (nth a i).key))], none⟩] : Heap)))] [] [] .nil)) (.reg [(0, ((AV.int .i64 ((i + 1 : Nat) : Int)), ([⟨gq, 2, (List.map Key.row ks), none⟩, ⟨g, 9, (List.map Card.row out), none⟩, ⟨0, 9, [(Card.row (nth a i))], none⟩, ⟨0, 9, [(Card.row (rfC b (nth a i).key))], none⟩] : Heap)))] [] [] .nil)))))))))) .nil)) ?_
  refine Eq.mp (by kernel_rfl : (cond (decide (((i : Nat) : Int) < ((a.length : Nat) : Int))) ((IdxSl 9 9 (List.map Card.row a) ((i : Nat) : Int) ([⟨gq, 2, (List.map Key.row ks), none⟩, ⟨g, 9, (List.map Card.row out), none⟩, ⟨0, 9, [[(AV.str (ByteArray.mk #[])), (AV.str (ByteArray.mk #[])), (AV.int .i64 0), (AV.int .i64 0), (AV.int .i64 0), (AV.int .i64 0), (AV.int .i64 0), (AV.int .i64 0), (AV.bool false)]], none⟩] : Heap) (Card.row (nth a i))) ∧ (ACalls Try.prog 125 [(AV.sl .any 9 (List.map Card.row b)), (AV.agg (Key.row (nth a i).key))] ([⟨gq, 2, (List.map Key.row ks), none⟩, ⟨g, 9, (List.map Card.row out), none⟩, ⟨0, 9, [(Card.row (nth a i))], none⟩, ⟨0, 9, [[(AV.str (ByteArray.mk #[])), (AV.str (ByteArray.mk #[])), (AV.int .i64 0), (AV.int .i64 0), (AV.int .i64 0), (AV.int .i64 0), (AV.int .i64 0), (AV.int .i64 0), (AV.bool false)]], none⟩] : Heap) ((AV.tup [(AV.agg (Card.row (rfC b (nth a i).key))), (AV.bool (rinC b (nth a i).key))]), ([⟨gq, 2, (List.map Key.row ks), none⟩, ⟨g, 9, (List.map Card.row out), none⟩, ⟨0, 9, [(Card.row (nth a i))], none⟩, ⟨0, 9, [[(AV.str (ByteArray.mk #[])), (AV.str (ByteArray.mk #[])), (AV.int .i64 0), (AV.int .i64 0), (AV.int .i64 0), (AV.int .i64 0), (AV.int .i64 0), (AV.int .i64 0), (AV.bool false)]], none⟩] : Heap))) ∧ cond (!(rinC b (nth a i).key)) ((evAppend tt ([⟨gq, 2, (List.map Key.row ks), none⟩, ⟨g, 9, (List.map Card.row out), none⟩, ⟨0, 9, [(Card.row (nth a i))], none⟩, ⟨0, 9, [(Card.row (rfC b (nth a i).key))], none⟩] : Heap) 48 (AV.osl 1 g 9 0 k) (AV.sl .clip 9 [(Card.row (nth a i))]) = some ((AV.osl 1 (g + 1) 9 0 (k + 1)), ([⟨gq, 2, (List.map Key.row ks), none⟩, ⟨(g + 1), 9, (List.map Card.row (out ++ [(nth a i)])), none⟩, ⟨0, 9, [(Card.row (nth a i))], none⟩, ⟨0, 9, [(Card.row (rfC b (nth a i).key))], none⟩] : Heap))) ∧ (Yes (.int .i64 (IntKind.i64.wrap (((i : Nat) : Int) + 1))) ([⟨gq, 2, (List.map Key.row ks), none⟩, ⟨(g + 1), 9, (List.map Card.row (out ++ [(nth a i)])), none⟩, ⟨0, 9, [(Card.row (nth a i))], none⟩, ⟨0, 9, [(Card.row (rfC b (nth a i).key))], none⟩] : Heap) (AV.int .i64 ((i + 1 : Nat) : Int))) ∧ (obsB 2 ([⟨gq, 2, (List.map Key.row ks), none⟩, ⟨(g + 1), 9, (List.map Card.row (out ++ [(nth a i)])), none⟩] : Heap) = true) ∧ LoopTo (codeQ Try.prog (X rcmp_ann) (loopOf Try.f92 1)) (some [6, 7, 8, 9, 50, 51, 52]) (some [6, 7, 8, 9, 50, 51, 52]) (mkF 79 [(6, (AV.sl .any 9 (List.map Card.row a))), (7, (AV.sl .any 9 (List.map Card.row b))), (8, (AV.osl 0 gq 2 0 kq)), (9, (AV.osl 1 (g + 1) 9 0 (k + 1))), (50, (AV.sl .any 9 (List.map Card.row a))), (51, (AV.int .i64 ((a.length : Nat) : Int))), (52, (AV.int .i64 ((i + 1 : Nat) : Int)))]) ([⟨gq, 2, (List.map Key.row ks), none⟩, ⟨(g + 1), 9, (List.map Card.row (out ++ [(nth a i)])), none⟩] : Heap) eX FX HX) ((ACalls Try.prog 126 [(AV.agg (Stamp.row (rfC b (nth a i).key).stamp)), (AV.agg (Stamp.row (nth a i).stamp))] ([⟨gq, 2, (List.map Key.row ks), none⟩, ⟨g, 9, (List.map Card.row out), none⟩, ⟨0, 9, [(Card.row (nth a i))], none⟩, ⟨0, 9, [(Card.row (rfC b (nth a i).key))], none⟩] : Heap) ((AV.bool (decide (cmpSt (rfC b (nth a i).key).stamp (nth a i).stamp < 0))), ([⟨gq, 2, (List.map Key.row ks), none⟩, ⟨g, 9, (List.map Card.row out), none⟩, ⟨0, 9, [(Card.row (nth a i))], none⟩, ⟨0, 9, [(Card.row (rfC b (nth a i).key))], none⟩] : Heap))) ∧ cond (decide (cmpSt (rfC b (nth a i).key).stamp (nth a i).stamp < 0)) ((evAppend tt ([⟨gq, 2, (List.map Key.row ks), none⟩, ⟨g, 9, (List.map Card.row out), none⟩, ⟨0, 9, [(Card.row (nth a i))], none⟩, ⟨0, 9, [(Card.row (rfC b (nth a i).key))], none⟩] : Heap) 48 (AV.osl 1 g 9 0 k) (AV.sl .clip 9 [(Card.row (nth a i))]) = some ((AV.osl 1 (g + 1) 9 0 (k + 1)), ([⟨gq, 2, (List.map Key.row ks), none⟩, ⟨(g + 1), 9, (List.map Card.row (out ++ [(nth a i)])), none⟩, ⟨0, 9, [(Card.row (nth a i))], none⟩, ⟨0, 9, [(Card.row (rfC b (nth a i).key))], none⟩] : Heap))) ∧ (Yes (.int .i64 (IntKind.i64.wrap (((i : Nat) : Int) + 1))) ([⟨gq, 2, (List.map Key.row ks), none⟩, ⟨(g + 1), 9, (List.map Card.row (out ++ [(nth a i)])), none⟩, ⟨0, 9, [(Card.row (nth a i))], none⟩, ⟨0, 9, [(Card.row (rfC b (nth a i).key))], none⟩] : Heap) (AV.int .i64 ((i + 1 : Nat) : Int))) ∧ (obsB 2 ([⟨gq, 2, (List.map Key.row ks), none⟩, ⟨(g + 1), 9, (List.map Card.row (out ++ [(nth a i)])), none⟩] : Heap) = true) ∧ LoopTo (codeQ Try.prog (X rcmp_ann) (loopOf Try.f92 1)) (some [6, 7, 8, 9, 50, 51, 52]) (some [6, 7, 8, 9, 50, 51, 52]) (mkF 79 [(6, (AV.sl .any 9 (List.map Card.row a))), (7, (AV.sl .any 9 (List.map Card.row b))), (8, (AV.osl 0 gq 2 0 kq)), (9, (AV.osl 1 (g + 1) 9 0 (k + 1))), (50, (AV.sl .any 9 (List.map Card.row a))), (51, (AV.int .i64 ((a.length : Nat) : Int))), (52, (AV.int .i64 ((i + 1 : Nat) : Int)))]) ([⟨gq, 2, (List.map Key.row ks), none⟩, ⟨(g + 1), 9, (List.map Card.row (out ++ [(nth a i)])), none⟩] : Heap) eX FX HX) ((Yes (.int .i64 (IntKind.i64.wrap (((i : Nat) : Int) + 1))) ([⟨gq, 2, (List.map Key.row ks), none⟩, ⟨g, 9, (List.map Card.row out), none⟩, ⟨0, 9, [(Card.row (nth a i))], none⟩, ⟨0, 9, [(Card.row (rfC b (nth a i).key))], none⟩] : Heap) (AV.int .i64 ((i + 1 : Nat) : Int))) ∧ (obsB 2 ([⟨gq, 2, (List.map Key.row ks), none⟩, ⟨g, 9, (List.map Card.row out), none⟩] : Heap) = true) ∧ LoopTo (codeQ Try.prog (X rcmp_ann) (loopOf Try.f92 1)) (some [6, 7, 8, 9, 50, 51, 52]) (some [6, 7, 8, 9, 50, 51, 52]) (mkF 79 [(6, (AV.sl .any 9 (List.map Card.row a))), (7, (AV.sl .any 9 (List.map Card.row b))), (8, (AV.osl 0 gq 2 0 kq)), (9, (AV.osl 1 g 9 0 k)), (50, (AV.sl .any 9 (List.map Card.row a))), (51, (AV.int .i64 ((a.length : Nat) : Int))), (52, (AV.int .i64 ((i + 1 : Nat) : Int)))]) ([⟨gq, 2, (List.map Key.row ks), none⟩, ⟨g, 9, (List.map Card.row out), none⟩] : Heap) eX FX HX))) (((.exit 2 : Ex), (mkF 79 [(6, (AV.sl .any 9 (List.map Card.row a))), (7, (AV.sl .any 9 (List.map Card.row b))), (8, (AV.osl 0 gq 2 0 kq)), (9, (AV.osl 1 g 9 0 k)), (50, (AV.sl .any 9 (List.map Card.row a))), (51, (AV.int .i64 ((a.length : Nat) : Int))), (52, (AV.int .i64 ((i : Nat) : Int)))]), ([⟨gq, 2, (List.map Key.row ks), none⟩, ⟨g, 9, (List.map Card.row out), none⟩] : Heap)) = (eX, FX, HX))) = _) ?_
  refine cond_split (fun h1 => ?_) (fun h1 => ?_)
  · have h1' := h1
    try simp at h1'
    refine And.intro (IdxSl.mk _ (by omega) (by omega)) ?_
    refine And.intro (rfind_at b (nth a i).key (by first | omega | assumption | (simp; done) | (simp; omega) | (simp_all; done) | (simp_all; omega)) ([⟨gq, 2, (List.map Key.row ks), none⟩, ⟨g, 9, (List.map Card.row out), none⟩, ⟨0, 9, [(Card.row (nth a i))], none⟩, ⟨0, 9, [[(AV.str (ByteArray.mk #[])), (AV.str (ByteArray.mk #[])), (AV.int .i64 0), (AV.int .i64 0), (AV.int .i64 0), (AV.int .i64 0), (AV.int .i64 0), (AV.int .i64 0), (AV.bool false)]], none⟩] : Heap)) ?_
    refine cond_split (fun h2 => ?_) (fun h2 => ?_)
    · have h2' := h2
      try simp at h2'
      refine And.intro (evAppend_one (row := Card.row) (l := out) (x := (nth a i)) (T := tt) (e := 34) (te := { d := .struct [(30, 0), (3, 2), (3, 3), (2, 4), (32, 5), (4, 8)], size := 9, bytes := 88, zero := [.str ⟨#[]⟩, .str ⟨#[]⟩, .int .i64 0, .int .i64 0, .int .i64 0, .int .i64 0, .int .i64 0, .int .i64 0, .bool false] }) (z := 1) (b := 24) (y := [.sl .nil 0 []]) (by kernel_rfl) (by kernel_rfl) rfl (by decide) (by decide) (by kernel_rfl) (by first | assumption | omega | (simp; done) | (simp; omega)) rfl rfl (by first | omega | (show _ * 88 ≤ _; omega) | (simp; omega))) ?_
      refine And.intro (Yes.add (by omega) (by omega) (by omega)) ?_
      refine And.intro (by first | (simp [obsB, AV.bddss, AV.bdds, AV.bdd]; done) | (simp [obsB, AV.bddss, AV.bdds, AV.bdd, -List.map_append]; done) | simp [obsB, AV.bddss, AV.bdds, AV.bdd, -List.map_append, -List.map_set, -List.map_take, -List.map_drop, -List.map_cons, -List.map_map]) ?_
      exact k1 h1 h2
    · have h2' := h2
      try simp at h2'
      refine And.intro (rstLess_at (rfC b (nth a i).key).stamp (nth a i).stamp  ([⟨gq, 2, (List.map Key.row ks), none⟩, ⟨g, 9, (List.map Card.row out), none⟩, ⟨0, 9, [(Card.row (nth a i))], none⟩, ⟨0, 9, [(Card.row (rfC b (nth a i).key))], none⟩] : Heap)) ?_
      refine cond_split (fun h3 => ?_) (fun h3 => ?_)
      · have h3' := h3
        try simp at h3'
        refine And.intro (evAppend_one (row := Card.row) (l := out) (x := (nth a i)) (T := tt) (e := 34) (te := { d := .struct [(30, 0), (3, 2), (3, 3), (2, 4), (32, 5), (4, 8)], size := 9, bytes := 88, zero := [.str ⟨#[]⟩, .str ⟨#[]⟩, .int .i64 0, .int .i64 0, .int .i64 0, .int .i64 0, .int .i64 0, .int .i64 0, .bool false] }) (z := 1) (b := 24) (y := [.sl .nil 0 []]) (by kernel_rfl) (by kernel_rfl) rfl (by decide) (by decide) (by kernel_rfl) (by first | assumption | omega | (simp; done) | (simp; omega)) rfl rfl (by first | omega | (show _ * 88 ≤ _; omega) | (simp; omega))) ?_
        refine And.intro (Yes.add (by omega) (by omega) (by omega)) ?_
        refine And.intro (by first | (simp [obsB, AV.bddss, AV.bdds, AV.bdd]; done) | (simp [obsB, AV.bddss, AV.bdds, AV.bdd, -List.map_append]; done) | simp [obsB, AV.bddss, AV.bdds, AV.bdd, -List.map_append, -List.map_set, -List.map_take, -List.map_drop, -List.map_cons, -List.map_map]) ?_
        exact k2 h1 h2 h3
      · have h3' := h3
        try simp at h3'
        refine And.intro (Yes.add (by omega) (by omega) (by omega)) ?_
        refine And.intro (by first | (simp [obsB, AV.bddss, AV.bdds, AV.bdd]; done) | (simp [obsB, AV.bddss, AV.bdds, AV.bdd, -List.map_append]; done) | simp [obsB, AV.bddss, AV.bdds, AV.bdd, -List.map_append, -List.map_set, -List.map_take, -List.map_drop, -List.map_cons, -List.map_map]) ?_
        exact k3 h1 h2 h3
  · have h1' := h1
    try simp at h1'
    exact k4 h1
def rcmp12_f (a : List Card) (b : List Card) (ks : List Key) (kq : Nat) (gq : Nat) (i : Nat) (s : (List Card) × Nat × Nat) : (List Card) × Nat × Nat := (if (!(rinC b (nth a i).key)) = true then (s.1 ++ [(nth a i)], (s.2.1 + 1), (s.2.2 + 1)) else (if (decide (cmpSt (rfC b (nth a i).key).stamp (nth a i).stamp < 0)) = true then (s.1 ++ [(nth a i)], (s.2.1 + 1), (s.2.2 + 1)) else (s.1, s.2.1, s.2.2)))
theorem rcmp12_loop (a : List Card) (b : List Card) (ks : List Key) (kq : Nat) (gq : Nat) (ha : a.length < 1000) (hb : b.length < 1000)  (r_ : Nat) : ∀ (out : List Card) (k : Nat) (g : Nat) (i : Nat) (sF : (List Card) × Nat × Nat), i + r_ = a.length → k = out.length → k ≤ i → sF = iter (rcmp12_f a b ks kq gq) r_ i (out, k, g) →
    LoopTo (codeQ Try.prog (X rcmp_ann) (loopOf Try.f92 1)) (some [6, 7, 8, 9, 50, 51, 52]) (some [6, 7, 8, 9, 50, 51, 52]) (mkF 79 [(6, (AV.sl .any 9 (List.map Card.row a))), (7, (AV.sl .any 9 (List.map Card.row b))), (8, (AV.osl 0 gq 2 0 kq)), (9, (AV.osl 1 g 9 0 k)), (50, (AV.sl .any 9 (List.map Card.row a))), (51, (AV.int .i64 ((a.length : Nat) : Int))), (52, (AV.int .i64 ((i : Nat) : Int)))]) ([⟨gq, 2, (List.map Key.row ks), none⟩, ⟨g, 9, (List.map Card.row out), none⟩] : Heap) (.exit 2) (mkF 79 [(6, (AV.sl .any 9 (List.map Card.row a))), (7, (AV.sl .any 9 (List.map Card.row b))), (8, (AV.osl 0 gq 2 0 kq)), (9, (AV.osl 1 sF.2.2 9 0 sF.2.1)), (50, (AV.sl .any 9 (List.map Card.row a))), (51, (AV.int .i64 ((a.length : Nat) : Int))), (52, (AV.int .i64 ((a.length : Nat) : Int)))]) ([⟨gq, 2, (List.map Key.row ks), none⟩, ⟨sF.2.2, 9, (List.map Card.row sF.1), none⟩] : Heap) := by
  induction r_ with
  | zero =>
    intro out k g i sF hi_ hk hki  hF
    obtain rfl : a.length = i := by omega
    have e_ : sF = (out, k, g) := hF
    refine rcmp12_step a b ks kq gq out k g a.length ha hb hk hki (Nat.le_refl _) (fun h _ => by simp at h <;> omega) (fun h _ _ => by simp at h <;> omega) (fun h _ _ => by simp at h <;> omega) (fun _ => ?_)
    first | done | rfl | (rw [e_]; done) | (rw [e_]; rfl)
  | succ r_ ih =>
    intro out k g i sF hi_ hk hki  hF
    refine rcmp12_step a b ks kq gq out k g i ha hb hk hki (by omega) (fun h1 h2 => ?_) (fun h1 h2 h3 => ?_) (fun h1 h2 h3 => ?_) (fun h => by simp at h <;> omega)
    · exact ih (out ++ [(nth a i)]) (k + 1) (g + 1) (i + 1) sF (by omega) (by first | omega | assumption | (simp; done) | (simp; omega) | (simp [*]; done) | (simp [*]; omega)) (by first | omega | assumption | (simp; done) | (simp; omega) | (simp [*]; done) | (simp [*]; omega))  (by rw [hF] <;> simp only [iter, rcmp12_f, h2, if_true, Bool.false_eq_true, if_false])
    · exact ih (out ++ [(nth a i)]) (k + 1) (g + 1) (i + 1) sF (by omega) (by first | omega | assumption | (simp; done) | (simp; omega) | (simp [*]; done) | (simp [*]; omega)) (by first | omega | assumption | (simp; done) | (simp; omega) | (simp [*]; done) | (simp [*]; omega))  (by rw [hF] <;> simp only [iter, rcmp12_f, h2, h3, if_true, Bool.false_eq_true, if_false])
    · exact ih out k g (i + 1) sF (by omega) (by first | omega | assumption | (simp; done) | (simp; omega) | (simp [*]; done) | (simp [*]; omega)) (by first | omega | assumption | (simp; done) | (simp; omega) | (simp [*]; done) | (simp [*]; omega))  (by rw [hF] <;> simp only [iter, rcmp12_f, h2, h3, if_true, Bool.false_eq_true, if_false])
def raB (other : List Card) (c : Card) : Bool := !(rinC other c.key) || decide (cmpSt (rfC other c.key).stamp c.stamp < 0)
theorem rcmp5_iter (b a : List Card) : (keysC (b.filter (raB a)), (keysC (b.filter (raB a))).length, (keysC (b.filter (raB a))).length) = iter (rcmp5_f b a) b.length 0 ([], 0, 0) := by
  rw [iter_all (rcmp5_f b a) (fun s c => if raB a c = true then (s.1 ++ [c.key], s.2.1 + 1, s.2.2 + 1) else s) b (fun i s hi => ?_)]
  · rw [fold_fmap (raB a) (fun c => c.key) b]; simp [keysC]
  · simp only [rcmp5_f, raB]
    by_cases h1 : rinC a (nth b i).key = true <;> by_cases h2 : cmpSt (rfC a (nth b i).key).stamp (nth b i).stamp < 0 <;> simp [h1, h2]
theorem rcmp12_iter (a b : List Card) (ks : List Key) (kq gq : Nat) : (a.filter (raB b), (a.filter (raB b)).length, (a.filter (raB b)).length) = iter (rcmp12_f a b ks kq gq) a.length 0 ([], 0, 0) := by
  rw [iter_all (rcmp12_f a b ks kq gq) (fun s c => if raB b c = true then (s.1 ++ [c], s.2.1 + 1, s.2.2 + 1) else s) a (fun i s hi => ?_)]
  · rw [fold_fmap (raB b) (fun c => c) a]; simp
  · simp only [rcmp12_f, raB]
    by_cases h1 : rinC b (nth a i).key = true <;> by_cases h2 : cmpSt (rfC b (nth a i).key).stamp (nth a i).stamp < 0 <;> simp [h1, h2]
theorem raB_last (m : List Card) : raB (lastK m) = aheadB (lastK m) := by
  funext c; unfold raB aheadB; rw [inC_last, findC_last, rfC_last, rinC_last]
theorem raW (mine dig : List Card) : keysC ((lastK dig).filter (raB (lastK mine))) = wantK mine dig := by rw [raB_last]; unfold wantK aheadK; rfl
theorem raT (mine dig : List Card) : (lastK mine).filter (raB (lastK dig)) = tellK mine dig := by rw [raB_last]; unfold tellK aheadK; rfl
theorem ra_len (a b : List Card) : (a.filter (raB b)).length ≤ a.length := List.length_filter_le _ _
attribute [local irreducible] raB
set_option maxRecDepth 100000 in
theorem rcmp_spec (mine dig : List Card) (hm : mine.length < 1000) (hd : dig.length < 1000) : ACalls Try.prog 92 [(AV.sl .any 9 (List.map Card.row mine)), (AV.sl .any 9 (List.map Card.row dig))] ([] : Heap) ((AV.tup [(AV.sl .any 2 (List.map Key.row (wantK mine dig))), (AV.sl .any 9 (List.map Card.row (tellK mine dig)))]), ([] : Heap)) := by
  have h1 := lastK_len mine
  have h2 := lastK_len dig
  have h3 := ra_len (lastK dig) (lastK mine)
  have h4 := keysC_len ((lastK dig).filter (raB (lastK mine)))
  have h5 := ra_len (lastK mine) (lastK dig)
  refine spec (fn := Try.f92) (ann := rcmp_ann) (t := (.reg [] [] [] (.reg [(1, ((AV.sl .any 9 (List.map Card.row (lastK mine))), ([] : Heap))), (3, ((AV.sl .any 9 (List.map Card.row (lastK dig))), ([] : Heap)))] [] [] (.reg [] [] [] (.reg [] [] [] (.reg [(1, ((AV.int .i64 (((lastK dig).length : Nat) : Int)), ([⟨0, 2, (List.map Key.row []), none⟩, ⟨0, 9, (List.map Card.row []), none⟩] : Heap)))] [] [] (.loop (.exit 0) (mkF 79 [(6, (AV.sl .any 9 (List.map Card.row (lastK mine)))), (7, (AV.sl .any 9 (List.map Card.row (lastK dig)))), (8, (AV.osl 0 (keysC ((lastK dig).filter (raB (lastK mine)))).length 2 0 (keysC ((lastK dig).filter (raB (lastK mine)))).length)), (9, (AV.osl 1 0 9 0 0)), (22, (AV.sl .any 9 (List.map Card.row (lastK dig)))), (23, (AV.int .i64 (((lastK dig).length : Nat) : Int))), (24, (AV.int .i64 (((lastK dig).length : Nat) : Int)))]) ([⟨(keysC ((lastK dig).filter (raB (lastK mine)))).length, 2, (List.map Key.row (keysC ((lastK dig).filter (raB (lastK mine))))), none⟩, ⟨0, 9, (List.map Card.row []), none⟩] : Heap) (.reg [(1, ((AV.int .i64 (((lastK mine).length : Nat) : Int)), ([⟨(keysC ((lastK dig).filter (raB (lastK mine)))).length, 2, (List.map Key.row (keysC ((lastK dig).filter (raB (lastK mine))))), none⟩, ⟨0, 9, (List.map Card.row []), none⟩] : Heap)))] [] [] (.loop (.exit 2) (mkF 79 [(6, (AV.sl .any 9 (List.map Card.row (lastK mine)))), (7, (AV.sl .any 9 (List.map Card.row (lastK dig)))), (8, (AV.osl 0 (keysC ((lastK dig).filter (raB (lastK mine)))).length 2 0 (keysC ((lastK dig).filter (raB (lastK mine)))).length)), (9, (AV.osl 1 ((lastK mine).filter (raB (lastK dig))).length 9 0 ((lastK mine).filter (raB (lastK dig))).length)), (50, (AV.sl .any 9 (List.map Card.row (lastK mine)))), (51, (AV.int .i64 (((lastK mine).length : Nat) : Int))), (52, (AV.int .i64 (((lastK mine).length : Nat) : Int)))]) ([⟨(keysC ((lastK dig).filter (raB (lastK mine)))).length, 2, (List.map Key.row (keysC ((lastK dig).filter (raB (lastK mine))))), none⟩, ⟨((lastK mine).filter (raB (lastK dig))).length, 9, (List.map Card.row ((lastK mine).filter (raB (lastK dig)))), none⟩] : Heap) (.reg [] [(8, (List.map Key.row (keysC ((lastK dig).filter (raB (lastK mine)))))), (9, (List.map Card.row ((lastK mine).filter (raB (lastK dig)))))] [] .nil)))))))))) (Nat.le_of_ble_eq_true (by kernel_rfl)) ⟨Try.func92, by kernel_rfl, by kernel_rfl, by kernel_rfl⟩ ?_
  refine Eq.mp (by kernel_rfl : ((ACalls Try.prog 124 [(AV.sl .any 9 (List.map Card.row mine))] ([] : Heap) ((AV.sl .any 9 (List.map Card.row (lastK mine))), ([] : Heap))) ∧ (ACalls Try.prog 124 [(AV.sl .any 9 (List.map Card.row dig))] ([] : Heap) ((AV.sl .any 9 (List.map Card.row (lastK dig))), ([] : Heap))) ∧ (Yes (.int .i64 ((List.length (List.map Card.row (lastK dig)) : Nat) : Int)) ([⟨0, 2, (List.map Key.row []), none⟩, ⟨0, 9, (List.map Card.row []), none⟩] : Heap) (AV.int .i64 (((lastK dig).length : Nat) : Int))) ∧ (LoopTo (codeQ Try.prog (X rcmp_ann) (loopOf Try.f92 0)) (some [6, 7, 8, 9, 22, 23, 24]) (some [6, 7, 8, 9, 22, 23, 24]) (mkF 79 [(6, (AV.sl .any 9 (List.map Card.row (lastK mine)))), (7, (AV.sl .any 9 (List.map Card.row (lastK dig)))), (8, (AV.osl 0 0 2 0 0)), (9, (AV.osl 1 0 9 0 0)), (22, (AV.sl .any 9 (List.map Card.row (lastK dig)))), (23, (AV.int .i64 (((lastK dig).length : Nat) : Int))), (24, (AV.int .i64 0))]) ([⟨0, 2, (List.map Key.row []), none⟩, ⟨0, 9, (List.map Card.row []), none⟩] : Heap) (.exit 0) (mkF 79 [(6, (AV.sl .any 9 (List.map Card.row (lastK mine)))), (7, (AV.sl .any 9 (List.map Card.row (lastK dig)))), (8, (AV.osl 0 (keysC ((lastK dig).filter (raB (lastK mine)))).length 2 0 (keysC ((lastK dig).filter (raB (lastK mine)))).length)), (9, (AV.osl 1 0 9 0 0)), (22, (AV.sl .any 9 (List.map Card.row (lastK dig)))), (23, (AV.int .i64 (((lastK dig).length : Nat) : Int))), (24, (AV.int .i64 (((lastK dig).length : Nat) : Int)))]) ([⟨(keysC ((lastK dig).filter (raB (lastK mine)))).length, 2, (List.map Key.row (keysC ((lastK dig).filter (raB (lastK mine))))), none⟩, ⟨0, 9, (List.map Card.row []), none⟩] : Heap)) ∧ (Yes (.int .i64 ((List.length (List.map Card.row (lastK mine)) : Nat) : Int)) ([⟨(keysC ((lastK dig).filter (raB (lastK mine)))).length, 2, (List.map Key.row (keysC ((lastK dig).filter (raB (lastK mine))))), none⟩, ⟨0, 9, (List.map Card.row []), none⟩] : Heap) (AV.int .i64 (((lastK mine).length : Nat) : Int))) ∧ (LoopTo (codeQ Try.prog (X rcmp_ann) (loopOf Try.f92 1)) (some [6, 7, 8, 9, 50, 51, 52]) (some [6, 7, 8, 9, 50, 51, 52]) (mkF 79 [(6, (AV.sl .any 9 (List.map Card.row (lastK mine)))), (7, (AV.sl .any 9 (List.map Card.row (lastK dig)))), (8, (AV.osl 0 (keysC ((lastK dig).filter (raB (lastK mine)))).length 2 0 (keysC ((lastK dig).filter (raB (lastK mine)))).length)), (9, (AV.osl 1 0 9 0 0)), (50, (AV.sl .any 9 (List.map Card.row (lastK mine)))), (51, (AV.int .i64 (((lastK mine).length : Nat) : Int))), (52, (AV.int .i64 0))]) ([⟨(keysC ((lastK dig).filter (raB (lastK mine)))).length, 2, (List.map Key.row (keysC ((lastK dig).filter (raB (lastK mine))))), none⟩, ⟨0, 9, (List.map Card.row []), none⟩] : Heap) (.exit 2) (mkF 79 [(6, (AV.sl .any 9 (List.map Card.row (lastK mine)))), (7, (AV.sl .any 9 (List.map Card.row (lastK dig)))), (8, (AV.osl 0 (keysC ((lastK dig).filter (raB (lastK mine)))).length 2 0 (keysC ((lastK dig).filter (raB (lastK mine)))).length)), (9, (AV.osl 1 ((lastK mine).filter (raB (lastK dig))).length 9 0 ((lastK mine).filter (raB (lastK dig))).length)), (50, (AV.sl .any 9 (List.map Card.row (lastK mine)))), (51, (AV.int .i64 (((lastK mine).length : Nat) : Int))), (52, (AV.int .i64 (((lastK mine).length : Nat) : Int)))]) ([⟨(keysC ((lastK dig).filter (raB (lastK mine)))).length, 2, (List.map Key.row (keysC ((lastK dig).filter (raB (lastK mine))))), none⟩, ⟨((lastK mine).filter (raB (lastK dig))).length, 9, (List.map Card.row ((lastK mine).filter (raB (lastK dig)))), none⟩] : Heap)) ∧ (rowsIn ([⟨(keysC ((lastK dig).filter (raB (lastK mine)))).length, 2, (List.map Key.row (keysC ((lastK dig).filter (raB (lastK mine))))), none⟩, ⟨((lastK mine).filter (raB (lastK dig))).length, 9, (List.map Card.row ((lastK mine).filter (raB (lastK dig)))), none⟩] : Heap) 2 (AV.osl 0 (keysC ((lastK dig).filter (raB (lastK mine)))).length 2 0 (keysC ((lastK dig).filter (raB (lastK mine)))).length) = some (List.map Key.row (keysC ((lastK dig).filter (raB (lastK mine))))) ∧ AV.bddss 0 (List.map Key.row (keysC ((lastK dig).filter (raB (lastK mine))))) = true) ∧ (rowsIn ([⟨((keysC ((lastK dig).filter (raB (lastK mine)))).length + 1), 2, [], none⟩, ⟨((lastK mine).filter (raB (lastK dig))).length, 9, (List.map Card.row ((lastK mine).filter (raB (lastK dig)))), none⟩] : Heap) 9 (AV.osl 1 ((lastK mine).filter (raB (lastK dig))).length 9 0 ((lastK mine).filter (raB (lastK dig))).length) = some (List.map Card.row ((lastK mine).filter (raB (lastK dig)))) ∧ AV.bddss 0 (List.map Card.row ((lastK mine).filter (raB (lastK dig)))) = true) ∧ (AV.bdd 0 (AV.tup [(AV.sl .any 2 (List.map Key.row (keysC ((lastK dig).filter (raB (lastK mine)))))), (AV.sl .any 9 (List.map Card.row ((lastK mine).filter (raB (lastK dig)))))]) = true ∧ obsB 0 ([] : Heap) = true) ∧ ((AV.tup [(AV.sl .any 2 (List.map Key.row (keysC ((lastK dig).filter (raB (lastK mine)))))), (AV.sl .any 9 (List.map Card.row ((lastK mine).filter (raB (lastK dig)))))]), ([] : Heap)) = ((AV.tup [(AV.sl .any 2 (List.map Key.row (wantK mine dig))), (AV.sl .any 9 (List.map Card.row (tellK mine dig)))]), ([] : Heap))) = _) ?_
  refine And.intro (rlast_at mine (by first | omega | assumption | (simp; done) | (simp; omega) | (simp_all; done) | (simp_all; omega)) ([] : Heap)) ?_
  refine And.intro (rlast_at dig (by first | omega | assumption | (simp; done) | (simp; omega) | (simp_all; done) | (simp_all; omega)) ([] : Heap)) ?_
  refine And.intro (Yes.len _ _ _) ?_
  refine And.intro ((rcmp5_loop (lastK dig) (lastK mine) (by omega) (by omega) (List.length (lastK dig)) [] 0 0 0 (keysC (List.filter (raB (lastK mine)) (lastK dig)), (keysC (List.filter (raB (lastK mine)) (lastK dig))).length, (keysC (List.filter (raB (lastK mine)) (lastK dig))).length) (by omega) rfl (by omega) (rcmp5_iter _ _))) ?_
  refine And.intro (Yes.len _ _ _) ?_
  refine And.intro ((rcmp12_loop (lastK mine) (lastK dig) (keysC ((lastK dig).filter (raB (lastK mine)))) (keysC ((lastK dig).filter (raB (lastK mine)))).length (keysC ((lastK dig).filter (raB (lastK mine)))).length (by omega) (by omega) (List.length (lastK mine)) [] 0 0 0 (List.filter (raB (lastK dig)) (lastK mine), (List.filter (raB (lastK dig)) (lastK mine)).length, (List.filter (raB (lastK dig)) (lastK mine)).length) (by omega) rfl (by omega) (rcmp12_iter _ _ _ _ _))) ?_
  refine And.intro (And.intro (rowsIn_all (room := none) (by kernel_rfl) (by first | omega | (simp; done) | (simp; omega))) (Key.rows_bdd _ _)) ?_
  refine And.intro (And.intro (rowsIn_all (room := none) (by kernel_rfl) (by first | omega | (simp; done) | (simp; omega))) (Card.rows_bdd _ _)) ?_
  refine And.intro (by first | (simp [obsB, AV.bddss, AV.bdds, AV.bdd]; done) | (simp [obsB, AV.bddss, AV.bdds, AV.bdd, -List.map_append]; done) | simp [obsB, AV.bddss, AV.bdds, AV.bdd, -List.map_append, -List.map_set, -List.map_take, -List.map_drop, -List.map_cons, -List.map_map]) ?_
  rw [raW, raT]
theorem rcmp_at (mine dig : List Card) (hm : mine.length < 1000) (hd : dig.length < 1000) (H : Heap) : ACalls Try.prog 92 [(AV.sl .any 9 (List.map Card.row mine)), (AV.sl .any 9 (List.map Card.row dig))] H ((AV.tup [(AV.sl .any 2 (List.map Key.row (wantK mine dig))), (AV.sl .any 9 (List.map Card.row (tellK mine dig)))]), H) := (rcmp_spec mine dig hm hd).lift (by kernel_rfl) (by kernel_rfl) H
def rans_ann : Ann := { gh := [(14, .frz 5)], gha := [(1, .vir 5 9), (13, .cut 1)], fin := some 0, live := [(3, [0, 1, 5, 12, 13, 14]), (7, [0, 1, 5, 6, 7, 8, 9, 12, 13, 14])], out := [(3, [0, 1, 5, 12, 13, 14]), (7, [0, 1, 5, 6, 7, 8, 9, 12, 13, 14])] }
set_option maxRecDepth 100000 in
theorem rans7_step (l : List Card) (keys : List Key) (out : List Card) (k : Nat) (g : Nat) (i : Nat) (x : Key) (on : Bool) (j : Nat) (hks : keys.length < 1048576) (hi : i < keys.length) (hle_ : j ≤ i) {eX : Ex} {FX : Fr} {HX : Heap} (k1 : (decide (((j : Nat) : Int) < ((i : Nat) : Int))) = true → on = true → LoopTo (codeQ Try.prog (X rans_ann) (loopOf Try.f95 1)) (some [0, 1, 5, 6, 7, 8, 9, 12, 13, 14]) (some [0, 1, 5, 6, 7, 8, 9, 12, 13, 14]) (mkF 49 [(0, (AV.sl .any 9 (List.map Card.row l))), (1, (AV.sl .any 2 (List.map Key.row keys))), (5, (AV.osl 0 g 9 0 k)), (6, (AV.int .i64 ((i : Nat) : Int))), (7, (AV.obj 1 0 0 0)), (8, (AV.bool (!(Key.eqb (nth keys j) x)))), (9, (AV.int .i64 ((j + 1 : Nat) : Int))), (12, (AV.sl .any 2 (List.map Key.row keys))), (13, (AV.int .i64 ((keys.length : Nat) : Int))), (14, (AV.int .i64 ((i : Nat) : Int)))]) ([⟨g, 9, (List.map Card.row out), none⟩, ⟨0, 2, [(Key.row x)], none⟩] : Heap) eX FX HX) (k2 : (decide (((j : Nat) : Int) < ((i : Nat) : Int))) = true → on = false → LoopTo (codeQ Try.prog (X rans_ann) (loopOf Try.f95 1)) (some [0, 1, 5, 6, 7, 8, 9, 12, 13, 14]) (some [0, 1, 5, 6, 7, 8, 9, 12, 13, 14]) (mkF 49 [(0, (AV.sl .any 9 (List.map Card.row l))), (1, (AV.sl .any 2 (List.map Key.row keys))), (5, (AV.osl 0 g 9 0 k)), (6, (AV.int .i64 ((i : Nat) : Int))), (7, (AV.obj 1 0 0 0)), (8, (AV.bool false)), (9, (AV.int .i64 ((j + 1 : Nat) : Int))), (12, (AV.sl .any 2 (List.map Key.row keys))), (13, (AV.int .i64 ((keys.length : Nat) : Int))), (14, (AV.int .i64 ((i : Nat) : Int)))]) ([⟨g, 9, (List.map Card.row out), none⟩, ⟨0, 2, [(Key.row x)], none⟩] : Heap) eX FX HX) (k3 : (decide (((j : Nat) : Int) < ((i : Nat) : Int))) = false → ((.exit 2 : Ex), (mkF 49 [(0, (AV.sl .any 9 (List.map Card.row l))), (1, (AV.sl .any 2 (List.map Key.row keys))), (5, (AV.osl 0 g 9 0 k)), (6, (AV.int .i64 ((i : Nat) : Int))), (7, (AV.obj 1 0 0 0)), (8, (AV.bool on)), (9, (AV.int .i64 ((j : Nat) : Int))), (12, (AV.sl .any 2 (List.map Key.row keys))), (13, (AV.int .i64 ((keys.length : Nat) : Int))), (14, (AV.int .i64 ((i : Nat) : Int)))]), ([⟨g, 9, (List.map Card.row out), none⟩, ⟨0, 2, [(Key.row x)], none⟩] : Heap)) = (eX, FX, HX)) : LoopTo (codeQ Try.prog (X rans_ann) (loopOf Try.f95 1)) (some [0, 1, 5, 6, 7, 8, 9, 12, 13, 14]) (some [0, 1, 5, 6, 7, 8, 9, 12, 13, 14]) (mkF 49 [(0, (AV.sl .any 9 (List.map Card.row l))), (1, (AV.sl .any 2 (List.map Key.row keys))), (5, (AV.osl 0 g 9 0 k)), (6, (AV.int .i64 ((i : Nat) : Int))), (7, (AV.obj 1 0 0 0)), (8, (AV.bool on)), (9, (AV.int .i64 ((j : Nat) : Int))), (12, (AV.sl .any 2 (List.map Key.row keys))), (13, (AV.int .i64 ((keys.length : Nat) : Int))), (14, (AV.int .i64 ((i : Nat) : Int)))]) ([⟨g, 9, (List.map Card.row out), none⟩, ⟨0, 2, [(Key.row x)], none⟩] : Heap) eX FX HX := by
  refine LoopTo.step (.reg [] [] [] (.two (.reg [(4, ((AV.ref (Key.row (nth keys j)) 0), ([⟨g, 9, (List.map Card.row out), none⟩, ⟨0, 2, [(Key.row x)], none⟩] : Heap)))] [] [] (.two (.two (.two (.two (.two (.two (.reg [(1, ((AV.int .i64 ((j + 1 : Nat) : Int)), ([⟨g, 9, (List.map Card.row out), none⟩, ⟨0, 2, [(Key.row x)], none⟩] : Heap)))] [] [] .nil) .nil) .nil) .nil) .nil) .nil) (.two .nil (.two .nil (.two .nil (.two .nil (.two .nil (.reg [(1, ((AV.int .i64 ((j + 1 : Nat) : Int)), ([⟨g, 9, (List.map Card.row out), none⟩, ⟨0, 2, [(Key.row x)], none⟩] : Heap)))] [] [] .nil)))))))) .nil)) ?_
  refine Eq.mp (by kernel_rfl : (cond (decide (((j : Nat) : Int) < ((i : Nat) : Int))) (cond on ((IdxSl 2 2 (List.map Key.row keys) ((j : Nat) : Int) ([⟨g, 9, (List.map Card.row out), none⟩, ⟨0, 2, [(Key.row x)], none⟩] : Heap) (Key.row (nth keys j))) ∧ (Yes (.int .i64 (IntKind.i64.wrap (((j : Nat) : Int) + 1))) ([⟨g, 9, (List.map Card.row out), none⟩, ⟨0, 2, [(Key.row x)], none⟩] : Heap) (AV.int .i64 ((j + 1 : Nat) : Int))) ∧ LoopTo (codeQ Try.prog (X rans_ann) (loopOf Try.f95 1)) (some [0, 1, 5, 6, 7, 8, 9, 12, 13, 14]) (some [0, 1, 5, 6, 7, 8, 9, 12, 13, 14]) (mkF 49 [(0, (AV.sl .any 9 (List.map Card.row l))), (1, (AV.sl .any 2 (List.map Key.row keys))), (5, (AV.osl 0 g 9 0 k)), (6, (AV.int .i64 ((i : Nat) : Int))), (7, (AV.obj 1 0 0 0)), (8, (AV.bool (!(Key.eqb (nth keys j) x)))), (9, (AV.int .i64 ((j + 1 : Nat) : Int))), (12, (AV.sl .any 2 (List.map Key.row keys))), (13, (AV.int .i64 ((keys.length : Nat) : Int))), (14, (AV.int .i64 ((i : Nat) : Int)))]) ([⟨g, 9, (List.map Card.row out), none⟩, ⟨0, 2, [(Key.row x)], none⟩] : Heap) eX FX HX) ((Yes (.int .i64 (IntKind.i64.wrap (((j : Nat) : Int) + 1))) ([⟨g, 9, (List.map Card.row out), none⟩, ⟨0, 2, [(Key.row x)], none⟩] : Heap) (AV.int .i64 ((j + 1 : Nat) : Int))) ∧ LoopTo (codeQ Try.prog (X rans_ann) (loopOf Try.f95 1)) (some [0, 1, 5, 6, 7, 8, 9, 12, 13, 14]) (some [0, 1, 5, 6, 7, 8, 9, 12, 13, 14]) (mkF 49 [(0, (AV.sl .any 9 (List.map Card.row l))), (1, (AV.sl .any 2 (List.map Key.row keys))), (5, (AV.osl 0 g 9 0 k)), (6, (AV.int .i64 ((i : Nat) : Int))), (7, (AV.obj 1 0 0 0)), (8, (AV.bool false)), (9, (AV.int .i64 ((j + 1 : Nat) : Int))), (12, (AV.sl .any 2 (List.map Key.row keys))), (13, (AV.int .i64 ((keys.length : Nat) : Int))), (14, (AV.int .i64 ((i : Nat) : Int)))]) ([⟨g, 9, (List.map Card.row out), none⟩, ⟨0, 2, [(Key.row x)], none⟩] : Heap) eX FX HX)) (((.exit 2 : Ex), (mkF 49 [(0, (AV.sl .any 9 (List.map Card.row l))), (1, (AV.sl .any 2 (List.map Key.row keys))), (5, (AV.osl 0 g 9 0 k)), (6, (AV.int .i64 ((i : Nat) : Int))), (7, (AV.obj 1 0 0 0)), (8, (AV.bool on)), (9, (AV.int .i64 ((j : Nat) : Int))), (12, (AV.sl .any 2 (List.map Key.row keys))), (13, (AV.int .i64 ((keys.length : Nat) : Int))), (14, (AV.int .i64 ((i : Nat) : Int)))]), ([⟨g, 9, (List.map Card.row out), none⟩, ⟨0, 2, [(Key.row x)], none⟩] : Heap)) = (eX, FX, HX))) = _) ?_
  refine cond_split (fun h1 => ?_) (fun h1 => ?_)
  · have h1' := h1
    try simp at h1'
    refine cond_split (fun h2 => ?_) (fun h2 => ?_)
    · have h2' := h2
      try simp at h2'
      refine And.intro (IdxSl.mk _ (by omega) (by omega)) ?_
      refine And.intro (Yes.add (by omega) (by omega) (by omega)) ?_
      exact k1 h1 h2
    · have h2' := h2
      try simp at h2'
      refine And.intro (Yes.add (by omega) (by omega) (by omega)) ?_
      exact k2 h1 h2
  · have h1' := h1
    try simp at h1'
    exact k3 h1
def rans7_f (l : List Card) (keys : List Key) (out : List Card) (k : Nat) (g : Nat) (i : Nat) (x : Key) (j : Nat) (s : Bool) : Bool := (if s = true then ((!(Key.eqb (nth keys j) x))) else (false))
theorem rans7_loop (l : List Card) (keys : List Key) (out : List Card) (k : Nat) (g : Nat) (i : Nat) (x : Key) (hks : keys.length < 1048576) (hi : i < keys.length)  (r_ : Nat) : ∀ (on : Bool) (j : Nat) (sF : Bool), j + r_ = i → sF = iter (rans7_f l keys out k g i x) r_ j (on) →
    LoopTo (codeQ Try.prog (X rans_ann) (loopOf Try.f95 1)) (some [0, 1, 5, 6, 7, 8, 9, 12, 13, 14]) (some [0, 1, 5, 6, 7, 8, 9, 12, 13, 14]) (mkF 49 [(0, (AV.sl .any 9 (List.map Card.row l))), (1, (AV.sl .any 2 (List.map Key.row keys))), (5, (AV.osl 0 g 9 0 k)), (6, (AV.int .i64 ((i : Nat) : Int))), (7, (AV.obj 1 0 0 0)), (8, (AV.bool on)), (9, (AV.int .i64 ((j : Nat) : Int))), (12, (AV.sl .any 2 (List.map Key.row keys))), (13, (AV.int .i64 ((keys.length : Nat) : Int))), (14, (AV.int .i64 ((i : Nat) : Int)))]) ([⟨g, 9, (List.map Card.row out), none⟩, ⟨0, 2, [(Key.row x)], none⟩] : Heap) (.exit 2) (mkF 49 [(0, (AV.sl .any 9 (List.map Card.row l))), (1, (AV.sl .any 2 (List.map Key.row keys))), (5, (AV.osl 0 g 9 0 k)), (6, (AV.int .i64 ((i : Nat) : Int))), (7, (AV.obj 1 0 0 0)), (8, (AV.bool sF)), (9, (AV.int .i64 ((i : Nat) : Int))), (12, (AV.sl .any 2 (List.map Key.row keys))), (13, (AV.int .i64 ((keys.length : Nat) : Int))), (14, (AV.int .i64 ((i : Nat) : Int)))]) ([⟨g, 9, (List.map Card.row out), none⟩, ⟨0, 2, [(Key.row x)], none⟩] : Heap) := by
  induction r_ with
  | zero =>
    intro on j sF hi_   hF
    obtain rfl : i = j := by omega
    have e_ : sF = (on) := hF
    refine rans7_step l keys out k g i x on i hks hi (Nat.le_refl _) (fun h _ => by simp at h <;> omega) (fun h _ => by simp at h <;> omega) (fun _ => ?_)
    first | done | rfl | (rw [e_]; done) | (rw [e_]; rfl)
  | succ r_ ih =>
    intro on j sF hi_   hF
    refine rans7_step l keys out k g i x on j hks hi (by omega) (fun h1 h2 => ?_) (fun h1 h2 => ?_) (fun h => by simp at h <;> omega)
    · exact ih (!(Key.eqb (nth keys j) x)) (j + 1) sF (by omega)   (by rw [hF] <;> simp only [iter, rans7_f, h2, if_true, Bool.false_eq_true, if_false])
    · exact ih false (j + 1) sF (by omega)   (by rw [hF] <;> simp only [iter, rans7_f, h2, if_true, Bool.false_eq_true, if_false])
theorem hasK_any (l : List Key) (v : Key) : hasK l v = l.any (Key.eqb v) := by
  unfold hasK ixI
  cases h : ixOf (Key.eqb v) l 0 with
  | none =>
    have : l.any (Key.eqb v) = false := List.any_eq_false.2 fun x hx => by
      obtain ⟨j, hj, rfl⟩ := mem_nth hx
      rw [ixOf_none l 0 h j hj]; simp
    rw [this]; rfl
  | some n =>
    obtain ⟨_, h2, h3, _⟩ := ixOf_some l 0 n h
    have : l.any (Key.eqb v) = true := List.any_eq_true.2 ⟨nth l n, nth_mem (by omega), by simpa using h3⟩
    rw [this]; simp
theorem foldl_on (x : Key) (l : List Key) : ∀ (s : Bool), l.foldl (fun s y => if s = true then !(Key.eqb y x) else false) s = (s && !(l.any (Key.eqb x))) := by
  induction l with
  | nil => intro s; simp
  | cons y l ih =>
    intro s
    rw [List.foldl_cons, ih]
    have hc : Key.eqb y x = Key.eqb x y := by
      cases h : Key.eqb x y with
      | true => rw [(Key.eqb_iff _ _).1 h]; exact Key.eqb_refl y
      | false => rw [Key.eqb_false] at h ⊢; exact fun e => h e.symm
    rw [hc]
    cases s <;> simp
theorem rans7_iter (l : List Card) (keys : List Key) (out : List Card) (k g i : Nat) (x : Key) (hi : i < keys.length) : (!(hasK (keys.take i) x)) = iter (rans7_f l keys out k g i x) i 0 true := by
  have hl : (keys.take i).length = i := by rw [List.length_take]; omega
  have := iter_all (rans7_f l keys out k g i x) (fun s y => if s = true then !(Key.eqb y x) else false) (keys.take i) (fun j s hj => ?_) true
  · rw [hl] at this; rw [this, foldl_on, hasK_any]; simp
  · rw [hl] at hj
    rw [nth_take hj]; simp only [rans7_f]
set_option maxRecDepth 100000 in
theorem rans_step (keys : List Key) (l : List Card) (out : List Card) (k : Nat) (g : Nat) (i : Nat) (hl : l.length < 1048576) (hks : keys.length < 1048576) (hk : k = out.length) (hki : k ≤ i) (hle_ : i ≤ keys.length) {eX : Ex} {FX : Fr} {HX : Heap} (k1 : (decide (((i : Nat) : Int) < ((keys.length : Nat) : Int))) = true → (rinC l (nth keys i)) = true → (!(hasK (keys.take i) (nth keys i))) = true → LoopTo (codeQ Try.prog (X rans_ann) (loopOf Try.f95 0)) (some [0, 1, 5, 12, 13, 14]) (some [0, 1, 5, 12, 13, 14]) (mkF 49 [(0, (AV.sl .any 9 (List.map Card.row l))), (1, (AV.sl .any 2 (List.map Key.row keys))), (5, (AV.osl 0 (g + 1) 9 0 (k + 1))), (12, (AV.sl .any 2 (List.map Key.row keys))), (13, (AV.int .i64 ((keys.length : Nat) : Int))), (14, (AV.int .i64 ((i + 1 : Nat) : Int)))]) ([⟨(g + 1), 9, (List.map Card.row (out ++ [(rfC l (nth keys i))])), none⟩] : Heap) eX FX HX) (k2 : (decide (((i : Nat) : Int) < ((keys.length : Nat) : Int))) = true → (rinC l (nth keys i)) = true → (!(hasK (keys.take i) (nth keys i))) = false → LoopTo (codeQ Try.prog (X rans_ann) (loopOf Try.f95 0)) (some [0, 1, 5, 12, 13, 14]) (some [0, 1, 5, 12, 13, 14]) (mkF 49 [(0, (AV.sl .any 9 (List.map Card.row l))), (1, (AV.sl .any 2 (List.map Key.row keys))), (5, (AV.osl 0 g 9 0 k)), (12, (AV.sl .any 2 (List.map Key.row keys))), (13, (AV.int .i64 ((keys.length : Nat) : Int))), (14, (AV.int .i64 ((i + 1 : Nat) : Int)))]) ([⟨g, 9, (List.map Card.row out), none⟩] : Heap) eX FX HX) (k3 : (decide (((i : Nat) : Int) < ((keys.length : Nat) : Int))) = true → (rinC l (nth keys i)) = false → LoopTo (codeQ Try.prog (X rans_ann) (loopOf Try.f95 0)) (some [0, 1, 5, 12, 13, 14]) (some [0, 1, 5, 12, 13, 14]) (mkF 49 [(0, (AV.sl .any 9 (List.map Card.row l))), (1, (AV.sl .any 2 (List.map Key.row keys))), (5, (AV.osl 0 g 9 0 k)), (12, (AV.sl .any 2 (List.map Key.row keys))), (13, (AV.int .i64 ((keys.length : Nat) : Int))), (14, (AV.int .i64 ((i + 1 : Nat) : Int)))]) ([⟨g, 9, (List.map Card.row out), none⟩] : Heap) eX FX HX) (k4 : (decide (((i : Nat) : Int) < ((keys.length : Nat) : Int))) = false → ((.exit 0 : Ex), (mkF 49 [(0, (AV.sl .any 9 (List.map Card.row l))), (1, (AV.sl .any 2 (List.map Key.row keys))), (5, (AV.osl 0 g 9 0 k)), (12, (AV.sl .any 2 (List.map Key.row keys))), (13, (AV.int .i64 ((keys.length : Nat) : Int))), (14, (AV.int .i64 ((i : Nat) : Int)))]), ([⟨g, 9, (List.map Card.row out), none⟩] : Heap)) = (eX, FX, HX)) : LoopTo (codeQ Try.prog (X rans_ann) (loopOf Try.f95 0)) (some [0, 1, 5, 12, 13, 14]) (some [0, 1, 5, 12, 13, 14]) (mkF 49 [(0, (AV.sl .any 9 (List.map Card.row l))), (1, (AV.sl .any 2 (List.map Key.row keys))), (5, (AV.osl 0 g 9 0 k)), (12, (AV.sl .any 2 (List.map Key.row keys))), (13, (AV.int .i64 ((keys.length : Nat) : Int))), (14, (AV.int .i64 ((i : Nat) : Int)))]) ([⟨g, 9, (List.map Card.row out), none⟩] : Heap) eX FX HX := by
  refine LoopTo.step (.reg [] [] [] (.two (.reg [(1, ((AV.ref (Key.row (nth keys i)) 0), ([⟨g, 9, (List.map Card.row out), none⟩, ⟨0, 2, [[(AV.str (ByteArray.mk #[])), (AV.str (ByteArray.mk #[]))]], none⟩] : Heap)))] [] [] (.reg [] [] [] (.reg [] [] [] (.loop (.exit 2) (mkF 49 [(0, (AV.sl .any 9 (List.map Card.row l))), (1, (AV.sl .any 2 (List.map Key.row keys))), (5, (AV.osl 0 g 9 0 k)), (6, (AV.int .i64 ((i : Nat) : Int))), (7, (AV.obj 1 0 0 0)), (8, (AV.bool (!(hasK (keys.take i) (nth keys i))))), (9, (AV.int .i64 ((i : Nat) : Int))), (12, (AV.sl .any 2 (List.map Key.row keys))), (13, (AV.int .i64 ((keys.length : Nat) : Int))), (14, (AV.int .i64 ((i : Nat) : Int)))]) ([⟨g, 9, (List.map Card.row out), none⟩, ⟨0, 2, [(Key.row (nth keys i))], none⟩] : Heap) (.reg [(2, ((AV.tup [(AV.agg (Card.row (rfC l (nth keys i)))), (AV.bool (rinC l (nth keys i)))]), ([⟨g, 9, (List.map Card.row out), none⟩, ⟨0, 2, [(Key.row (nth keys i))], none⟩, ⟨0, 9, [[(AV.str (ByteArray.mk #[])), (AV.str (ByteArray.mk #[])), (AV.int .i64 0), (AV.int .i64 0), (AV.int .i64 0), (AV.int .i64 0), (AV.int .i64 0), (AV.int .i64 0), (AV.bool false)]], none⟩] : Heap)))] [] [] (.reg [] [] [] (.two (.two (.reg [(3, ((AV.osl 0 (g + 1) 9 0 (k + 1)), ([⟨(g + 1), 9, (List.map Card.row (out ++ [(rfC l (nth keys i))])), none⟩, ⟨0, 2, [(Key.row (nth keys i))], none⟩, ⟨0, 9, [(Card.row (rfC l (nth keys i)))], none⟩] : Heap)))] [] [] (.reg [(0, ((AV.int .i64 ((i + 1 : Nat) : Int)), ([⟨(g + 1), 9, (List.map Card.row (out ++ [(rfC l (nth keys i))])), none⟩, ⟨0, 2, [(Key.row (nth keys i))], none⟩, ⟨0, 9, [(Card.row (rfC l (nth keys i)))], none⟩] : Heap)))] [] [] .nil)) (.reg [(0, ((AV.int .i64 ((i + 1 : Nat) : Int)), ([⟨g, 9, (List.map Card.row out), none⟩, ⟨0, 2, [(Key.row (nth keys i))], none⟩, ⟨0, 9, [(Card.row (rfC l (nth keys i)))], none⟩] : Heap)))] [] [] .nil)) (.two .nil (.reg [(0, ((AV.int .i64 ((i + 1 : Nat) : Int)), ([⟨g, 9, (List.map Card.row out), none⟩, ⟨0, 2, [(Key.row (nth keys i))], none⟩, ⟨0, 9, [(Card.row (rfC l (nth keys i)))], none⟩] : Heap)))] [] [] .nil))))))))) .nil)) ?_
  refine Eq.mp (by kernel_rfl : (cond (decide (((i : Nat) : Int) < ((keys.length : Nat) : Int))) ((IdxSl 2 2 (List.map Key.row keys) ((i : Nat) : Int) ([⟨g, 9, (List.map Card.row out), none⟩, ⟨0, 2, [[(AV.str (ByteArray.mk #[])), (AV.str (ByteArray.mk #[]))]], none⟩] : Heap) (Key.row (nth keys i))) ∧ (LoopTo (codeQ Try.prog (X rans_ann) (loopOf Try.f95 1)) (some [0, 1, 5, 6, 7, 8, 9, 12, 13, 14]) (some [0, 1, 5, 6, 7, 8, 9, 12, 13, 14]) (mkF 49 [(0, (AV.sl .any 9 (List.map Card.row l))), (1, (AV.sl .any 2 (List.map Key.row keys))), (5, (AV.osl 0 g 9 0 k)), (6, (AV.int .i64 ((i : Nat) : Int))), (7, (AV.obj 1 0 0 0)), (8, (AV.bool true)), (9, (AV.int .i64 0)), (12, (AV.sl .any 2 (List.map Key.row keys))), (13, (AV.int .i64 ((keys.length : Nat) : Int))), (14, (AV.int .i64 ((i : Nat) : Int)))]) ([⟨g, 9, (List.map Card.row out), none⟩, ⟨0, 2, [(Key.row (nth keys i))], none⟩] : Heap) (.exit 2) (mkF 49 [(0, (AV.sl .any 9 (List.map Card.row l))), (1, (AV.sl .any 2 (List.map Key.row keys))), (5, (AV.osl 0 g 9 0 k)), (6, (AV.int .i64 ((i : Nat) : Int))), (7, (AV.obj 1 0 0 0)), (8, (AV.bool (!(hasK (keys.take i) (nth keys i))))), (9, (AV.int .i64 ((i : Nat) : Int))), (12, (AV.sl .any 2 (List.map Key.row keys))), (13, (AV.int .i64 ((keys.length : Nat) : Int))), (14, (AV.int .i64 ((i : Nat) : Int)))]) ([⟨g, 9, (List.map Card.row out), none⟩, ⟨0, 2, [(Key.row (nth keys i))], none⟩] : Heap)) ∧ (ACalls Try.prog 125 [(AV.sl .any 9 (List.map Card.row l)), (AV.agg (Key.row (nth keys i)))] ([⟨g, 9, (List.map Card.row out), none⟩, ⟨0, 2, [(Key.row (nth keys i))], none⟩, ⟨0, 9, [[(AV.str (ByteArray.mk #[])), (AV.str (ByteArray.mk #[])), (AV.int .i64 0), (AV.int .i64 0), (AV.int .i64 0), (AV.int .i64 0), (AV.int .i64 0), (AV.int .i64 0), (AV.bool false)]], none⟩] : Heap) ((AV.tup [(AV.agg (Card.row (rfC l (nth keys i)))), (AV.bool (rinC l (nth keys i)))]), ([⟨g, 9, (List.map Card.row out), none⟩, ⟨0, 2, [(Key.row (nth keys i))], none⟩, ⟨0, 9, [[(AV.str (ByteArray.mk #[])), (AV.str (ByteArray.mk #[])), (AV.int .i64 0), (AV.int .i64 0), (AV.int .i64 0), (AV.int .i64 0), (AV.int .i64 0), (AV.int .i64 0), (AV.bool false)]], none⟩] : Heap))) ∧ cond (rinC l (nth keys i)) (cond (!(hasK (keys.take i) (nth keys i))) ((evAppend tt ([⟨g, 9, (List.map Card.row out), none⟩, ⟨0, 2, [(Key.row (nth keys i))], none⟩, ⟨0, 9, [(Card.row (rfC l (nth keys i)))], none⟩] : Heap) 48 (AV.osl 0 g 9 0 k) (AV.sl .clip 9 [(Card.row (rfC l (nth keys i)))]) = some ((AV.osl 0 (g + 1) 9 0 (k + 1)), ([⟨(g + 1), 9, (List.map Card.row (out ++ [(rfC l (nth keys i))])), none⟩, ⟨0, 2, [(Key.row (nth keys i))], none⟩, ⟨0, 9, [(Card.row (rfC l (nth keys i)))], none⟩] : Heap))) ∧ (Yes (.int .i64 (IntKind.i64.wrap (((i : Nat) : Int) + 1))) ([⟨(g + 1), 9, (List.map Card.row (out ++ [(rfC l (nth keys i))])), none⟩, ⟨0, 2, [(Key.row (nth keys i))], none⟩, ⟨0, 9, [(Card.row (rfC l (nth keys i)))], none⟩] : Heap) (AV.int .i64 ((i + 1 : Nat) : Int))) ∧ (obsB 1 ([⟨(g + 1), 9, (List.map Card.row (out ++ [(rfC l (nth keys i))])), none⟩] : Heap) = true) ∧ LoopTo (codeQ Try.prog (X rans_ann) (loopOf Try.f95 0)) (some [0, 1, 5, 12, 13, 14]) (some [0, 1, 5, 12, 13, 14]) (mkF 49 [(0, (AV.sl .any 9 (List.map Card.row l))), (1, (AV.sl .any 2 (List.map Key.row keys))), (5, (AV.osl 0 (g + 1) 9 0 (k + 1))), (12, (AV.sl .any 2 (List.map Key.row keys))), (13, (AV.int .i64 ((keys.length : Nat) : Int))), (14, (AV.int .i64 ((i + 1 : Nat) : Int)))]) ([⟨(g + 1), 9, (List.map Card.row (out ++ [(rfC l (nth keys i))])), none⟩] : Heap) eX FX HX) ((Yes (.int .i64 (IntKind.i64.wrap (((i : Nat) : Int) + 1))) ([⟨g, 9, (List.map Card.row out), none⟩, ⟨0, 2, [(Key.row (nth keys i))], none⟩, ⟨0, 9, [(Card.row (rfC l (nth keys i)))], none⟩] : Heap) (AV.int .i64 ((i + 1 : Nat) : Int))) ∧ (obsB 1 ([⟨g, 9, (List.map Card.row out), none⟩] : Heap) = true) ∧ LoopTo (codeQ Try.prog (X rans_ann) (loopOf Try.f95 0)) (some [0, 1, 5, 12, 13, 14]) (some [0, 1, 5, 12, 13, 14]) (mkF 49 [(0, (AV.sl .any 9 (List.map Card.row l))), (1, (AV.sl .any 2 (List.map Key.row keys))), (5, (AV.osl 0 g 9 0 k)), (12, (AV.sl .any 2 (List.map Key.row keys))), (13, (AV.int .i64 ((keys.length : Nat) : Int))), (14, (AV.int .i64 ((i + 1 : Nat) : Int)))]) ([⟨g, 9, (List.map Card.row out), none⟩] : Heap) eX FX HX)) ((Yes (.int .i64 (IntKind.i64.wrap (((i : Nat) : Int) + 1))) ([⟨g, 9, (List.map Card.row out), none⟩, ⟨0, 2, [(Key.row (nth keys i))], none⟩, ⟨0, 9, [(Card.row (rfC l (nth keys i)))], none⟩] : Heap) (AV.int .i64 ((i + 1 : Nat) : Int))) ∧ (obsB 1 ([⟨g, 9, (List.map Card.row out), none⟩] : Heap) = true) ∧ LoopTo (codeQ Try.prog (X rans_ann) (loopOf Try.f95 0)) (some [0, 1, 5, 12, 13, 14]) (some [0, 1, 5, 12, 13, 14]) (mkF 49 [(0, (AV.sl .any 9 (List.map Card.row l))), (1, (AV.sl .any 2 (List.map Key.row keys))), (5, (AV.osl 0 g 9 0 k)), (12, (AV.sl .any 2 (List.map Key.row keys))), (13, (AV.int .i64 ((keys.length : Nat) : Int))), (14, (AV.int .i64 ((i + 1 : Nat) : Int)))]) ([⟨g, 9, (List.map Card.row out), none⟩] : Heap) eX FX HX)) (((.exit 0 : Ex), (mkF 49 [(0, (AV.sl .any 9 (List.map Card.row l))), (1, (AV.sl .any 2 (List.map Key.row keys))), (5, (AV.osl 0 g 9 0 k)), (12, (AV.sl .any 2 (List.map Key.row keys))), (13, (AV.int .i64 ((keys.length : Nat) : Int))), (14, (AV.int .i64 ((i : Nat) : Int)))]), ([⟨g, 9, (List.map Card.row out), none⟩] : Heap)) = (eX, FX, HX))) = _) ?_
  refine cond_split (fun h1 => ?_) (fun h1 => ?_)
  · have h1' := h1
    try simp at h1'
    refine And.intro (IdxSl.mk _ (by omega) (by omega)) ?_
    refine And.intro ((rans7_loop l keys out k g i (nth keys i) hks (by simp_all) i true 0 (!(hasK (List.take i keys) (nth keys i))) (by omega) (rans7_iter _ _ _ _ _ _ _ (by simp_all)))) ?_
    refine And.intro (rfind_at l (nth keys i) (by first | omega | assumption | (simp; done) | (simp; omega) | (simp_all; done) | (simp_all; omega)) ([⟨g, 9, (List.map Card.row out), none⟩, ⟨0, 2, [(Key.row (nth keys i))], none⟩, ⟨0, 9, [[(AV.str (ByteArray.mk #[])), (AV.str (ByteArray.mk #[])), (AV.int .i64 0), (AV.int .i64 0), (AV.int .i64 0), (AV.int .i64 0), (AV.int .i64 0), (AV.int .i64 0), (AV.bool false)]], none⟩] : Heap)) ?_
    refine cond_split (fun h2 => ?_) (fun h2 => ?_)
    · have h2' := h2
      try simp at h2'
      refine cond_split (fun h3 => ?_) (fun h3 => ?_)
      · have h3' := h3
        try simp at h3'
        refine And.intro (evAppend_one (row := Card.row) (l := out) (x := (rfC l (nth keys i))) (T := tt) (e := 34) (te := { d := .struct [(30, 0), (3, 2), (3, 3), (2, 4), (32, 5), (4, 8)], size := 9, bytes := 88, zero := [.str ⟨#[]⟩, .str ⟨#[]⟩, .int .i64 0, .int .i64 0, .int .i64 0, .int .i64 0, .int .i64 0, .int .i64 0, .bool false] }) (z := 1) (b := 24) (y := [.sl .nil 0 []]) (by kernel_rfl) (by kernel_rfl) rfl (by decide) (by decide) (by kernel_rfl) (by first | assumption | omega | (simp; done) | (simp; omega)) rfl rfl (by first | omega | (show _ * 88 ≤ _; omega) | (simp; omega))) ?_
        refine And.intro (Yes.add (by omega) (by omega) (by omega)) ?_
        refine And.intro (by first | (simp [obsB, AV.bddss, AV.bdds, AV.bdd]; done) | (simp [obsB, AV.bddss, AV.bdds, AV.bdd, -List.map_append]; done) | simp [obsB, AV.bddss, AV.bdds, AV.bdd, -List.map_append, -List.map_set, -List.map_take, -List.map_drop, -List.map_cons, -List.map_map]) ?_
        exact k1 h1 h2 h3
      · have h3' := h3
        try simp at h3'
        refine And.intro (Yes.add (by omega) (by omega) (by omega)) ?_
        refine And.intro (by first | (simp [obsB, AV.bddss, AV.bdds, AV.bdd]; done) | (simp [obsB, AV.bddss, AV.bdds, AV.bdd, -List.map_append]; done) | simp [obsB, AV.bddss, AV.bdds, AV.bdd, -List.map_append, -List.map_set, -List.map_take, -List.map_drop, -List.map_cons, -List.map_map]) ?_
        exact k2 h1 h2 h3
    · have h2' := h2
      try simp at h2'
      refine And.intro (Yes.add (by omega) (by omega) (by omega)) ?_
      refine And.intro (by first | (simp [obsB, AV.bddss, AV.bdds, AV.bdd]; done) | (simp [obsB, AV.bddss, AV.bdds, AV.bdd, -List.map_append]; done) | simp [obsB, AV.bddss, AV.bdds, AV.bdd, -List.map_append, -List.map_set, -List.map_take, -List.map_drop, -List.map_cons, -List.map_map]) ?_
      exact k3 h1 h2
  · have h1' := h1
    try simp at h1'
    exact k4 h1
def rans_f (keys : List Key) (l : List Card) (i : Nat) (s : (List Card) × Nat × Nat) : (List Card) × Nat × Nat := (if (rinC l (nth keys i)) = true then (if (!(hasK (keys.take i) (nth keys i))) = true then (s.1 ++ [(rfC l (nth keys i))], (s.2.1 + 1), (s.2.2 + 1)) else (s.1, s.2.1, s.2.2)) else (s.1, s.2.1, s.2.2))
theorem rans_loop (keys : List Key) (l : List Card) (hl : l.length < 1048576) (hks : keys.length < 1048576)  (r_ : Nat) : ∀ (out : List Card) (k : Nat) (g : Nat) (i : Nat) (sF : (List Card) × Nat × Nat), i + r_ = keys.length → k = out.length → k ≤ i → sF = iter (rans_f keys l) r_ i (out, k, g) →
    LoopTo (codeQ Try.prog (X rans_ann) (loopOf Try.f95 0)) (some [0, 1, 5, 12, 13, 14]) (some [0, 1, 5, 12, 13, 14]) (mkF 49 [(0, (AV.sl .any 9 (List.map Card.row l))), (1, (AV.sl .any 2 (List.map Key.row keys))), (5, (AV.osl 0 g 9 0 k)), (12, (AV.sl .any 2 (List.map Key.row keys))), (13, (AV.int .i64 ((keys.length : Nat) : Int))), (14, (AV.int .i64 ((i : Nat) : Int)))]) ([⟨g, 9, (List.map Card.row out), none⟩] : Heap) (.exit 0) (mkF 49 [(0, (AV.sl .any 9 (List.map Card.row l))), (1, (AV.sl .any 2 (List.map Key.row keys))), (5, (AV.osl 0 sF.2.2 9 0 sF.2.1)), (12, (AV.sl .any 2 (List.map Key.row keys))), (13, (AV.int .i64 ((keys.length : Nat) : Int))), (14, (AV.int .i64 ((keys.length : Nat) : Int)))]) ([⟨sF.2.2, 9, (List.map Card.row sF.1), none⟩] : Heap) := by
  induction r_ with
  | zero =>
    intro out k g i sF hi_ hk hki  hF
    obtain rfl : keys.length = i := by omega
    have e_ : sF = (out, k, g) := hF
    refine rans_step keys l out k g keys.length hl hks hk hki (Nat.le_refl _) (fun h _ _ => by simp at h <;> omega) (fun h _ _ => by simp at h <;> omega) (fun h _ => by simp at h <;> omega) (fun _ => ?_)
    first | done | rfl | (rw [e_]; done) | (rw [e_]; rfl)
  | succ r_ ih =>
    intro out k g i sF hi_ hk hki  hF
    refine rans_step keys l out k g i hl hks hk hki (by omega) (fun h1 h2 h3 => ?_) (fun h1 h2 h3 => ?_) (fun h1 h2 => ?_) (fun h => by simp at h <;> omega)
    · exact ih (out ++ [(rfC l (nth keys i))]) (k + 1) (g + 1) (i + 1) sF (by omega) (by first | omega | assumption | (simp; done) | (simp; omega) | (simp [*]; done) | (simp [*]; omega)) (by first | omega | assumption | (simp; done) | (simp; omega) | (simp [*]; done) | (simp [*]; omega))  (by rw [hF] <;> simp only [iter, rans_f, h2, h3, if_true, Bool.false_eq_true, if_false])
    · exact ih out k g (i + 1) sF (by omega) (by first | omega | assumption | (simp; done) | (simp; omega) | (simp [*]; done) | (simp [*]; omega)) (by first | omega | assumption | (simp; done) | (simp; omega) | (simp [*]; done) | (simp [*]; omega))  (by rw [hF] <;> simp only [iter, rans_f, h2, h3, if_true, Bool.false_eq_true, if_false])
    · exact ih out k g (i + 1) sF (by omega) (by first | omega | assumption | (simp; done) | (simp; omega) | (simp [*]; done) | (simp [*]; omega)) (by first | omega | assumption | (simp; done) | (simp; omega) | (simp [*]; done) | (simp [*]; omega))  (by rw [hF] <;> simp only [iter, rans_f, h2, if_true, Bool.false_eq_true, if_false])
theorem rans_iter (keys : List Key) (l : List Card) : (ansK (lastK l) [] keys, (ansK (lastK l) [] keys).length, (ansK (lastK l) [] keys).length) = iter (rans_f keys l) keys.length 0 ([], 0, 0) := by
  have : rans_f keys l = answer_f keys (lastK l) := by
    funext i s
    simp only [rans_f, answer_f, inC_last, findC_last]
  rw [this]; exact answer_iter _ _
set_option maxRecDepth 100000 in
theorem rans_spec (mine : List Card) (keys : List Key) (hm : mine.length < 1000) (hks : keys.length < 1048576) : ACalls Try.prog 95 [(AV.sl .any 9 (List.map Card.row mine)), (AV.sl .any 2 (List.map Key.row keys))] ([] : Heap) ((AV.sl .any 9 (List.map Card.row (answerK mine keys))), ([] : Heap)) := by
  have h2 := ansK_len (lastK mine) keys []
  refine spec (fn := Try.f95) (ann := rans_ann) (t := (.reg [] [] [] (.reg [] [] [] (.reg [(1, ((AV.int .i64 ((keys.length : Nat) : Int)), ([⟨0, 9, (List.map Card.row []), none⟩] : Heap)))] [] [] (.loop (.exit 0) (mkF 49 [(0, (AV.sl .any 9 (List.map Card.row mine))), (1, (AV.sl .any 2 (List.map Key.row keys))), (5, (AV.osl 0 (ansK (lastK mine) [] keys).length 9 0 (ansK (lastK mine) [] keys).length)), (12, (AV.sl .any 2 (List.map Key.row keys))), (13, (AV.int .i64 ((keys.length : Nat) : Int))), (14, (AV.int .i64 ((keys.length : Nat) : Int)))]) ([⟨(ansK (lastK mine) [] keys).length, 9, (List.map Card.row (ansK (lastK mine) [] keys)), none⟩] : Heap) (.reg [] [(5, (List.map Card.row (ansK (lastK mine) [] keys)))] [] .nil)))))) (Nat.le_of_ble_eq_true (by kernel_rfl)) ⟨Try.func95, by kernel_rfl, by kernel_rfl, by kernel_rfl⟩ ?_
  refine Eq.mp (by kernel_rfl : ((Yes (.int .i64 ((List.length (List.map Key.row keys) : Nat) : Int)) ([⟨0, 9, (List.map Card.row []), none⟩] : Heap) (AV.int .i64 ((keys.length : Nat) : Int))) ∧ (LoopTo (codeQ Try.prog (X rans_ann) (loopOf Try.f95 0)) (some [0, 1, 5, 12, 13, 14]) (some [0, 1, 5, 12, 13, 14]) (mkF 49 [(0, (AV.sl .any 9 (List.map Card.row mine))), (1, (AV.sl .any 2 (List.map Key.row keys))), (5, (AV.osl 0 0 9 0 0)), (12, (AV.sl .any 2 (List.map Key.row keys))), (13, (AV.int .i64 ((keys.length : Nat) : Int))), (14, (AV.int .i64 0))]) ([⟨0, 9, (List.map Card.row []), none⟩] : Heap) (.exit 0) (mkF 49 [(0, (AV.sl .any 9 (List.map Card.row mine))), (1, (AV.sl .any 2 (List.map Key.row keys))), (5, (AV.osl 0 (ansK (lastK mine) [] keys).length 9 0 (ansK (lastK mine) [] keys).length)), (12, (AV.sl .any 2 (List.map Key.row keys))), (13, (AV.int .i64 ((keys.length : Nat) : Int))), (14, (AV.int .i64 ((keys.length : Nat) : Int)))]) ([⟨(ansK (lastK mine) [] keys).length, 9, (List.map Card.row (ansK (lastK mine) [] keys)), none⟩] : Heap)) ∧ (rowsIn ([⟨(ansK (lastK mine) [] keys).length, 9, (List.map Card.row (ansK (lastK mine) [] keys)), none⟩] : Heap) 9 (AV.osl 0 (ansK (lastK mine) [] keys).length 9 0 (ansK (lastK mine) [] keys).length) = some (List.map Card.row (ansK (lastK mine) [] keys)) ∧ AV.bddss 0 (List.map Card.row (ansK (lastK mine) [] keys)) = true) ∧ (AV.bdd 0 (AV.sl .any 9 (List.map Card.row (ansK (lastK mine) [] keys))) = true ∧ obsB 0 ([] : Heap) = true) ∧ ((AV.sl .any 9 (List.map Card.row (ansK (lastK mine) [] keys))), ([] : Heap)) = ((AV.sl .any 9 (List.map Card.row (answerK mine keys))), ([] : Heap))) = _) ?_
  refine And.intro (Yes.len _ _ _) ?_
  refine And.intro ((rans_loop keys mine (by omega) (by omega) (List.length keys) [] 0 0 0 (ansK (lastK mine) [] keys, (ansK (lastK mine) [] keys).length, (ansK (lastK mine) [] keys).length) (by omega) rfl (by omega) (rans_iter _ _))) ?_
  refine And.intro (And.intro (rowsIn_all (room := none) (by kernel_rfl) (by first | omega | (simp; done) | (simp; omega))) (Card.rows_bdd _ _)) ?_
  refine And.intro (by first | (simp [obsB, AV.bddss, AV.bdds, AV.bdd]; done) | (simp [obsB, AV.bddss, AV.bdds, AV.bdd, -List.map_append]; done) | simp [obsB, AV.bddss, AV.bdds, AV.bdd, -List.map_append, -List.map_set, -List.map_take, -List.map_drop, -List.map_cons, -List.map_map]) ?_
  with_unfolding_all rfl
theorem rans_at (mine : List Card) (keys : List Key) (hm : mine.length < 1000) (hks : keys.length < 1048576) (H : Heap) : ACalls Try.prog 95 [(AV.sl .any 9 (List.map Card.row mine)), (AV.sl .any 2 (List.map Key.row keys))] H ((AV.sl .any 9 (List.map Card.row (answerK mine keys))), H) := (rans_spec mine keys hm hks).lift (by kernel_rfl) (by kernel_rfl) H
end Go.Proofs.Ytpkgpldgoajphaa.AM

set_option maxRecDepth 100000
set_option linter.unusedVariables false
set_option linter.unusedSimpArgs false
namespace Go.Proofs.Ytpkgpldgoajphaa.AM
open Go Go.Proofs.Ytpkgpldgoajphaa
attribute [local irreducible] ACalls funT codeT codeQ LoopTo
attribute [local irreducible] Tp.card Tp.cardT Tp.next Tp.step Tp.cards Tp.cardsT Tp.key Tp.keyT sink insSort sortK insK posK beforeK onceStep sortP lastS lastK cmpK ixI findC inC isKey cmpSt aheadB aheadK ansK digK rfO rfC rinC hasK wantK tellK answerK raB keysC
def rdig_ann : Ann := { fin := some 0 }
set_option maxRecDepth 100000 in
theorem rdig_spec (l : List Card) (hl : l.length < 1000) : ACalls Try.prog 94 [(AV.sl .any 9 (List.map Card.row l))] ([] : Heap) ((AV.agg [(AV.int .i64 4), (AV.int .i64 0), (AV.int .i64 0), (AV.int .i64 0), (AV.int .i64 0), (AV.int .i64 0), (AV.int .i64 0), (AV.str (ByteArray.mk #[])), (AV.str (ByteArray.mk #[])), (AV.bool false), (AV.int .u32 0), (AV.sl .any 9 (List.map Card.row (digK l))), (AV.sl .nil 0 [])]), ([] : Heap)) := by
  have h1 := sortK_len l
  refine spec (fn := Try.f94) (ann := rdig_ann) (t := (.reg [] [] [] (.reg [(1, ((AV.sl .any 9 (List.map Card.row (sortK l))), ([⟨0, 13, [[(AV.int .i64 0), (AV.int .i64 0), (AV.int .i64 0), (AV.int .i64 0), (AV.int .i64 0), (AV.int .i64 0), (AV.int .i64 0), (AV.str (ByteArray.mk #[])), (AV.str (ByteArray.mk #[])), (AV.bool false), (AV.int .u32 0), (AV.sl .nil 0 []), (AV.sl .nil 0 [])]], none⟩] : Heap)))] [] [] (.reg [(2, ((AV.int .i64 (((sortK l).length : Nat) : Int)), ([⟨0, 13, [[(AV.int .i64 0), (AV.int .i64 0), (AV.int .i64 0), (AV.int .i64 0), (AV.int .i64 0), (AV.int .i64 0), (AV.int .i64 0), (AV.str (ByteArray.mk #[])), (AV.str (ByteArray.mk #[])), (AV.bool false), (AV.int .u32 0), (AV.sl .nil 0 []), (AV.sl .nil 0 [])]], none⟩] : Heap))), (3, ((AV.int .i64 ((min (sortK l).length 64 : Nat) : Int)), ([⟨0, 13, [[(AV.int .i64 0), (AV.int .i64 0), (AV.int .i64 0), (AV.int .i64 0), (AV.int .i64 0), (AV.int .i64 0), (AV.int .i64 0), (AV.str (ByteArray.mk #[])), (AV.str (ByteArray.mk #[])), (AV.bool false), (AV.int .u32 0), (AV.sl .nil 0 []), (AV.sl .nil 0 [])]], none⟩] : Heap))), (4, ((AV.sl .any 9 (List.map Card.row ((sortK l).take (min (sortK l).length 64)))), ([⟨0, 13, [[(AV.int .i64 0), (AV.int .i64 0), (AV.int .i64 0), (AV.int .i64 0), (AV.int .i64 0), (AV.int .i64 0), (AV.int .i64 0), (AV.str (ByteArray.mk #[])), (AV.str (ByteArray.mk #[])), (AV.bool false), (AV.int .u32 0), (AV.sl .nil 0 []), (AV.sl .nil 0 [])]], none⟩] : Heap)))] [] [] .nil)))) (Nat.le_of_ble_eq_true (by kernel_rfl)) ⟨Try.func94, by kernel_rfl, by kernel_rfl, by kernel_rfl⟩ ?_
  refine Eq.mp (by kernel_rfl : ((ACalls Try.prog 63 [(AV.sl .any 9 (List.map Card.row l))] ([⟨0, 13, [[(AV.int .i64 0), (AV.int .i64 0), (AV.int .i64 0), (AV.int .i64 0), (AV.int .i64 0), (AV.int .i64 0), (AV.int .i64 0), (AV.str (ByteArray.mk #[])), (AV.str (ByteArray.mk #[])), (AV.bool false), (AV.int .u32 0), (AV.sl .nil 0 []), (AV.sl .nil 0 [])]], none⟩] : Heap) ((AV.sl .any 9 (List.map Card.row (sortK l))), ([⟨0, 13, [[(AV.int .i64 0), (AV.int .i64 0), (AV.int .i64 0), (AV.int .i64 0), (AV.int .i64 0), (AV.int .i64 0), (AV.int .i64 0), (AV.str (ByteArray.mk #[])), (AV.str (ByteArray.mk #[])), (AV.bool false), (AV.int .u32 0), (AV.sl .nil 0 []), (AV.sl .nil 0 [])]], none⟩] : Heap))) ∧ (Yes (.int .i64 ((List.length (List.map Card.row (sortK l)) : Nat) : Int)) ([⟨0, 13, [[(AV.int .i64 0), (AV.int .i64 0), (AV.int .i64 0), (AV.int .i64 0), (AV.int .i64 0), (AV.int .i64 0), (AV.int .i64 0), (AV.str (ByteArray.mk #[])), (AV.str (ByteArray.mk #[])), (AV.bool false), (AV.int .u32 0), (AV.sl .nil 0 []), (AV.sl .nil 0 [])]], none⟩] : Heap) (AV.int .i64 (((sortK l).length : Nat) : Int))) ∧ (Yes (.int .i64 (if 64 < (((sortK l).length : Nat) : Int) then 64 else (((sortK l).length : Nat) : Int))) ([⟨0, 13, [[(AV.int .i64 0), (AV.int .i64 0), (AV.int .i64 0), (AV.int .i64 0), (AV.int .i64 0), (AV.int .i64 0), (AV.int .i64 0), (AV.str (ByteArray.mk #[])), (AV.str (ByteArray.mk #[])), (AV.bool false), (AV.int .u32 0), (AV.sl .nil 0 []), (AV.sl .nil 0 [])]], none⟩] : Heap) (AV.int .i64 ((min (sortK l).length 64 : Nat) : Int))) ∧ (Option.map (fun a => (a, ([⟨0, 13, [[(AV.int .i64 0), (AV.int .i64 0), (AV.int .i64 0), (AV.int .i64 0), (AV.int .i64 0), (AV.int .i64 0), (AV.int .i64 0), (AV.str (ByteArray.mk #[])), (AV.str (ByteArray.mk #[])), (AV.bool false), (AV.int .u32 0), (AV.sl .nil 0 []), (AV.sl .nil 0 [])]], none⟩] : Heap))) (if 9 = 9 ∨ ((List.map Card.row (sortK l))).isEmpty = true then (bounds 0 ((min (sortK l).length 64 : Nat) : Int) (List.length (List.map Card.row (sortK l)))).map fun p => AV.sl .any 9 ((List.take p.2 (List.map Card.row (sortK l))).drop p.1) else none) = some ((AV.sl .any 9 (List.map Card.row ((sortK l).take (min (sortK l).length 64)))), ([⟨0, 13, [[(AV.int .i64 0), (AV.int .i64 0), (AV.int .i64 0), (AV.int .i64 0), (AV.int .i64 0), (AV.int .i64 0), (AV.int .i64 0), (AV.str (ByteArray.mk #[])), (AV.str (ByteArray.mk #[])), (AV.bool false), (AV.int .u32 0), (AV.sl .nil 0 []), (AV.sl .nil 0 [])]], none⟩] : Heap))) ∧ (AV.bdd 0 (AV.agg [(AV.int .i64 4), (AV.int .i64 0), (AV.int .i64 0), (AV.int .i64 0), (AV.int .i64 0), (AV.int .i64 0), (AV.int .i64 0), (AV.str (ByteArray.mk #[])), (AV.str (ByteArray.mk #[])), (AV.bool false), (AV.int .u32 0), (AV.sl .any 9 (List.map Card.row ((sortK l).take (min (sortK l).length 64)))), (AV.sl .nil 0 [])]) = true ∧ obsB 0 ([] : Heap) = true) ∧ ((AV.agg [(AV.int .i64 4), (AV.int .i64 0), (AV.int .i64 0), (AV.int .i64 0), (AV.int .i64 0), (AV.int .i64 0), (AV.int .i64 0), (AV.str (ByteArray.mk #[])), (AV.str (ByteArray.mk #[])), (AV.bool false), (AV.int .u32 0), (AV.sl .any 9 (List.map Card.row ((sortK l).take (min (sortK l).length 64)))), (AV.sl .nil 0 [])]), ([] : Heap)) = ((AV.agg [(AV.int .i64 4), (AV.int .i64 0), (AV.int .i64 0), (AV.int .i64 0), (AV.int .i64 0), (AV.int .i64 0), (AV.int .i64 0), (AV.str (ByteArray.mk #[])), (AV.str (ByteArray.mk #[])), (AV.bool false), (AV.int .u32 0), (AV.sl .any 9 (List.map Card.row (digK l))), (AV.sl .nil 0 [])]), ([] : Heap))) = _) ?_
  refine And.intro (rsort_at l (by first | omega | assumption | (simp; done) | (simp; omega) | (simp_all; done) | (simp_all; omega)) ([⟨0, 13, [[(AV.int .i64 0), (AV.int .i64 0), (AV.int .i64 0), (AV.int .i64 0), (AV.int .i64 0), (AV.int .i64 0), (AV.int .i64 0), (AV.str (ByteArray.mk #[])), (AV.str (ByteArray.mk #[])), (AV.bool false), (AV.int .u32 0), (AV.sl .nil 0 []), (AV.sl .nil 0 [])]], none⟩] : Heap)) ?_
  refine And.intro (Yes.len _ _ _) ?_
  refine And.intro (Yes.int (by split <;> omega)) ?_
  refine And.intro (slice_sl (l := 0) (h := min (sortK l).length 64) (by first | omega | (simp; done) | (simp; omega)) (by first | omega | (simp; done) | (simp; omega)) (by first | omega | (simp; done) | (simp; omega)) (by first | omega | (simp; done) | (simp; omega)) (by simp [List.map_take, List.map_drop, List.take_of_length_le])) ?_
  refine And.intro (by first | (simp [obsB, AV.bddss, AV.bdds, AV.bdd]; done) | (simp [obsB, AV.bddss, AV.bdds, AV.bdd, -List.map_append]; done) | simp [obsB, AV.bddss, AV.bdds, AV.bdd, -List.map_append, -List.map_set, -List.map_take, -List.map_drop, -List.map_cons, -List.map_map]) ?_
  unfold digK; rw [sortP_sortK]
theorem rdig_at (l : List Card) (hl : l.length < 1000) (H : Heap) : ACalls Try.prog 94 [(AV.sl .any 9 (List.map Card.row l))] H ((AV.agg [(AV.int .i64 4), (AV.int .i64 0), (AV.int .i64 0), (AV.int .i64 0), (AV.int .i64 0), (AV.int .i64 0), (AV.int .i64 0), (AV.str (ByteArray.mk #[])), (AV.str (ByteArray.mk #[])), (AV.bool false), (AV.int .u32 0), (AV.sl .any 9 (List.map Card.row (digK l))), (AV.sl .nil 0 [])]), H) := (rdig_spec l hl).lift (by kernel_rfl) (by kernel_rfl) H
def sameM_ann : Ann := { refs := [2, 3], fin := some 0 }
set_option maxRecDepth 100000 in
theorem sameM_spec (x : List Card) (hl : x.length < 1000) : ACalls Try.prog 93 [(AV.agg [(AV.int .i64 4), (AV.int .i64 0), (AV.int .i64 0), (AV.int .i64 0), (AV.int .i64 0), (AV.int .i64 0), (AV.int .i64 0), (AV.str (ByteArray.mk #[])), (AV.str (ByteArray.mk #[])), (AV.bool false), (AV.int .u32 0), (AV.sl .any 9 (List.map Card.row x)), (AV.sl .nil 0 [])]), (AV.agg [(AV.int .i64 4), (AV.int .i64 0), (AV.int .i64 0), (AV.int .i64 0), (AV.int .i64 0), (AV.int .i64 0), (AV.int .i64 0), (AV.str (ByteArray.mk #[])), (AV.str (ByteArray.mk #[])), (AV.bool false), (AV.int .u32 0), (AV.sl .any 9 (List.map Card.row x)), (AV.sl .nil 0 [])])] ([] : Heap) ((AV.bool true), ([] : Heap)) := by
  refine spec (fn := Try.f93) (ann := sameM_ann) (t := (.reg [] [] [] (.reg [(52, ((AV.bool true), ([] : Heap))), (73, ((AV.bool true), ([] : Heap))), (80, ((AV.bool true), ([] : Heap)))] [] [] (.two (.two (.two (.two (.two (.two (.two (.two (.two (.two (.two (.two (.two (.two (.two (.two (.two (.two (.two (.two (.two (.two (.two (.two (.two (.two (.two (.two (.two (.two (.two (.two (.two (.two (.two (.two (.two (.two (.two (.two (.two (.two (.two (.two (.two (.two (.two (.two (.two (.two (.two (.two (.two (.two (.two .nil .nil) .nil) .nil) .nil) .nil) .nil) .nil) .nil) .nil) .nil) .nil) .nil) .nil) .nil) .nil) .nil) .nil) .nil) .nil) .nil) .nil) .nil) .nil) .nil) .nil) .nil) .nil) .nil) .nil) .nil) .nil) .nil) .nil) .nil) .nil) .nil) .nil) .nil) .nil) .nil) .nil) .nil) .nil) .nil) .nil) .nil) .nil) .nil) .nil) .nil) .nil) .nil) .nil) .nil) .nil)))) (Nat.le_of_ble_eq_true (by kernel_rfl)) ⟨Try.func93, by kernel_rfl, by kernel_rfl, by kernel_rfl⟩ ?_
  refine Eq.mp (by kernel_rfl : ((Yes (AV.bool (((ByteArray.mk #[]).toList == (ByteArray.mk #[]).toList) && (((ByteArray.mk #[]).toList == (ByteArray.mk #[]).toList) && true))) ([] : Heap) (AV.bool true)) ∧ (ACalls Try.prog 55 [(AV.sl .any 9 (List.map Card.row x)), (AV.sl .any 9 (List.map Card.row x))] ([] : Heap) ((AV.bool true), ([] : Heap))) ∧ (ACalls Try.prog 57 [(AV.sl .nil 0 []), (AV.sl .nil 0 [])] ([] : Heap) ((AV.bool true), ([] : Heap))) ∧ (AV.bdd 0 (AV.bool true) = true ∧ obsB 0 ([] : Heap) = true) ∧ ((AV.bool true), ([] : Heap)) = ((AV.bool true), ([] : Heap))) = _) ?_
  refine And.intro (Yes.bool (by simp)) ?_
  refine And.intro (sameC_at x x (by first | omega | assumption | (simp; done) | (simp; omega) | (simp_all; done) | (simp_all; omega)) (rfl) ([] : Heap)) ?_
  refine And.intro ((sameK_at [] [] (by first | omega | assumption | (simp; done) | (simp; omega) | (simp_all; done) | (simp_all; omega)) (rfl) ([] : Heap)).pre ⟨⟨rfl, rfl, .inr rfl⟩, ⟨rfl, rfl, .inr rfl⟩, trivial⟩) ?_
  refine And.intro (by first | (simp [obsB, AV.bddss, AV.bdds, AV.bdd]; done) | (simp [obsB, AV.bddss, AV.bdds, AV.bdd, -List.map_append]; done) | simp [obsB, AV.bddss, AV.bdds, AV.bdd, -List.map_append, -List.map_set, -List.map_take, -List.map_drop, -List.map_cons, -List.map_map]) ?_
  rfl
theorem sameM_at (x : List Card) (hl : x.length < 1000) (H : Heap) : ACalls Try.prog 93 [(AV.agg [(AV.int .i64 4), (AV.int .i64 0), (AV.int .i64 0), (AV.int .i64 0), (AV.int .i64 0), (AV.int .i64 0), (AV.int .i64 0), (AV.str (ByteArray.mk #[])), (AV.str (ByteArray.mk #[])), (AV.bool false), (AV.int .u32 0), (AV.sl .any 9 (List.map Card.row x)), (AV.sl .nil 0 [])]), (AV.agg [(AV.int .i64 4), (AV.int .i64 0), (AV.int .i64 0), (AV.int .i64 0), (AV.int .i64 0), (AV.int .i64 0), (AV.int .i64 0), (AV.str (ByteArray.mk #[])), (AV.str (ByteArray.mk #[])), (AV.bool false), (AV.int .u32 0), (AV.sl .any 9 (List.map Card.row x)), (AV.sl .nil 0 [])])] H ((AV.bool true), H) := (sameM_spec x hl).lift (by kernel_rfl) (by kernel_rfl) H
def Tp.keys (t : Tp) : Nat → List Key
  | 0 => []
  | n + 1 => t.key :: t.keyT.keys n
def Tp.keysT (t : Tp) : Nat → Tp
  | 0 => t
  | n + 1 => t.keyT.keysT n
theorem Tp.keys_len (n : Nat) : ∀ (t : Tp), (t.keys n).length = n := by
  induction n with
  | zero => intro t; rfl
  | succ n ih => intro t; simp only [Tp.keys, List.length_cons]; rw [ih]
def tkeys_ann : Ann := { gha := [(1, .vir 3 2), (6, .frz 2)], base := 1, fin := some 1, live := [(3, [0, 3, 4])], out := [(3, [0, 3, 4])] }
set_option maxRecDepth 100000 in
theorem tkeys_step (t : Tp) (g m n : Nat) (out : List Key) (hl : t.l.length < 9223372036854775808) (hm : m = out.length) (hb : m < 1099511627776) (hn : n < 1099511627776) {eX : Ex} {FX : Fr} {HX : Heap} (k1 : (decide (((n : Nat) : Int) > 0)) = true → LoopTo (codeQ Try.prog (X tkeys_ann) (loopOf Try.f51 0)) (some [0, 3, 4]) (some [0, 3, 4]) (mkF 17 [(0, (AV.obj 0 0 0 0)), (3, (AV.osl 1 (g + 1) 2 0 (m + 1))), (4, (AV.int .i64 ((n - 1 : Nat) : Int)))]) ([⟨0, 2, [(Tp.row t.keyT)], none⟩, ⟨(g + 1), 2, (List.map Key.row (out ++ [t.key])), none⟩] : Heap) eX FX HX) (k2 : (decide (((n : Nat) : Int) > 0)) = false → ((.exit 0 : Ex), (mkF 17 [(0, (AV.obj 0 0 0 0)), (3, (AV.osl 1 g 2 0 m)), (4, (AV.int .i64 ((n : Nat) : Int)))]), ([⟨0, 2, [(Tp.row t)], none⟩, ⟨g, 2, (List.map Key.row out), none⟩] : Heap)) = (eX, FX, HX)) : LoopTo (codeQ Try.prog (X tkeys_ann) (loopOf Try.f51 0)) (some [0, 3, 4]) (some [0, 3, 4]) (mkF 17 [(0, (AV.obj 0 0 0 0)), (3, (AV.osl 1 g 2 0 m)), (4, (AV.int .i64 ((n : Nat) : Int)))]) ([⟨0, 2, [(Tp.row t)], none⟩, ⟨g, 2, (List.map Key.row out), none⟩] : Heap) eX FX HX := by
  refine LoopTo.step (.reg [] [] [] (.two (.reg [(2, ((AV.agg (Key.row t.key)), ([⟨0, 2, [(Tp.row t.keyT)], none⟩, ⟨g, 2, (List.map Key.row out), none⟩] : Heap))), (4, ((AV.osl 1 (g + 1) 2 0 (m + 1)), ([⟨0, 2, [(Tp.row t.keyT)], none⟩, ⟨(g + 1), 2, (List.map Key.row (out ++ [t.key])), none⟩] : Heap)))] [] [] (.reg [(1, ((AV.int .i64 ((n - 1 : Nat) : Int)), ([⟨0, 2, [(Tp.row t.keyT)], none⟩, ⟨(g + 1), 2, (List.map Key.row (out ++ [t.key])), none⟩] : Heap)))] [] [] .nil)) .nil)) ?_
  refine Eq.mp (by kernel_rfl : (cond (decide (((n : Nat) : Int) > 0)) ((ACalls Try.prog 58 [(AV.obj 0 0 0 0)] ([⟨0, 2, [(Tp.row t)], none⟩, ⟨g, 2, (List.map Key.row out), none⟩] : Heap) ((AV.agg (Key.row t.key)), ([⟨0, 2, [(Tp.row t.keyT)], none⟩, ⟨g, 2, (List.map Key.row out), none⟩] : Heap))) ∧ (evAppend tt ([⟨0, 2, [(Tp.row t.keyT)], none⟩, ⟨g, 2, (List.map Key.row out), none⟩] : Heap) 66 (AV.osl 1 g 2 0 m) (AV.sl .clip 2 [(Key.row t.key)]) = some ((AV.osl 1 (g + 1) 2 0 (m + 1)), ([⟨0, 2, [(Tp.row t.keyT)], none⟩, ⟨(g + 1), 2, (List.map Key.row (out ++ [t.key])), none⟩] : Heap))) ∧ (Yes (.int .i64 (IntKind.i64.wrap (((n : Nat) : Int) - 1))) ([⟨0, 2, [(Tp.row t.keyT)], none⟩, ⟨(g + 1), 2, (List.map Key.row (out ++ [t.key])), none⟩] : Heap) (AV.int .i64 ((n - 1 : Nat) : Int))) ∧ LoopTo (codeQ Try.prog (X tkeys_ann) (loopOf Try.f51 0)) (some [0, 3, 4]) (some [0, 3, 4]) (mkF 17 [(0, (AV.obj 0 0 0 0)), (3, (AV.osl 1 (g + 1) 2 0 (m + 1))), (4, (AV.int .i64 ((n - 1 : Nat) : Int)))]) ([⟨0, 2, [(Tp.row t.keyT)], none⟩, ⟨(g + 1), 2, (List.map Key.row (out ++ [t.key])), none⟩] : Heap) eX FX HX) (((.exit 0 : Ex), (mkF 17 [(0, (AV.obj 0 0 0 0)), (3, (AV.osl 1 g 2 0 m)), (4, (AV.int .i64 ((n : Nat) : Int)))]), ([⟨0, 2, [(Tp.row t)], none⟩, ⟨g, 2, (List.map Key.row out), none⟩] : Heap)) = (eX, FX, HX))) = _) ?_
  refine cond_split (fun h1 => ?_) (fun h1 => ?_)
  · have h1' := h1
    try simp at h1'
    refine And.intro (key_at t (by first | omega | assumption | (simp; done) | (simp; omega) | (simp_all; done) | (simp_all; omega)) ([⟨g, 2, (List.map Key.row out), none⟩] : Heap)) ?_
    refine And.intro (evAppend_one (row := Key.row) (l := out) (x := t.key) (T := tt) (e := 30) (te := { d := .struct [(9, 0), (9, 1)], size := 2, bytes := 32, zero := [.str ⟨#[]⟩, .str ⟨#[]⟩] }) (z := 1) (b := 24) (y := [.sl .nil 0 []]) (by kernel_rfl) (by kernel_rfl) rfl (by decide) (by decide) (by kernel_rfl) (by first | assumption | omega | (simp; done) | (simp; omega)) rfl rfl (by first | omega | (show _ * 32 ≤ _; omega) | (simp; omega))) ?_
    refine And.intro (Yes.add (by omega) (by omega) (by omega)) ?_
    exact k1 h1
  · have h1' := h1
    try simp at h1'
    exact k2 h1
theorem tkeys_loop (n : Nat) : ∀ (t : Tp) (g m : Nat) (out : List Key) (gF mF : Nat) (outF : List Key) (tF : Tp), t.l.length < 9223372036854775808 → m = out.length → m + n < 1099511627776 → gF = g + n → mF = m + n → outF = out ++ t.keys n → tF = t.keysT n →
    LoopTo (codeQ Try.prog (X tkeys_ann) (loopOf Try.f51 0)) (some [0, 3, 4]) (some [0, 3, 4]) (mkF 17 [(0, (AV.obj 0 0 0 0)), (3, (AV.osl 1 g 2 0 m)), (4, (AV.int .i64 ((n : Nat) : Int)))]) ([⟨0, 2, [(Tp.row t)], none⟩, ⟨g, 2, (List.map Key.row out), none⟩] : Heap) (.exit 0) (mkF 17 [(0, (AV.obj 0 0 0 0)), (3, (AV.osl 1 gF 2 0 mF)), (4, (AV.int .i64 ((0 : Nat) : Int)))]) ([⟨0, 2, [(Tp.row tF)], none⟩, ⟨gF, 2, (List.map Key.row outF), none⟩] : Heap) := by
  induction n with
  | zero =>
    intro t g m out gF mF outF tF hl hm hb h1 h2 h3 h4
    refine tkeys_step t g m 0 out hl hm (by omega) (by omega) (fun h => by simp at h) fun _ => ?_
    simp [h1, h2, h3, h4, Tp.keys, Tp.keysT]
  | succ n ih =>
    intro t g m out gF mF outF tF hl hm hb h1 h2 h3 h4
    refine tkeys_step t g m (n + 1) out hl hm (by omega) (by omega) (fun _ => ?_) fun h => by simp at h
    exact ih t.keyT (g + 1) (m + 1) (out ++ [t.key]) gF mF outF tF (by rw [Tp.keyT_l]; exact hl) (by simp [hm]) (by omega) (by omega) (by omega) (by simp [h3, Tp.keys]) (by simp [h4, Tp.keysT])
set_option maxRecDepth 100000 in
theorem tkeys_spec (t : Tp) (hl : t.l.length < 9223372036854775808) : ACalls Try.prog 51 [(AV.obj 0 0 0 0)] ([⟨0, 2, [(Tp.row t)], none⟩] : Heap) ((AV.sl .any 2 (List.map Key.row ((t.step 9).keys (t.next 9)))), ([⟨0, 2, [(Tp.row ((t.step 9).keysT (t.next 9)))], none⟩] : Heap)) := by
  have hx := t.next_lt 9 (by omega)
  refine spec (fn := Try.f51) (ann := tkeys_ann) (t := (.reg [] [] [] (.reg [] [] [] (.reg [(1, ((AV.int .i64 ((t.next 9 : Nat) : Int)), ([⟨0, 2, [(Tp.row (t.step 9))], none⟩, ⟨0, 2, (List.map Key.row []), none⟩] : Heap)))] [] [] (.loop (.exit 0) (mkF 17 [(0, (AV.obj 0 0 0 0)), (3, (AV.osl 1 (t.next 9) 2 0 (t.next 9))), (4, (AV.int .i64 ((0 : Nat) : Int)))]) ([⟨0, 2, [(Tp.row ((t.step 9).keysT (t.next 9)))], none⟩, ⟨(t.next 9), 2, (List.map Key.row ((t.step 9).keys (t.next 9))), none⟩] : Heap) (.reg [] [] [(2, (List.map Key.row ((t.step 9).keys (t.next 9))))] .nil)))))) (Nat.le_of_ble_eq_true (by kernel_rfl)) ⟨Try.func51, by kernel_rfl, by kernel_rfl, by kernel_rfl⟩ ?_
  refine Eq.mp (by kernel_rfl : ((ACalls Try.prog 21 [(AV.obj 0 0 0 0), (AV.int .i64 9)] ([⟨0, 2, [(Tp.row t)], none⟩, ⟨0, 2, (List.map Key.row []), none⟩] : Heap) ((AV.int .i64 ((t.next 9 : Nat) : Int)), ([⟨0, 2, [(Tp.row (t.step 9))], none⟩, ⟨0, 2, (List.map Key.row []), none⟩] : Heap))) ∧ (LoopTo (codeQ Try.prog (X tkeys_ann) (loopOf Try.f51 0)) (some [0, 3, 4]) (some [0, 3, 4]) (mkF 17 [(0, (AV.obj 0 0 0 0)), (3, (AV.osl 1 0 2 0 0)), (4, (AV.int .i64 ((t.next 9 : Nat) : Int)))]) ([⟨0, 2, [(Tp.row (t.step 9))], none⟩, ⟨0, 2, (List.map Key.row []), none⟩] : Heap) (.exit 0) (mkF 17 [(0, (AV.obj 0 0 0 0)), (3, (AV.osl 1 (t.next 9) 2 0 (t.next 9))), (4, (AV.int .i64 ((0 : Nat) : Int)))]) ([⟨0, 2, [(Tp.row ((t.step 9).keysT (t.next 9)))], none⟩, ⟨(t.next 9), 2, (List.map Key.row ((t.step 9).keys (t.next 9))), none⟩] : Heap)) ∧ (rowsIn ([⟨0, 2, [(Tp.row ((t.step 9).keysT (t.next 9)))], none⟩, ⟨(t.next 9), 2, (List.map Key.row ((t.step 9).keys (t.next 9))), none⟩] : Heap) 2 (AV.osl 1 (t.next 9) 2 0 (t.next 9)) = some (List.map Key.row ((t.step 9).keys (t.next 9))) ∧ AV.bddss 0 (List.map Key.row ((t.step 9).keys (t.next 9))) = true) ∧ (AV.bdd 1 (AV.sl .any 2 (List.map Key.row ((t.step 9).keys (t.next 9)))) = true ∧ obsB 1 ([⟨0, 2, [(Tp.row ((t.step 9).keysT (t.next 9)))], none⟩] : Heap) = true) ∧ ((AV.sl .any 2 (List.map Key.row ((t.step 9).keys (t.next 9)))), ([⟨0, 2, [(Tp.row ((t.step 9).keysT (t.next 9)))], none⟩] : Heap)) = ((AV.sl .any 2 (List.map Key.row ((t.step 9).keys (t.next 9)))), ([⟨0, 2, [(Tp.row ((t.step 9).keysT (t.next 9)))], none⟩] : Heap))) = _) ?_
  refine And.intro ((next_at t 9 (by first | omega | assumption | (simp; done) | (simp; omega) | (simp_all; done) | (simp_all; omega)) ([⟨0, 2, (List.map Key.row []), none⟩] : Heap)).pre ⟨AV.wk_refl_any _, AV.wk_refl_any _, trivial⟩) ?_
  refine And.intro ((tkeys_loop (t.next 9) (t.step 9) 0 0 [] (t.next 9) (t.next 9) _ _ (by rw [Tp.step_l]; exact hl) rfl (by omega) (by omega) (by omega) (by simp) rfl)) ?_
  refine And.intro (And.intro (rowsIn_all (room := none) (by kernel_rfl) (by first | omega | (simp [Tp.keys_len]; done) | (simp [Tp.keys_len]; omega))) (Key.rows_bdd _ _)) ?_
  refine And.intro (by first | (simp [obsB, AV.bddss, AV.bdds, AV.bdd]; done) | (simp [obsB, AV.bddss, AV.bdds, AV.bdd, -List.map_append]; done) | simp [obsB, AV.bddss, AV.bdds, AV.bdd, -List.map_append, -List.map_set, -List.map_take, -List.map_drop, -List.map_cons, -List.map_map]) ?_
  rfl
theorem tkeys_at (t : Tp) (hl : t.l.length < 9223372036854775808) (H : Heap) : ACalls Try.prog 51 [(AV.obj 0 0 0 0)] (([⟨0, 2, [(Tp.row t)], none⟩] : Heap) ++ H) ((AV.sl .any 2 (List.map Key.row ((t.step 9).keys (t.next 9)))), ([⟨0, 2, [(Tp.row ((t.step 9).keysT (t.next 9)))], none⟩] : Heap) ++ H) := (tkeys_spec t hl).ext (by kernel_rfl) (by kernel_rfl) (by first | (simp [obsB, AV.bddss, AV.bdds, AV.bdd]; done) | (simp [obsB, AV.bddss, AV.bdds, AV.bdd, -List.map_append]; done) | simp [obsB, AV.bddss, AV.bdds, AV.bdd, -List.map_append, -List.map_set, -List.map_take, -List.map_drop, -List.map_cons, -List.map_map]) (by first | (simp [obsB, AV.bddss, AV.bdds, AV.bdd]; done) | (simp [obsB, AV.bddss, AV.bdds, AV.bdd, -List.map_append]; done) | simp [obsB, AV.bddss, AV.bdds, AV.bdd, -List.map_append, -List.map_set, -List.map_take, -List.map_drop, -List.map_cons, -List.map_map]) (by kernel_rfl) H
theorem vdigK_len (l : List Card) : (digK l).length ≤ l.length := by
  have := sortP_len l
  with_unfolding_all (unfold digK; simp; omega)
theorem vwantK_len (a b : List Card) : (wantK a b).length ≤ b.length := by
  have h1 := aheadK_len (lastK b) (lastK a)
  have h2 := lastK_len b
  with_unfolding_all (unfold wantK; rw [keysC_len]; omega)
theorem vtellK_len (a b : List Card) : (tellK a b).length ≤ a.length := by
  have h1 := aheadK_len (lastK a) (lastK b)
  have h2 := lastK_len a
  with_unfolding_all (unfold tellK; omega)
theorem vanswerK_len (l : List Card) (ks : List Key) : (answerK l ks).length ≤ ks.length := by unfold answerK; exact ansK_len _ _ _
def same18_ann : Ann := { fin := some 0 }
set_option maxRecDepth 100000 in
theorem same18_spec (a b : List Card) (ks : List Key) (ha : a.length < 1000) (hb : b.length < 1000) (hk : ks.length < 1000) : ACalls Try.prog 50 [(AV.sl .any 9 (List.map Card.row a)), (AV.sl .any 9 (List.map Card.row b)), (AV.sl .any 2 (List.map Key.row ks))] ([] : Heap) ((AV.bool true), ([] : Heap)) := by
  have h1 := vdigK_len a
  have h2 := vwantK_len a b
  have h3 := vtellK_len a b
  have h4 := vanswerK_len a ks
  refine spec (fn := Try.f50) (ann := same18_ann) (t := (.reg [] [] [] (.reg [(2, ((AV.tup [(AV.sl .any 2 (List.map Key.row (wantK a b))), (AV.sl .any 9 (List.map Card.row (tellK a b)))]), ([] : Heap)))] [] [] (.reg [(2, ((AV.tup [(AV.sl .any 2 (List.map Key.row (wantK a b))), (AV.sl .any 9 (List.map Card.row (tellK a b)))]), ([] : Heap)))] [] [] (.reg [(2, ((AV.bool true), ([] : Heap))), (6, ((AV.bool true), ([] : Heap))), (10, ((AV.agg [(AV.int .i64 4), (AV.int .i64 0), (AV.int .i64 0), (AV.int .i64 0), (AV.int .i64 0), (AV.int .i64 0), (AV.int .i64 0), (AV.str (ByteArray.mk #[])), (AV.str (ByteArray.mk #[])), (AV.bool false), (AV.int .u32 0), (AV.sl .any 9 (List.map Card.row (digK a))), (AV.sl .nil 0 [])]), ([] : Heap))), (12, ((AV.agg [(AV.int .i64 4), (AV.int .i64 0), (AV.int .i64 0), (AV.int .i64 0), (AV.int .i64 0), (AV.int .i64 0), (AV.int .i64 0), (AV.str (ByteArray.mk #[])), (AV.str (ByteArray.mk #[])), (AV.bool false), (AV.int .u32 0), (AV.sl .any 9 (List.map Card.row (digK a))), (AV.sl .nil 0 [])]), ([] : Heap))), (13, ((AV.bool true), ([] : Heap))), (18, ((AV.sl .any 9 (List.map Card.row (answerK a ks))), ([] : Heap))), (21, ((AV.sl .any 9 (List.map Card.row (answerK a ks))), ([] : Heap))), (22, ((AV.bool true), ([] : Heap)))] [] [] (.two (.two (.two (.two (.two (.two (.two (.two (.two (.two (.two (.two (.two (.two (.two .nil .nil) .nil) .nil) .nil) .nil) .nil) .nil) .nil) .nil) .nil) .nil) .nil) .nil) .nil) .nil)))))) (Nat.le_of_ble_eq_true (by kernel_rfl)) ⟨Try.func50, by kernel_rfl, by kernel_rfl, by kernel_rfl⟩ ?_
  refine Eq.mp (by kernel_rfl : ((ACalls Try.prog 53 [(AV.sl .any 9 (List.map Card.row a)), (AV.sl .any 9 (List.map Card.row b))] ([] : Heap) ((AV.tup [(AV.sl .any 2 (List.map Key.row (wantK a b))), (AV.sl .any 9 (List.map Card.row (tellK a b)))]), ([] : Heap))) ∧ (ACalls Try.prog 92 [(AV.sl .any 9 (List.map Card.row a)), (AV.sl .any 9 (List.map Card.row b))] ([] : Heap) ((AV.tup [(AV.sl .any 2 (List.map Key.row (wantK a b))), (AV.sl .any 9 (List.map Card.row (tellK a b)))]), ([] : Heap))) ∧ (ACalls Try.prog 57 [(AV.sl .any 2 (List.map Key.row (wantK a b))), (AV.sl .any 2 (List.map Key.row (wantK a b)))] ([] : Heap) ((AV.bool true), ([] : Heap))) ∧ (ACalls Try.prog 55 [(AV.sl .any 9 (List.map Card.row (tellK a b))), (AV.sl .any 9 (List.map Card.row (tellK a b)))] ([] : Heap) ((AV.bool true), ([] : Heap))) ∧ (ACalls Try.prog 54 [(AV.sl .any 9 (List.map Card.row a))] ([] : Heap) ((AV.agg [(AV.int .i64 4), (AV.int .i64 0), (AV.int .i64 0), (AV.int .i64 0), (AV.int .i64 0), (AV.int .i64 0), (AV.int .i64 0), (AV.str (ByteArray.mk #[])), (AV.str (ByteArray.mk #[])), (AV.bool false), (AV.int .u32 0), (AV.sl .any 9 (List.map Card.row (digK a))), (AV.sl .nil 0 [])]), ([] : Heap))) ∧ (ACalls Try.prog 94 [(AV.sl .any 9 (List.map Card.row a))] ([] : Heap) ((AV.agg [(AV.int .i64 4), (AV.int .i64 0), (AV.int .i64 0), (AV.int .i64 0), (AV.int .i64 0), (AV.int .i64 0), (AV.int .i64 0), (AV.str (ByteArray.mk #[])), (AV.str (ByteArray.mk #[])), (AV.bool false), (AV.int .u32 0), (AV.sl .any 9 (List.map Card.row (digK a))), (AV.sl .nil 0 [])]), ([] : Heap))) ∧ (ACalls Try.prog 93 [(AV.agg [(AV.int .i64 4), (AV.int .i64 0), (AV.int .i64 0), (AV.int .i64 0), (AV.int .i64 0), (AV.int .i64 0), (AV.int .i64 0), (AV.str (ByteArray.mk #[])), (AV.str (ByteArray.mk #[])), (AV.bool false), (AV.int .u32 0), (AV.sl .any 9 (List.map Card.row (digK a))), (AV.sl .nil 0 [])]), (AV.agg [(AV.int .i64 4), (AV.int .i64 0), (AV.int .i64 0), (AV.int .i64 0), (AV.int .i64 0), (AV.int .i64 0), (AV.int .i64 0), (AV.str (ByteArray.mk #[])), (AV.str (ByteArray.mk #[])), (AV.bool false), (AV.int .u32 0), (AV.sl .any 9 (List.map Card.row (digK a))), (AV.sl .nil 0 [])])] ([] : Heap) ((AV.bool true), ([] : Heap))) ∧ (ACalls Try.prog 56 [(AV.sl .any 9 (List.map Card.row a)), (AV.sl .any 2 (List.map Key.row ks))] ([] : Heap) ((AV.sl .any 9 (List.map Card.row (answerK a ks))), ([] : Heap))) ∧ (ACalls Try.prog 95 [(AV.sl .any 9 (List.map Card.row a)), (AV.sl .any 2 (List.map Key.row ks))] ([] : Heap) ((AV.sl .any 9 (List.map Card.row (answerK a ks))), ([] : Heap))) ∧ (ACalls Try.prog 55 [(AV.sl .any 9 (List.map Card.row (answerK a ks))), (AV.sl .any 9 (List.map Card.row (answerK a ks)))] ([] : Heap) ((AV.bool true), ([] : Heap))) ∧ (AV.bdd 0 (AV.bool true) = true ∧ obsB 0 ([] : Heap) = true) ∧ ((AV.bool true), ([] : Heap)) = ((AV.bool true), ([] : Heap))) = _) ?_
  refine And.intro (cmpGW_at a b (by first | omega | assumption | (simp; done) | (simp; omega) | (simp_all; done) | (simp_all; omega)) (by first | omega | assumption | (simp; done) | (simp; omega) | (simp_all; done) | (simp_all; omega)) ([] : Heap)) ?_
  refine And.intro (rcmp_at a b (by first | omega | assumption | (simp; done) | (simp; omega) | (simp_all; done) | (simp_all; omega)) (by first | omega | assumption | (simp; done) | (simp; omega) | (simp_all; done) | (simp_all; omega)) ([] : Heap)) ?_
  refine And.intro (sameK_at (wantK a b) (wantK a b) (by first | omega | assumption | (simp; done) | (simp; omega) | (simp_all; done) | (simp_all; omega)) (rfl) ([] : Heap)) ?_
  refine And.intro (sameC_at (tellK a b) (tellK a b) (by first | omega | assumption | (simp; done) | (simp; omega) | (simp_all; done) | (simp_all; omega)) (rfl) ([] : Heap)) ?_
  refine And.intro (digestW_at a (by first | omega | assumption | (simp; done) | (simp; omega) | (simp_all; done) | (simp_all; omega)) ([] : Heap)) ?_
  refine And.intro (rdig_at a (by first | omega | assumption | (simp; done) | (simp; omega) | (simp_all; done) | (simp_all; omega)) ([] : Heap)) ?_
  refine And.intro (sameM_at (digK a) (by first | omega | assumption | (simp; done) | (simp; omega) | (simp_all; done) | (simp_all; omega)) ([] : Heap)) ?_
  refine And.intro (answerW_at a ks (by first | omega | assumption | (simp; done) | (simp; omega) | (simp_all; done) | (simp_all; omega)) (by first | omega | assumption | (simp; done) | (simp; omega) | (simp_all; done) | (simp_all; omega)) ([] : Heap)) ?_
  refine And.intro (rans_at a ks (by first | omega | assumption | (simp; done) | (simp; omega) | (simp_all; done) | (simp_all; omega)) (by first | omega | assumption | (simp; done) | (simp; omega) | (simp_all; done) | (simp_all; omega)) ([] : Heap)) ?_
  refine And.intro (sameC_at (answerK a ks) (answerK a ks) (by first | omega | assumption | (simp; done) | (simp; omega) | (simp_all; done) | (simp_all; omega)) (rfl) ([] : Heap)) ?_
  refine And.intro (by first | (simp [obsB, AV.bddss, AV.bdds, AV.bdd]; done) | (simp [obsB, AV.bddss, AV.bdds, AV.bdd, -List.map_append]; done) | simp [obsB, AV.bddss, AV.bdds, AV.bdd, -List.map_append, -List.map_set, -List.map_take, -List.map_drop, -List.map_cons, -List.map_map]) ?_
  rfl
theorem same18_at (a b : List Card) (ks : List Key) (ha : a.length < 1000) (hb : b.length < 1000) (hk : ks.length < 1000) (H : Heap) : ACalls Try.prog 50 [(AV.sl .any 9 (List.map Card.row a)), (AV.sl .any 9 (List.map Card.row b)), (AV.sl .any 2 (List.map Key.row ks))] H ((AV.bool true), H) := (same18_spec a b ks ha hb hk).lift (by kernel_rfl) (by kernel_rfl) H
end Go.Proofs.Ytpkgpldgoajphaa.AM
