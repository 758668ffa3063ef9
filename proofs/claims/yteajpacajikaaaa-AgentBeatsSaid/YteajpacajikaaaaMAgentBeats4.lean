/-
  Texts of this claim, part 4 of 7: an abstract machine over the model; what functions come to; plain laws.
-/
import Derived.Test.YteajpacajikaaaaMAgentBeats3
set_option maxRecDepth 100000
set_option linter.unusedVariables false
set_option linter.unusedSimpArgs false
namespace Go.Proofs.Yteajpacajikaaaa.AM
open Go Go.Proofs.Yteajpacajikaaaa
attribute [local irreducible] ACalls funT codeT codeQ LoopTo
attribute [local irreducible] Tp.card Tp.cardT Tp.next Tp.step Tp.cards Tp.key Tp.keyT sink insSort beforeK sortP cmpK
def mCw_ann : Ann := { base := 1, fin := some 1, live := [(1, [0, 1, 2, 3, 10])], out := [(1, [0, 1, 2, 3, 10])] }
@[simp] abbrev Vic_1 (v1_ : Nat) (v2_ : List Card) (v3_ : Nat) (v4_ : Nat) (v5_ : Nat) : Heap := [⟨v1_, 9, (List.map Card.row ((v2_.set (v3_ + v4_) (nth v2_ (v5_ + v4_))).set (v5_ + v4_) (nth v2_ (v3_ + v4_)))), none⟩]
@[simp] abbrev Vic_2 (v1_ : Nat) (v2_ : Nat) (v3_ : Nat) (v4_ : Nat) (v5_ : Nat) (v6_ : Nat) : Fr := (mkF 38 [(0, (AV.osl 0 v1_ 9 0 v2_)), (1, (AV.int .i64 ((v3_ : Nat) : Int))), (2, (AV.int .i64 ((v4_ : Nat) : Int))), (3, (AV.int .i64 ((v5_ : Nat) : Int))), (10, (AV.int .i64 ((v6_ : Nat) : Int)))])
set_option maxRecDepth 100000 in
theorem mCw_step (a : Nat) (b : Nat) (k : Nat) (n : Nat) (g : Nat) (l : List Card) (i : Nat) (hab : a + k ≤ b) (hb : b + k ≤ n) (hnb : n < 1048576) (hn : n = l.length) (hle_ : i ≤ k) {eX : Ex} {FX : Fr} {HX : Heap} (k1 : (decide (((i : Nat) : Int) < ((k : Nat) : Int))) = true → LoopTo (codeQ Try.prog (X mCw_ann) (loopOf Try.f124 0)) (some [0, 1, 2, 3, 10]) (some [0, 1, 2, 3, 10]) (mkF 38 [(0, (.osl 0 g 9 0 n)), (1, (.int .i64 ((a : Nat) : Int))), (2, (.int .i64 ((b : Nat) : Int))), (3, (.int .i64 ((k : Nat) : Int))), (10, (.int .i64 ((i + 1 : Nat) : Int)))]) (Vic_1 g l a i b) eX FX HX) (k2 : (decide (((i : Nat) : Int) < ((k : Nat) : Int))) = false → ((.exit 0 : Ex), (Vic_2 g n a b k i), ([⟨g, 9, (List.map Card.row l), none⟩] : Heap)) = (eX, FX, HX)) : LoopTo (codeQ Try.prog (X mCw_ann) (loopOf Try.f124 0)) (some [0, 1, 2, 3, 10]) (some [0, 1, 2, 3, 10]) (Vic_2 g n a b k i) ([⟨g, 9, (List.map Card.row l), none⟩] : Heap) eX FX HX :=
  stepO (.r (.g (.two (decide (((i : Nat) : Int) < ((k : Nat) : Int))) (fun h1 h1' => (.r (.y 3 (.int .i64 (IntKind.i64.wrap (((a : Nat) : Int) + ((i : Nat) : Int)))) (AV.int .i64 ((a + i : Nat) : Int)) (Yes.add ow ow ow) (.y 7 (.int .i64 (IntKind.i64.wrap (((b : Nat) : Int) + ((i : Nat) : Int)))) (AV.int .i64 ((b + i : Nat) : Int)) (Yes.add ow ow ow) (.y 11 (.int .i64 (IntKind.i64.wrap (((b : Nat) : Int) + ((i : Nat) : Int)))) (AV.int .i64 ((b + i : Nat) : Int)) (Yes.add ow ow ow) (.io 12 0 g 9 9 0 n ((b + i : Nat) : Int) (b + i) (IdxOsl.mk _ ow ow) (.t 13 (AV.agg (Card.row (nth l (b + i)))) ([⟨g, 9, (List.map Card.row l), none⟩] : Heap) (load_row (rowAt_map (row := Card.row) (l := l) (k := 9) (room := none) kr om) kr : LoadTo tt 58 0 ([⟨g, 9, (List.map Card.row l), none⟩] : Heap) (rowAt ([⟨g, 9, (List.map Card.row l), none⟩] : Heap) 0 g (b + i)) = some ((AV.agg (Card.row (nth l (b + i)))), ([⟨g, 9, (List.map Card.row l), none⟩] : Heap))) (.y 17 (.int .i64 (IntKind.i64.wrap (((a : Nat) : Int) + ((i : Nat) : Int)))) (AV.int .i64 ((a + i : Nat) : Int)) (Yes.add ow ow ow) (.io 18 0 g 9 9 0 n ((a + i : Nat) : Int) (a + i) (IdxOsl.mk _ ow ow) (.t 19 (AV.agg (Card.row (nth l (a + i)))) ([⟨g, 9, (List.map Card.row l), none⟩] : Heap) (load_row (rowAt_map (row := Card.row) (l := l) (k := 9) (room := none) kr om) kr : LoadTo tt 58 0 ([⟨g, 9, (List.map Card.row l), none⟩] : Heap) (rowAt ([⟨g, 9, (List.map Card.row l), none⟩] : Heap) 0 g (a + i)) = some ((AV.agg (Card.row (nth l (a + i)))), ([⟨g, 9, (List.map Card.row l), none⟩] : Heap))) (.io 20 0 g 9 9 0 n ((a + i : Nat) : Int) (a + i) (IdxOsl.mk _ ow ow) (.st 21 0 g (a + i) 9 0 (AV.agg (Card.row (nth l (b + i)))) ([⟨g, 9, (List.map Card.row (l.set (a + i) (nth l (b + i)))), none⟩] : Heap) (store_row (us := (Card.row (nth l (b + i)))) (rowAt_map (row := Card.row) (l := l) (k := 9) (room := none) kr om) kr (by simp [Card.row]) (by simp [setAt, fillAt, List.map_set, Card.row])) (.io 22 0 g 9 9 0 n ((b + i : Nat) : Int) (b + i) (IdxOsl.mk _ ow ow) (.st 23 0 g (b + i) 9 0 (AV.agg (Card.row (nth l (a + i)))) (Vic_1 g l a i b) (store_row (us := (Card.row (nth l (a + i)))) (rowAt_map (row := Card.row) (l := l.set (a + i) (nth l (b + i))) (k := 9) (room := none) kr om) kr (by simp [Card.row]) (by simp [setAt, fillAt, List.map_set, Card.row])) (.g (.r (.y 1 (.int .i64 (IntKind.i64.wrap (((i : Nat) : Int) + 1))) (AV.int .i64 ((i + 1 : Nat) : Int)) (Yes.add ow ow ow) (.g (.l (k1 h1)))))))))))))))))))) (fun h1 h1' => (.l (k2 h1))))))
def mCw_f (a : Nat) (b : Nat) (k : Nat) (n : Nat) (g : Nat) (i : Nat) (s : (List Card)) : (List Card) := ((s.set (a + i) (nth s (b + i))).set (b + i) (nth s (a + i)))
@[simp] abbrev Vic_3 (v1_ : Nat) (v2_ : Nat) (v3_ : Nat) (v4_ : Nat) (v5_ : Nat) : Fr := (mkF 38 [(0, (AV.osl 0 v1_ 9 0 v2_)), (1, (AV.int .i64 ((v3_ : Nat) : Int))), (2, (AV.int .i64 ((v4_ : Nat) : Int))), (3, (AV.int .i64 ((v5_ : Nat) : Int))), (10, (AV.int .i64 ((v5_ : Nat) : Int)))])
theorem mCw_loop (a : Nat) (b : Nat) (k : Nat) (n : Nat) (g : Nat) (hab : a + k ≤ b) (hb : b + k ≤ n) (hnb : n < 1048576)  (r_ : Nat) : ∀ (l : List Card) (i : Nat) (sF : (List Card)), i + r_ = k → n = l.length → sF = iter (mCw_f a b k n g) r_ i (l) →
    LoopTo (codeQ Try.prog (X mCw_ann) (loopOf Try.f124 0)) (some [0, 1, 2, 3, 10]) (some [0, 1, 2, 3, 10]) (Vic_2 g n a b k i) ([⟨g, 9, (List.map Card.row l), none⟩] : Heap) (.exit 0) (Vic_3 g n a b k) ([⟨g, 9, (List.map Card.row sF), none⟩] : Heap) := by
  induction r_ with
  | zero =>
    intro l i sF hi_ hn  hF
    obtain rfl : k = i := by omega
    have e_ : sF = (l) := hF
    refine mCw_step a b k n g l k hab hb hnb hn (Nat.le_refl _) (fun h => by simp at h <;> omega) (fun _ => ?_)
    first | done | rfl | (rw [e_]; done) | (rw [e_]; rfl)
  | succ r_ ih =>
    intro l i sF hi_ hn  hF
    refine mCw_step a b k n g l i hab hb hnb hn ow (fun h1 => ?_) (fun h => by simp at h <;> omega)
    · exact ih ((l.set (a + i) (nth l (b + i))).set (b + i) (nth l (a + i))) (i + 1) sF ow (by first | omega | assumption | (simp; done) | (simp; omega) | (simp [*]; done) | (simp [*]; omega))  (by rw [hF] <;> simp only [iter, mCw_f, if_true, Bool.false_eq_true, if_false])
set_option maxRecDepth 100000 in
theorem mCw_spec (f : Nat) (xs : List AV) (a b k n g : Nat) (l : List Card) (hxs : AV.bdds 1 xs = true) (hn : n = l.length) (hnb : n < 1048576) (hab : a + k ≤ b) (hb : b + k ≤ n) : ACalls Try.prog 124 [(.osl 0 g 9 0 n), (.int .i64 ((a : Nat) : Int)), (.int .i64 ((b : Nat) : Int)), (.int .i64 ((k : Nat) : Int)), (.func f xs)] ([⟨g, 9, (List.map Card.row l), none⟩] : Heap) ((AV.tup []), ([⟨g, 9, (List.map Card.row (swapL a b k l)), none⟩] : Heap)) :=
  specO (fn := Try.f124) (ann := mCw_ann) (Has.o Try.func124) (.r (.g (.loop (Vic_3 g n a b k) (show LoopTo (codeQ Try.prog (X mCw_ann) (loopOf Try.f124 0)) (some [0, 1, 2, 3, 10]) (some [0, 1, 2, 3, 10]) (mkF 38 [(0, (.osl 0 g 9 0 n)), (1, (.int .i64 ((a : Nat) : Int))), (2, (.int .i64 ((b : Nat) : Int))), (3, (.int .i64 ((k : Nat) : Int))), (10, (.int .i64 0))]) ([⟨g, 9, (List.map Card.row l), none⟩] : Heap) (.exit 0) (Vic_3 g n a b k) ([⟨g, 9, (List.map Card.row (swapL a b k l)), none⟩] : Heap) from (mCw_loop a b k n g hab hb hnb k l 0 (swapL a b k l) ow hn rfl)) (.f 1 (AV.tup []) (.e (AV.tup []))))))
theorem mCw_at (f : Nat) (xs : List AV) (a b k n g : Nat) (l : List Card) (hxs : AV.bdds 1 xs = true) (hn : n = l.length) (hnb : n < 1048576) (hab : a + k ≤ b) (hb : b + k ≤ n) (H : Heap) : ACalls Try.prog 124 [(.osl 0 g 9 0 n), (.int .i64 ((a : Nat) : Int)), (.int .i64 ((b : Nat) : Int)), (.int .i64 ((k : Nat) : Int)), (.func f xs)] (([⟨g, 9, (List.map Card.row l), none⟩] : Heap) ++ H) ((AV.tup []), ([⟨g, 9, (List.map Card.row (swapL a b k l)), none⟩] : Heap) ++ H) := (mCw_spec f xs a b k n g l hxs hn hnb hab hb).ext (by simp [AV.bdds, AV.bdd, *]) kr ob ob kr H
def mCr_ann : Ann := { base := 1, fin := some 1, live := [(2, [0, 2, 4, 10, 11])], out := [(2, [0, 2, 4, 10, 11])] }
@[simp] abbrev Vic_4 (v1_ : Nat) (v2_ : Nat) (v3_ : Nat) (v4_ : Nat) (v5_ : List Card) : Heap := [⟨v1_, 9, (List.map Card.row (swapL (v2_ - v3_) (v2_ + v4_ - v3_) v3_ v5_)), none⟩]
@[simp] abbrev Vic_5 (v1_ : Nat) (v2_ : Nat) (v3_ : Nat) (v4_ : Nat) (v5_ : List AV) (v6_ : Nat) (v7_ : Nat) : Fr := (mkF 58 [(0, (AV.osl 0 v1_ 9 0 v2_)), (2, (AV.int .i64 ((v3_ : Nat) : Int))), (4, (AV.func v4_ v5_)), (10, (AV.int .i64 ((v6_ : Nat) : Int))), (11, (AV.int .i64 ((v7_ : Nat) : Int)))])
set_option maxRecDepth 100000 in
theorem mCr_step (f : Nat) (xs : List AV) (p n g : Nat) (i j : Nat) (l : List Card) (hxs : AV.bdds 1 xs = true) (hn : n = l.length) (hnb : n < 1048576) (hi : 0 < i) (hj : 0 < j) (hip : i ≤ p) (hjp : p + j ≤ n) {eX : Ex} {FX : Fr} {HX : Heap} (k1 : (((i : Nat) : Int) != ((j : Nat) : Int)) = true → (decide (((i : Nat) : Int) > ((j : Nat) : Int))) = true → LoopTo (codeQ Try.prog (X mCr_ann) (loopOf Try.f120 0)) (some [0, 2, 4, 10, 11]) (some [0, 2, 4, 10, 11]) (mkF 58 [(0, (.osl 0 g 9 0 n)), (2, (.int .i64 ((p : Nat) : Int))), (4, (.func f xs)), (10, (.int .i64 ((i - j : Nat) : Int))), (11, (.int .i64 ((j : Nat) : Int)))]) ([⟨g, 9, (List.map Card.row (swapL (p - i) p j l)), none⟩] : Heap) eX FX HX) (k2 : (((i : Nat) : Int) != ((j : Nat) : Int)) = true → (decide (((i : Nat) : Int) > ((j : Nat) : Int))) = false → LoopTo (codeQ Try.prog (X mCr_ann) (loopOf Try.f120 0)) (some [0, 2, 4, 10, 11]) (some [0, 2, 4, 10, 11]) (mkF 58 [(0, (.osl 0 g 9 0 n)), (2, (.int .i64 ((p : Nat) : Int))), (4, (.func f xs)), (10, (.int .i64 ((i : Nat) : Int))), (11, (.int .i64 ((j - i : Nat) : Int)))]) (Vic_4 g p i j l) eX FX HX) (k3 : (((i : Nat) : Int) != ((j : Nat) : Int)) = false → ((.exit 0 : Ex), (Vic_5 g n p f xs i j), ([⟨g, 9, (List.map Card.row l), none⟩] : Heap)) = (eX, FX, HX)) : LoopTo (codeQ Try.prog (X mCr_ann) (loopOf Try.f120 0)) (some [0, 2, 4, 10, 11]) (some [0, 2, 4, 10, 11]) (Vic_5 g n p f xs i j) ([⟨g, 9, (List.map Card.row l), none⟩] : Heap) eX FX HX :=
  stepO (.r (.g (.two (((i : Nat) : Int) != ((j : Nat) : Int)) (fun h1 h1' => (.r (.g (.two (decide (((i : Nat) : Int) > ((j : Nat) : Int))) (fun h2 h2' => (.r (.y 3 (.int .i64 (IntKind.i64.wrap (((p : Nat) : Int) - ((i : Nat) : Int)))) (AV.int .i64 ((p - i : Nat) : Int)) (Yes.add ow ow ow) (.ch 7 ([⟨g, 9, (List.map Card.row (swapL (p - i) p j l)), none⟩] : Heap) (mCw_at f xs (p - i) p j n g l (by first | exact hxs | omega) (by first | exact hxs | omega) (by first | exact hxs | omega) (by first | exact hxs | omega) (by first | exact hxs | omega) ([] : Heap)) (.g (.r (.y 2 (.int .i64 (IntKind.i64.wrap (((i : Nat) : Int) - ((j : Nat) : Int)))) (AV.int .i64 ((i - j : Nat) : Int)) (Yes.add ow ow ow) (.g (.l (k1 h1 h2)))))))))) (fun h2 h2' => (.r (.y 3 (.int .i64 (IntKind.i64.wrap (((p : Nat) : Int) - ((i : Nat) : Int)))) (AV.int .i64 ((p - i : Nat) : Int)) (Yes.add ow ow ow) (.y 6 (.int .i64 (IntKind.i64.wrap (((p : Nat) : Int) + ((j : Nat) : Int)))) (AV.int .i64 ((p + j : Nat) : Int)) (Yes.add ow ow ow) (.y 8 (.int .i64 (IntKind.i64.wrap (((p + j : Nat) : Int) - ((i : Nat) : Int)))) (AV.int .i64 ((p + j - i : Nat) : Int)) (Yes.add ow ow ow) (.ch 11 (Vic_4 g p i j l) (mCw_at f xs (p - i) (p + j - i) i n g l (by first | exact hxs | omega) (by first | exact hxs | omega) (by first | exact hxs | omega) (by first | exact hxs | omega) (by first | exact hxs | omega) ([] : Heap)) (.g (.r (.y 2 (.int .i64 (IntKind.i64.wrap (((j : Nat) : Int) - ((i : Nat) : Int)))) (AV.int .i64 ((j - i : Nat) : Int)) (Yes.add ow ow ow) (.g (.l (k2 h1 h2)))))))))))))))) (fun h1 h1' => (.l (k3 h1))))))
theorem mCr_loop (f : Nat) (xs : List AV) (p n g : Nat) (hxs : AV.bdds 1 xs = true) (r : Nat) : ∀ (i j : Nat) (l : List Card), i + j ≤ r + 1 → n = l.length → n < 1048576 → 0 < i → 0 < j → i ≤ p → p + j ≤ n →
    LoopTo (codeQ Try.prog (X mCr_ann) (loopOf Try.f120 0)) (some [0, 2, 4, 10, 11]) (some [0, 2, 4, 10, 11]) (mkF 58 [(0, (.osl 0 g 9 0 n)), (2, (.int .i64 ((p : Nat) : Int))), (4, (.func f xs)), (10, (.int .i64 ((i : Nat) : Int))), (11, (.int .i64 ((j : Nat) : Int)))]) ([⟨g, 9, (List.map Card.row l), none⟩] : Heap) (.exit 0) (mkF 58 [(0, (.osl 0 g 9 0 n)), (2, (.int .i64 ((p : Nat) : Int))), (4, (.func f xs)), (10, (.int .i64 (((rotS p r i j l).2 : Nat) : Int))), (11, (.int .i64 (((rotS p r i j l).2 : Nat) : Int)))]) ([⟨g, 9, (List.map Card.row (rotS p r i j l).1), none⟩] : Heap) := by
  induction r with
  | zero => intro i j l h1 hn hnb hi hj; omega
  | succ r ih =>
    intro i j l h1 hn hnb hi hj hip hjp
    refine mCr_step f xs p n g i j l hxs hn hnb hi hj hip hjp (fun h2 h3 => ?_) (fun h2 h3 => ?_) (fun h2 => ?_)
    · have h2' : i ≠ j := by simp at h2; omega
      have h3' : j < i := by simp at h3; omega
      simp only [rotS, if_neg h2', if_pos h3']
      exact ih (i - j) j _ ow (by rw [swapL_len ow ow]; exact hn) hnb ow hj ow hjp
    · have h2' : i ≠ j := by simp at h2; omega
      have h3' : ¬ j < i := by simp at h3; omega
      simp only [rotS, if_neg h2', if_neg h3']
      exact ih i (j - i) _ ow (by rw [swapL_len ow ow]; exact hn) hnb hi ow hip ow
    · have h2' : i = j := by simp at h2; omega
      simp only [rotS, if_pos h2']
      subst h2'
      rfl
@[simp] abbrev Vic_6 (v1_ : Nat) (v2_ : Nat) (v3_ : Nat) (v4_ : Nat) (v5_ : List AV) (v6_ : Nat) (v7_ : Nat) (v8_ : List Card) : Fr := (mkF 58 [(0, (AV.osl 0 v1_ 9 0 v2_)), (2, (AV.int .i64 ((v3_ : Nat) : Int))), (4, (AV.func v4_ v5_)), (10, (AV.int .i64 (((rotS v3_ (v3_ - v6_ + (v7_ - v3_)) (v3_ - v6_) (v7_ - v3_) v8_).2 : Nat) : Int))), (11, (AV.int .i64 (((rotS v3_ (v3_ - v6_ + (v7_ - v3_)) (v3_ - v6_) (v7_ - v3_) v8_).2 : Nat) : Int)))])
set_option maxRecDepth 100000 in
theorem mCr_spec (f : Nat) (xs : List AV) (a p b n g : Nat) (l : List Card) (hxs : AV.bdds 1 xs = true) (hn : n = l.length) (hnb : n < 1048576) (hap : a < p) (hpb : p < b) (hbn : b ≤ n) (hl2 : (rotS p (p - a + (b - p)) (p - a) (b - p) l).1.length = l.length) (hk : (rotS p (p - a + (b - p)) (p - a) (b - p) l).2 ≤ p - a) (hk2 : (rotS p (p - a + (b - p)) (p - a) (b - p) l).2 ≤ b - p) : ACalls Try.prog 120 [(.osl 0 g 9 0 n), (.int .i64 ((a : Nat) : Int)), (.int .i64 ((p : Nat) : Int)), (.int .i64 ((b : Nat) : Int)), (.func f xs)] ([⟨g, 9, (List.map Card.row l), none⟩] : Heap) ((AV.tup []), ([⟨g, 9, (List.map Card.row (rotL a p b l)), none⟩] : Heap)) :=
  specO (fn := Try.f120) (ann := mCr_ann) (Has.o Try.func120) (.r (.y 2 (.int .i64 (IntKind.i64.wrap (((p : Nat) : Int) - ((a : Nat) : Int)))) (AV.int .i64 ((p - a : Nat) : Int)) (Yes.add ow ow ow) (.g (.r (.y 2 (.int .i64 (IntKind.i64.wrap (((b : Nat) : Int) - ((p : Nat) : Int)))) (AV.int .i64 ((b - p : Nat) : Int)) (Yes.add ow ow ow) (.g (.loop (Vic_6 g n p f xs a b l) (show LoopTo (codeQ Try.prog (X mCr_ann) (loopOf Try.f120 0)) (some [0, 2, 4, 10, 11]) (some [0, 2, 4, 10, 11]) (mkF 58 [(0, (.osl 0 g 9 0 n)), (2, (.int .i64 ((p : Nat) : Int))), (4, (.func f xs)), (10, (.int .i64 ((p - a : Nat) : Int))), (11, (.int .i64 ((b - p : Nat) : Int)))]) ([⟨g, 9, (List.map Card.row l), none⟩] : Heap) (.exit 0) (Vic_6 g n p f xs a b l) ([⟨g, 9, (List.map Card.row (rotS p (p - a + (b - p)) (p - a) (b - p) l).1), none⟩] : Heap) from (mCr_loop f xs p n g hxs (p - a + (b - p)) (p - a) (b - p) l ow hn hnb ow ow ow ow)) (.r (.y 3 (.int .i64 (IntKind.i64.wrap (((p : Nat) : Int) - (((rotS p (p - a + (b - p)) (p - a) (b - p) l).2 : Nat) : Int)))) (AV.int .i64 ((p - (rotS p (p - a + (b - p)) (p - a) (b - p) l).2 : Nat) : Int)) (Yes.add ow ow ow) (.ch 7 ([⟨g, 9, (List.map Card.row (swapL (p - (rotS p (p - a + (b - p)) (p - a) (b - p) l).2) p (rotS p (p - a + (b - p)) (p - a) (b - p) l).2 (rotS p (p - a + (b - p)) (p - a) (b - p) l).1)), none⟩] : Heap) (mCw_at f xs (p - (rotS p (p - a + (b - p)) (p - a) (b - p) l).2) p (rotS p (p - a + (b - p)) (p - a) (b - p) l).2 n g (rotS p (p - a + (b - p)) (p - a) (b - p) l).1 (by first | exact hxs | omega) (by first | exact hxs | omega) (by first | exact hxs | omega) (by first | exact hxs | omega) (by first | exact hxs | omega) ([] : Heap)) (.g (.f 1 (AV.tup []) (.e (AV.tup []))))))))))))))
theorem mCr_at (f : Nat) (xs : List AV) (a p b n g : Nat) (l : List Card) (hxs : AV.bdds 1 xs = true) (hn : n = l.length) (hnb : n < 1048576) (hap : a < p) (hpb : p < b) (hbn : b ≤ n) (hl2 : (rotS p (p - a + (b - p)) (p - a) (b - p) l).1.length = l.length) (hk : (rotS p (p - a + (b - p)) (p - a) (b - p) l).2 ≤ p - a) (hk2 : (rotS p (p - a + (b - p)) (p - a) (b - p) l).2 ≤ b - p) (H : Heap) : ACalls Try.prog 120 [(.osl 0 g 9 0 n), (.int .i64 ((a : Nat) : Int)), (.int .i64 ((p : Nat) : Int)), (.int .i64 ((b : Nat) : Int)), (.func f xs)] (([⟨g, 9, (List.map Card.row l), none⟩] : Heap) ++ H) ((AV.tup []), ([⟨g, 9, (List.map Card.row (rotL a p b l)), none⟩] : Heap) ++ H) := (mCr_spec f xs a p b n g l hxs hn hnb hap hpb hbn hl2 hk hk2).ext (by simp [AV.bdds, AV.bdd, *]) kr ob ob kr H
def sC_ann : Ann := { base := 1, fin := some 1, live := [(3, [0, 1, 4, 10, 11]), (9, [0, 10, 13]), (15, [0, 2, 4, 14, 15]), (21, [0, 14, 17]), (33, [0, 1, 2, 3, 4, 18, 19, 20, 21, 22])], out := [(3, [0, 1, 10]), (9, [0, 10, 13]), (15, [0, 2, 14]), (21, [0, 14, 17]), (33, [0, 1, 2, 3, 4, 18, 19, 20])] }
set_option maxRecDepth 100000 in
theorem sCa_step (cmp : Card → Card → Int) (f : Nat) (xs : List AV) (hc : ∀ (x y : Card) (H : Heap), ACalls Try.prog f ([AV.agg (Card.row x), AV.agg (Card.row y)] ++ xs) H (AV.int .i64 (cmp x y), H)) (a n g : Nat) (l : List Card) (lo hi : Nat) (hn : n = l.length) (hnb : n < 1048576) (ha : a < n) (hlh : lo ≤ hi) (hhi : hi ≤ n) {eX : Ex} {FX : Fr} {HX : Heap} (k1 : (decide (((lo : Nat) : Int) < ((hi : Nat) : Int))) = true → (decide ((cmp (nth l ((lo + hi) / 2)) (nth l a)) < 0)) = true → LoopTo (codeQ Try.prog (X sC_ann) (loopOf Try.f111 0)) (some [0, 1, 4, 10, 11]) (some [0, 1, 10]) (mkF 220 [(0, (.osl 0 g 9 0 n)), (1, (.int .i64 ((a : Nat) : Int))), (4, (.func f xs)), (10, (.int .i64 ((((lo + hi) / 2) + 1 : Nat) : Int))), (11, (.int .i64 ((hi : Nat) : Int)))]) ([⟨g, 9, (List.map Card.row l), none⟩] : Heap) eX FX HX) (k2 : (decide (((lo : Nat) : Int) < ((hi : Nat) : Int))) = true → (decide ((cmp (nth l ((lo + hi) / 2)) (nth l a)) < 0)) = false → LoopTo (codeQ Try.prog (X sC_ann) (loopOf Try.f111 0)) (some [0, 1, 4, 10, 11]) (some [0, 1, 10]) (mkF 220 [(0, (.osl 0 g 9 0 n)), (1, (.int .i64 ((a : Nat) : Int))), (4, (.func f xs)), (10, (.int .i64 ((lo : Nat) : Int))), (11, (.int .i64 ((((lo + hi) / 2) : Nat) : Int)))]) ([⟨g, 9, (List.map Card.row l), none⟩] : Heap) eX FX HX) (k3 : (decide (((lo : Nat) : Int) < ((hi : Nat) : Int))) = false → ((.exit 0 : Ex), (mkF 220 [(0, (.osl 0 g 9 0 n)), (1, (.int .i64 ((a : Nat) : Int))), (10, (.int .i64 ((lo : Nat) : Int)))]), ([⟨g, 9, (List.map Card.row l), none⟩] : Heap)) = (eX, FX, HX)) : LoopTo (codeQ Try.prog (X sC_ann) (loopOf Try.f111 0)) (some [0, 1, 4, 10, 11]) (some [0, 1, 10]) (mkF 220 [(0, (.osl 0 g 9 0 n)), (1, (.int .i64 ((a : Nat) : Int))), (4, (.func f xs)), (10, (.int .i64 ((lo : Nat) : Int))), (11, (.int .i64 ((hi : Nat) : Int)))]) ([⟨g, 9, (List.map Card.row l), none⟩] : Heap) eX FX HX :=
  stepO (.r (.g (.two (decide (((lo : Nat) : Int) < ((hi : Nat) : Int))) (fun h1 h1' => (.r (.y 2 (.int .i64 (IntKind.i64.wrap (((lo : Nat) : Int) + ((hi : Nat) : Int)))) (AV.int .i64 ((lo + hi : Nat) : Int)) (Yes.add ow ow ow) (.y 5 (AV.int .i64 (IntKind.i64.wrap (Int.fdiv (IntKind.u64.wrap ((lo + hi : Nat) : Int)) (2 ^ (min (Int.toNat 1) 64))))) (AV.int .i64 ((((lo + hi) / 2) : Nat) : Int)) (Yes.int (half_nat ow (rfl))) (.g (.r (.io 3 0 g 9 9 0 n ((((lo + hi) / 2) : Nat) : Int) ((lo + hi) / 2) (IdxOsl.mk _ ow ow) (.t 4 (AV.agg (Card.row (nth l ((lo + hi) / 2)))) ([⟨g, 9, (List.map Card.row l), none⟩] : Heap) (load_row (rowAt_map (row := Card.row) (l := l) (k := 9) (room := none) kr om) kr : LoadTo tt 58 0 ([⟨g, 9, (List.map Card.row l), none⟩] : Heap) (rowAt ([⟨g, 9, (List.map Card.row l), none⟩] : Heap) 0 g ((lo + hi) / 2)) = some ((AV.agg (Card.row (nth l ((lo + hi) / 2)))), ([⟨g, 9, (List.map Card.row l), none⟩] : Heap))) (.io 7 0 g 9 9 0 n ((a : Nat) : Int) a (IdxOsl.mk _ ow ow) (.t 8 (AV.agg (Card.row (nth l a))) ([⟨g, 9, (List.map Card.row l), none⟩] : Heap) (load_row (rowAt_map (row := Card.row) (l := l) (k := 9) (room := none) kr om) kr : LoadTo tt 58 0 ([⟨g, 9, (List.map Card.row l), none⟩] : Heap) (rowAt ([⟨g, 9, (List.map Card.row l), none⟩] : Heap) 0 g a) = some ((AV.agg (Card.row (nth l a))), ([⟨g, 9, (List.map Card.row l), none⟩] : Heap))) (.c 9 (hc (nth l ((lo + hi) / 2)) (nth l a) ([⟨g, 9, (List.map Card.row l), none⟩] : Heap)) (.g (.two (decide ((cmp (nth l ((lo + hi) / 2)) (nth l a)) < 0)) (fun h2 h2' => (.r (.y 1 (.int .i64 (IntKind.i64.wrap (((((lo + hi) / 2) : Nat) : Int) + 1))) (AV.int .i64 ((((lo + hi) / 2) + 1 : Nat) : Int)) (Yes.add ow ow ow) (.g (.l (k1 h1 h2)))))) (fun h2 h2' => (.r (.g (.l (k2 h1 h2)))))))))))))))))) (fun h1 h1' => (.l (k3 h1))))))
theorem sCa_loop (cmp : Card → Card → Int) (f : Nat) (xs : List AV) (hc : ∀ (x y : Card) (H : Heap), ACalls Try.prog f ([AV.agg (Card.row x), AV.agg (Card.row y)] ++ xs) H (AV.int .i64 (cmp x y), H)) (a n g : Nat) (l : List Card) (hn : n = l.length) (hnb : n < 1048576) (ha : a < n) (r : Nat) : ∀ (lo hi : Nat), hi - lo ≤ r → lo ≤ hi → hi ≤ n →
    LoopTo (codeQ Try.prog (X sC_ann) (loopOf Try.f111 0)) (some [0, 1, 4, 10, 11]) (some [0, 1, 10]) (mkF 220 [(0, (.osl 0 g 9 0 n)), (1, (.int .i64 ((a : Nat) : Int))), (4, (.func f xs)), (10, (.int .i64 ((lo : Nat) : Int))), (11, (.int .i64 ((hi : Nat) : Int)))]) ([⟨g, 9, (List.map Card.row l), none⟩] : Heap) (.exit 0) (mkF 220 [(0, (.osl 0 g 9 0 n)), (1, (.int .i64 ((a : Nat) : Int))), (10, (.int .i64 (((bsr (fun c => decide (cmp (nth l c) (nth l a) < 0)) r lo hi) : Nat) : Int)))]) ([⟨g, 9, (List.map Card.row l), none⟩] : Heap) := by
  induction r with
  | zero =>
    intro lo hi h1 h2 h3
    obtain rfl : lo = hi := by omega
    refine sCa_step cmp f xs hc a n g l lo lo hn hnb ha h2 h3 (fun h _ => by simp at h) (fun h _ => by simp at h) (fun _ => ?_)
    simp only [bsr]
  | succ r ih =>
    intro lo hi h1 h2 h3
    refine sCa_step cmp f xs hc a n g l lo hi hn hnb ha h2 h3 (fun h4 h5 => ?_) (fun h4 h5 => ?_) (fun h4 => ?_)
    · have h4' : lo < hi := by simp at h4; omega
      simp only [bsr, if_pos h4']
      rw [if_pos (by simpa using h5)]
      exact ih ((lo + hi) / 2 + 1) hi ow ow ow
    · have h4' : lo < hi := by simp at h4; omega
      simp only [bsr, if_pos h4']
      rw [if_neg (by simpa using h5)]
      exact ih lo ((lo + hi) / 2) ow ow ow
    · have h4' : ¬ lo < hi := by simp at h4; omega
      simp only [bsr, if_neg h4']
set_option maxRecDepth 100000 in
theorem sCb_step (cmp : Card → Card → Int) (f : Nat) (xs : List AV) (hc : ∀ (x y : Card) (H : Heap), ACalls Try.prog f ([AV.agg (Card.row x), AV.agg (Card.row y)] ++ xs) H (AV.int .i64 (cmp x y), H)) (p n g : Nat) (l : List Card) (lo hi : Nat) (hn : n = l.length) (hnb : n < 1048576) (ha : p < n) (hlh : lo ≤ hi) (hhi : hi ≤ n) {eX : Ex} {FX : Fr} {HX : Heap} (k1 : (decide (((lo : Nat) : Int) < ((hi : Nat) : Int))) = true → (!(decide ((cmp (nth l p) (nth l ((lo + hi) / 2))) < 0))) = true → LoopTo (codeQ Try.prog (X sC_ann) (loopOf Try.f111 2)) (some [0, 2, 4, 14, 15]) (some [0, 2, 14]) (mkF 220 [(0, (.osl 0 g 9 0 n)), (2, (.int .i64 ((p : Nat) : Int))), (4, (.func f xs)), (14, (.int .i64 ((((lo + hi) / 2) + 1 : Nat) : Int))), (15, (.int .i64 ((hi : Nat) : Int)))]) ([⟨g, 9, (List.map Card.row l), none⟩] : Heap) eX FX HX) (k2 : (decide (((lo : Nat) : Int) < ((hi : Nat) : Int))) = true → (!(decide ((cmp (nth l p) (nth l ((lo + hi) / 2))) < 0))) = false → LoopTo (codeQ Try.prog (X sC_ann) (loopOf Try.f111 2)) (some [0, 2, 4, 14, 15]) (some [0, 2, 14]) (mkF 220 [(0, (.osl 0 g 9 0 n)), (2, (.int .i64 ((p : Nat) : Int))), (4, (.func f xs)), (14, (.int .i64 ((lo : Nat) : Int))), (15, (.int .i64 ((((lo + hi) / 2) : Nat) : Int)))]) ([⟨g, 9, (List.map Card.row l), none⟩] : Heap) eX FX HX) (k3 : (decide (((lo : Nat) : Int) < ((hi : Nat) : Int))) = false → ((.exit 4 : Ex), (mkF 220 [(0, (.osl 0 g 9 0 n)), (2, (.int .i64 ((p : Nat) : Int))), (14, (.int .i64 ((lo : Nat) : Int)))]), ([⟨g, 9, (List.map Card.row l), none⟩] : Heap)) = (eX, FX, HX)) : LoopTo (codeQ Try.prog (X sC_ann) (loopOf Try.f111 2)) (some [0, 2, 4, 14, 15]) (some [0, 2, 14]) (mkF 220 [(0, (.osl 0 g 9 0 n)), (2, (.int .i64 ((p : Nat) : Int))), (4, (.func f xs)), (14, (.int .i64 ((lo : Nat) : Int))), (15, (.int .i64 ((hi : Nat) : Int)))]) ([⟨g, 9, (List.map Card.row l), none⟩] : Heap) eX FX HX :=
  stepO (.r (.g (.two (decide (((lo : Nat) : Int) < ((hi : Nat) : Int))) (fun h1 h1' => (.r (.y 2 (.int .i64 (IntKind.i64.wrap (((lo : Nat) : Int) + ((hi : Nat) : Int)))) (AV.int .i64 ((lo + hi : Nat) : Int)) (Yes.add ow ow ow) (.y 5 (AV.int .i64 (IntKind.i64.wrap (Int.fdiv (IntKind.u64.wrap ((lo + hi : Nat) : Int)) (2 ^ (min (Int.toNat 1) 64))))) (AV.int .i64 ((((lo + hi) / 2) : Nat) : Int)) (Yes.int (half_nat ow (rfl))) (.g (.r (.io 3 0 g 9 9 0 n ((p : Nat) : Int) p (IdxOsl.mk _ ow ow) (.t 4 (AV.agg (Card.row (nth l p))) ([⟨g, 9, (List.map Card.row l), none⟩] : Heap) (load_row (rowAt_map (row := Card.row) (l := l) (k := 9) (room := none) kr om) kr : LoadTo tt 58 0 ([⟨g, 9, (List.map Card.row l), none⟩] : Heap) (rowAt ([⟨g, 9, (List.map Card.row l), none⟩] : Heap) 0 g p) = some ((AV.agg (Card.row (nth l p))), ([⟨g, 9, (List.map Card.row l), none⟩] : Heap))) (.io 7 0 g 9 9 0 n ((((lo + hi) / 2) : Nat) : Int) ((lo + hi) / 2) (IdxOsl.mk _ ow ow) (.t 8 (AV.agg (Card.row (nth l ((lo + hi) / 2)))) ([⟨g, 9, (List.map Card.row l), none⟩] : Heap) (load_row (rowAt_map (row := Card.row) (l := l) (k := 9) (room := none) kr om) kr : LoadTo tt 58 0 ([⟨g, 9, (List.map Card.row l), none⟩] : Heap) (rowAt ([⟨g, 9, (List.map Card.row l), none⟩] : Heap) 0 g ((lo + hi) / 2)) = some ((AV.agg (Card.row (nth l ((lo + hi) / 2)))), ([⟨g, 9, (List.map Card.row l), none⟩] : Heap))) (.c 9 (hc (nth l p) (nth l ((lo + hi) / 2)) ([⟨g, 9, (List.map Card.row l), none⟩] : Heap)) (.g (.two (!(decide ((cmp (nth l p) (nth l ((lo + hi) / 2))) < 0))) (fun h2 h2' => (.r (.y 1 (.int .i64 (IntKind.i64.wrap (((((lo + hi) / 2) : Nat) : Int) + 1))) (AV.int .i64 ((((lo + hi) / 2) + 1 : Nat) : Int)) (Yes.add ow ow ow) (.g (.l (k1 h1 h2)))))) (fun h2 h2' => (.r (.g (.l (k2 h1 h2)))))))))))))))))) (fun h1 h1' => (.l (k3 h1))))))
theorem sCb_loop (cmp : Card → Card → Int) (f : Nat) (xs : List AV) (hc : ∀ (x y : Card) (H : Heap), ACalls Try.prog f ([AV.agg (Card.row x), AV.agg (Card.row y)] ++ xs) H (AV.int .i64 (cmp x y), H)) (p n g : Nat) (l : List Card) (hn : n = l.length) (hnb : n < 1048576) (ha : p < n) (r : Nat) : ∀ (lo hi : Nat), hi - lo ≤ r → lo ≤ hi → hi ≤ n →
    LoopTo (codeQ Try.prog (X sC_ann) (loopOf Try.f111 2)) (some [0, 2, 4, 14, 15]) (some [0, 2, 14]) (mkF 220 [(0, (.osl 0 g 9 0 n)), (2, (.int .i64 ((p : Nat) : Int))), (4, (.func f xs)), (14, (.int .i64 ((lo : Nat) : Int))), (15, (.int .i64 ((hi : Nat) : Int)))]) ([⟨g, 9, (List.map Card.row l), none⟩] : Heap) (.exit 4) (mkF 220 [(0, (.osl 0 g 9 0 n)), (2, (.int .i64 ((p : Nat) : Int))), (14, (.int .i64 (((bsr (fun c => !decide (cmp (nth l p) (nth l c) < 0)) r lo hi) : Nat) : Int)))]) ([⟨g, 9, (List.map Card.row l), none⟩] : Heap) := by
  induction r with
  | zero =>
    intro lo hi h1 h2 h3
    obtain rfl : lo = hi := by omega
    refine sCb_step cmp f xs hc p n g l lo lo hn hnb ha h2 h3 (fun h _ => by simp at h) (fun h _ => by simp at h) (fun _ => ?_)
    simp only [bsr]
  | succ r ih =>
    intro lo hi h1 h2 h3
    refine sCb_step cmp f xs hc p n g l lo hi hn hnb ha h2 h3 (fun h4 h5 => ?_) (fun h4 h5 => ?_) (fun h4 => ?_)
    · have h4' : lo < hi := by simp at h4; omega
      simp only [bsr, if_pos h4']
      rw [if_pos (by simpa using h5)]
      exact ih ((lo + hi) / 2 + 1) hi ow ow ow
    · have h4' : lo < hi := by simp at h4; omega
      simp only [bsr, if_pos h4']
      rw [if_neg (by simpa using h5)]
      exact ih lo ((lo + hi) / 2) ow ow ow
    · have h4' : ¬ lo < hi := by simp at h4; omega
      simp only [bsr, if_neg h4']
set_option maxRecDepth 100000 in
theorem sCc_step (cmp : Card → Card → Int) (f : Nat) (xs : List AV) (hc : ∀ (x y : Card) (H : Heap), ACalls Try.prog f ([AV.agg (Card.row x), AV.agg (Card.row y)] ++ xs) H (AV.int .i64 (cmp x y), H)) (a p b mid nn q n g : Nat) (l : List Card) (lo hi : Nat) (hn : n = l.length) (hnb : n < 1048576) (hlh : lo ≤ hi) (hhi : hi ≤ n ∧ hi ≤ q + 1 ∧ q < n + lo) {eX : Ex} {FX : Fr} {HX : Heap} (k1 : (decide (((lo : Nat) : Int) < ((hi : Nat) : Int))) = true → (!(decide ((cmp (nth l (q - ((lo + hi) / 2))) (nth l ((lo + hi) / 2))) < 0))) = true → LoopTo (codeQ Try.prog (X sC_ann) (loopOf Try.f111 4)) (some [0, 1, 2, 3, 4, 18, 19, 20, 21, 22]) (some [0, 1, 2, 3, 4, 18, 19, 20]) (mkF 220 [(0, (.osl 0 g 9 0 n)), (1, (.int .i64 ((a : Nat) : Int))), (2, (.int .i64 ((p : Nat) : Int))), (3, (.int .i64 ((b : Nat) : Int))), (4, (.func f xs)), (18, (.int .i64 ((mid : Nat) : Int))), (19, (.int .i64 ((nn : Nat) : Int))), (20, (.int .i64 ((((lo + hi) / 2) + 1 : Nat) : Int))), (21, (.int .i64 ((hi : Nat) : Int))), (22, (.int .i64 ((q : Nat) : Int)))]) ([⟨g, 9, (List.map Card.row l), none⟩] : Heap) eX FX HX) (k2 : (decide (((lo : Nat) : Int) < ((hi : Nat) : Int))) = true → (!(decide ((cmp (nth l (q - ((lo + hi) / 2))) (nth l ((lo + hi) / 2))) < 0))) = false → LoopTo (codeQ Try.prog (X sC_ann) (loopOf Try.f111 4)) (some [0, 1, 2, 3, 4, 18, 19, 20, 21, 22]) (some [0, 1, 2, 3, 4, 18, 19, 20]) (mkF 220 [(0, (.osl 0 g 9 0 n)), (1, (.int .i64 ((a : Nat) : Int))), (2, (.int .i64 ((p : Nat) : Int))), (3, (.int .i64 ((b : Nat) : Int))), (4, (.func f xs)), (18, (.int .i64 ((mid : Nat) : Int))), (19, (.int .i64 ((nn : Nat) : Int))), (20, (.int .i64 ((lo : Nat) : Int))), (21, (.int .i64 ((((lo + hi) / 2) : Nat) : Int))), (22, (.int .i64 ((q : Nat) : Int)))]) ([⟨g, 9, (List.map Card.row l), none⟩] : Heap) eX FX HX) (k3 : (decide (((lo : Nat) : Int) < ((hi : Nat) : Int))) = false → ((.exit 8 : Ex), (mkF 220 [(0, (.osl 0 g 9 0 n)), (1, (.int .i64 ((a : Nat) : Int))), (2, (.int .i64 ((p : Nat) : Int))), (3, (.int .i64 ((b : Nat) : Int))), (4, (.func f xs)), (18, (.int .i64 ((mid : Nat) : Int))), (19, (.int .i64 ((nn : Nat) : Int))), (20, (.int .i64 ((lo : Nat) : Int)))]), ([⟨g, 9, (List.map Card.row l), none⟩] : Heap)) = (eX, FX, HX)) : LoopTo (codeQ Try.prog (X sC_ann) (loopOf Try.f111 4)) (some [0, 1, 2, 3, 4, 18, 19, 20, 21, 22]) (some [0, 1, 2, 3, 4, 18, 19, 20]) (mkF 220 [(0, (.osl 0 g 9 0 n)), (1, (.int .i64 ((a : Nat) : Int))), (2, (.int .i64 ((p : Nat) : Int))), (3, (.int .i64 ((b : Nat) : Int))), (4, (.func f xs)), (18, (.int .i64 ((mid : Nat) : Int))), (19, (.int .i64 ((nn : Nat) : Int))), (20, (.int .i64 ((lo : Nat) : Int))), (21, (.int .i64 ((hi : Nat) : Int))), (22, (.int .i64 ((q : Nat) : Int)))]) ([⟨g, 9, (List.map Card.row l), none⟩] : Heap) eX FX HX :=
  stepO (.r (.g (.two (decide (((lo : Nat) : Int) < ((hi : Nat) : Int))) (fun h1 h1' => (.r (.y 2 (.int .i64 (IntKind.i64.wrap (((lo : Nat) : Int) + ((hi : Nat) : Int)))) (AV.int .i64 ((lo + hi : Nat) : Int)) (Yes.add ow ow ow) (.y 5 (AV.int .i64 (IntKind.i64.wrap (Int.fdiv (IntKind.u64.wrap ((lo + hi : Nat) : Int)) (2 ^ (min (Int.toNat 1) 64))))) (AV.int .i64 ((((lo + hi) / 2) : Nat) : Int)) (Yes.int (half_nat ow (rfl))) (.g (.r (.y 4 (.int .i64 (IntKind.i64.wrap (((q : Nat) : Int) - ((((lo + hi) / 2) : Nat) : Int)))) (AV.int .i64 ((q - ((lo + hi) / 2) : Nat) : Int)) (Yes.add ow ow ow) (.io 5 0 g 9 9 0 n ((q - ((lo + hi) / 2) : Nat) : Int) (q - ((lo + hi) / 2)) (IdxOsl.mk _ ow ow) (.t 6 (AV.agg (Card.row (nth l (q - ((lo + hi) / 2))))) ([⟨g, 9, (List.map Card.row l), none⟩] : Heap) (load_row (rowAt_map (row := Card.row) (l := l) (k := 9) (room := none) kr om) kr : LoadTo tt 58 0 ([⟨g, 9, (List.map Card.row l), none⟩] : Heap) (rowAt ([⟨g, 9, (List.map Card.row l), none⟩] : Heap) 0 g (q - ((lo + hi) / 2))) = some ((AV.agg (Card.row (nth l (q - ((lo + hi) / 2))))), ([⟨g, 9, (List.map Card.row l), none⟩] : Heap))) (.io 9 0 g 9 9 0 n ((((lo + hi) / 2) : Nat) : Int) ((lo + hi) / 2) (IdxOsl.mk _ ow ow) (.t 10 (AV.agg (Card.row (nth l ((lo + hi) / 2)))) ([⟨g, 9, (List.map Card.row l), none⟩] : Heap) (load_row (rowAt_map (row := Card.row) (l := l) (k := 9) (room := none) kr om) kr : LoadTo tt 58 0 ([⟨g, 9, (List.map Card.row l), none⟩] : Heap) (rowAt ([⟨g, 9, (List.map Card.row l), none⟩] : Heap) 0 g ((lo + hi) / 2)) = some ((AV.agg (Card.row (nth l ((lo + hi) / 2)))), ([⟨g, 9, (List.map Card.row l), none⟩] : Heap))) (.c 11 (hc (nth l (q - ((lo + hi) / 2))) (nth l ((lo + hi) / 2)) ([⟨g, 9, (List.map Card.row l), none⟩] : Heap)) (.g (.two (!(decide ((cmp (nth l (q - ((lo + hi) / 2))) (nth l ((lo + hi) / 2))) < 0))) (fun h2 h2' => (.r (.y 1 (.int .i64 (IntKind.i64.wrap (((((lo + hi) / 2) : Nat) : Int) + 1))) (AV.int .i64 ((((lo + hi) / 2) + 1 : Nat) : Int)) (Yes.add ow ow ow) (.g (.l (k1 h1 h2)))))) (fun h2 h2' => (.r (.g (.l (k2 h1 h2))))))))))))))))))) (fun h1 h1' => (.l (k3 h1))))))
theorem sCc_loop (cmp : Card → Card → Int) (f : Nat) (xs : List AV) (hc : ∀ (x y : Card) (H : Heap), ACalls Try.prog f ([AV.agg (Card.row x), AV.agg (Card.row y)] ++ xs) H (AV.int .i64 (cmp x y), H)) (a p b mid nn q n g : Nat) (l : List Card) (hn : n = l.length) (hnb : n < 1048576) (r : Nat) : ∀ (lo hi : Nat), hi - lo ≤ r → lo ≤ hi → hi ≤ n ∧ hi ≤ q + 1 ∧ q < n + lo →
    LoopTo (codeQ Try.prog (X sC_ann) (loopOf Try.f111 4)) (some [0, 1, 2, 3, 4, 18, 19, 20, 21, 22]) (some [0, 1, 2, 3, 4, 18, 19, 20]) (mkF 220 [(0, (.osl 0 g 9 0 n)), (1, (.int .i64 ((a : Nat) : Int))), (2, (.int .i64 ((p : Nat) : Int))), (3, (.int .i64 ((b : Nat) : Int))), (4, (.func f xs)), (18, (.int .i64 ((mid : Nat) : Int))), (19, (.int .i64 ((nn : Nat) : Int))), (20, (.int .i64 ((lo : Nat) : Int))), (21, (.int .i64 ((hi : Nat) : Int))), (22, (.int .i64 ((q : Nat) : Int)))]) ([⟨g, 9, (List.map Card.row l), none⟩] : Heap) (.exit 8) (mkF 220 [(0, (.osl 0 g 9 0 n)), (1, (.int .i64 ((a : Nat) : Int))), (2, (.int .i64 ((p : Nat) : Int))), (3, (.int .i64 ((b : Nat) : Int))), (4, (.func f xs)), (18, (.int .i64 ((mid : Nat) : Int))), (19, (.int .i64 ((nn : Nat) : Int))), (20, (.int .i64 (((bsr (fun c => !decide (cmp (nth l (q - c)) (nth l c) < 0)) r lo hi) : Nat) : Int)))]) ([⟨g, 9, (List.map Card.row l), none⟩] : Heap) := by
  induction r with
  | zero =>
    intro lo hi h1 h2 h3
    obtain rfl : lo = hi := by omega
    refine sCc_step cmp f xs hc a p b mid nn q n g l lo lo hn hnb h2 h3 (fun h _ => by simp at h) (fun h _ => by simp at h) (fun _ => ?_)
    simp only [bsr]
  | succ r ih =>
    intro lo hi h1 h2 h3
    refine sCc_step cmp f xs hc a p b mid nn q n g l lo hi hn hnb h2 h3 (fun h4 h5 => ?_) (fun h4 h5 => ?_) (fun h4 => ?_)
    · have h4' : lo < hi := by simp at h4; omega
      simp only [bsr, if_pos h4']
      rw [if_pos (by simpa using h5)]
      exact ih ((lo + hi) / 2 + 1) hi ow ow ow
    · have h4' : lo < hi := by simp at h4; omega
      simp only [bsr, if_pos h4']
      rw [if_neg (by simpa using h5)]
      exact ih lo ((lo + hi) / 2) ow ow ow
    · have h4' : ¬ lo < hi := by simp at h4; omega
      simp only [bsr, if_neg h4']
@[simp] abbrev Vic_7 (v1_ : Nat) (v2_ : List Card) (v3_ : Nat) : Heap := [⟨v1_, 9, (List.map Card.row ((v2_.set v3_ (nth v2_ (v3_ + 1))).set (v3_ + 1) (nth v2_ v3_))), none⟩]
@[simp] abbrev Vic_8 (v1_ : Nat) (v2_ : Nat) (v3_ : Nat) (v4_ : Nat) : Fr := (mkF 220 [(0, (AV.osl 0 v1_ 9 0 v2_)), (10, (AV.int .i64 ((v3_ : Nat) : Int))), (13, (AV.int .i64 ((v4_ : Nat) : Int)))])
set_option maxRecDepth 100000 in
theorem sCu_step (i : Nat) (n : Nat) (g : Nat) (l : List Card) (kk : Nat) (hi1 : 1 ≤ i) (hin : i ≤ n) (hnb : n < 1048576) (hn : n = l.length) (hle_ : kk ≤ (i - 1)) {eX : Ex} {FX : Fr} {HX : Heap} (k1 : (decide (((kk : Nat) : Int) < ((i - 1 : Nat) : Int))) = true → LoopTo (codeQ Try.prog (X sC_ann) (loopOf Try.f111 1)) (some [0, 10, 13]) (some [0, 10, 13]) (mkF 220 [(0, (.osl 0 g 9 0 n)), (10, (.int .i64 ((i : Nat) : Int))), (13, (.int .i64 ((kk + 1 : Nat) : Int)))]) (Vic_7 g l kk) eX FX HX) (k2 : (decide (((kk : Nat) : Int) < ((i - 1 : Nat) : Int))) = false → ((.exit 2 : Ex), (Vic_8 g n i kk), ([⟨g, 9, (List.map Card.row l), none⟩] : Heap)) = (eX, FX, HX)) : LoopTo (codeQ Try.prog (X sC_ann) (loopOf Try.f111 1)) (some [0, 10, 13]) (some [0, 10, 13]) (Vic_8 g n i kk) ([⟨g, 9, (List.map Card.row l), none⟩] : Heap) eX FX HX :=
  stepO (.r (.y 2 (.int .i64 (IntKind.i64.wrap (((i : Nat) : Int) - 1))) (AV.int .i64 ((i - 1 : Nat) : Int)) (Yes.add ow ow ow) (.g (.two (decide (((kk : Nat) : Int) < ((i - 1 : Nat) : Int))) (fun h1 h1' => (.r (.y 4 (.int .i64 (IntKind.i64.wrap (((kk : Nat) : Int) + 1))) (AV.int .i64 ((kk + 1 : Nat) : Int)) (Yes.add ow ow ow) (.y 7 (.int .i64 (IntKind.i64.wrap (((kk : Nat) : Int) + 1))) (AV.int .i64 ((kk + 1 : Nat) : Int)) (Yes.add ow ow ow) (.io 8 0 g 9 9 0 n ((kk + 1 : Nat) : Int) (kk + 1) (IdxOsl.mk _ ow ow) (.t 9 (AV.agg (Card.row (nth l (kk + 1)))) ([⟨g, 9, (List.map Card.row l), none⟩] : Heap) (load_row (rowAt_map (row := Card.row) (l := l) (k := 9) (room := none) kr om) kr : LoadTo tt 58 0 ([⟨g, 9, (List.map Card.row l), none⟩] : Heap) (rowAt ([⟨g, 9, (List.map Card.row l), none⟩] : Heap) 0 g (kk + 1)) = some ((AV.agg (Card.row (nth l (kk + 1)))), ([⟨g, 9, (List.map Card.row l), none⟩] : Heap))) (.io 12 0 g 9 9 0 n ((kk : Nat) : Int) kk (IdxOsl.mk _ ow ow) (.t 13 (AV.agg (Card.row (nth l kk))) ([⟨g, 9, (List.map Card.row l), none⟩] : Heap) (load_row (rowAt_map (row := Card.row) (l := l) (k := 9) (room := none) kr om) kr : LoadTo tt 58 0 ([⟨g, 9, (List.map Card.row l), none⟩] : Heap) (rowAt ([⟨g, 9, (List.map Card.row l), none⟩] : Heap) 0 g kk) = some ((AV.agg (Card.row (nth l kk))), ([⟨g, 9, (List.map Card.row l), none⟩] : Heap))) (.io 14 0 g 9 9 0 n ((kk : Nat) : Int) kk (IdxOsl.mk _ ow ow) (.st 15 0 g kk 9 0 (AV.agg (Card.row (nth l (kk + 1)))) ([⟨g, 9, (List.map Card.row (l.set kk (nth l (kk + 1)))), none⟩] : Heap) (store_row (us := (Card.row (nth l (kk + 1)))) (rowAt_map (row := Card.row) (l := l) (k := 9) (room := none) kr om) kr (by simp [Card.row]) (by simp [setAt, fillAt, List.map_set, Card.row])) (.io 16 0 g 9 9 0 n ((kk + 1 : Nat) : Int) (kk + 1) (IdxOsl.mk _ ow ow) (.st 17 0 g (kk + 1) 9 0 (AV.agg (Card.row (nth l kk))) (Vic_7 g l kk) (store_row (us := (Card.row (nth l kk))) (rowAt_map (row := Card.row) (l := l.set kk (nth l (kk + 1))) (k := 9) (room := none) kr om) kr (by simp [Card.row]) (by simp [setAt, fillAt, List.map_set, Card.row])) (.g (.r (.y 1 (.int .i64 (IntKind.i64.wrap (((kk : Nat) : Int) + 1))) (AV.int .i64 ((kk + 1 : Nat) : Int)) (Yes.add ow ow ow) (.g (.l (k1 h1)))))))))))))))))) (fun h1 h1' => (.l (k2 h1)))))))
def sCu_f (i : Nat) (n : Nat) (g : Nat) (kk : Nat) (s : (List Card)) : (List Card) := ((s.set kk (nth s (kk + 1))).set (kk + 1) (nth s kk))
theorem sCu_loop (i : Nat) (n : Nat) (g : Nat) (hi1 : 1 ≤ i) (hin : i ≤ n) (hnb : n < 1048576)  (r_ : Nat) : ∀ (l : List Card) (kk : Nat) (sF : (List Card)), kk + r_ = (i - 1) → n = l.length → sF = iter (sCu_f i n g) r_ kk (l) →
    LoopTo (codeQ Try.prog (X sC_ann) (loopOf Try.f111 1)) (some [0, 10, 13]) (some [0, 10, 13]) (Vic_8 g n i kk) ([⟨g, 9, (List.map Card.row l), none⟩] : Heap) (.exit 2) (mkF 220 [(0, (.osl 0 g 9 0 n)), (10, (.int .i64 ((i : Nat) : Int))), (13, (.int .i64 (((i - 1) : Nat) : Int)))]) ([⟨g, 9, (List.map Card.row sF), none⟩] : Heap) := by
  induction r_ with
  | zero =>
    intro l kk sF hi_ hn  hF
    obtain rfl : (i - 1) = kk := by omega
    have e_ : sF = (l) := hF
    refine sCu_step i n g l (i - 1) hi1 hin hnb hn (Nat.le_refl _) (fun h => by simp at h <;> omega) (fun _ => ?_)
    first | done | rfl | (rw [e_]; done) | (rw [e_]; rfl)
  | succ r_ ih =>
    intro l kk sF hi_ hn  hF
    refine sCu_step i n g l kk hi1 hin hnb hn ow (fun h1 => ?_) (fun h => by simp at h <;> omega)
    · exact ih ((l.set kk (nth l (kk + 1))).set (kk + 1) (nth l kk)) (kk + 1) sF ow (by first | omega | assumption | (simp; done) | (simp; omega) | (simp [*]; done) | (simp [*]; omega))  (by rw [hF] <;> simp only [iter, sCu_f, if_true, Bool.false_eq_true, if_false])
theorem sCu_iter (i n g r k : Nat) (l : List Card) : shU r k l = iter (sCu_f i n g) r k l := rfl
@[simp] abbrev Vic_9 (v1_ : Nat) (v2_ : List Card) (v3_ : Nat) : Heap := [⟨v1_, 9, (List.map Card.row ((v2_.set v3_ (nth v2_ (v3_ - 1))).set (v3_ - 1) (nth v2_ v3_))), none⟩]
@[simp] abbrev Vic_10 (v1_ : Nat) (v2_ : Nat) (v3_ : Nat) (v4_ : Nat) : Fr := (mkF 220 [(0, (AV.osl 0 v1_ 9 0 v2_)), (14, (AV.int .i64 ((v3_ : Nat) : Int))), (17, (AV.int .i64 ((v4_ : Nat) : Int)))])
set_option maxRecDepth 100000 in
theorem sCd_step (i kk n g : Nat) (l : List Card) (hn : n = l.length) (hnb : n < 1048576) (hk : kk < n) {eX : Ex} {FX : Fr} {HX : Heap} (k1 : (decide (((kk : Nat) : Int) > ((i : Nat) : Int))) = true → LoopTo (codeQ Try.prog (X sC_ann) (loopOf Try.f111 3)) (some [0, 14, 17]) (some [0, 14, 17]) (mkF 220 [(0, (.osl 0 g 9 0 n)), (14, (.int .i64 ((i : Nat) : Int))), (17, (.int .i64 ((kk - 1 : Nat) : Int)))]) (Vic_9 g l kk) eX FX HX) (k2 : (decide (((kk : Nat) : Int) > ((i : Nat) : Int))) = false → ((.exit 6 : Ex), (Vic_10 g n i kk), ([⟨g, 9, (List.map Card.row l), none⟩] : Heap)) = (eX, FX, HX)) : LoopTo (codeQ Try.prog (X sC_ann) (loopOf Try.f111 3)) (some [0, 14, 17]) (some [0, 14, 17]) (Vic_10 g n i kk) ([⟨g, 9, (List.map Card.row l), none⟩] : Heap) eX FX HX :=
  stepO (.r (.g (.two (decide (((kk : Nat) : Int) > ((i : Nat) : Int))) (fun h1 h1' => (.r (.y 4 (.int .i64 (IntKind.i64.wrap (((kk : Nat) : Int) - 1))) (AV.int .i64 ((kk - 1 : Nat) : Int)) (Yes.add ow ow ow) (.y 7 (.int .i64 (IntKind.i64.wrap (((kk : Nat) : Int) - 1))) (AV.int .i64 ((kk - 1 : Nat) : Int)) (Yes.add ow ow ow) (.io 8 0 g 9 9 0 n ((kk - 1 : Nat) : Int) (kk - 1) (IdxOsl.mk _ ow ow) (.t 9 (AV.agg (Card.row (nth l (kk - 1)))) ([⟨g, 9, (List.map Card.row l), none⟩] : Heap) (load_row (rowAt_map (row := Card.row) (l := l) (k := 9) (room := none) kr om) kr : LoadTo tt 58 0 ([⟨g, 9, (List.map Card.row l), none⟩] : Heap) (rowAt ([⟨g, 9, (List.map Card.row l), none⟩] : Heap) 0 g (kk - 1)) = some ((AV.agg (Card.row (nth l (kk - 1)))), ([⟨g, 9, (List.map Card.row l), none⟩] : Heap))) (.io 12 0 g 9 9 0 n ((kk : Nat) : Int) kk (IdxOsl.mk _ ow ow) (.t 13 (AV.agg (Card.row (nth l kk))) ([⟨g, 9, (List.map Card.row l), none⟩] : Heap) (load_row (rowAt_map (row := Card.row) (l := l) (k := 9) (room := none) kr om) kr : LoadTo tt 58 0 ([⟨g, 9, (List.map Card.row l), none⟩] : Heap) (rowAt ([⟨g, 9, (List.map Card.row l), none⟩] : Heap) 0 g kk) = some ((AV.agg (Card.row (nth l kk))), ([⟨g, 9, (List.map Card.row l), none⟩] : Heap))) (.io 14 0 g 9 9 0 n ((kk : Nat) : Int) kk (IdxOsl.mk _ ow ow) (.st 15 0 g kk 9 0 (AV.agg (Card.row (nth l (kk - 1)))) ([⟨g, 9, (List.map Card.row (l.set kk (nth l (kk - 1)))), none⟩] : Heap) (store_row (us := (Card.row (nth l (kk - 1)))) (rowAt_map (row := Card.row) (l := l) (k := 9) (room := none) kr om) kr (by simp [Card.row]) (by simp [setAt, fillAt, List.map_set, Card.row])) (.io 16 0 g 9 9 0 n ((kk - 1 : Nat) : Int) (kk - 1) (IdxOsl.mk _ ow ow) (.st 17 0 g (kk - 1) 9 0 (AV.agg (Card.row (nth l kk))) (Vic_9 g l kk) (store_row (us := (Card.row (nth l kk))) (rowAt_map (row := Card.row) (l := l.set kk (nth l (kk - 1))) (k := 9) (room := none) kr om) kr (by simp [Card.row]) (by simp [setAt, fillAt, List.map_set, Card.row])) (.g (.r (.y 1 (.int .i64 (IntKind.i64.wrap (((kk : Nat) : Int) - 1))) (AV.int .i64 ((kk - 1 : Nat) : Int)) (Yes.add ow ow ow) (.g (.l (k1 h1)))))))))))))))))) (fun h1 h1' => (.l (k2 h1))))))
theorem sCd_loop (i n g : Nat) (hnb : n < 1048576) (r : Nat) : ∀ (kk : Nat) (l : List Card), kk = i + r → n = l.length → kk < n →
    LoopTo (codeQ Try.prog (X sC_ann) (loopOf Try.f111 3)) (some [0, 14, 17]) (some [0, 14, 17]) (mkF 220 [(0, (.osl 0 g 9 0 n)), (14, (.int .i64 ((i : Nat) : Int))), (17, (.int .i64 ((kk : Nat) : Int)))]) ([⟨g, 9, (List.map Card.row l), none⟩] : Heap) (.exit 6) (mkF 220 [(0, (.osl 0 g 9 0 n)), (14, (.int .i64 ((i : Nat) : Int))), (17, (.int .i64 ((i : Nat) : Int)))]) ([⟨g, 9, (List.map Card.row (shD r kk l)), none⟩] : Heap) := by
  induction r with
  | zero =>
    intro kk l h1 hn hk
    obtain rfl : kk = i := by omega
    exact sCd_step kk kk n g l hn hnb hk (fun h => by simp at h) (fun _ => rfl)
  | succ r ih =>
    intro kk l h1 hn hk
    refine sCd_step i kk n g l hn hnb hk (fun _ => ?_) (fun h => by simp at h; omega)
    simp only [shD]
    exact ih (kk - 1) _ ow (by simpa using hn) ow
end Go.Proofs.Yteajpacajikaaaa.AM

set_option maxRecDepth 100000
set_option linter.unusedVariables false
set_option linter.unusedSimpArgs false
namespace Go.Proofs.Yteajpacajikaaaa.AM
open Go Go.Proofs.Yteajpacajikaaaa
attribute [local irreducible] ACalls funT codeT codeQ LoopTo
attribute [local irreducible] Tp.card Tp.cardT Tp.next Tp.step Tp.cards Tp.key Tp.keyT sink insSort beforeK sortP cmpK
attribute [local irreducible] swapL rotS rotL bsr mgL mg mAt shU shD
@[simp] abbrev Vjc_1 (v1_ : Nat) (v2_ : List Card) (v3_ : List Card) (v4_ : Card) (v5_ : List Card) (v6_ : List Card) : Heap := [⟨v1_, 9, (List.map Card.row (v2_ ++ (v3_ ++ (v4_ :: (v5_ ++ v6_))))), none⟩]
@[simp] abbrev Vjc_2 (v1_ : Nat) (v2_ : Nat) (v3_ : Nat) (v4_ : Nat) : Fr := (mkF 220 [(0, (AV.osl 0 v1_ 9 0 v2_)), (1, (AV.int .i64 ((v3_ : Nat) : Int))), (10, (AV.int .i64 ((v4_ : Nat) : Int)))])
@[simp] abbrev Vjc_3 (v1_ : Nat) (v2_ : Nat) (v3_ : Nat) : Fr := (mkF 220 [(0, (AV.osl 0 v1_ 9 0 v2_)), (10, (AV.int .i64 ((v3_ : Nat) : Int))), (13, (AV.int .i64 (((v3_ - 1) : Nat) : Int)))])
set_option maxRecDepth 100000 in
theorem sCA_spec (cmp : Card → Card → Int) (f : Nat) (xs : List AV) (A R1 R2 B : List Card) (x : Card) (a p b n g i : Nat) (l : List Card) (hc : ∀ (x y : Card) (H : Heap), ACalls Try.prog f ([AV.agg (Card.row x), AV.agg (Card.row y)] ++ xs) H (AV.int .i64 (cmp x y), H)) (hxs : AV.bdds 1 xs = true) (hn : n = l.length) (hnb : n < 1048576) (hl : l = A ++ (x :: (R1 ++ (R2 ++ B)))) (hA : a = A.length) (hp : p = a + 1) (hpb : p ≤ b) (hbn : b ≤ n) (hi : i = p + R1.length) (hib : i ≤ b) (hs : i = bsr (fun c => decide (cmp (nth l c) (nth l a) < 0)) (b - p) p b) : ACalls Try.prog 111 [(.osl 0 g 9 0 n), (.int .i64 ((a : Nat) : Int)), (.int .i64 ((p : Nat) : Int)), (.int .i64 ((b : Nat) : Int)), (.func f xs)] ([⟨g, 9, (List.map Card.row l), none⟩] : Heap) ((AV.tup []), (Vjc_1 g A R1 x R2 B)) := by
  have hfin : shU (i - 1 - a) a l = A ++ (R1 ++ (x :: (R2 ++ B))) := by rw [hl, show i - 1 - a = R1.length by omega]; exact shU_parts x R1 A (R2 ++ B) a hA
  exact specO (fn := Try.f111) (ann := sC_ann) (Has.o Try.func111) (.r (.y 2 (.int .i64 (IntKind.i64.wrap (((p : Nat) : Int) - ((a : Nat) : Int)))) (AV.int .i64 ((p - a : Nat) : Int)) (Yes.add ow ow ow) (.y 3 (AV.bool (((p - a : Nat) : Int) == 1)) (AV.bool true) (Yes.bool (by exact beq_iff_eq.2 ow)) (.g (.yes (.r (.g (.r (.g (.loop (Vjc_2 g n a i) (show LoopTo (codeQ Try.prog (X sC_ann) (loopOf Try.f111 0)) (some [0, 1, 4, 10, 11]) (some [0, 1, 10]) (mkF 220 [(0, (.osl 0 g 9 0 n)), (1, (.int .i64 ((a : Nat) : Int))), (4, (.func f xs)), (10, (.int .i64 ((p : Nat) : Int))), (11, (.int .i64 ((b : Nat) : Int)))]) ([⟨g, 9, (List.map Card.row l), none⟩] : Heap) (.exit 0) (Vjc_2 g n a i) ([⟨g, 9, (List.map Card.row l), none⟩] : Heap) from (by rw [hs]; exact sCa_loop cmp f xs hc a n g l hn hnb ow (b - p) p b ow ow ow)) (.r (.g (.loop (Vjc_3 g n i) (show LoopTo (codeQ Try.prog (X sC_ann) (loopOf Try.f111 1)) (some [0, 10, 13]) (some [0, 10, 13]) (mkF 220 [(0, (.osl 0 g 9 0 n)), (10, (.int .i64 ((i : Nat) : Int))), (13, (.int .i64 ((a : Nat) : Int)))]) ([⟨g, 9, (List.map Card.row l), none⟩] : Heap) (.exit 2) (Vjc_3 g n i) ([⟨g, 9, (List.map Card.row (shU (i - 1 - a) a l)), none⟩] : Heap) from (sCu_loop i n g ow ow hnb (i - 1 - a) l a _ ow hn (sCu_iter _ _ _ _ _ _))) (.f 1 (AV.tup []) (.e (AV.tup []) (by
        try delta Vjc_1
        rw [hfin]))))))))))))))))
@[simp] abbrev Vjc_4 (v1_ : Nat) (v2_ : Nat) (v3_ : Nat) (v4_ : Nat) : Fr := (mkF 220 [(0, (AV.osl 0 v1_ 9 0 v2_)), (2, (AV.int .i64 ((v3_ : Nat) : Int))), (14, (AV.int .i64 ((v4_ : Nat) : Int)))])
@[simp] abbrev Vjc_5 (v1_ : Nat) (v2_ : Nat) (v3_ : Nat) : Fr := (mkF 220 [(0, (AV.osl 0 v1_ 9 0 v2_)), (14, (AV.int .i64 ((v3_ : Nat) : Int))), (17, (AV.int .i64 ((v3_ : Nat) : Int)))])
set_option maxRecDepth 100000 in
theorem sCB_spec (cmp : Card → Card → Int) (f : Nat) (xs : List AV) (A L1 L2 B : List Card) (y : Card) (a p b n g i : Nat) (l : List Card) (hc : ∀ (x y : Card) (H : Heap), ACalls Try.prog f ([AV.agg (Card.row x), AV.agg (Card.row y)] ++ xs) H (AV.int .i64 (cmp x y), H)) (hxs : AV.bdds 1 xs = true) (hn : n = l.length) (hnb : n < 1048576) (hl : l = A ++ (L1 ++ (L2 ++ (y :: B)))) (hA : a = A.length) (hi : i = a + L1.length) (hp : p = i + L2.length) (h1 : p ≠ a + 1) (hb : b = p + 1) (hbn : b ≤ n) (hs : i = bsr (fun c => !decide (cmp (nth l p) (nth l c) < 0)) (p - a) a p) : ACalls Try.prog 111 [(.osl 0 g 9 0 n), (.int .i64 ((a : Nat) : Int)), (.int .i64 ((p : Nat) : Int)), (.int .i64 ((b : Nat) : Int)), (.func f xs)] ([⟨g, 9, (List.map Card.row l), none⟩] : Heap) ((AV.tup []), (Vjc_1 g A L1 y L2 B)) := by
  have hfin : shD (p - i) p l = A ++ (L1 ++ (y :: (L2 ++ B))) := by rw [hl, show p - i = L2.length by omega, show A ++ (L1 ++ (L2 ++ (y :: B))) = (A ++ L1) ++ (L2 ++ (y :: B)) by simp, shD_parts y L2.length (A ++ L1) L2 B p rfl (by simp; omega)]; simp
  exact specO (fn := Try.f111) (ann := sC_ann) (Has.o Try.func111) (.r (.y 2 (.int .i64 (IntKind.i64.wrap (((p : Nat) : Int) - ((a : Nat) : Int)))) (AV.int .i64 ((p - a : Nat) : Int)) (Yes.add ow ow ow) (.y 3 (AV.bool (((p - a : Nat) : Int) == 1)) (AV.bool false) (Yes.bool (by exact beq_eq_false_iff_ne.2 ow)) (.g (.no (.r (.y 2 (.int .i64 (IntKind.i64.wrap (((b : Nat) : Int) - ((p : Nat) : Int)))) (AV.int .i64 ((b - p : Nat) : Int)) (Yes.add ow ow ow) (.y 3 (AV.bool (((b - p : Nat) : Int) == 1)) (AV.bool true) (Yes.bool (by exact beq_iff_eq.2 ow)) (.g (.yes (.r (.g (.r (.g (.loop (Vjc_4 g n p i) (show LoopTo (codeQ Try.prog (X sC_ann) (loopOf Try.f111 2)) (some [0, 2, 4, 14, 15]) (some [0, 2, 14]) (mkF 220 [(0, (.osl 0 g 9 0 n)), (2, (.int .i64 ((p : Nat) : Int))), (4, (.func f xs)), (14, (.int .i64 ((a : Nat) : Int))), (15, (.int .i64 ((p : Nat) : Int)))]) ([⟨g, 9, (List.map Card.row l), none⟩] : Heap) (.exit 4) (Vjc_4 g n p i) ([⟨g, 9, (List.map Card.row l), none⟩] : Heap) from (by rw [hs]; exact sCb_loop cmp f xs hc p n g l hn hnb ow (p - a) a p ow ow ow)) (.r (.g (.loop (Vjc_5 g n i) (show LoopTo (codeQ Try.prog (X sC_ann) (loopOf Try.f111 3)) (some [0, 14, 17]) (some [0, 14, 17]) (mkF 220 [(0, (.osl 0 g 9 0 n)), (14, (.int .i64 ((i : Nat) : Int))), (17, (.int .i64 ((p : Nat) : Int)))]) ([⟨g, 9, (List.map Card.row l), none⟩] : Heap) (.exit 6) (Vjc_5 g n i) ([⟨g, 9, (List.map Card.row (shD (p - i) p l)), none⟩] : Heap) from (sCd_loop i n g hnb (p - i) p l ow hn ow)) (.f 1 (AV.tup []) (.e (AV.tup []) (by
        try delta Vjc_1
        rw [hfin])))))))))))))))))))))
@[simp] abbrev Vjc_6 (v1_ : Nat) (v2_ : Nat) (v3_ : Nat) (v4_ : Nat) (v5_ : Nat) (v6_ : Nat) (v7_ : List AV) (v8_ : Nat) (v9_ : Nat) : Fr := (mkF 220 [(0, (AV.osl 0 v1_ 9 0 v2_)), (1, (AV.int .i64 ((v3_ : Nat) : Int))), (2, (AV.int .i64 ((v4_ : Nat) : Int))), (3, (AV.int .i64 ((v5_ : Nat) : Int))), (4, (AV.func v6_ v7_)), (18, (AV.int .i64 ((v8_ : Nat) : Int))), (19, (AV.int .i64 (((v8_ + v4_) : Nat) : Int))), (20, (AV.int .i64 ((v9_ : Nat) : Int)))])
@[simp] abbrev Vjc_7 (v1_ : Nat) (v2_ : Nat) (v3_ : Nat) (v4_ : Nat) (v5_ : List Card) : Heap := [⟨v1_, 9, (List.map Card.row (rotL v2_ v3_ ((v4_ + v3_) - v2_) v5_)), none⟩]
set_option maxHeartbeats 4000000 in
set_option maxRecDepth 100000 in
theorem sCC_spec (cmp : Card → Card → Int) (f : Nat) (xs : List AV) (A L1 L2 R1 R2 B : List Card) (a p b n g i mid Nz : Nat) (l : List Card) (hc : ∀ (x y : Card) (H : Heap), ACalls Try.prog f ([AV.agg (Card.row x), AV.agg (Card.row y)] ++ xs) H (AV.int .i64 (cmp x y), H)) (hxs : AV.bdds 1 xs = true) (hn : n = l.length) (hnb : n < 1048576) (ih_at : ∀ (a p b n g : Nat) (l : List Card), n = l.length → n < 1048576 → a < p → p < b → b ≤ n → b - a < Nz → Srt (ltF cmp) ((l.drop a).take (p - a)) → Srt (ltF cmp) ((l.drop p).take (b - p)) → ∀ H : Heap, ACalls Try.prog 111 [(.osl 0 g 9 0 n), (.int .i64 ((a : Nat) : Int)), (.int .i64 ((p : Nat) : Int)), (.int .i64 ((b : Nat) : Int)), (.func f xs)] (([⟨g, 9, (List.map Card.row l), none⟩] : Heap) ++ H) (.tup [], ([⟨g, 9, (List.map Card.row (mAt (ltF cmp) a p b l)), none⟩] : Heap) ++ H)) (hl : l = A ++ (L1 ++ (L2 ++ (R1 ++ (R2 ++ B))))) (hA : a = A.length) (hi : i = a + L1.length) (hp : p = i + L2.length) (hR1 : mid = i + R1.length) (hb : b = p + R1.length + R2.length) (hbn : b ≤ n) (hap : a < p) (hpb : p < b) (h1 : p ≠ a + 1) (h2 : b ≠ p + 1) (hmid : mid = (a + b) / 2) (hNz : b - a ≤ Nz) (hgt : mid < p) (hs : i = bsr (fun c => !decide (cmp (nth l (mid + p - 1 - c)) (nth l c) < 0)) (mid - (mid + p - b)) (mid + p - b) mid) (hlo : mid + p - b ≤ i) (hhi : i ≤ mid) (q1 : Srt (ltF cmp) L1) (q2 : Srt (ltF cmp) L2) (q3 : Srt (ltF cmp) R1) (q4 : Srt (ltF cmp) R2) : ACalls Try.prog 111 [(.osl 0 g 9 0 n), (.int .i64 ((a : Nat) : Int)), (.int .i64 ((p : Nat) : Int)), (.int .i64 ((b : Nat) : Int)), (.func f xs)] ([⟨g, 9, (List.map Card.row l), none⟩] : Heap) ((AV.tup []), ([⟨g, 9, (List.map Card.row (A ++ (mg (ltF cmp) L1 R1 ++ (mg (ltF cmp) L2 R2 ++ B)))), none⟩] : Heap)) := by
  have hll : n = A.length + L1.length + L2.length + R1.length + R2.length + B.length := by rw [hn, hl]; simp; omega
  have e1 := sm1 A L1 L2 R1 R2 B hl (s := i) (m := p) (e := mid + p - i) ow hp ow
  have e2 := sm2 (ltF cmp) A L1 R1 (L2 ++ (R2 ++ B)) (a := a) (s := i) (mid := mid) hA hi hR1
  have e3 := sm3 (ltF cmp) A (mg (ltF cmp) L1 R1) L2 R2 B (mid := mid) (e := mid + p - i) (b := b) (by rw [mg_len]; omega) ow ow
  have hrot : 0 < L2.length → 0 < R1.length → _ := rot_facts (A ++ L1) L2 R1 (R2 ++ B) (l := l) (by rw [hl]; simp) (a := i) (m := p) (b := mid + p - i) (by simp; omega) hp ow
  have hlen2 : (A ++ (mg (ltF cmp) L1 R1 ++ (L2 ++ (R2 ++ B)))).length = n := by rw [hll]; simp [mg_len]; omega
  have hlen1 : (A ++ (L1 ++ (R1 ++ (L2 ++ (R2 ++ B))))).length = n := by rw [hll]; simp; omega
  exact specO (fn := Try.f111) (ann := sC_ann) (Has.o Try.func111) (.r (.y 2 (.int .i64 (IntKind.i64.wrap (((p : Nat) : Int) - ((a : Nat) : Int)))) (AV.int .i64 ((p - a : Nat) : Int)) (Yes.add ow ow ow) (.y 3 (AV.bool (((p - a : Nat) : Int) == 1)) (AV.bool false) (Yes.bool (by exact beq_eq_false_iff_ne.2 ow)) (.g (.no (.r (.y 2 (.int .i64 (IntKind.i64.wrap (((b : Nat) : Int) - ((p : Nat) : Int)))) (AV.int .i64 ((b - p : Nat) : Int)) (Yes.add ow ow ow) (.y 3 (AV.bool (((b - p : Nat) : Int) == 1)) (AV.bool false) (Yes.bool (by exact beq_eq_false_iff_ne.2 ow)) (.g (.no (.r (.y 2 (.int .i64 (IntKind.i64.wrap (((a : Nat) : Int) + ((b : Nat) : Int)))) (AV.int .i64 ((a + b : Nat) : Int)) (Yes.add ow ow ow) (.y 5 (AV.int .i64 (IntKind.i64.wrap (Int.fdiv (IntKind.u64.wrap ((a + b : Nat) : Int)) (2 ^ (min (Int.toNat 1) 64))))) (AV.int .i64 ((mid : Nat) : Int)) (Yes.int (half_nat ow ow)) (.g (.r (.y 2 (.int .i64 (IntKind.i64.wrap (((mid : Nat) : Int) + ((p : Nat) : Int)))) (AV.int .i64 ((mid + p : Nat) : Int)) (Yes.add ow ow ow) (.g (.r (.g (.r (.y 2 (AV.bool (decide (((p : Nat) : Int) > ((mid : Nat) : Int)))) (AV.bool true) (Yes.bool (by exact decide_eq_true ow)) (.g (.yes (.r (.y 2 (.int .i64 (IntKind.i64.wrap (((mid + p : Nat) : Int) - ((b : Nat) : Int)))) (AV.int .i64 ((mid + p - b : Nat) : Int)) (Yes.add ow ow ow) (.g (.r (.g (.r (.y 1 (.int .i64 (IntKind.i64.wrap (((mid + p : Nat) : Int) - 1))) (AV.int .i64 ((mid + p - 1 : Nat) : Int)) (Yes.add ow ow ow) (.g (.loop (Vjc_6 g n a p b f xs mid i) (show LoopTo (codeQ Try.prog (X sC_ann) (loopOf Try.f111 4)) (some [0, 1, 2, 3, 4, 18, 19, 20, 21, 22]) (some [0, 1, 2, 3, 4, 18, 19, 20]) (mkF 220 [(0, (.osl 0 g 9 0 n)), (1, (.int .i64 ((a : Nat) : Int))), (2, (.int .i64 ((p : Nat) : Int))), (3, (.int .i64 ((b : Nat) : Int))), (4, (.func f xs)), (18, (.int .i64 ((mid : Nat) : Int))), (19, (.int .i64 ((mid + p : Nat) : Int))), (20, (.int .i64 ((mid + p - b : Nat) : Int))), (21, (.int .i64 ((mid : Nat) : Int))), (22, (.int .i64 ((mid + p - 1 : Nat) : Int)))]) ([⟨g, 9, (List.map Card.row l), none⟩] : Heap) (.exit 8) (Vjc_6 g n a p b f xs mid i) ([⟨g, 9, (List.map Card.row l), none⟩] : Heap) from (by rw [hs]; exact sCc_loop cmp f xs hc a p b mid (mid + p) (mid + p - 1) n g l hn hnb (mid - ((mid + p - b))) (mid + p - b) mid ow ow ow)) (.r (.y 2 (.int .i64 (IntKind.i64.wrap ((((mid + p) : Nat) : Int) - ((i : Nat) : Int)))) (AV.int .i64 (((mid + p) - i : Nat) : Int)) (Yes.add ow ow ow) (.g (.r (.two (decide (((i : Nat) : Int) < ((p : Nat) : Int))) (fun h1 h1' => (.yes (.yes (.g (.two (decide (((p : Nat) : Int) < (((mid + p) - i : Nat) : Int))) (fun h2 h2' => (.r (.ch 5 (Vjc_7 g i p mid l) (mCr_at f xs i p ((mid + p) - i) n g l (by first | exact hc | exact hxs | omega | (simp; omega)) (by first | exact hc | exact hxs | omega | (simp; omega)) (by first | exact hc | exact hxs | omega | (simp; omega)) (by first | exact hc | exact hxs | omega | (simp; omega)) (by first | exact hc | exact hxs | omega | (simp; omega)) (by first | exact hc | exact hxs | omega | (simp; omega)) ((hrot ow ow).1) ((hrot ow ow).2.1) ((hrot ow ow).2.2) ([] : Heap)) (.g (.r (.two (decide (((a : Nat) : Int) < ((i : Nat) : Int))) (fun h3 h3' => (.yes (.yes (.g (.two (decide (((i : Nat) : Int) < ((mid : Nat) : Int))) (fun h4 h4' => (.r (.ch 5 ([⟨g, 9, (List.map Card.row (mAt (ltF cmp) a i mid (rotL i p ((mid + p) - i) l))), none⟩] : Heap) (ih_at a i mid n g (rotL i p ((mid + p) - i) l) (by first | (exfalso; omega) | ((first | rw [if_pos ow] at e1 | rw [if_neg ow] at e1); rw [e1]; exact hlen1.symm)) (by first | exact hc | exact hxs | omega | (simp; omega)) (by first | exact hc | exact hxs | omega | (simp; omega)) (by first | exact hc | exact hxs | omega | (simp; omega)) (by first | exact hc | exact hxs | omega | (simp; omega)) (by first | exact hc | exact hxs | omega | (simp; omega)) (by first | (exfalso; omega) | ((first | rw [if_pos ow] at e1 | rw [if_neg ow] at e1); rw [e1]; rw [piece A L1 _ hA ow]; exact q1)) (by first | (exfalso; omega) | ((first | rw [if_pos ow] at e1 | rw [if_neg ow] at e1); rw [e1]; rw [show A ++ (L1 ++ (R1 ++ (L2 ++ (R2 ++ B)))) = (A ++ L1) ++ (R1 ++ (L2 ++ (R2 ++ B))) by simp, piece (A ++ L1) R1 _ (by simp; omega) ow]; exact q3)) ([] : Heap)) (.g (.r (.two (decide (((mid : Nat) : Int) < (((mid + p) - i : Nat) : Int))) (fun h5 h5' => (.yes (.yes (.g (.two (decide ((((mid + p) - i : Nat) : Int) < ((b : Nat) : Int))) (fun h6 h6' => (.r (.ch 5 ([⟨g, 9, (List.map Card.row (mAt (ltF cmp) mid ((mid + p) - i) b (mAt (ltF cmp) a i mid (rotL i p ((mid + p) - i) l)))), none⟩] : Heap) (ih_at mid ((mid + p) - i) b n g (mAt (ltF cmp) a i mid (rotL i p ((mid + p) - i) l)) (by first | (exfalso; omega) | ((first | rw [if_pos ow] at e1 | rw [if_neg ow] at e1); (first | rw [if_pos ow] at e2 | rw [if_neg ow] at e2); rw [e1, e2]; exact hlen2.symm)) (by first | exact hc | exact hxs | omega | (simp; omega)) (by first | exact hc | exact hxs | omega | (simp; omega)) (by first | exact hc | exact hxs | omega | (simp; omega)) (by first | exact hc | exact hxs | omega | (simp; omega)) (by first | exact hc | exact hxs | omega | (simp; omega)) (by first | (exfalso; omega) | ((first | rw [if_pos ow] at e1 | rw [if_neg ow] at e1); (first | rw [if_pos ow] at e2 | rw [if_neg ow] at e2); rw [e1, e2]; rw [show A ++ (mg (ltF cmp) L1 R1 ++ (L2 ++ (R2 ++ B))) = (A ++ mg (ltF cmp) L1 R1) ++ (L2 ++ (R2 ++ B)) by simp, piece (A ++ mg (ltF cmp) L1 R1) L2 _ (by simp [mg_len]; omega) ow]; exact q2)) (by first | (exfalso; omega) | ((first | rw [if_pos ow] at e1 | rw [if_neg ow] at e1); (first | rw [if_pos ow] at e2 | rw [if_neg ow] at e2); rw [e1, e2]; rw [show A ++ (mg (ltF cmp) L1 R1 ++ (L2 ++ (R2 ++ B))) = ((A ++ mg (ltF cmp) L1 R1) ++ L2) ++ (R2 ++ B) by simp, piece ((A ++ mg (ltF cmp) L1 R1) ++ L2) R2 _ (by simp [mg_len]; omega) ow]; exact q4)) ([] : Heap)) (.g (.f 1 (AV.tup []) (.e (AV.tup []) (by
        try delta Vjc_7
        first | (exfalso; omega) | ((first | rw [if_pos ow] at e1 | rw [if_neg ow] at e1); (first | rw [if_pos ow] at e2 | rw [if_neg ow] at e2); (first | rw [if_pos ow] at e3 | rw [if_neg ow] at e3); rw [e1, e2, e3])))))))) (fun h6 h6' => (.f 1 (AV.tup []) (.e (AV.tup []) (by
        try delta Vjc_7
        first | (exfalso; omega) | ((first | rw [if_pos ow] at e1 | rw [if_neg ow] at e1); (first | rw [if_pos ow] at e2 | rw [if_neg ow] at e2); (first | rw [if_pos ow] at e3 | rw [if_neg ow] at e3); rw [e1, e2, e3])))))))))) (fun h5 h5' => (.no (.no (.g (.no (.f 1 (AV.tup []) (.e (AV.tup []) (by
        try delta Vjc_7
        first | (exfalso; omega) | ((first | rw [if_pos ow] at e1 | rw [if_neg ow] at e1); (first | rw [if_pos ow] at e2 | rw [if_neg ow] at e2); (first | rw [if_pos ow] at e3 | rw [if_neg ow] at e3); rw [e1, e2, e3]))))))))))))))) (fun h4 h4' => (.r (.two (decide (((mid : Nat) : Int) < (((mid + p) - i : Nat) : Int))) (fun h5 h5' => (.yes (.yes (.g (.two (decide ((((mid + p) - i : Nat) : Int) < ((b : Nat) : Int))) (fun h6 h6' => (.r (.ch 5 ([⟨g, 9, (List.map Card.row (mAt (ltF cmp) mid ((mid + p) - i) b (rotL i p ((mid + p) - i) l))), none⟩] : Heap) (ih_at mid ((mid + p) - i) b n g (rotL i p ((mid + p) - i) l) (by first | (exfalso; omega) | ((first | rw [if_pos ow] at e1 | rw [if_neg ow] at e1); (first | rw [if_pos ow] at e2 | rw [if_neg ow] at e2); rw [e1, e2]; exact hlen2.symm)) (by first | exact hc | exact hxs | omega | (simp; omega)) (by first | exact hc | exact hxs | omega | (simp; omega)) (by first | exact hc | exact hxs | omega | (simp; omega)) (by first | exact hc | exact hxs | omega | (simp; omega)) (by first | exact hc | exact hxs | omega | (simp; omega)) (by first | (exfalso; omega) | ((first | rw [if_pos ow] at e1 | rw [if_neg ow] at e1); (first | rw [if_pos ow] at e2 | rw [if_neg ow] at e2); rw [e1, e2]; rw [show A ++ (mg (ltF cmp) L1 R1 ++ (L2 ++ (R2 ++ B))) = (A ++ mg (ltF cmp) L1 R1) ++ (L2 ++ (R2 ++ B)) by simp, piece (A ++ mg (ltF cmp) L1 R1) L2 _ (by simp [mg_len]; omega) ow]; exact q2)) (by first | (exfalso; omega) | ((first | rw [if_pos ow] at e1 | rw [if_neg ow] at e1); (first | rw [if_pos ow] at e2 | rw [if_neg ow] at e2); rw [e1, e2]; rw [show A ++ (mg (ltF cmp) L1 R1 ++ (L2 ++ (R2 ++ B))) = ((A ++ mg (ltF cmp) L1 R1) ++ L2) ++ (R2 ++ B) by simp, piece ((A ++ mg (ltF cmp) L1 R1) ++ L2) R2 _ (by simp [mg_len]; omega) ow]; exact q4)) ([] : Heap)) (.g (.f 1 (AV.tup []) (.e (AV.tup []) (by
        try delta Vjc_7
        first | (exfalso; omega) | ((first | rw [if_pos ow] at e1 | rw [if_neg ow] at e1); (first | rw [if_pos ow] at e2 | rw [if_neg ow] at e2); (first | rw [if_pos ow] at e3 | rw [if_neg ow] at e3); rw [e1, e2, e3])))))))) (fun h6 h6' => (.f 1 (AV.tup []) (.e (AV.tup []) (by
        try delta Vjc_7
        first | (exfalso; omega) | ((first | rw [if_pos ow] at e1 | rw [if_neg ow] at e1); (first | rw [if_pos ow] at e2 | rw [if_neg ow] at e2); (first | rw [if_pos ow] at e3 | rw [if_neg ow] at e3); rw [e1, e2, e3])))))))))) (fun h5 h5' => (.no (.no (.g (.no (.f 1 (AV.tup []) (.e (AV.tup []) (by
        try delta Vjc_7
        first | (exfalso; omega) | ((first | rw [if_pos ow] at e1 | rw [if_neg ow] at e1); (first | rw [if_pos ow] at e2 | rw [if_neg ow] at e2); (first | rw [if_pos ow] at e3 | rw [if_neg ow] at e3); rw [e1, e2, e3]))))))))))))))))) (fun h3 h3' => (.no (.no (.g (.no (.r (.two (decide (((mid : Nat) : Int) < (((mid + p) - i : Nat) : Int))) (fun h4 h4' => (.yes (.yes (.g (.two (decide ((((mid + p) - i : Nat) : Int) < ((b : Nat) : Int))) (fun h5 h5' => (.r (.ch 5 ([⟨g, 9, (List.map Card.row (mAt (ltF cmp) mid ((mid + p) - i) b (rotL i p ((mid + p) - i) l))), none⟩] : Heap) (ih_at mid ((mid + p) - i) b n g (rotL i p ((mid + p) - i) l) (by first | (exfalso; omega) | ((first | rw [if_pos ow] at e1 | rw [if_neg ow] at e1); (first | rw [if_pos ow] at e2 | rw [if_neg ow] at e2); rw [e1, e2]; exact hlen2.symm)) (by first | exact hc | exact hxs | omega | (simp; omega)) (by first | exact hc | exact hxs | omega | (simp; omega)) (by first | exact hc | exact hxs | omega | (simp; omega)) (by first | exact hc | exact hxs | omega | (simp; omega)) (by first | exact hc | exact hxs | omega | (simp; omega)) (by first | (exfalso; omega) | ((first | rw [if_pos ow] at e1 | rw [if_neg ow] at e1); (first | rw [if_pos ow] at e2 | rw [if_neg ow] at e2); rw [e1, e2]; rw [show A ++ (mg (ltF cmp) L1 R1 ++ (L2 ++ (R2 ++ B))) = (A ++ mg (ltF cmp) L1 R1) ++ (L2 ++ (R2 ++ B)) by simp, piece (A ++ mg (ltF cmp) L1 R1) L2 _ (by simp [mg_len]; omega) ow]; exact q2)) (by first | (exfalso; omega) | ((first | rw [if_pos ow] at e1 | rw [if_neg ow] at e1); (first | rw [if_pos ow] at e2 | rw [if_neg ow] at e2); rw [e1, e2]; rw [show A ++ (mg (ltF cmp) L1 R1 ++ (L2 ++ (R2 ++ B))) = ((A ++ mg (ltF cmp) L1 R1) ++ L2) ++ (R2 ++ B) by simp, piece ((A ++ mg (ltF cmp) L1 R1) ++ L2) R2 _ (by simp [mg_len]; omega) ow]; exact q4)) ([] : Heap)) (.g (.f 1 (AV.tup []) (.e (AV.tup []) (by
        try delta Vjc_7
        first | (exfalso; omega) | ((first | rw [if_pos ow] at e1 | rw [if_neg ow] at e1); (first | rw [if_pos ow] at e2 | rw [if_neg ow] at e2); (first | rw [if_pos ow] at e3 | rw [if_neg ow] at e3); rw [e1, e2, e3])))))))) (fun h5 h5' => (.f 1 (AV.tup []) (.e (AV.tup []) (by
        try delta Vjc_7
        first | (exfalso; omega) | ((first | rw [if_pos ow] at e1 | rw [if_neg ow] at e1); (first | rw [if_pos ow] at e2 | rw [if_neg ow] at e2); (first | rw [if_pos ow] at e3 | rw [if_neg ow] at e3); rw [e1, e2, e3])))))))))) (fun h4 h4' => (.no (.no (.g (.no (.f 1 (AV.tup []) (.e (AV.tup []) (by
        try delta Vjc_7
        first | (exfalso; omega) | ((first | rw [if_pos ow] at e1 | rw [if_neg ow] at e1); (first | rw [if_pos ow] at e2 | rw [if_neg ow] at e2); (first | rw [if_pos ow] at e3 | rw [if_neg ow] at e3); rw [e1, e2, e3])))))))))))))))))))))) (fun h2 h2' => (.r (.two (decide (((a : Nat) : Int) < ((i : Nat) : Int))) (fun h3 h3' => (.yes (.yes (.g (.two (decide (((i : Nat) : Int) < ((mid : Nat) : Int))) (fun h4 h4' => (.r (.ch 5 ([⟨g, 9, (List.map Card.row (mAt (ltF cmp) a i mid l)), none⟩] : Heap) (ih_at a i mid n g l (by first | (exfalso; omega) | ((first | rw [if_pos ow] at e1 | rw [if_neg ow] at e1); rw [e1]; exact hlen1.symm)) (by first | exact hc | exact hxs | omega | (simp; omega)) (by first | exact hc | exact hxs | omega | (simp; omega)) (by first | exact hc | exact hxs | omega | (simp; omega)) (by first | exact hc | exact hxs | omega | (simp; omega)) (by first | exact hc | exact hxs | omega | (simp; omega)) (by first | (exfalso; omega) | ((first | rw [if_pos ow] at e1 | rw [if_neg ow] at e1); rw [e1]; rw [piece A L1 _ hA ow]; exact q1)) (by first | (exfalso; omega) | ((first | rw [if_pos ow] at e1 | rw [if_neg ow] at e1); rw [e1]; rw [show A ++ (L1 ++ (R1 ++ (L2 ++ (R2 ++ B)))) = (A ++ L1) ++ (R1 ++ (L2 ++ (R2 ++ B))) by simp, piece (A ++ L1) R1 _ (by simp; omega) ow]; exact q3)) ([] : Heap)) (.g (.r (.two (decide (((mid : Nat) : Int) < (((mid + p) - i : Nat) : Int))) (fun h5 h5' => (.yes (.yes (.g (.two (decide ((((mid + p) - i : Nat) : Int) < ((b : Nat) : Int))) (fun h6 h6' => (.r (.ch 5 ([⟨g, 9, (List.map Card.row (mAt (ltF cmp) mid ((mid + p) - i) b (mAt (ltF cmp) a i mid l))), none⟩] : Heap) (ih_at mid ((mid + p) - i) b n g (mAt (ltF cmp) a i mid l) (by first | (exfalso; omega) | ((first | rw [if_pos ow] at e1 | rw [if_neg ow] at e1); (first | rw [if_pos ow] at e2 | rw [if_neg ow] at e2); rw [e1, e2]; exact hlen2.symm)) (by first | exact hc | exact hxs | omega | (simp; omega)) (by first | exact hc | exact hxs | omega | (simp; omega)) (by first | exact hc | exact hxs | omega | (simp; omega)) (by first | exact hc | exact hxs | omega | (simp; omega)) (by first | exact hc | exact hxs | omega | (simp; omega)) (by first | (exfalso; omega) | ((first | rw [if_pos ow] at e1 | rw [if_neg ow] at e1); (first | rw [if_pos ow] at e2 | rw [if_neg ow] at e2); rw [e1, e2]; rw [show A ++ (mg (ltF cmp) L1 R1 ++ (L2 ++ (R2 ++ B))) = (A ++ mg (ltF cmp) L1 R1) ++ (L2 ++ (R2 ++ B)) by simp, piece (A ++ mg (ltF cmp) L1 R1) L2 _ (by simp [mg_len]; omega) ow]; exact q2)) (by first | (exfalso; omega) | ((first | rw [if_pos ow] at e1 | rw [if_neg ow] at e1); (first | rw [if_pos ow] at e2 | rw [if_neg ow] at e2); rw [e1, e2]; rw [show A ++ (mg (ltF cmp) L1 R1 ++ (L2 ++ (R2 ++ B))) = ((A ++ mg (ltF cmp) L1 R1) ++ L2) ++ (R2 ++ B) by simp, piece ((A ++ mg (ltF cmp) L1 R1) ++ L2) R2 _ (by simp [mg_len]; omega) ow]; exact q4)) ([] : Heap)) (.g (.f 1 (AV.tup []) (.e (AV.tup []) (by
        try delta Vjc_7
        first | (exfalso; omega) | ((first | rw [if_pos ow] at e1 | rw [if_neg ow] at e1); (first | rw [if_pos ow] at e2 | rw [if_neg ow] at e2); (first | rw [if_pos ow] at e3 | rw [if_neg ow] at e3); rw [e1, e2, e3])))))))) (fun h6 h6' => (.f 1 (AV.tup []) (.e (AV.tup []) (by
        try delta Vjc_7
        first | (exfalso; omega) | ((first | rw [if_pos ow] at e1 | rw [if_neg ow] at e1); (first | rw [if_pos ow] at e2 | rw [if_neg ow] at e2); (first | rw [if_pos ow] at e3 | rw [if_neg ow] at e3); rw [e1, e2, e3])))))))))) (fun h5 h5' => (.no (.no (.g (.no (.f 1 (AV.tup []) (.e (AV.tup []) (by
        try delta Vjc_7
        first | (exfalso; omega) | ((first | rw [if_pos ow] at e1 | rw [if_neg ow] at e1); (first | rw [if_pos ow] at e2 | rw [if_neg ow] at e2); (first | rw [if_pos ow] at e3 | rw [if_neg ow] at e3); rw [e1, e2, e3]))))))))))))))) (fun h4 h4' => (.r (.two (decide (((mid : Nat) : Int) < (((mid + p) - i : Nat) : Int))) (fun h5 h5' => (.yes (.yes (.g (.two (decide ((((mid + p) - i : Nat) : Int) < ((b : Nat) : Int))) (fun h6 h6' => (.r (.ch 5 ([⟨g, 9, (List.map Card.row (mAt (ltF cmp) mid ((mid + p) - i) b l)), none⟩] : Heap) (ih_at mid ((mid + p) - i) b n g l (by first | (exfalso; omega) | ((first | rw [if_pos ow] at e1 | rw [if_neg ow] at e1); (first | rw [if_pos ow] at e2 | rw [if_neg ow] at e2); rw [e1, e2]; exact hlen2.symm)) (by first | exact hc | exact hxs | omega | (simp; omega)) (by first | exact hc | exact hxs | omega | (simp; omega)) (by first | exact hc | exact hxs | omega | (simp; omega)) (by first | exact hc | exact hxs | omega | (simp; omega)) (by first | exact hc | exact hxs | omega | (simp; omega)) (by first | (exfalso; omega) | ((first | rw [if_pos ow] at e1 | rw [if_neg ow] at e1); (first | rw [if_pos ow] at e2 | rw [if_neg ow] at e2); rw [e1, e2]; rw [show A ++ (mg (ltF cmp) L1 R1 ++ (L2 ++ (R2 ++ B))) = (A ++ mg (ltF cmp) L1 R1) ++ (L2 ++ (R2 ++ B)) by simp, piece (A ++ mg (ltF cmp) L1 R1) L2 _ (by simp [mg_len]; omega) ow]; exact q2)) (by first | (exfalso; omega) | ((first | rw [if_pos ow] at e1 | rw [if_neg ow] at e1); (first | rw [if_pos ow] at e2 | rw [if_neg ow] at e2); rw [e1, e2]; rw [show A ++ (mg (ltF cmp) L1 R1 ++ (L2 ++ (R2 ++ B))) = ((A ++ mg (ltF cmp) L1 R1) ++ L2) ++ (R2 ++ B) by simp, piece ((A ++ mg (ltF cmp) L1 R1) ++ L2) R2 _ (by simp [mg_len]; omega) ow]; exact q4)) ([] : Heap)) (.g (.f 1 (AV.tup []) (.e (AV.tup []) (by
        try delta Vjc_7
        first | (exfalso; omega) | ((first | rw [if_pos ow] at e1 | rw [if_neg ow] at e1); (first | rw [if_pos ow] at e2 | rw [if_neg ow] at e2); (first | rw [if_pos ow] at e3 | rw [if_neg ow] at e3); rw [e1, e2, e3])))))))) (fun h6 h6' => (.f 1 (AV.tup []) (.e (AV.tup []) (by
        try delta Vjc_7
        first | (exfalso; omega) | ((first | rw [if_pos ow] at e1 | rw [if_neg ow] at e1); (first | rw [if_pos ow] at e2 | rw [if_neg ow] at e2); (first | rw [if_pos ow] at e3 | rw [if_neg ow] at e3); rw [e1, e2, e3])))))))))) (fun h5 h5' => (.no (.no (.g (.no (.f 1 (AV.tup []) (.e (AV.tup []) (by
        try delta Vjc_7
        first | (exfalso; omega) | ((first | rw [if_pos ow] at e1 | rw [if_neg ow] at e1); (first | rw [if_pos ow] at e2 | rw [if_neg ow] at e2); (first | rw [if_pos ow] at e3 | rw [if_neg ow] at e3); rw [e1, e2, e3]))))))))))))))))) (fun h3 h3' => (.no (.no (.g (.no (.r (.two (decide (((mid : Nat) : Int) < (((mid + p) - i : Nat) : Int))) (fun h4 h4' => (.yes (.yes (.g (.two (decide ((((mid + p) - i : Nat) : Int) < ((b : Nat) : Int))) (fun h5 h5' => (.r (.ch 5 ([⟨g, 9, (List.map Card.row (mAt (ltF cmp) mid ((mid + p) - i) b l)), none⟩] : Heap) (ih_at mid ((mid + p) - i) b n g l (by first | (exfalso; omega) | ((first | rw [if_pos ow] at e1 | rw [if_neg ow] at e1); (first | rw [if_pos ow] at e2 | rw [if_neg ow] at e2); rw [e1, e2]; exact hlen2.symm)) (by first | exact hc | exact hxs | omega | (simp; omega)) (by first | exact hc | exact hxs | omega | (simp; omega)) (by first | exact hc | exact hxs | omega | (simp; omega)) (by first | exact hc | exact hxs | omega | (simp; omega)) (by first | exact hc | exact hxs | omega | (simp; omega)) (by first | (exfalso; omega) | ((first | rw [if_pos ow] at e1 | rw [if_neg ow] at e1); (first | rw [if_pos ow] at e2 | rw [if_neg ow] at e2); rw [e1, e2]; rw [show A ++ (mg (ltF cmp) L1 R1 ++ (L2 ++ (R2 ++ B))) = (A ++ mg (ltF cmp) L1 R1) ++ (L2 ++ (R2 ++ B)) by simp, piece (A ++ mg (ltF cmp) L1 R1) L2 _ (by simp [mg_len]; omega) ow]; exact q2)) (by first | (exfalso; omega) | ((first | rw [if_pos ow] at e1 | rw [if_neg ow] at e1); (first | rw [if_pos ow] at e2 | rw [if_neg ow] at e2); rw [e1, e2]; rw [show A ++ (mg (ltF cmp) L1 R1 ++ (L2 ++ (R2 ++ B))) = ((A ++ mg (ltF cmp) L1 R1) ++ L2) ++ (R2 ++ B) by simp, piece ((A ++ mg (ltF cmp) L1 R1) ++ L2) R2 _ (by simp [mg_len]; omega) ow]; exact q4)) ([] : Heap)) (.g (.f 1 (AV.tup []) (.e (AV.tup []) (by
        try delta Vjc_7
        first | (exfalso; omega) | ((first | rw [if_pos ow] at e1 | rw [if_neg ow] at e1); (first | rw [if_pos ow] at e2 | rw [if_neg ow] at e2); (first | rw [if_pos ow] at e3 | rw [if_neg ow] at e3); rw [e1, e2, e3])))))))) (fun h5 h5' => (.f 1 (AV.tup []) (.e (AV.tup []) (by
        try delta Vjc_7
        first | (exfalso; omega) | ((first | rw [if_pos ow] at e1 | rw [if_neg ow] at e1); (first | rw [if_pos ow] at e2 | rw [if_neg ow] at e2); (first | rw [if_pos ow] at e3 | rw [if_neg ow] at e3); rw [e1, e2, e3])))))))))) (fun h4 h4' => (.no (.no (.g (.no (.f 1 (AV.tup []) (.e (AV.tup []) (by
        try delta Vjc_7
        first | (exfalso; omega) | ((first | rw [if_pos ow] at e1 | rw [if_neg ow] at e1); (first | rw [if_pos ow] at e2 | rw [if_neg ow] at e2); (first | rw [if_pos ow] at e3 | rw [if_neg ow] at e3); rw [e1, e2, e3])))))))))))))))))))))))) (fun h1 h1' => (.no (.no (.g (.no (.r (.two (decide (((a : Nat) : Int) < ((i : Nat) : Int))) (fun h2 h2' => (.yes (.yes (.g (.two (decide (((i : Nat) : Int) < ((mid : Nat) : Int))) (fun h3 h3' => (.r (.ch 5 ([⟨g, 9, (List.map Card.row (mAt (ltF cmp) a i mid l)), none⟩] : Heap) (ih_at a i mid n g l (by first | (exfalso; omega) | ((first | rw [if_pos ow] at e1 | rw [if_neg ow] at e1); rw [e1]; exact hlen1.symm)) (by first | exact hc | exact hxs | omega | (simp; omega)) (by first | exact hc | exact hxs | omega | (simp; omega)) (by first | exact hc | exact hxs | omega | (simp; omega)) (by first | exact hc | exact hxs | omega | (simp; omega)) (by first | exact hc | exact hxs | omega | (simp; omega)) (by first | (exfalso; omega) | ((first | rw [if_pos ow] at e1 | rw [if_neg ow] at e1); rw [e1]; rw [piece A L1 _ hA ow]; exact q1)) (by first | (exfalso; omega) | ((first | rw [if_pos ow] at e1 | rw [if_neg ow] at e1); rw [e1]; rw [show A ++ (L1 ++ (R1 ++ (L2 ++ (R2 ++ B)))) = (A ++ L1) ++ (R1 ++ (L2 ++ (R2 ++ B))) by simp, piece (A ++ L1) R1 _ (by simp; omega) ow]; exact q3)) ([] : Heap)) (.g (.r (.two (decide (((mid : Nat) : Int) < (((mid + p) - i : Nat) : Int))) (fun h4 h4' => (.yes (.yes (.g (.two (decide ((((mid + p) - i : Nat) : Int) < ((b : Nat) : Int))) (fun h5 h5' => (.r (.ch 5 ([⟨g, 9, (List.map Card.row (mAt (ltF cmp) mid ((mid + p) - i) b (mAt (ltF cmp) a i mid l))), none⟩] : Heap) (ih_at mid ((mid + p) - i) b n g (mAt (ltF cmp) a i mid l) (by first | (exfalso; omega) | ((first | rw [if_pos ow] at e1 | rw [if_neg ow] at e1); (first | rw [if_pos ow] at e2 | rw [if_neg ow] at e2); rw [e1, e2]; exact hlen2.symm)) (by first | exact hc | exact hxs | omega | (simp; omega)) (by first | exact hc | exact hxs | omega | (simp; omega)) (by first | exact hc | exact hxs | omega | (simp; omega)) (by first | exact hc | exact hxs | omega | (simp; omega)) (by first | exact hc | exact hxs | omega | (simp; omega)) (by first | (exfalso; omega) | ((first | rw [if_pos ow] at e1 | rw [if_neg ow] at e1); (first | rw [if_pos ow] at e2 | rw [if_neg ow] at e2); rw [e1, e2]; rw [show A ++ (mg (ltF cmp) L1 R1 ++ (L2 ++ (R2 ++ B))) = (A ++ mg (ltF cmp) L1 R1) ++ (L2 ++ (R2 ++ B)) by simp, piece (A ++ mg (ltF cmp) L1 R1) L2 _ (by simp [mg_len]; omega) ow]; exact q2)) (by first | (exfalso; omega) | ((first | rw [if_pos ow] at e1 | rw [if_neg ow] at e1); (first | rw [if_pos ow] at e2 | rw [if_neg ow] at e2); rw [e1, e2]; rw [show A ++ (mg (ltF cmp) L1 R1 ++ (L2 ++ (R2 ++ B))) = ((A ++ mg (ltF cmp) L1 R1) ++ L2) ++ (R2 ++ B) by simp, piece ((A ++ mg (ltF cmp) L1 R1) ++ L2) R2 _ (by simp [mg_len]; omega) ow]; exact q4)) ([] : Heap)) (.g (.f 1 (AV.tup []) (.e (AV.tup []) (by
        try delta Vjc_7
        first | (exfalso; omega) | ((first | rw [if_pos ow] at e1 | rw [if_neg ow] at e1); (first | rw [if_pos ow] at e2 | rw [if_neg ow] at e2); (first | rw [if_pos ow] at e3 | rw [if_neg ow] at e3); rw [e1, e2, e3])))))))) (fun h5 h5' => (.f 1 (AV.tup []) (.e (AV.tup []) (by
        try delta Vjc_7
        first | (exfalso; omega) | ((first | rw [if_pos ow] at e1 | rw [if_neg ow] at e1); (first | rw [if_pos ow] at e2 | rw [if_neg ow] at e2); (first | rw [if_pos ow] at e3 | rw [if_neg ow] at e3); rw [e1, e2, e3])))))))))) (fun h4 h4' => (.no (.no (.g (.no (.f 1 (AV.tup []) (.e (AV.tup []) (by
        try delta Vjc_7
        first | (exfalso; omega) | ((first | rw [if_pos ow] at e1 | rw [if_neg ow] at e1); (first | rw [if_pos ow] at e2 | rw [if_neg ow] at e2); (first | rw [if_pos ow] at e3 | rw [if_neg ow] at e3); rw [e1, e2, e3]))))))))))))))) (fun h3 h3' => (.r (.two (decide (((mid : Nat) : Int) < (((mid + p) - i : Nat) : Int))) (fun h4 h4' => (.yes (.yes (.g (.two (decide ((((mid + p) - i : Nat) : Int) < ((b : Nat) : Int))) (fun h5 h5' => (.r (.ch 5 ([⟨g, 9, (List.map Card.row (mAt (ltF cmp) mid ((mid + p) - i) b l)), none⟩] : Heap) (ih_at mid ((mid + p) - i) b n g l (by first | (exfalso; omega) | ((first | rw [if_pos ow] at e1 | rw [if_neg ow] at e1); (first | rw [if_pos ow] at e2 | rw [if_neg ow] at e2); rw [e1, e2]; exact hlen2.symm)) (by first | exact hc | exact hxs | omega | (simp; omega)) (by first | exact hc | exact hxs | omega | (simp; omega)) (by first | exact hc | exact hxs | omega | (simp; omega)) (by first | exact hc | exact hxs | omega | (simp; omega)) (by first | exact hc | exact hxs | omega | (simp; omega)) (by first | (exfalso; omega) | ((first | rw [if_pos ow] at e1 | rw [if_neg ow] at e1); (first | rw [if_pos ow] at e2 | rw [if_neg ow] at e2); rw [e1, e2]; rw [show A ++ (mg (ltF cmp) L1 R1 ++ (L2 ++ (R2 ++ B))) = (A ++ mg (ltF cmp) L1 R1) ++ (L2 ++ (R2 ++ B)) by simp, piece (A ++ mg (ltF cmp) L1 R1) L2 _ (by simp [mg_len]; omega) ow]; exact q2)) (by first | (exfalso; omega) | ((first | rw [if_pos ow] at e1 | rw [if_neg ow] at e1); (first | rw [if_pos ow] at e2 | rw [if_neg ow] at e2); rw [e1, e2]; rw [show A ++ (mg (ltF cmp) L1 R1 ++ (L2 ++ (R2 ++ B))) = ((A ++ mg (ltF cmp) L1 R1) ++ L2) ++ (R2 ++ B) by simp, piece ((A ++ mg (ltF cmp) L1 R1) ++ L2) R2 _ (by simp [mg_len]; omega) ow]; exact q4)) ([] : Heap)) (.g (.f 1 (AV.tup []) (.e (AV.tup []) (by
        try delta Vjc_7
        first | (exfalso; omega) | ((first | rw [if_pos ow] at e1 | rw [if_neg ow] at e1); (first | rw [if_pos ow] at e2 | rw [if_neg ow] at e2); (first | rw [if_pos ow] at e3 | rw [if_neg ow] at e3); rw [e1, e2, e3])))))))) (fun h5 h5' => (.f 1 (AV.tup []) (.e (AV.tup []) (by
        try delta Vjc_7
        first | (exfalso; omega) | ((first | rw [if_pos ow] at e1 | rw [if_neg ow] at e1); (first | rw [if_pos ow] at e2 | rw [if_neg ow] at e2); (first | rw [if_pos ow] at e3 | rw [if_neg ow] at e3); rw [e1, e2, e3])))))))))) (fun h4 h4' => (.no (.no (.g (.no (.f 1 (AV.tup []) (.e (AV.tup []) (by
        try delta Vjc_7
        first | (exfalso; omega) | ((first | rw [if_pos ow] at e1 | rw [if_neg ow] at e1); (first | rw [if_pos ow] at e2 | rw [if_neg ow] at e2); (first | rw [if_pos ow] at e3 | rw [if_neg ow] at e3); rw [e1, e2, e3]))))))))))))))))) (fun h2 h2' => (.no (.no (.g (.no (.r (.two (decide (((mid : Nat) : Int) < (((mid + p) - i : Nat) : Int))) (fun h3 h3' => (.yes (.yes (.g (.two (decide ((((mid + p) - i : Nat) : Int) < ((b : Nat) : Int))) (fun h4 h4' => (.r (.ch 5 ([⟨g, 9, (List.map Card.row (mAt (ltF cmp) mid ((mid + p) - i) b l)), none⟩] : Heap) (ih_at mid ((mid + p) - i) b n g l (by first | (exfalso; omega) | ((first | rw [if_pos ow] at e1 | rw [if_neg ow] at e1); (first | rw [if_pos ow] at e2 | rw [if_neg ow] at e2); rw [e1, e2]; exact hlen2.symm)) (by first | exact hc | exact hxs | omega | (simp; omega)) (by first | exact hc | exact hxs | omega | (simp; omega)) (by first | exact hc | exact hxs | omega | (simp; omega)) (by first | exact hc | exact hxs | omega | (simp; omega)) (by first | exact hc | exact hxs | omega | (simp; omega)) (by first | (exfalso; omega) | ((first | rw [if_pos ow] at e1 | rw [if_neg ow] at e1); (first | rw [if_pos ow] at e2 | rw [if_neg ow] at e2); rw [e1, e2]; rw [show A ++ (mg (ltF cmp) L1 R1 ++ (L2 ++ (R2 ++ B))) = (A ++ mg (ltF cmp) L1 R1) ++ (L2 ++ (R2 ++ B)) by simp, piece (A ++ mg (ltF cmp) L1 R1) L2 _ (by simp [mg_len]; omega) ow]; exact q2)) (by first | (exfalso; omega) | ((first | rw [if_pos ow] at e1 | rw [if_neg ow] at e1); (first | rw [if_pos ow] at e2 | rw [if_neg ow] at e2); rw [e1, e2]; rw [show A ++ (mg (ltF cmp) L1 R1 ++ (L2 ++ (R2 ++ B))) = ((A ++ mg (ltF cmp) L1 R1) ++ L2) ++ (R2 ++ B) by simp, piece ((A ++ mg (ltF cmp) L1 R1) ++ L2) R2 _ (by simp [mg_len]; omega) ow]; exact q4)) ([] : Heap)) (.g (.f 1 (AV.tup []) (.e (AV.tup []) (by
        try delta Vjc_7
        first | (exfalso; omega) | ((first | rw [if_pos ow] at e1 | rw [if_neg ow] at e1); (first | rw [if_pos ow] at e2 | rw [if_neg ow] at e2); (first | rw [if_pos ow] at e3 | rw [if_neg ow] at e3); rw [e1, e2, e3])))))))) (fun h4 h4' => (.f 1 (AV.tup []) (.e (AV.tup []) (by
        try delta Vjc_7
        first | (exfalso; omega) | ((first | rw [if_pos ow] at e1 | rw [if_neg ow] at e1); (first | rw [if_pos ow] at e2 | rw [if_neg ow] at e2); (first | rw [if_pos ow] at e3 | rw [if_neg ow] at e3); rw [e1, e2, e3])))))))))) (fun h3 h3' => (.no (.no (.g (.no (.f 1 (AV.tup []) (.e (AV.tup []) (by
        try delta Vjc_7
        first | (exfalso; omega) | ((first | rw [if_pos ow] at e1 | rw [if_neg ow] at e1); (first | rw [if_pos ow] at e2 | rw [if_neg ow] at e2); (first | rw [if_pos ow] at e3 | rw [if_neg ow] at e3); rw [e1, e2, e3]))))))))))))))))))))))))))))))))))))))))))))))))))))))))))))
set_option maxHeartbeats 4000000 in
set_option maxRecDepth 100000 in
theorem sCD_spec (cmp : Card → Card → Int) (f : Nat) (xs : List AV) (A L1 L2 R1 R2 B : List Card) (a p b n g i mid Nz : Nat) (l : List Card) (hc : ∀ (x y : Card) (H : Heap), ACalls Try.prog f ([AV.agg (Card.row x), AV.agg (Card.row y)] ++ xs) H (AV.int .i64 (cmp x y), H)) (hxs : AV.bdds 1 xs = true) (hn : n = l.length) (hnb : n < 1048576) (ih_at : ∀ (a p b n g : Nat) (l : List Card), n = l.length → n < 1048576 → a < p → p < b → b ≤ n → b - a < Nz → Srt (ltF cmp) ((l.drop a).take (p - a)) → Srt (ltF cmp) ((l.drop p).take (b - p)) → ∀ H : Heap, ACalls Try.prog 111 [(.osl 0 g 9 0 n), (.int .i64 ((a : Nat) : Int)), (.int .i64 ((p : Nat) : Int)), (.int .i64 ((b : Nat) : Int)), (.func f xs)] (([⟨g, 9, (List.map Card.row l), none⟩] : Heap) ++ H) (.tup [], ([⟨g, 9, (List.map Card.row (mAt (ltF cmp) a p b l)), none⟩] : Heap) ++ H)) (hl : l = A ++ (L1 ++ (L2 ++ (R1 ++ (R2 ++ B))))) (hA : a = A.length) (hi : i = a + L1.length) (hp : p = i + L2.length) (hR1 : mid = i + R1.length) (hb : b = p + R1.length + R2.length) (hbn : b ≤ n) (hap : a < p) (hpb : p < b) (h1 : p ≠ a + 1) (h2 : b ≠ p + 1) (hmid : mid = (a + b) / 2) (hNz : b - a ≤ Nz) (hgt : p ≤ mid) (hs : i = bsr (fun c => !decide (cmp (nth l (mid + p - 1 - c)) (nth l c) < 0)) (p - (a)) (a) p) (hlo : a ≤ i) (hhi : i ≤ p) (q1 : Srt (ltF cmp) L1) (q2 : Srt (ltF cmp) L2) (q3 : Srt (ltF cmp) R1) (q4 : Srt (ltF cmp) R2) : ACalls Try.prog 111 [(.osl 0 g 9 0 n), (.int .i64 ((a : Nat) : Int)), (.int .i64 ((p : Nat) : Int)), (.int .i64 ((b : Nat) : Int)), (.func f xs)] ([⟨g, 9, (List.map Card.row l), none⟩] : Heap) ((AV.tup []), ([⟨g, 9, (List.map Card.row (A ++ (mg (ltF cmp) L1 R1 ++ (mg (ltF cmp) L2 R2 ++ B)))), none⟩] : Heap)) := by
  have hll : n = A.length + L1.length + L2.length + R1.length + R2.length + B.length := by rw [hn, hl]; simp; omega
  have e1 := sm1 A L1 L2 R1 R2 B hl (s := i) (m := p) (e := mid + p - i) ow hp ow
  have e2 := sm2 (ltF cmp) A L1 R1 (L2 ++ (R2 ++ B)) (a := a) (s := i) (mid := mid) hA hi hR1
  have e3 := sm3 (ltF cmp) A (mg (ltF cmp) L1 R1) L2 R2 B (mid := mid) (e := mid + p - i) (b := b) (by rw [mg_len]; omega) ow ow
  have hrot : 0 < L2.length → 0 < R1.length → _ := rot_facts (A ++ L1) L2 R1 (R2 ++ B) (l := l) (by rw [hl]; simp) (a := i) (m := p) (b := mid + p - i) (by simp; omega) hp ow
  have hlen2 : (A ++ (mg (ltF cmp) L1 R1 ++ (L2 ++ (R2 ++ B)))).length = n := by rw [hll]; simp [mg_len]; omega
  have hlen1 : (A ++ (L1 ++ (R1 ++ (L2 ++ (R2 ++ B))))).length = n := by rw [hll]; simp; omega
  exact specO (fn := Try.f111) (ann := sC_ann) (Has.o Try.func111) (.r (.y 2 (.int .i64 (IntKind.i64.wrap (((p : Nat) : Int) - ((a : Nat) : Int)))) (AV.int .i64 ((p - a : Nat) : Int)) (Yes.add ow ow ow) (.y 3 (AV.bool (((p - a : Nat) : Int) == 1)) (AV.bool false) (Yes.bool (by exact beq_eq_false_iff_ne.2 ow)) (.g (.no (.r (.y 2 (.int .i64 (IntKind.i64.wrap (((b : Nat) : Int) - ((p : Nat) : Int)))) (AV.int .i64 ((b - p : Nat) : Int)) (Yes.add ow ow ow) (.y 3 (AV.bool (((b - p : Nat) : Int) == 1)) (AV.bool false) (Yes.bool (by exact beq_eq_false_iff_ne.2 ow)) (.g (.no (.r (.y 2 (.int .i64 (IntKind.i64.wrap (((a : Nat) : Int) + ((b : Nat) : Int)))) (AV.int .i64 ((a + b : Nat) : Int)) (Yes.add ow ow ow) (.y 5 (AV.int .i64 (IntKind.i64.wrap (Int.fdiv (IntKind.u64.wrap ((a + b : Nat) : Int)) (2 ^ (min (Int.toNat 1) 64))))) (AV.int .i64 ((mid : Nat) : Int)) (Yes.int (half_nat ow ow)) (.g (.r (.y 2 (.int .i64 (IntKind.i64.wrap (((mid : Nat) : Int) + ((p : Nat) : Int)))) (AV.int .i64 ((mid + p : Nat) : Int)) (Yes.add ow ow ow) (.g (.r (.g (.r (.y 2 (AV.bool (decide (((p : Nat) : Int) > ((mid : Nat) : Int)))) (AV.bool false) (Yes.bool (by exact decide_eq_false ow)) (.g (.no (.r (.g (.r (.g (.r (.y 1 (.int .i64 (IntKind.i64.wrap (((mid + p : Nat) : Int) - 1))) (AV.int .i64 ((mid + p - 1 : Nat) : Int)) (Yes.add ow ow ow) (.g (.loop (Vjc_6 g n a p b f xs mid i) (show LoopTo (codeQ Try.prog (X sC_ann) (loopOf Try.f111 4)) (some [0, 1, 2, 3, 4, 18, 19, 20, 21, 22]) (some [0, 1, 2, 3, 4, 18, 19, 20]) (mkF 220 [(0, (.osl 0 g 9 0 n)), (1, (.int .i64 ((a : Nat) : Int))), (2, (.int .i64 ((p : Nat) : Int))), (3, (.int .i64 ((b : Nat) : Int))), (4, (.func f xs)), (18, (.int .i64 ((mid : Nat) : Int))), (19, (.int .i64 ((mid + p : Nat) : Int))), (20, (.int .i64 ((a : Nat) : Int))), (21, (.int .i64 ((p : Nat) : Int))), (22, (.int .i64 ((mid + p - 1 : Nat) : Int)))]) ([⟨g, 9, (List.map Card.row l), none⟩] : Heap) (.exit 8) (Vjc_6 g n a p b f xs mid i) ([⟨g, 9, (List.map Card.row l), none⟩] : Heap) from (by rw [hs]; exact sCc_loop cmp f xs hc a p b mid (mid + p) (mid + p - 1) n g l hn hnb (p - (a)) a p ow ow ow)) (.r (.y 2 (.int .i64 (IntKind.i64.wrap ((((mid + p) : Nat) : Int) - ((i : Nat) : Int)))) (AV.int .i64 (((mid + p) - i : Nat) : Int)) (Yes.add ow ow ow) (.g (.r (.two (decide (((i : Nat) : Int) < ((p : Nat) : Int))) (fun h1 h1' => (.yes (.yes (.g (.two (decide (((p : Nat) : Int) < (((mid + p) - i : Nat) : Int))) (fun h2 h2' => (.r (.ch 5 (Vjc_7 g i p mid l) (mCr_at f xs i p ((mid + p) - i) n g l (by first | exact hc | exact hxs | omega | (simp; omega)) (by first | exact hc | exact hxs | omega | (simp; omega)) (by first | exact hc | exact hxs | omega | (simp; omega)) (by first | exact hc | exact hxs | omega | (simp; omega)) (by first | exact hc | exact hxs | omega | (simp; omega)) (by first | exact hc | exact hxs | omega | (simp; omega)) ((hrot ow ow).1) ((hrot ow ow).2.1) ((hrot ow ow).2.2) ([] : Heap)) (.g (.r (.two (decide (((a : Nat) : Int) < ((i : Nat) : Int))) (fun h3 h3' => (.yes (.yes (.g (.two (decide (((i : Nat) : Int) < ((mid : Nat) : Int))) (fun h4 h4' => (.r (.ch 5 ([⟨g, 9, (List.map Card.row (mAt (ltF cmp) a i mid (rotL i p ((mid + p) - i) l))), none⟩] : Heap) (ih_at a i mid n g (rotL i p ((mid + p) - i) l) (by first | (exfalso; omega) | ((first | rw [if_pos ow] at e1 | rw [if_neg ow] at e1); rw [e1]; exact hlen1.symm)) (by first | exact hc | exact hxs | omega | (simp; omega)) (by first | exact hc | exact hxs | omega | (simp; omega)) (by first | exact hc | exact hxs | omega | (simp; omega)) (by first | exact hc | exact hxs | omega | (simp; omega)) (by first | exact hc | exact hxs | omega | (simp; omega)) (by first | (exfalso; omega) | ((first | rw [if_pos ow] at e1 | rw [if_neg ow] at e1); rw [e1]; rw [piece A L1 _ hA ow]; exact q1)) (by first | (exfalso; omega) | ((first | rw [if_pos ow] at e1 | rw [if_neg ow] at e1); rw [e1]; rw [show A ++ (L1 ++ (R1 ++ (L2 ++ (R2 ++ B)))) = (A ++ L1) ++ (R1 ++ (L2 ++ (R2 ++ B))) by simp, piece (A ++ L1) R1 _ (by simp; omega) ow]; exact q3)) ([] : Heap)) (.g (.r (.two (decide (((mid : Nat) : Int) < (((mid + p) - i : Nat) : Int))) (fun h5 h5' => (.yes (.yes (.g (.two (decide ((((mid + p) - i : Nat) : Int) < ((b : Nat) : Int))) (fun h6 h6' => (.r (.ch 5 ([⟨g, 9, (List.map Card.row (mAt (ltF cmp) mid ((mid + p) - i) b (mAt (ltF cmp) a i mid (rotL i p ((mid + p) - i) l)))), none⟩] : Heap) (ih_at mid ((mid + p) - i) b n g (mAt (ltF cmp) a i mid (rotL i p ((mid + p) - i) l)) (by first | (exfalso; omega) | ((first | rw [if_pos ow] at e1 | rw [if_neg ow] at e1); (first | rw [if_pos ow] at e2 | rw [if_neg ow] at e2); rw [e1, e2]; exact hlen2.symm)) (by first | exact hc | exact hxs | omega | (simp; omega)) (by first | exact hc | exact hxs | omega | (simp; omega)) (by first | exact hc | exact hxs | omega | (simp; omega)) (by first | exact hc | exact hxs | omega | (simp; omega)) (by first | exact hc | exact hxs | omega | (simp; omega)) (by first | (exfalso; omega) | ((first | rw [if_pos ow] at e1 | rw [if_neg ow] at e1); (first | rw [if_pos ow] at e2 | rw [if_neg ow] at e2); rw [e1, e2]; rw [show A ++ (mg (ltF cmp) L1 R1 ++ (L2 ++ (R2 ++ B))) = (A ++ mg (ltF cmp) L1 R1) ++ (L2 ++ (R2 ++ B)) by simp, piece (A ++ mg (ltF cmp) L1 R1) L2 _ (by simp [mg_len]; omega) ow]; exact q2)) (by first | (exfalso; omega) | ((first | rw [if_pos ow] at e1 | rw [if_neg ow] at e1); (first | rw [if_pos ow] at e2 | rw [if_neg ow] at e2); rw [e1, e2]; rw [show A ++ (mg (ltF cmp) L1 R1 ++ (L2 ++ (R2 ++ B))) = ((A ++ mg (ltF cmp) L1 R1) ++ L2) ++ (R2 ++ B) by simp, piece ((A ++ mg (ltF cmp) L1 R1) ++ L2) R2 _ (by simp [mg_len]; omega) ow]; exact q4)) ([] : Heap)) (.g (.f 1 (AV.tup []) (.e (AV.tup []) (by
        try delta Vjc_7
        first | (exfalso; omega) | ((first | rw [if_pos ow] at e1 | rw [if_neg ow] at e1); (first | rw [if_pos ow] at e2 | rw [if_neg ow] at e2); (first | rw [if_pos ow] at e3 | rw [if_neg ow] at e3); rw [e1, e2, e3])))))))) (fun h6 h6' => (.f 1 (AV.tup []) (.e (AV.tup []) (by
        try delta Vjc_7
        first | (exfalso; omega) | ((first | rw [if_pos ow] at e1 | rw [if_neg ow] at e1); (first | rw [if_pos ow] at e2 | rw [if_neg ow] at e2); (first | rw [if_pos ow] at e3 | rw [if_neg ow] at e3); rw [e1, e2, e3])))))))))) (fun h5 h5' => (.no (.no (.g (.no (.f 1 (AV.tup []) (.e (AV.tup []) (by
        try delta Vjc_7
        first | (exfalso; omega) | ((first | rw [if_pos ow] at e1 | rw [if_neg ow] at e1); (first | rw [if_pos ow] at e2 | rw [if_neg ow] at e2); (first | rw [if_pos ow] at e3 | rw [if_neg ow] at e3); rw [e1, e2, e3]))))))))))))))) (fun h4 h4' => (.r (.two (decide (((mid : Nat) : Int) < (((mid + p) - i : Nat) : Int))) (fun h5 h5' => (.yes (.yes (.g (.two (decide ((((mid + p) - i : Nat) : Int) < ((b : Nat) : Int))) (fun h6 h6' => (.r (.ch 5 ([⟨g, 9, (List.map Card.row (mAt (ltF cmp) mid ((mid + p) - i) b (rotL i p ((mid + p) - i) l))), none⟩] : Heap) (ih_at mid ((mid + p) - i) b n g (rotL i p ((mid + p) - i) l) (by first | (exfalso; omega) | ((first | rw [if_pos ow] at e1 | rw [if_neg ow] at e1); (first | rw [if_pos ow] at e2 | rw [if_neg ow] at e2); rw [e1, e2]; exact hlen2.symm)) (by first | exact hc | exact hxs | omega | (simp; omega)) (by first | exact hc | exact hxs | omega | (simp; omega)) (by first | exact hc | exact hxs | omega | (simp; omega)) (by first | exact hc | exact hxs | omega | (simp; omega)) (by first | exact hc | exact hxs | omega | (simp; omega)) (by first | (exfalso; omega) | ((first | rw [if_pos ow] at e1 | rw [if_neg ow] at e1); (first | rw [if_pos ow] at e2 | rw [if_neg ow] at e2); rw [e1, e2]; rw [show A ++ (mg (ltF cmp) L1 R1 ++ (L2 ++ (R2 ++ B))) = (A ++ mg (ltF cmp) L1 R1) ++ (L2 ++ (R2 ++ B)) by simp, piece (A ++ mg (ltF cmp) L1 R1) L2 _ (by simp [mg_len]; omega) ow]; exact q2)) (by first | (exfalso; omega) | ((first | rw [if_pos ow] at e1 | rw [if_neg ow] at e1); (first | rw [if_pos ow] at e2 | rw [if_neg ow] at e2); rw [e1, e2]; rw [show A ++ (mg (ltF cmp) L1 R1 ++ (L2 ++ (R2 ++ B))) = ((A ++ mg (ltF cmp) L1 R1) ++ L2) ++ (R2 ++ B) by simp, piece ((A ++ mg (ltF cmp) L1 R1) ++ L2) R2 _ (by simp [mg_len]; omega) ow]; exact q4)) ([] : Heap)) (.g (.f 1 (AV.tup []) (.e (AV.tup []) (by
        try delta Vjc_7
        first | (exfalso; omega) | ((first | rw [if_pos ow] at e1 | rw [if_neg ow] at e1); (first | rw [if_pos ow] at e2 | rw [if_neg ow] at e2); (first | rw [if_pos ow] at e3 | rw [if_neg ow] at e3); rw [e1, e2, e3])))))))) (fun h6 h6' => (.f 1 (AV.tup []) (.e (AV.tup []) (by
        try delta Vjc_7
        first | (exfalso; omega) | ((first | rw [if_pos ow] at e1 | rw [if_neg ow] at e1); (first | rw [if_pos ow] at e2 | rw [if_neg ow] at e2); (first | rw [if_pos ow] at e3 | rw [if_neg ow] at e3); rw [e1, e2, e3])))))))))) (fun h5 h5' => (.no (.no (.g (.no (.f 1 (AV.tup []) (.e (AV.tup []) (by
        try delta Vjc_7
        first | (exfalso; omega) | ((first | rw [if_pos ow] at e1 | rw [if_neg ow] at e1); (first | rw [if_pos ow] at e2 | rw [if_neg ow] at e2); (first | rw [if_pos ow] at e3 | rw [if_neg ow] at e3); rw [e1, e2, e3]))))))))))))))))) (fun h3 h3' => (.no (.no (.g (.no (.r (.two (decide (((mid : Nat) : Int) < (((mid + p) - i : Nat) : Int))) (fun h4 h4' => (.yes (.yes (.g (.two (decide ((((mid + p) - i : Nat) : Int) < ((b : Nat) : Int))) (fun h5 h5' => (.r (.ch 5 ([⟨g, 9, (List.map Card.row (mAt (ltF cmp) mid ((mid + p) - i) b (rotL i p ((mid + p) - i) l))), none⟩] : Heap) (ih_at mid ((mid + p) - i) b n g (rotL i p ((mid + p) - i) l) (by first | (exfalso; omega) | ((first | rw [if_pos ow] at e1 | rw [if_neg ow] at e1); (first | rw [if_pos ow] at e2 | rw [if_neg ow] at e2); rw [e1, e2]; exact hlen2.symm)) (by first | exact hc | exact hxs | omega | (simp; omega)) (by first | exact hc | exact hxs | omega | (simp; omega)) (by first | exact hc | exact hxs | omega | (simp; omega)) (by first | exact hc | exact hxs | omega | (simp; omega)) (by first | exact hc | exact hxs | omega | (simp; omega)) (by first | (exfalso; omega) | ((first | rw [if_pos ow] at e1 | rw [if_neg ow] at e1); (first | rw [if_pos ow] at e2 | rw [if_neg ow] at e2); rw [e1, e2]; rw [show A ++ (mg (ltF cmp) L1 R1 ++ (L2 ++ (R2 ++ B))) = (A ++ mg (ltF cmp) L1 R1) ++ (L2 ++ (R2 ++ B)) by simp, piece (A ++ mg (ltF cmp) L1 R1) L2 _ (by simp [mg_len]; omega) ow]; exact q2)) (by first | (exfalso; omega) | ((first | rw [if_pos ow] at e1 | rw [if_neg ow] at e1); (first | rw [if_pos ow] at e2 | rw [if_neg ow] at e2); rw [e1, e2]; rw [show A ++ (mg (ltF cmp) L1 R1 ++ (L2 ++ (R2 ++ B))) = ((A ++ mg (ltF cmp) L1 R1) ++ L2) ++ (R2 ++ B) by simp, piece ((A ++ mg (ltF cmp) L1 R1) ++ L2) R2 _ (by simp [mg_len]; omega) ow]; exact q4)) ([] : Heap)) (.g (.f 1 (AV.tup []) (.e (AV.tup []) (by
        try delta Vjc_7
        first | (exfalso; omega) | ((first | rw [if_pos ow] at e1 | rw [if_neg ow] at e1); (first | rw [if_pos ow] at e2 | rw [if_neg ow] at e2); (first | rw [if_pos ow] at e3 | rw [if_neg ow] at e3); rw [e1, e2, e3])))))))) (fun h5 h5' => (.f 1 (AV.tup []) (.e (AV.tup []) (by
        try delta Vjc_7
        first | (exfalso; omega) | ((first | rw [if_pos ow] at e1 | rw [if_neg ow] at e1); (first | rw [if_pos ow] at e2 | rw [if_neg ow] at e2); (first | rw [if_pos ow] at e3 | rw [if_neg ow] at e3); rw [e1, e2, e3])))))))))) (fun h4 h4' => (.no (.no (.g (.no (.f 1 (AV.tup []) (.e (AV.tup []) (by
        try delta Vjc_7
        first | (exfalso; omega) | ((first | rw [if_pos ow] at e1 | rw [if_neg ow] at e1); (first | rw [if_pos ow] at e2 | rw [if_neg ow] at e2); (first | rw [if_pos ow] at e3 | rw [if_neg ow] at e3); rw [e1, e2, e3])))))))))))))))))))))) (fun h2 h2' => (.r (.two (decide (((a : Nat) : Int) < ((i : Nat) : Int))) (fun h3 h3' => (.yes (.yes (.g (.two (decide (((i : Nat) : Int) < ((mid : Nat) : Int))) (fun h4 h4' => (.r (.ch 5 ([⟨g, 9, (List.map Card.row (mAt (ltF cmp) a i mid l)), none⟩] : Heap) (ih_at a i mid n g l (by first | (exfalso; omega) | ((first | rw [if_pos ow] at e1 | rw [if_neg ow] at e1); rw [e1]; exact hlen1.symm)) (by first | exact hc | exact hxs | omega | (simp; omega)) (by first | exact hc | exact hxs | omega | (simp; omega)) (by first | exact hc | exact hxs | omega | (simp; omega)) (by first | exact hc | exact hxs | omega | (simp; omega)) (by first | exact hc | exact hxs | omega | (simp; omega)) (by first | (exfalso; omega) | ((first | rw [if_pos ow] at e1 | rw [if_neg ow] at e1); rw [e1]; rw [piece A L1 _ hA ow]; exact q1)) (by first | (exfalso; omega) | ((first | rw [if_pos ow] at e1 | rw [if_neg ow] at e1); rw [e1]; rw [show A ++ (L1 ++ (R1 ++ (L2 ++ (R2 ++ B)))) = (A ++ L1) ++ (R1 ++ (L2 ++ (R2 ++ B))) by simp, piece (A ++ L1) R1 _ (by simp; omega) ow]; exact q3)) ([] : Heap)) (.g (.r (.two (decide (((mid : Nat) : Int) < (((mid + p) - i : Nat) : Int))) (fun h5 h5' => (.yes (.yes (.g (.two (decide ((((mid + p) - i : Nat) : Int) < ((b : Nat) : Int))) (fun h6 h6' => (.r (.ch 5 ([⟨g, 9, (List.map Card.row (mAt (ltF cmp) mid ((mid + p) - i) b (mAt (ltF cmp) a i mid l))), none⟩] : Heap) (ih_at mid ((mid + p) - i) b n g (mAt (ltF cmp) a i mid l) (by first | (exfalso; omega) | ((first | rw [if_pos ow] at e1 | rw [if_neg ow] at e1); (first | rw [if_pos ow] at e2 | rw [if_neg ow] at e2); rw [e1, e2]; exact hlen2.symm)) (by first | exact hc | exact hxs | omega | (simp; omega)) (by first | exact hc | exact hxs | omega | (simp; omega)) (by first | exact hc | exact hxs | omega | (simp; omega)) (by first | exact hc | exact hxs | omega | (simp; omega)) (by first | exact hc | exact hxs | omega | (simp; omega)) (by first | (exfalso; omega) | ((first | rw [if_pos ow] at e1 | rw [if_neg ow] at e1); (first | rw [if_pos ow] at e2 | rw [if_neg ow] at e2); rw [e1, e2]; rw [show A ++ (mg (ltF cmp) L1 R1 ++ (L2 ++ (R2 ++ B))) = (A ++ mg (ltF cmp) L1 R1) ++ (L2 ++ (R2 ++ B)) by simp, piece (A ++ mg (ltF cmp) L1 R1) L2 _ (by simp [mg_len]; omega) ow]; exact q2)) (by first | (exfalso; omega) | ((first | rw [if_pos ow] at e1 | rw [if_neg ow] at e1); (first | rw [if_pos ow] at e2 | rw [if_neg ow] at e2); rw [e1, e2]; rw [show A ++ (mg (ltF cmp) L1 R1 ++ (L2 ++ (R2 ++ B))) = ((A ++ mg (ltF cmp) L1 R1) ++ L2) ++ (R2 ++ B) by simp, piece ((A ++ mg (ltF cmp) L1 R1) ++ L2) R2 _ (by simp [mg_len]; omega) ow]; exact q4)) ([] : Heap)) (.g (.f 1 (AV.tup []) (.e (AV.tup []) (by
        try delta Vjc_7
        first | (exfalso; omega) | ((first | rw [if_pos ow] at e1 | rw [if_neg ow] at e1); (first | rw [if_pos ow] at e2 | rw [if_neg ow] at e2); (first | rw [if_pos ow] at e3 | rw [if_neg ow] at e3); rw [e1, e2, e3])))))))) (fun h6 h6' => (.f 1 (AV.tup []) (.e (AV.tup []) (by
        try delta Vjc_7
        first | (exfalso; omega) | ((first | rw [if_pos ow] at e1 | rw [if_neg ow] at e1); (first | rw [if_pos ow] at e2 | rw [if_neg ow] at e2); (first | rw [if_pos ow] at e3 | rw [if_neg ow] at e3); rw [e1, e2, e3])))))))))) (fun h5 h5' => (.no (.no (.g (.no (.f 1 (AV.tup []) (.e (AV.tup []) (by
        try delta Vjc_7
        first | (exfalso; omega) | ((first | rw [if_pos ow] at e1 | rw [if_neg ow] at e1); (first | rw [if_pos ow] at e2 | rw [if_neg ow] at e2); (first | rw [if_pos ow] at e3 | rw [if_neg ow] at e3); rw [e1, e2, e3]))))))))))))))) (fun h4 h4' => (.r (.two (decide (((mid : Nat) : Int) < (((mid + p) - i : Nat) : Int))) (fun h5 h5' => (.yes (.yes (.g (.two (decide ((((mid + p) - i : Nat) : Int) < ((b : Nat) : Int))) (fun h6 h6' => (.r (.ch 5 ([⟨g, 9, (List.map Card.row (mAt (ltF cmp) mid ((mid + p) - i) b l)), none⟩] : Heap) (ih_at mid ((mid + p) - i) b n g l (by first | (exfalso; omega) | ((first | rw [if_pos ow] at e1 | rw [if_neg ow] at e1); (first | rw [if_pos ow] at e2 | rw [if_neg ow] at e2); rw [e1, e2]; exact hlen2.symm)) (by first | exact hc | exact hxs | omega | (simp; omega)) (by first | exact hc | exact hxs | omega | (simp; omega)) (by first | exact hc | exact hxs | omega | (simp; omega)) (by first | exact hc | exact hxs | omega | (simp; omega)) (by first | exact hc | exact hxs | omega | (simp; omega)) (by first | (exfalso; omega) | ((first | rw [if_pos ow] at e1 | rw [if_neg ow] at e1); (first | rw [if_pos ow] at e2 | rw [if_neg ow] at e2); rw [e1, e2]; rw [show A ++ (mg (ltF cmp) L1 R1 ++ (L2 ++ (R2 ++ B))) = (A ++ mg (ltF cmp) L1 R1) ++ (L2 ++ (R2 ++ B)) by simp, piece (A ++ mg (ltF cmp) L1 R1) L2 _ (by simp [mg_len]; omega) ow]; exact q2)) (by first | (exfalso; omega) | ((first | rw [if_pos ow] at e1 | rw [if_neg ow] at e1); (first | rw [if_pos ow] at e2 | rw [if_neg ow] at e2); rw [e1, e2]; rw [show A ++ (mg (ltF cmp) L1 R1 ++ (L2 ++ (R2 ++ B))) = ((A ++ mg (ltF cmp) L1 R1) ++ L2) ++ (R2 ++ B) by simp, piece ((A ++ mg (ltF cmp) L1 R1) ++ L2) R2 _ (by simp [mg_len]; omega) ow]; exact q4)) ([] : Heap)) (.g (.f 1 (AV.tup []) (.e (AV.tup []) (by
        try delta Vjc_7
        first | (exfalso; omega) | ((first | rw [if_pos ow] at e1 | rw [if_neg ow] at e1); (first | rw [if_pos ow] at e2 | rw [if_neg ow] at e2); (first | rw [if_pos ow] at e3 | rw [if_neg ow] at e3); rw [e1, e2, e3])))))))) (fun h6 h6' => (.f 1 (AV.tup []) (.e (AV.tup []) (by
        try delta Vjc_7
        first | (exfalso; omega) | ((first | rw [if_pos ow] at e1 | rw [if_neg ow] at e1); (first | rw [if_pos ow] at e2 | rw [if_neg ow] at e2); (first | rw [if_pos ow] at e3 | rw [if_neg ow] at e3); rw [e1, e2, e3])))))))))) (fun h5 h5' => (.no (.no (.g (.no (.f 1 (AV.tup []) (.e (AV.tup []) (by
        try delta Vjc_7
        first | (exfalso; omega) | ((first | rw [if_pos ow] at e1 | rw [if_neg ow] at e1); (first | rw [if_pos ow] at e2 | rw [if_neg ow] at e2); (first | rw [if_pos ow] at e3 | rw [if_neg ow] at e3); rw [e1, e2, e3]))))))))))))))))) (fun h3 h3' => (.no (.no (.g (.no (.r (.two (decide (((mid : Nat) : Int) < (((mid + p) - i : Nat) : Int))) (fun h4 h4' => (.yes (.yes (.g (.two (decide ((((mid + p) - i : Nat) : Int) < ((b : Nat) : Int))) (fun h5 h5' => (.r (.ch 5 ([⟨g, 9, (List.map Card.row (mAt (ltF cmp) mid ((mid + p) - i) b l)), none⟩] : Heap) (ih_at mid ((mid + p) - i) b n g l (by first | (exfalso; omega) | ((first | rw [if_pos ow] at e1 | rw [if_neg ow] at e1); (first | rw [if_pos ow] at e2 | rw [if_neg ow] at e2); rw [e1, e2]; exact hlen2.symm)) (by first | exact hc | exact hxs | omega | (simp; omega)) (by first | exact hc | exact hxs | omega | (simp; omega)) (by first | exact hc | exact hxs | omega | (simp; omega)) (by first | exact hc | exact hxs | omega | (simp; omega)) (by first | exact hc | exact hxs | omega | (simp; omega)) (by first | (exfalso; omega) | ((first | rw [if_pos ow] at e1 | rw [if_neg ow] at e1); (first | rw [if_pos ow] at e2 | rw [if_neg ow] at e2); rw [e1, e2]; rw [show A ++ (mg (ltF cmp) L1 R1 ++ (L2 ++ (R2 ++ B))) = (A ++ mg (ltF cmp) L1 R1) ++ (L2 ++ (R2 ++ B)) by simp, piece (A ++ mg (ltF cmp) L1 R1) L2 _ (by simp [mg_len]; omega) ow]; exact q2)) (by first | (exfalso; omega) | ((first | rw [if_pos ow] at e1 | rw [if_neg ow] at e1); (first | rw [if_pos ow] at e2 | rw [if_neg ow] at e2); rw [e1, e2]; rw [show A ++ (mg (ltF cmp) L1 R1 ++ (L2 ++ (R2 ++ B))) = ((A ++ mg (ltF cmp) L1 R1) ++ L2) ++ (R2 ++ B) by simp, piece ((A ++ mg (ltF cmp) L1 R1) ++ L2) R2 _ (by simp [mg_len]; omega) ow]; exact q4)) ([] : Heap)) (.g (.f 1 (AV.tup []) (.e (AV.tup []) (by
        try delta Vjc_7
        first | (exfalso; omega) | ((first | rw [if_pos ow] at e1 | rw [if_neg ow] at e1); (first | rw [if_pos ow] at e2 | rw [if_neg ow] at e2); (first | rw [if_pos ow] at e3 | rw [if_neg ow] at e3); rw [e1, e2, e3])))))))) (fun h5 h5' => (.f 1 (AV.tup []) (.e (AV.tup []) (by
        try delta Vjc_7
        first | (exfalso; omega) | ((first | rw [if_pos ow] at e1 | rw [if_neg ow] at e1); (first | rw [if_pos ow] at e2 | rw [if_neg ow] at e2); (first | rw [if_pos ow] at e3 | rw [if_neg ow] at e3); rw [e1, e2, e3])))))))))) (fun h4 h4' => (.no (.no (.g (.no (.f 1 (AV.tup []) (.e (AV.tup []) (by
        try delta Vjc_7
        first | (exfalso; omega) | ((first | rw [if_pos ow] at e1 | rw [if_neg ow] at e1); (first | rw [if_pos ow] at e2 | rw [if_neg ow] at e2); (first | rw [if_pos ow] at e3 | rw [if_neg ow] at e3); rw [e1, e2, e3])))))))))))))))))))))))) (fun h1 h1' => (.no (.no (.g (.no (.r (.two (decide (((a : Nat) : Int) < ((i : Nat) : Int))) (fun h2 h2' => (.yes (.yes (.g (.two (decide (((i : Nat) : Int) < ((mid : Nat) : Int))) (fun h3 h3' => (.r (.ch 5 ([⟨g, 9, (List.map Card.row (mAt (ltF cmp) a i mid l)), none⟩] : Heap) (ih_at a i mid n g l (by first | (exfalso; omega) | ((first | rw [if_pos ow] at e1 | rw [if_neg ow] at e1); rw [e1]; exact hlen1.symm)) (by first | exact hc | exact hxs | omega | (simp; omega)) (by first | exact hc | exact hxs | omega | (simp; omega)) (by first | exact hc | exact hxs | omega | (simp; omega)) (by first | exact hc | exact hxs | omega | (simp; omega)) (by first | exact hc | exact hxs | omega | (simp; omega)) (by first | (exfalso; omega) | ((first | rw [if_pos ow] at e1 | rw [if_neg ow] at e1); rw [e1]; rw [piece A L1 _ hA ow]; exact q1)) (by first | (exfalso; omega) | ((first | rw [if_pos ow] at e1 | rw [if_neg ow] at e1); rw [e1]; rw [show A ++ (L1 ++ (R1 ++ (L2 ++ (R2 ++ B)))) = (A ++ L1) ++ (R1 ++ (L2 ++ (R2 ++ B))) by simp, piece (A ++ L1) R1 _ (by simp; omega) ow]; exact q3)) ([] : Heap)) (.g (.r (.two (decide (((mid : Nat) : Int) < (((mid + p) - i : Nat) : Int))) (fun h4 h4' => (.yes (.yes (.g (.two (decide ((((mid + p) - i : Nat) : Int) < ((b : Nat) : Int))) (fun h5 h5' => (.r (.ch 5 ([⟨g, 9, (List.map Card.row (mAt (ltF cmp) mid ((mid + p) - i) b (mAt (ltF cmp) a i mid l))), none⟩] : Heap) (ih_at mid ((mid + p) - i) b n g (mAt (ltF cmp) a i mid l) (by first | (exfalso; omega) | ((first | rw [if_pos ow] at e1 | rw [if_neg ow] at e1); (first | rw [if_pos ow] at e2 | rw [if_neg ow] at e2); rw [e1, e2]; exact hlen2.symm)) (by first | exact hc | exact hxs | omega | (simp; omega)) (by first | exact hc | exact hxs | omega | (simp; omega)) (by first | exact hc | exact hxs | omega | (simp; omega)) (by first | exact hc | exact hxs | omega | (simp; omega)) (by first | exact hc | exact hxs | omega | (simp; omega)) (by first | (exfalso; omega) | ((first | rw [if_pos ow] at e1 | rw [if_neg ow] at e1); (first | rw [if_pos ow] at e2 | rw [if_neg ow] at e2); rw [e1, e2]; rw [show A ++ (mg (ltF cmp) L1 R1 ++ (L2 ++ (R2 ++ B))) = (A ++ mg (ltF cmp) L1 R1) ++ (L2 ++ (R2 ++ B)) by simp, piece (A ++ mg (ltF cmp) L1 R1) L2 _ (by simp [mg_len]; omega) ow]; exact q2)) (by first | (exfalso; omega) | ((first | rw [if_pos ow] at e1 | rw [if_neg ow] at e1); (first | rw [if_pos ow] at e2 | rw [if_neg ow] at e2); rw [e1, e2]; rw [show A ++ (mg (ltF cmp) L1 R1 ++ (L2 ++ (R2 ++ B))) = ((A ++ mg (ltF cmp) L1 R1) ++ L2) ++ (R2 ++ B) by simp, piece ((A ++ mg (ltF cmp) L1 R1) ++ L2) R2 _ (by simp [mg_len]; omega) ow]; exact q4)) ([] : Heap)) (.g (.f 1 (AV.tup []) (.e (AV.tup []) (by
        try delta Vjc_7
        first | (exfalso; omega) | ((first | rw [if_pos ow] at e1 | rw [if_neg ow] at e1); (first | rw [if_pos ow] at e2 | rw [if_neg ow] at e2); (first | rw [if_pos ow] at e3 | rw [if_neg ow] at e3); rw [e1, e2, e3])))))))) (fun h5 h5' => (.f 1 (AV.tup []) (.e (AV.tup []) (by
        try delta Vjc_7
        first | (exfalso; omega) | ((first | rw [if_pos ow] at e1 | rw [if_neg ow] at e1); (first | rw [if_pos ow] at e2 | rw [if_neg ow] at e2); (first | rw [if_pos ow] at e3 | rw [if_neg ow] at e3); rw [e1, e2, e3])))))))))) (fun h4 h4' => (.no (.no (.g (.no (.f 1 (AV.tup []) (.e (AV.tup []) (by
        try delta Vjc_7
        first | (exfalso; omega) | ((first | rw [if_pos ow] at e1 | rw [if_neg ow] at e1); (first | rw [if_pos ow] at e2 | rw [if_neg ow] at e2); (first | rw [if_pos ow] at e3 | rw [if_neg ow] at e3); rw [e1, e2, e3]))))))))))))))) (fun h3 h3' => (.r (.two (decide (((mid : Nat) : Int) < (((mid + p) - i : Nat) : Int))) (fun h4 h4' => (.yes (.yes (.g (.two (decide ((((mid + p) - i : Nat) : Int) < ((b : Nat) : Int))) (fun h5 h5' => (.r (.ch 5 ([⟨g, 9, (List.map Card.row (mAt (ltF cmp) mid ((mid + p) - i) b l)), none⟩] : Heap) (ih_at mid ((mid + p) - i) b n g l (by first | (exfalso; omega) | ((first | rw [if_pos ow] at e1 | rw [if_neg ow] at e1); (first | rw [if_pos ow] at e2 | rw [if_neg ow] at e2); rw [e1, e2]; exact hlen2.symm)) (by first | exact hc | exact hxs | omega | (simp; omega)) (by first | exact hc | exact hxs | omega | (simp; omega)) (by first | exact hc | exact hxs | omega | (simp; omega)) (by first | exact hc | exact hxs | omega | (simp; omega)) (by first | exact hc | exact hxs | omega | (simp; omega)) (by first | (exfalso; omega) | ((first | rw [if_pos ow] at e1 | rw [if_neg ow] at e1); (first | rw [if_pos ow] at e2 | rw [if_neg ow] at e2); rw [e1, e2]; rw [show A ++ (mg (ltF cmp) L1 R1 ++ (L2 ++ (R2 ++ B))) = (A ++ mg (ltF cmp) L1 R1) ++ (L2 ++ (R2 ++ B)) by simp, piece (A ++ mg (ltF cmp) L1 R1) L2 _ (by simp [mg_len]; omega) ow]; exact q2)) (by first | (exfalso; omega) | ((first | rw [if_pos ow] at e1 | rw [if_neg ow] at e1); (first | rw [if_pos ow] at e2 | rw [if_neg ow] at e2); rw [e1, e2]; rw [show A ++ (mg (ltF cmp) L1 R1 ++ (L2 ++ (R2 ++ B))) = ((A ++ mg (ltF cmp) L1 R1) ++ L2) ++ (R2 ++ B) by simp, piece ((A ++ mg (ltF cmp) L1 R1) ++ L2) R2 _ (by simp [mg_len]; omega) ow]; exact q4)) ([] : Heap)) (.g (.f 1 (AV.tup []) (.e (AV.tup []) (by
        try delta Vjc_7
        first | (exfalso; omega) | ((first | rw [if_pos ow] at e1 | rw [if_neg ow] at e1); (first | rw [if_pos ow] at e2 | rw [if_neg ow] at e2); (first | rw [if_pos ow] at e3 | rw [if_neg ow] at e3); rw [e1, e2, e3])))))))) (fun h5 h5' => (.f 1 (AV.tup []) (.e (AV.tup []) (by
        try delta Vjc_7
        first | (exfalso; omega) | ((first | rw [if_pos ow] at e1 | rw [if_neg ow] at e1); (first | rw [if_pos ow] at e2 | rw [if_neg ow] at e2); (first | rw [if_pos ow] at e3 | rw [if_neg ow] at e3); rw [e1, e2, e3])))))))))) (fun h4 h4' => (.no (.no (.g (.no (.f 1 (AV.tup []) (.e (AV.tup []) (by
        try delta Vjc_7
        first | (exfalso; omega) | ((first | rw [if_pos ow] at e1 | rw [if_neg ow] at e1); (first | rw [if_pos ow] at e2 | rw [if_neg ow] at e2); (first | rw [if_pos ow] at e3 | rw [if_neg ow] at e3); rw [e1, e2, e3]))))))))))))))))) (fun h2 h2' => (.no (.no (.g (.no (.r (.two (decide (((mid : Nat) : Int) < (((mid + p) - i : Nat) : Int))) (fun h3 h3' => (.yes (.yes (.g (.two (decide ((((mid + p) - i : Nat) : Int) < ((b : Nat) : Int))) (fun h4 h4' => (.r (.ch 5 ([⟨g, 9, (List.map Card.row (mAt (ltF cmp) mid ((mid + p) - i) b l)), none⟩] : Heap) (ih_at mid ((mid + p) - i) b n g l (by first | (exfalso; omega) | ((first | rw [if_pos ow] at e1 | rw [if_neg ow] at e1); (first | rw [if_pos ow] at e2 | rw [if_neg ow] at e2); rw [e1, e2]; exact hlen2.symm)) (by first | exact hc | exact hxs | omega | (simp; omega)) (by first | exact hc | exact hxs | omega | (simp; omega)) (by first | exact hc | exact hxs | omega | (simp; omega)) (by first | exact hc | exact hxs | omega | (simp; omega)) (by first | exact hc | exact hxs | omega | (simp; omega)) (by first | (exfalso; omega) | ((first | rw [if_pos ow] at e1 | rw [if_neg ow] at e1); (first | rw [if_pos ow] at e2 | rw [if_neg ow] at e2); rw [e1, e2]; rw [show A ++ (mg (ltF cmp) L1 R1 ++ (L2 ++ (R2 ++ B))) = (A ++ mg (ltF cmp) L1 R1) ++ (L2 ++ (R2 ++ B)) by simp, piece (A ++ mg (ltF cmp) L1 R1) L2 _ (by simp [mg_len]; omega) ow]; exact q2)) (by first | (exfalso; omega) | ((first | rw [if_pos ow] at e1 | rw [if_neg ow] at e1); (first | rw [if_pos ow] at e2 | rw [if_neg ow] at e2); rw [e1, e2]; rw [show A ++ (mg (ltF cmp) L1 R1 ++ (L2 ++ (R2 ++ B))) = ((A ++ mg (ltF cmp) L1 R1) ++ L2) ++ (R2 ++ B) by simp, piece ((A ++ mg (ltF cmp) L1 R1) ++ L2) R2 _ (by simp [mg_len]; omega) ow]; exact q4)) ([] : Heap)) (.g (.f 1 (AV.tup []) (.e (AV.tup []) (by
        try delta Vjc_7
        first | (exfalso; omega) | ((first | rw [if_pos ow] at e1 | rw [if_neg ow] at e1); (first | rw [if_pos ow] at e2 | rw [if_neg ow] at e2); (first | rw [if_pos ow] at e3 | rw [if_neg ow] at e3); rw [e1, e2, e3])))))))) (fun h4 h4' => (.f 1 (AV.tup []) (.e (AV.tup []) (by
        try delta Vjc_7
        first | (exfalso; omega) | ((first | rw [if_pos ow] at e1 | rw [if_neg ow] at e1); (first | rw [if_pos ow] at e2 | rw [if_neg ow] at e2); (first | rw [if_pos ow] at e3 | rw [if_neg ow] at e3); rw [e1, e2, e3])))))))))) (fun h3 h3' => (.no (.no (.g (.no (.f 1 (AV.tup []) (.e (AV.tup []) (by
        try delta Vjc_7
        first | (exfalso; omega) | ((first | rw [if_pos ow] at e1 | rw [if_neg ow] at e1); (first | rw [if_pos ow] at e2 | rw [if_neg ow] at e2); (first | rw [if_pos ow] at e3 | rw [if_neg ow] at e3); rw [e1, e2, e3])))))))))))))))))))))))))))))))))))))))))))))))))))))))))))
end Go.Proofs.Yteajpacajikaaaa.AM

set_option linter.unusedVariables false
set_option linter.unusedSimpArgs false
set_option linter.unusedSectionVars false
namespace Go.Proofs.Yteajpacajikaaaa.AM
open Go
section
variable {α : Type} [Inhabited α] {lt : α → α → Bool}
theorem Weak.irr (W : Weak lt) (a : α) : lt a a = false := by
  cases h : lt a a with
  | false => rfl
  | true => have := W.asymm a a h; rw [h] at this; exact this
theorem four {l : List α} {a m b : Nat} (ham : a ≤ m) (hmb : m ≤ b) : l = l.take a ++ ((l.drop a).take (m - a) ++ ((l.drop m).take (b - m) ++ l.drop b)) := by
  have h1 : (l.drop m).take (b - m) ++ l.drop b = l.drop m := by
    have := List.take_append_drop (b - m) (l.drop m)
    rw [List.drop_drop, show m + (b - m) = b by omega] at this
    exact this
  have h2 : (l.drop a).take (m - a) ++ l.drop m = l.drop a := by
    have := List.take_append_drop (m - a) (l.drop a)
    rw [List.drop_drop, show a + (m - a) = m by omega] at this
    exact this
  rw [h1, h2, List.take_append_drop]
theorem part_nth {l : List α} {a k i : Nat} (hi : i < k) : nth ((l.drop a).take k) i = nth l (a + i) := by rw [nth_take hi, nth_drop]
theorem part_len {l : List α} {a k : Nat} (h : a + k ≤ l.length) : ((l.drop a).take k).length = k := by simp; omega
theorem part_mem {l : List α} {a k : Nat} {x : α} (h : a + k ≤ l.length) (hx : x ∈ (l.drop a).take k) : ∃ i, a ≤ i ∧ i < a + k ∧ nth l i = x := by
  obtain ⟨i, hi, rfl⟩ := mem_nth hx
  rw [part_len h] at hi
  exact ⟨a + i, by omega, by omega, (part_nth hi).symm⟩
theorem srt_at {l : List α} {a k : Nat} (W : Weak lt) (h : a + k ≤ l.length) (hs : Srt lt ((l.drop a).take k)) {i j : Nat} (h1 : a ≤ i) (h2 : i ≤ j) (h3 : j < a + k) : lt (nth l j) (nth l i) = false := by
  rcases Nat.lt_or_ge i j with h4 | h4
  · have := pw_nth.1 hs (i - a) (j - a) (by omega) (by rw [part_len h]; omega)
    rw [part_nth (by omega), part_nth (by omega)] at this
    rwa [show a + (i - a) = i by omega, show a + (j - a) = j by omega] at this
  · obtain rfl : i = j := by omega
    exact W.irr _
theorem part_cut {l : List α} {a k s : Nat} (hs : s ≤ k) : (l.drop a).take k = (l.drop a).take s ++ (l.drop (a + s)).take (k - s) := by
  have := List.take_append_drop s ((l.drop a).take k)
  rw [List.take_take, Nat.min_eq_left hs, List.drop_take, List.drop_drop] at this
  exact this.symm
theorem srt_cut {l : List α} {a k s : Nat} (hs : s ≤ k) (h : Srt lt ((l.drop a).take k)) : Srt lt ((l.drop a).take s) ∧ Srt lt ((l.drop (a + s)).take (k - s)) := by
  rw [part_cut hs] at h
  have := List.pairwise_append.1 h
  exact ⟨this.1, this.2.1⟩
theorem le_lt_le (W : Weak lt) {x y u v : α} (h1 : lt u y = false) (h2 : lt u v = true) (h3 : lt x v = false) : lt y x = true := by
  cases h : lt y x with
  | true => rfl
  | false =>
    have h4 := W.trans v x y h3 h
    have h5 := W.trans v y u h4 h1
    rw [h2] at h5; simp at h5
theorem part_law (W : Weak lt) {l : List α} {a p b s e : Nat} (ham : a ≤ p) (hpb : p ≤ b) (hbl : b ≤ l.length) (h7 : Srt lt ((l.drop a).take (p - a))) (h8 : Srt lt ((l.drop p).take (b - p))) (has : a ≤ s) (hsp : s ≤ p) (hpe : p ≤ e) (heb : e ≤ b)
    (k1 : s < p → p < e → lt (nth l (e - 1)) (nth l s) = true) (k2 : a < s → e < b → lt (nth l e) (nth l (s - 1)) = false) :
    mAt lt a p b l = l.take a ++ (mg lt ((l.drop a).take (s - a)) ((l.drop p).take (e - p)) ++ (mg lt ((l.drop s).take (p - s)) ((l.drop e).take (b - e)) ++ l.drop b)) := by
  unfold mAt
  have c1 := part_cut (l := l) (a := a) (k := p - a) (s := s - a) (by omega)
  have c2 := part_cut (l := l) (a := p) (k := b - p) (s := e - p) (by omega)
  rw [show a + (s - a) = s by omega, show p - a - (s - a) = p - s by omega] at c1
  rw [show p + (e - p) = e by omega, show b - p - (e - p) = b - e by omega] at c2
  rw [c1, c2, mg_split lt _ _ _ (Nat.le_refl _) (fun x hx y hy => ?_) (fun x hx y hy => ?_), List.append_assoc]
  · obtain ⟨i, i1, i2, rfl⟩ := part_mem (by omega) hx
    obtain ⟨j, j1, j2, rfl⟩ := part_mem (by omega) hy
    exact le_lt_le W (srt_at W (by omega) h8 (i := j) (j := e - 1) (by omega) (by omega) (by omega)) (k1 (by omega) (by omega)) (srt_at W (by omega) h7 (i := s) (j := i) (by omega) (by omega) (by omega))
  · obtain ⟨i, i1, i2, rfl⟩ := part_mem (by omega) hx
    obtain ⟨j, j1, j2, rfl⟩ := part_mem (by omega) hy
    have q1 := srt_at W (by omega) h7 (i := i) (j := s - 1) (by omega) (by omega) (by omega)
    have q2 := srt_at W (by omega) h8 (i := e) (j := j) (by omega) (by omega) (by omega)
    exact W.trans _ _ _ (W.trans _ _ _ q1 (k2 (by omega) (by omega))) q2
theorem mg_one_l {x : α} {R : List α} (h : ∀ y, R.head? = some y → lt y x = false) : mg lt [x] R = x :: R := by
  cases R with
  | nil => rw [mg_nil_r]
  | cons y R => rw [mg_cons, if_neg (by rw [h y rfl]; simp), mg_nil_l]
theorem mg_one_r {y : α} {L : List α} (h : ∀ x, L.head? = some x → lt y x = true) : mg lt L [y] = y :: L := by
  cases L with
  | nil => rw [mg_nil_l]
  | cons x L => rw [mg_cons, if_pos (h x rfl), mg_nil_r]
theorem one_part {l : List α} {a : Nat} (h : a < l.length) : (l.drop a).take 1 = [nth l a] := by rw [drop_nth h]; rfl
theorem head_part {l : List α} {a k : Nat} {x : α} (h : ((l.drop a).take k).head? = some x) (hl : a + k ≤ l.length) : 0 < k ∧ x = nth l a := by
  cases k with
  | zero => simp at h
  | succ k =>
    rw [drop_nth (by omega)] at h
    simp at h
    exact ⟨by omega, h.symm⟩
theorem mg_insG (W : Weak lt) {S T : List α} (hS : Srt lt S) (hT : Srt lt T) (y : α) : mg lt S (insG lt T y) = insG lt (mg lt S T) y := by
  have fS : S = S.filter (fun z => !lt y z) ++ S.filter (fun z => lt y z) := by
    clear hT
    induction S with
    | nil => rfl
    | cons z S ih =>
      have h := List.pairwise_cons.1 hS
      have ih' := ih h.2
      by_cases c : lt y z = true
      · have hall : ∀ w ∈ S, lt y w = true := fun w hw => le_lt_le W (W.irr y) c (h.1 w hw)
        have e1 : S.filter (fun z => !lt y z) = [] := List.filter_eq_nil_iff.2 fun w hw => by simp [hall w hw]
        have e2 : S.filter (fun z => lt y z) = S := List.filter_eq_self.2 fun w hw => hall w hw
        simp [List.filter_cons, c, e1, e2]
      · simp only [Bool.not_eq_true] at c
        conv => lhs; rw [ih']
        simp [List.filter_cons, c]
  have fT : T = T.filter (fun z => !lt y z) ++ T.filter (fun z => lt y z) := by
    clear hS fS
    induction T with
    | nil => rfl
    | cons z T ih =>
      have h := List.pairwise_cons.1 hT
      have ih' := ih h.2
      by_cases c : lt y z = true
      · have hall : ∀ w ∈ T, lt y w = true := fun w hw => le_lt_le W (W.irr y) c (h.1 w hw)
        have e1 : T.filter (fun z => !lt y z) = [] := List.filter_eq_nil_iff.2 fun w hw => by simp [hall w hw]
        have e2 : T.filter (fun z => lt y z) = T := List.filter_eq_self.2 fun w hw => hall w hw
        simp [List.filter_cons, c, e1, e2]
      · simp only [Bool.not_eq_true] at c
        conv => lhs; rw [ih']
        simp [List.filter_cons, c]
  have m1 : ∀ z ∈ S.filter (fun z => !lt y z), lt y z = false := fun z hz => by simpa using (List.mem_filter.1 hz).2
  have m2 : ∀ z ∈ S.filter (fun z => lt y z), lt y z = true := fun z hz => (List.mem_filter.1 hz).2
  have m3 : ∀ z ∈ T.filter (fun z => !lt y z), lt y z = false := fun z hz => by simpa using (List.mem_filter.1 hz).2
  have m4 : ∀ z ∈ T.filter (fun z => lt y z), lt y z = true := fun z hz => (List.mem_filter.1 hz).2
  rw [insG_split W hT y]
  generalize hS1 : S.filter (fun z => !lt y z) = S1 at fS m1
  generalize hS2 : S.filter (fun z => lt y z) = S2 at fS m2
  generalize hT1 : T.filter (fun z => !lt y z) = T1 at fT m3
  generalize hT2 : T.filter (fun z => lt y z) = T2 at fT m4
  have cross : ∀ x ∈ S2, ∀ z ∈ T1, lt z x = true := fun x hx z hz => by
    cases h : lt z x with
    | true => rfl
    | false => have := W.trans x z y h (m3 z hz); rw [m2 x hx] at this; simp at this
  have cross2 : ∀ x ∈ S1, ∀ z ∈ T2, lt z x = false := fun x hx z hz => by
    have h1 := W.asymm _ _ (m4 z hz)
    exact W.trans x y z (m1 x hx) h1
  have e1 : mg lt S T = mg lt S1 T1 ++ mg lt S2 T2 := by
    rw [fS, fT]; exact mg_split lt _ _ _ (Nat.le_refl _) cross cross2
  have e2 : mg lt S (T1 ++ y :: T2) = mg lt S1 T1 ++ mg lt S2 (y :: T2) := by
    rw [fS]; exact mg_split lt _ _ _ (Nat.le_refl _) cross fun x hx z hz => by
      rcases List.mem_cons.1 hz with rfl | hz
      · exact m1 x hx
      · exact cross2 x hx z hz
  have e3 : mg lt S2 (y :: T2) = y :: mg lt S2 T2 := by
    cases S2 with
    | nil => rw [mg_nil_l, mg_nil_l]
    | cons x S2 => rw [mg_cons, if_pos (m2 x (by simp))]
  have p1 : ∀ z ∈ mg lt S1 T1, lt y z = false := fun z hz => by
    have := (mg_perm lt _ S1 T1 (Nat.le_refl _)).mem_iff.1 hz
    rcases List.mem_append.1 this with h | h
    · exact m1 z h
    · exact m3 z h
  have p2 : ∀ z ∈ mg lt S2 T2, lt y z = true := fun z hz => by
    have := (mg_perm lt _ S2 T2 (Nat.le_refl _)).mem_iff.1 hz
    rcases List.mem_append.1 this with h | h
    · exact m2 z h
    · exact m4 z h
  have ins : ∀ (P Q : List α), (∀ z ∈ P, lt y z = false) → (∀ z ∈ Q, lt y z = true) → insG lt (P ++ Q) y = P ++ y :: Q := fun P Q hP hQ => by
    have hpos : posG lt y (P ++ Q) (P ++ Q).length = P.length := by
      obtain ⟨s1, s2⟩ := posG_spec lt y (P ++ Q) (P ++ Q).length
      have s3 := posG_le lt y (P ++ Q) (P ++ Q).length
      have hlen : (P ++ Q).length = P.length + Q.length := List.length_append
      rcases Nat.lt_trichotomy (posG lt y (P ++ Q) (P ++ Q).length) P.length with h | h | h
      · have := s1 _ (Nat.le_refl _) (by omega)
        rw [nth_appM, if_pos h] at this
        rw [hP _ (nth_mem h)] at this; simp at this
      · exact h
      · have := s2 (by omega)
        rw [nth_appM, if_neg (by omega)] at this
        rw [hQ _ (nth_mem (by omega))] at this; simp at this
    unfold insG
    rw [hpos]
    simp
  rw [e2, e3, e1, ins _ _ p1 p2]
theorem sortG_app (W : Weak lt) (Y : List α) : ∀ (X : List α), sortG lt (X ++ Y) = mg lt (sortG lt X) (sortG lt Y) := by
  intro X
  have key : ∀ (Z T : List α), Srt lt T → mg lt (sortG lt X) (Z.foldl (insG lt) T) = Z.foldl (insG lt) (mg lt (sortG lt X) T) := by
    intro Z
    induction Z with
    | nil => intro T _; rfl
    | cons z Z ih =>
      intro T hT
      simp only [List.foldl_cons]
      rw [ih _ (insG_sorted W hT z), mg_insG W (sortG_sorted W X) hT]
  have := key Y [] List.Pairwise.nil
  rw [mg_nil_r] at this
  have e : sortG lt (X ++ Y) = Y.foldl (insG lt) (sortG lt X) := by unfold sortG; rw [List.foldl_append]
  rw [e, ← this]
  rfl
end
end Go.Proofs.Yteajpacajikaaaa.AM

set_option maxRecDepth 100000
set_option linter.unusedVariables false
set_option linter.unusedSimpArgs false
namespace Go.Proofs.Yteajpacajikaaaa.AM
open Go Go.Proofs.Yteajpacajikaaaa
attribute [local irreducible] ACalls funT codeT codeQ LoopTo
attribute [local irreducible] Tp.card Tp.cardT Tp.next Tp.step Tp.cards Tp.key Tp.keyT sink insSort beforeK sortP cmpK
attribute [local irreducible] swapL rotS rotL bsr mgL mg shU shD
theorem sC_all (cmp : Card → Card → Int) (f : Nat) (xs : List AV) (hc : ∀ (x y : Card) (H : Heap), ACalls Try.prog f ([AV.agg (Card.row x), AV.agg (Card.row y)] ++ xs) H (AV.int .i64 (cmp x y), H)) (hxs : AV.bdds 1 xs = true) (W : Weak (ltF cmp)) (Nz : Nat) : ∀ (a p b n g : Nat) (l : List Card), n = l.length → n < 1048576 → a < p → p < b → b ≤ n → b - a < Nz →
    Srt (ltF cmp) ((l.drop a).take (p - a)) → Srt (ltF cmp) ((l.drop p).take (b - p)) → ACalls Try.prog 111 [(AV.osl 0 g 9 0 n), (AV.int .i64 ((a : Nat) : Int)), (AV.int .i64 ((p : Nat) : Int)), (AV.int .i64 ((b : Nat) : Int)), (AV.func f xs)] ([⟨g, 9, (List.map Card.row l), none⟩] : Heap) (.tup [], ([⟨g, 9, (List.map Card.row (mAt (ltF cmp) a p b l)), none⟩] : Heap)) := by
  induction Nz with
  | zero => intro a p b n g l _ _ _ _ _ h; omega
  | succ Nz ih =>
    intro a p b n g l hn hnb hap hpb hbn hN h7 h8
    by_cases c1 : p = a + 1
    · obtain ⟨s1, s2, s3, s4⟩ := bsr_spec (fun c => decide (cmp (nth l c) (nth l a) < 0)) (b - p) p b (Nat.le_refl _) ow
      generalize hs : bsr (fun c => decide (cmp (nth l c) (nth l a) < 0)) (b - p) p b = s at s1 s2 s3 s4
      have hlaw := part_law W (l := l) (a := a) (p := p) (b := b) (s := a) (e := s) ow ow ow h7 h8 ow ow s1 s2 (fun _ h => s3 h) (fun h => by omega)
      have hx : (l.drop a).take (p - a) = [nth l a] := by rw [show p - a = 1 by omega]; exact one_part ow
      rw [Nat.sub_self, List.take_zero, mg_nil_l, hx, mg_one_l (fun y hy => by
        obtain ⟨q1, q2⟩ := head_part hy ow
        rw [q2]; exact s4 ow)] at hlaw
      rw [hlaw]
      have hl := four (l := l) (a := a) (m := p) (b := b) ow ow
      rw [hx, part_cut (l := l) (a := p) (k := b - p) (s := s - p) ow, show p + (s - p) = s by omega, show b - p - (s - p) = b - s by omega, List.append_assoc] at hl
      exact sCA_spec cmp f xs (l.take a) ((l.drop p).take (s - p)) ((l.drop s).take (b - s)) (l.drop b) (nth l a) a p b n g s l hc hxs hn hnb hl (by simp; omega) c1 ow hbn (by rw [part_len ow]; omega) s2 hs.symm
    by_cases c2 : b = p + 1
    · obtain ⟨s1, s2, s3, s4⟩ := bsr_spec (fun c => !decide (cmp (nth l p) (nth l c) < 0)) (p - a) a p (Nat.le_refl _) ow
      generalize hs : bsr (fun c => !decide (cmp (nth l p) (nth l c) < 0)) (p - a) a p = s at s1 s2 s3 s4
      have hlaw := part_law W (l := l) (a := a) (p := p) (b := b) (s := s) (e := p) ow ow ow h7 h8 s1 s2 ow ow (fun _ h => by omega) (fun h _ => by have := s3 h; simp only [Bool.not_eq_true'] at this; exact this)
      have hx : (l.drop p).take (b - p) = [nth l p] := by rw [show b - p = 1 by omega]; exact one_part ow
      rw [Nat.sub_self, List.take_zero, mg_nil_r, hx, mg_one_r (fun y hy => by
        obtain ⟨q1, q2⟩ := head_part hy ow
        rw [q2]; simpa [ltF] using s4 ow)] at hlaw
      rw [hlaw]
      have hl := four (l := l) (a := a) (m := p) (b := b) ow ow
      rw [hx, part_cut (l := l) (a := a) (k := p - a) (s := s - a) ow, show a + (s - a) = s by omega, show p - a - (s - a) = p - s by omega, List.append_assoc] at hl
      exact sCB_spec cmp f xs (l.take a) ((l.drop a).take (s - a)) ((l.drop s).take (p - s)) (l.drop b) (nth l p) a p b n g s l hc hxs hn hnb hl (by simp; omega) (by rw [part_len ow]; omega) (by rw [part_len ow]; omega) c1 c2 hbn hs.symm
    have ih_at : ∀ (a p b n g : Nat) (l : List Card), n = l.length → n < 1048576 → a < p → p < b → b ≤ n → b - a < Nz → Srt (ltF cmp) ((l.drop a).take (p - a)) → Srt (ltF cmp) ((l.drop p).take (b - p)) → ∀ H : Heap, ACalls Try.prog 111 [(AV.osl 0 g 9 0 n), (AV.int .i64 ((a : Nat) : Int)), (AV.int .i64 ((p : Nat) : Int)), (AV.int .i64 ((b : Nat) : Int)), (AV.func f xs)] (([⟨g, 9, (List.map Card.row l), none⟩] : Heap) ++ H) (.tup [], ([⟨g, 9, (List.map Card.row (mAt (ltF cmp) a p b l)), none⟩] : Heap) ++ H) :=
      fun a p b n g l q1 q2 q3 q4 q5 q6 q7 q8 H => (ih a p b n g l q1 q2 q3 q4 q5 q6 q7 q8).ext (by simp [AV.bdds, AV.bdd, hxs]) kr ob ob kr H
    obtain ⟨mid, hmid⟩ : ∃ mid, mid = (a + b) / 2 := ⟨_, rfl⟩
    have go : ∀ lo hi, lo ≤ hi → (∀ s, lo ≤ s → s ≤ hi → a ≤ s ∧ s ≤ p ∧ p ≤ mid + p - s ∧ mid + p - s ≤ b ∧ (s < p → p < mid + p - s → s < hi) ∧ (a < s → mid + p - s < b → lo < s)) →
        (∀ s, s = bsr (fun c => !decide (cmp (nth l (mid + p - 1 - c)) (nth l c) < 0)) (hi - lo) lo hi → lo ≤ s → s ≤ hi → ∀ (L1 L2 R1 R2 : List Card), l = l.take a ++ (L1 ++ (L2 ++ (R1 ++ (R2 ++ l.drop b)))) → s = a + L1.length → p = s + L2.length → mid = s + R1.length → b = p + R1.length + R2.length → Srt (ltF cmp) L1 → Srt (ltF cmp) L2 → Srt (ltF cmp) R1 → Srt (ltF cmp) R2 →
          ACalls Try.prog 111 [(AV.osl 0 g 9 0 n), (AV.int .i64 ((a : Nat) : Int)), (AV.int .i64 ((p : Nat) : Int)), (AV.int .i64 ((b : Nat) : Int)), (AV.func f xs)] ([⟨g, 9, (List.map Card.row l), none⟩] : Heap) (.tup [], ([⟨g, 9, (List.map Card.row (l.take a ++ (mg (ltF cmp) L1 R1 ++ (mg (ltF cmp) L2 R2 ++ l.drop b)))), none⟩] : Heap))) →
        ACalls Try.prog 111 [(AV.osl 0 g 9 0 n), (AV.int .i64 ((a : Nat) : Int)), (AV.int .i64 ((p : Nat) : Int)), (AV.int .i64 ((b : Nat) : Int)), (AV.func f xs)] ([⟨g, 9, (List.map Card.row l), none⟩] : Heap) (.tup [], ([⟨g, 9, (List.map Card.row (mAt (ltF cmp) a p b l)), none⟩] : Heap)) := by
      intro lo hi hlh hb walk
      obtain ⟨s1, s2, s3, s4⟩ := bsr_spec (fun c => !decide (cmp (nth l (mid + p - 1 - c)) (nth l c) < 0)) (hi - lo) lo hi (Nat.le_refl _) hlh
      generalize hs : bsr (fun c => !decide (cmp (nth l (mid + p - 1 - c)) (nth l c) < 0)) (hi - lo) lo hi = s at s1 s2 s3 s4
      obtain ⟨b1, b2, b3, b4, b5, b6⟩ := hb s s1 s2
      have hlaw := part_law W (l := l) (a := a) (p := p) (b := b) (s := s) (e := mid + p - s) ow ow ow h7 h8 b1 b2 b3 b4 (fun h1 h2 => by
          have := s4 (b5 h1 h2)
          simp only [Bool.not_eq_false'] at this
          rwa [show mid + p - 1 - s = mid + p - s - 1 by omega] at this) (fun h1 h2 => by
          have := s3 (b6 h1 h2)
          simp only [Bool.not_eq_true'] at this
          rwa [show mid + p - 1 - (s - 1) = mid + p - s by omega] at this)
      rw [hlaw]
      have hl := four (l := l) (a := a) (m := p) (b := b) ow ow
      rw [part_cut (l := l) (a := a) (k := p - a) (s := s - a) ow, show a + (s - a) = s by omega, show p - a - (s - a) = p - s by omega,
        part_cut (l := l) (a := p) (k := b - p) (s := mid + p - s - p) ow, show p + (mid + p - s - p) = mid + p - s by omega, show b - p - (mid + p - s - p) = b - (mid + p - s) by omega, List.append_assoc, List.append_assoc] at hl
      have q1 := srt_cut (l := l) (a := a) (k := p - a) (s := s - a) ow h7
      have q2 := srt_cut (l := l) (a := p) (k := b - p) (s := mid + p - s - p) ow h8
      rw [show a + (s - a) = s by omega, show p - a - (s - a) = p - s by omega] at q1
      rw [show p + (mid + p - s - p) = mid + p - s by omega, show b - p - (mid + p - s - p) = b - (mid + p - s) by omega] at q2
      exact walk s hs.symm s1 s2 _ _ _ _ hl (by rw [part_len ow]; omega) (by rw [part_len ow]; omega) (by rw [part_len ow]; omega) (by rw [part_len ow, part_len ow]; omega) q1.1 q1.2 q2.1 q2.2
    have hA : a = (l.take a).length := by simp; omega
    by_cases hgt : mid < p
    · refine go (mid + p - b) mid ow (fun s h1 h2 => ⟨by omega, by omega, by omega, by omega, fun _ _ => by omega, fun _ _ => by omega⟩) fun s hs h1 h2 L1 L2 R1 R2 hl e1 e2 e3 e4 q1 q2 q3 q4 => ?_
      exact sCC_spec cmp f xs (l.take a) L1 L2 R1 R2 (l.drop b) a p b n g s mid Nz l hc hxs hn hnb ih_at hl hA e1 e2 e3 e4 hbn hap hpb c1 c2 hmid ow hgt hs h1 h2 q1 q2 q3 q4
    · refine go a p ow (fun s h1 h2 => ⟨by omega, by omega, by omega, by omega, fun _ _ => by omega, fun _ _ => by omega⟩) fun s hs h1 h2 L1 L2 R1 R2 hl e1 e2 e3 e4 q1 q2 q3 q4 => ?_
      exact sCD_spec cmp f xs (l.take a) L1 L2 R1 R2 (l.drop b) a p b n g s mid Nz l hc hxs hn hnb ih_at hl hA e1 e2 e3 e4 hbn hap hpb c1 c2 hmid ow ow hs h1 h2 q1 q2 q3 q4
end Go.Proofs.Yteajpacajikaaaa.AM

set_option linter.unusedVariables false
set_option linter.unusedSimpArgs false
set_option linter.unusedSectionVars false
namespace Go.Proofs.Yteajpacajikaaaa.AM
open Go
section
variable {α : Type} [Inhabited α]
theorem sink_shift (cmp : α → α → Int) (X : List α) (j : Nat) : ∀ (l : List α), j < l.length → sink cmp X.length (X.length + j) (X ++ l) = X ++ sink cmp 0 j l := by
  induction j with
  | zero =>
    intro l hl
    have h1 : sink cmp X.length X.length (X ++ l) = X ++ l := by
      cases h : X.length with
      | zero => simp only [sink]
      | succ q => simp only [sink]; rw [if_neg]; simp
    simpa [sink] using h1
  | succ j ih =>
    intro l hl
    have e1 : nth (X ++ l) (X.length + j + 1) = nth l (j + 1) := by rw [nth_appM, if_neg (by omega)]; congr 1; omega
    have e2 : nth (X ++ l) (X.length + j) = nth l j := by rw [nth_appM, if_neg (by omega)]; congr 1; omega
    have L : sink cmp X.length (X.length + (j + 1)) (X ++ l) = if decide (cmp (nth (X ++ l) (X.length + j + 1)) (nth (X ++ l) (X.length + j)) < 0) = true then sink cmp X.length (X.length + j) (((X ++ l).set (X.length + j + 1) (nth (X ++ l) (X.length + j))).set (X.length + j) (nth (X ++ l) (X.length + j + 1))) else X ++ l := by
      rw [← Nat.add_assoc]; simp only [sink]; rw [if_pos (by simp; omega)]
    have R : sink cmp 0 (j + 1) l = if decide (cmp (nth l (j + 1)) (nth l j) < 0) = true then sink cmp 0 j ((l.set (j + 1) (nth l j)).set j (nth l (j + 1))) else l := by
      simp only [sink]; rw [if_pos (by simp)]
    rw [L, R, e1, e2]
    split
    · have e3 : ((X ++ l).set (X.length + j + 1) (nth l j)).set (X.length + j) (nth l (j + 1)) = X ++ (l.set (j + 1) (nth l j)).set j (nth l (j + 1)) := by
        rw [List.set_append_right _ _ (by omega), List.set_append_right _ _ (by omega)]
        congr 2
        · congr 1; omega
        · omega
      rw [e3]
      exact ih _ (by simpa using (by omega : j < l.length))
    · rfl
theorem insSort_shift (cmp : α → α → Int) (X : List α) (k : Nat) : ∀ (i : Nat) (l : List α), i + k ≤ l.length → insSort cmp X.length k (X.length + i) (X ++ l) = X ++ insSort cmp 0 k i l := by
  induction k with
  | zero => intro i l _; simp only [insSort]
  | succ k ih =>
    intro i l h
    simp only [insSort]
    rw [sink_shift cmp X i l (by omega)]
    exact ih (i + 1) _ (by rw [sink_len]; omega)
theorem insSort_mid (cmp : α → α → Int) (Y : List α) (rest : List α) : ∀ (S : List α), insSort cmp 0 rest.length S.length (S ++ (rest ++ Y)) = rest.foldl (insG fun a b => decide (cmp a b < 0)) S ++ Y := by
  induction rest with
  | nil => intro S; simp only [List.length_nil, insSort, List.nil_append, List.foldl_nil]
  | cons x rest ih =>
    intro S
    simp only [List.length_cons, insSort, List.foldl_cons]
    have h1 := sink_ins cmp S.length (S ++ (x :: rest ++ Y)) (by simp)
    have e1 : (S ++ (x :: rest ++ Y)).take S.length = S := by rw [List.take_append_of_le_length (Nat.le_refl _), List.take_length]
    have e2 : nth (S ++ (x :: rest ++ Y)) S.length = x := by rw [nth_appM, if_neg (by omega), Nat.sub_self]; rfl
    have e3 : (S ++ (x :: rest ++ Y)).drop (S.length + 1) = rest ++ Y := by
      rw [← List.drop_drop, List.drop_append_of_le_length (Nat.le_refl _), List.drop_length]; rfl
    rw [e1, e2, e3] at h1
    rw [h1]
    have := ih (insG (fun a b => decide (cmp a b < 0)) S x)
    rw [insG_len] at this
    exact this
theorem insSort_part (cmp : α → α → Int) (X M Y : List α) {a b : Nat} (ha : a = X.length) (hb : b = a + M.length) : insSort cmp a (b - (a + 1)) (a + 1) (X ++ (M ++ Y)) = X ++ (sortG (fun a b => decide (cmp a b < 0)) M ++ Y) := by
  subst ha hb
  cases M with
  | nil => rw [show X.length + ([] : List α).length - (X.length + 1) = 0 by simp]; simp only [insSort]; rfl
  | cons x M =>
    rw [show X.length + (x :: M).length - (X.length + 1) = M.length by simp; omega, insSort_shift cmp X M.length 1 (x :: M ++ Y) (by simp; omega)]
    have := insSort_mid cmp Y M [x]
    simp only [List.length_singleton, List.singleton_append] at this
    rw [show x :: M ++ Y = x :: (M ++ Y) from rfl, this]
    have e : sortG (fun a b => decide (cmp a b < 0)) (x :: M) = M.foldl (insG fun a b => decide (cmp a b < 0)) [x] := by
      unfold sortG
      rw [List.foldl_cons]
      congr 1
    rw [e]
def blk (lt : α → α → Bool) (bs : Nat) : Nat → List α → List α
  | 0, l => l
  | K + 1, l => sortG lt (l.take bs) ++ blk lt bs K (l.drop bs)
theorem sortG_len (lt : α → α → Bool) (l : List α) : (sortG lt l).length = l.length := (sortG_perm lt l).length_eq
theorem blk_nil (lt : α → α → Bool) (bs K : Nat) : blk lt bs K ([] : List α) = [] := by
  induction K with
  | zero => rfl
  | succ K ih => simp only [blk, List.take_nil, List.drop_nil]; rw [ih]; rfl
theorem blk_len (lt : α → α → Bool) (bs K : Nat) : ∀ (l : List α), (blk lt bs K l).length = l.length := by
  induction K with
  | zero => intro l; rfl
  | succ K ih => intro l; simp only [blk, List.length_append]; rw [sortG_len, ih, List.length_take, List.length_drop]; omega
theorem blk_next (lt : α → α → Bool) (bs K : Nat) : ∀ (l : List α), K * bs ≤ l.length → ∃ X, X.length = K * bs ∧ blk lt bs K l = X ++ l.drop (K * bs) ∧ ∀ (D : Nat), blk lt bs (K + D) l = X ++ blk lt bs D (l.drop (K * bs)) := by
  induction K with
  | zero => intro l h; exact ⟨[], by simp, by simp [blk], fun D => by simp⟩
  | succ K ih =>
    intro l h
    rw [Nat.succ_mul] at h
    obtain ⟨X, h1, h2, h3⟩ := ih (l.drop bs) (by simp; omega)
    refine ⟨sortG lt (l.take bs) ++ X, by rw [List.length_append, sortG_len, h1, Nat.succ_mul]; simp; omega, ?_, fun D => ?_⟩
    · simp only [blk]
      rw [h2, List.drop_drop, List.append_assoc, Nat.succ_mul, Nat.add_comm bs]
    · rw [show K + 1 + D = (K + D) + 1 by omega]
      simp only [blk]
      rw [h3, List.drop_drop, List.append_assoc, Nat.succ_mul, Nat.add_comm bs]
theorem blk_more (lt : α → α → Bool) (bs D : Nat) (K : Nat) : ∀ (l : List α), l.length ≤ K * bs → blk lt bs (K + D) l = blk lt bs K l := by
  induction K with
  | zero => intro l h; obtain rfl : l = [] := List.eq_nil_of_length_eq_zero (by omega); rw [blk_nil, blk_nil]
  | succ K ih =>
    intro l h
    rw [Nat.succ_mul] at h
    rw [show K + 1 + D = (K + D) + 1 by omega]
    simp only [blk]
    rw [ih _ (by simp; omega)]
def allB (lt : α → α → Bool) (bs : Nat) (l : List α) : List α := blk lt bs (l.length + 1) l
theorem allB_of (lt : α → α → Bool) {bs K : Nat} (hb : 0 < bs) {l : List α} (h : l.length ≤ K * bs) : blk lt bs K l = allB lt bs l := by
  unfold allB
  have h2 : l.length ≤ (l.length + 1) * bs := Nat.le_trans (Nat.le_succ _) (Nat.le_mul_of_pos_right _ hb)
  rcases Nat.le_total K (l.length + 1) with h1 | h1
  · obtain ⟨D, hD⟩ := Nat.le.dest h1
    rw [← hD, blk_more lt bs D K l h]
  · obtain ⟨D, hD⟩ := Nat.le.dest h1
    rw [← hD, blk_more lt bs D _ l h2]
theorem allB_one (lt : α → α → Bool) {bs : Nat} {l : List α} (h : l.length ≤ bs) (hb : 0 < bs) : allB lt bs l = sortG lt l := by
  rw [← allB_of lt (K := 1) hb (by omega)]
  simp only [blk]
  rw [List.take_of_length_le h, List.drop_of_length_le h, List.append_nil]
theorem allB_step (lt : α → α → Bool) {bs : Nat} (hb : 0 < bs) (l : List α) : allB lt bs l = sortG lt (l.take bs) ++ allB lt bs (l.drop bs) := by
  have h2 : ∀ q : Nat, q ≤ (q + 1) * bs := fun q => Nat.le_trans (Nat.le_succ _) (Nat.le_mul_of_pos_right _ hb)
  rw [← allB_of lt (K := (l.length + 1) + 1) hb (Nat.le_trans (h2 _) (Nat.mul_le_mul_right _ (Nat.le_succ _)))]
  have e : blk lt bs (l.length + 1 + 1) l = sortG lt (l.take bs) ++ blk lt bs (l.length + 1) (l.drop bs) := rfl
  rw [e, allB_of lt hb (Nat.le_trans (by simp) (h2 l.length))]
theorem allB_len (lt : α → α → Bool) (bs : Nat) (l : List α) : (allB lt bs l).length = l.length := blk_len lt bs _ l
def mix (lt : α → α → Bool) (bs : Nat) : Nat → List α → List α
  | 0, l => allB lt bs l
  | J + 1, l => sortG lt (l.take (2 * bs)) ++ mix lt bs J (l.drop (2 * bs))
theorem mix_next (lt : α → α → Bool) {bs : Nat} (hb : 0 < bs) (J : Nat) : ∀ (l : List α), J * (2 * bs) ≤ l.length → ∃ X, X.length = J * (2 * bs) ∧ mix lt bs J l = X ++ allB lt bs (l.drop (J * (2 * bs))) ∧ mix lt bs (J + 1) l = X ++ (sortG lt ((l.drop (J * (2 * bs))).take (2 * bs)) ++ allB lt bs ((l.drop (J * (2 * bs))).drop (2 * bs))) ∧ ∀ D, blk lt (2 * bs) (J + D) l = X ++ blk lt (2 * bs) D (l.drop (J * (2 * bs))) := by
  induction J with
  | zero => intro l h; exact ⟨[], by simp, by simp [mix], by simp [mix], fun D => by simp⟩
  | succ J ih =>
    intro l h
    rw [Nat.succ_mul] at h
    obtain ⟨X, h1, h2, h3, h4⟩ := ih (l.drop (2 * bs)) (by simp; omega)
    have hmul : (J + 1) * (2 * bs) = J * (2 * bs) + 2 * bs := Nat.succ_mul _ _
    have hd0 : (l.drop (2 * bs)).drop (J * (2 * bs)) = l.drop ((J + 1) * (2 * bs)) := by rw [List.drop_drop, hmul, Nat.add_comm]
    refine ⟨sortG lt (l.take (2 * bs)) ++ X, by rw [List.length_append, sortG_len, h1, hmul, List.length_take]; omega, ?_, ?_, fun D => ?_⟩
    · rw [mix, h2, hd0, List.append_assoc]
    · rw [mix, h3, hd0, List.append_assoc]
    · rw [show J + 1 + D = (J + D) + 1 by omega]
      simp only [blk]
      rw [h4, hd0, List.append_assoc]
theorem mix_len (lt : α → α → Bool) (bs J : Nat) : ∀ (l : List α), (mix lt bs J l).length = l.length := by
  induction J with
  | zero => intro l; exact allB_len lt bs l
  | succ J ih => intro l; simp only [mix, List.length_append]; rw [sortG_len, ih, List.length_take, List.length_drop]; omega
variable {lt : α → α → Bool}
theorem mix_merge (W : Weak lt) {bs J : Nat} (hb : 0 < bs) {l : List α} {a b : Nat} (ha : a = J * (2 * bs)) (hbe : b = a + 2 * bs) (hn : b ≤ l.length) :
    mAt lt a (a + bs) b (mix lt bs J l) = mix lt bs (J + 1) l ∧ Srt lt (((mix lt bs J l).drop a).take (a + bs - a)) ∧ Srt lt (((mix lt bs J l).drop (a + bs)).take (b - (a + bs))) := by
  obtain ⟨X, h1, h2, h3, _⟩ := mix_next lt hb J l (by omega)
  rw [← ha] at h1 h2 h3
  rw [h2, h3, allB_step lt hb, allB_step lt hb ((l.drop a).drop bs)]
  have l1 : (sortG lt ((l.drop a).take bs)).length = bs := by rw [sortG_len]; simp; omega
  have l2 : (sortG lt (((l.drop a).drop bs).take bs)).length = bs := by rw [sortG_len]; simp; omega
  refine ⟨?_, ?_, ?_⟩
  · rw [mAt_parts lt X _ _ _ h1.symm (by omega) (by omega), ← sortG_app W]
    have e : (l.drop a).take bs ++ ((l.drop a).drop bs).take bs = (l.drop a).take (2 * bs) := by
      rw [show 2 * bs = bs + bs by omega, List.take_add]
    rw [e, List.drop_drop, show bs + bs = 2 * bs by omega]
  · rw [piece X _ _ h1.symm (by omega)]; exact sortG_sorted W _
  · have := piece (X ++ sortG lt ((l.drop a).take bs)) (sortG lt (((l.drop a).drop bs).take bs)) (allB lt bs (((l.drop a).drop bs).drop bs)) (a := a + bs) (k := b - (a + bs)) (by simp [l1, h1]) (by omega)
    rw [List.append_assoc] at this
    rw [this]; exact sortG_sorted W _
theorem mix_last (W : Weak lt) {bs J : Nat} (hb : 0 < bs) {l : List α} {a n : Nat} (ha : a = J * (2 * bs)) (hn : n = l.length) (han : a ≤ n) (hlt : n < a + 2 * bs) :
    (a + bs < n → mAt lt a (a + bs) n (mix lt bs J l) = allB lt (2 * bs) l ∧ Srt lt (((mix lt bs J l).drop a).take (a + bs - a)) ∧ Srt lt (((mix lt bs J l).drop (a + bs)).take (n - (a + bs)))) ∧ (n ≤ a + bs → mix lt bs J l = allB lt (2 * bs) l) := by
  obtain ⟨X, h1, h2, _, h4⟩ := mix_next lt hb J l (by omega)
  rw [← ha] at h1 h2
  have h5 := h4 1
  rw [allB_of lt (by omega) (by rw [Nat.succ_mul]; omega), ← ha] at h5
  simp only [blk] at h5
  rw [List.take_of_length_le (by simp; omega), List.drop_of_length_le (i := 2 * bs) (by simp; omega), List.append_nil] at h5
  rw [h2, h5]
  refine ⟨fun h => ?_, fun h => ?_⟩
  · rw [allB_step lt hb, allB_one lt (l := (l.drop a).drop bs) (by simp; omega) hb]
    have l1 : (sortG lt ((l.drop a).take bs)).length = bs := by rw [sortG_len]; simp; omega
    have l2 : (sortG lt ((l.drop a).drop bs)).length = n - (a + bs) := by rw [sortG_len]; simp; omega
    refine ⟨?_, ?_, ?_⟩
    · have := mAt_parts lt X (sortG lt ((l.drop a).take bs)) (sortG lt ((l.drop a).drop bs)) [] (a := a) (m := a + bs) (b := n) h1.symm (by omega) (by omega)
      rw [List.append_nil, List.append_nil] at this
      rw [this, ← sortG_app W, List.take_append_drop]
    · rw [piece X _ _ h1.symm (by omega)]; exact sortG_sorted W _
    · have := piece (X ++ sortG lt ((l.drop a).take bs)) (sortG lt ((l.drop a).drop bs)) [] (a := a + bs) (k := n - (a + bs)) (by simp [l1, h1]) (by omega)
      rw [List.append_assoc, List.append_nil] at this
      rw [this]; exact sortG_sorted W _
  · rw [allB_one lt (by simp; omega) hb]
end
end Go.Proofs.Yteajpacajikaaaa.AM

set_option linter.unusedVariables false
set_option linter.unusedSimpArgs false
set_option linter.unusedSectionVars false
namespace Go.Proofs.Yteajpacajikaaaa.AM
open Go
section
variable {α : Type} [Inhabited α]
theorem st_block (cmp : α → α → Int) {l : List α} {j a b : Nat} (ha : a = j * 20) (hb : b = a + 20) (hn : b ≤ l.length) : insSort cmp a (b - (a + 1)) (a + 1) (blk (ltF cmp) 20 j l) = blk (ltF cmp) 20 (j + 1) l := by
  obtain ⟨X, h1, h2, h3⟩ := blk_next (ltF cmp) 20 j l (by omega)
  have h4 : blk (ltF cmp) 20 1 (l.drop (j * 20)) = sortG (ltF cmp) ((l.drop (j * 20)).take 20) ++ (l.drop (j * 20)).drop 20 := by simp only [blk]
  rw [h2, h3 1, h4, ← ha]
  have := insSort_part cmp X ((l.drop a).take 20) ((l.drop a).drop 20) (a := a) (b := b) (by omega) (by simp; omega)
  rw [List.take_append_drop] at this
  exact this
theorem st_tail (cmp : α → α → Int) {l : List α} {j a n : Nat} (ha : a = j * 20) (hn : n = l.length) (han : a ≤ n) (hlt : n < a + 20) : insSort cmp a (n - (a + 1)) (a + 1) (blk (ltF cmp) 20 j l) = allB (ltF cmp) 20 l := by
  obtain ⟨X, h1, h2, h3⟩ := blk_next (ltF cmp) 20 j l (by omega)
  have h4 : blk (ltF cmp) 20 1 (l.drop (j * 20)) = sortG (ltF cmp) ((l.drop (j * 20)).take 20) ++ (l.drop (j * 20)).drop 20 := by simp only [blk]
  rw [← allB_of (ltF cmp) (bs := 20) (K := j + 1) (by omega) (by omega), h2, h3 1, h4, ← ha]
  have := insSort_part cmp X (l.drop a) [] (a := a) (b := n) (by omega) (by simp; omega)
  rw [List.append_nil, List.append_nil] at this
  rw [this, List.take_of_length_le (by simp; omega), List.drop_of_length_le (i := 20) (by simp; omega), List.append_nil]
  rfl
end
end Go.Proofs.Yteajpacajikaaaa.AM

set_option maxRecDepth 100000
set_option linter.unusedVariables false
set_option linter.unusedSimpArgs false
namespace Go.Proofs.Yteajpacajikaaaa.AM
open Go Go.Proofs.Yteajpacajikaaaa
attribute [local irreducible] ACalls funT codeT codeQ LoopTo
attribute [local irreducible] Tp.card Tp.cardT Tp.next Tp.step Tp.cards Tp.key Tp.keyT sink insSort beforeK sortP cmpK
attribute [local irreducible] mgL mg mAt blk allB mix sortG
theorem sCm_spec (cmp : Card → Card → Int) (f : Nat) (xs : List AV) (a p b n g : Nat) (l : List Card) (hc : ∀ (x y : Card) (H : Heap), ACalls Try.prog f ([AV.agg (Card.row x), AV.agg (Card.row y)] ++ xs) H (AV.int .i64 (cmp x y), H)) (hxs : AV.bdds 1 xs = true) (W : Weak (ltF cmp)) (h1 : n = l.length) (h2 : n < 1048576) (h3 : a < p) (h4 : p < b) (h5 : b ≤ n) (h7 : Srt (ltF cmp) ((l.drop a).take (p - a))) (h8 : Srt (ltF cmp) ((l.drop p).take (b - p))) : ACalls Try.prog 111 [(.osl 0 g 9 0 n), (.int .i64 ((a : Nat) : Int)), (.int .i64 ((p : Nat) : Int)), (.int .i64 ((b : Nat) : Int)), (.func f xs)] ([⟨g, 9, (List.map Card.row l), none⟩] : Heap) ((AV.tup []), ([⟨g, 9, (List.map Card.row (mAt (ltF cmp) a p b l)), none⟩] : Heap)) := sC_all cmp f xs hc hxs W (b - a + 1) a p b n g l h1 h2 h3 h4 h5 ow h7 h8
theorem sCm_at (cmp : Card → Card → Int) (f : Nat) (xs : List AV) (a p b n g : Nat) (l : List Card) (hc : ∀ (x y : Card) (H : Heap), ACalls Try.prog f ([AV.agg (Card.row x), AV.agg (Card.row y)] ++ xs) H (AV.int .i64 (cmp x y), H)) (hxs : AV.bdds 1 xs = true) (W : Weak (ltF cmp)) (h1 : n = l.length) (h2 : n < 1048576) (h3 : a < p) (h4 : p < b) (h5 : b ≤ n) (h7 : Srt (ltF cmp) ((l.drop a).take (p - a))) (h8 : Srt (ltF cmp) ((l.drop p).take (b - p))) (H : Heap) : ACalls Try.prog 111 [(.osl 0 g 9 0 n), (.int .i64 ((a : Nat) : Int)), (.int .i64 ((p : Nat) : Int)), (.int .i64 ((b : Nat) : Int)), (.func f xs)] (([⟨g, 9, (List.map Card.row l), none⟩] : Heap) ++ H) ((AV.tup []), ([⟨g, 9, (List.map Card.row (mAt (ltF cmp) a p b l)), none⟩] : Heap) ++ H) := (sCm_spec cmp f xs a p b n g l hc hxs W h1 h2 h3 h4 h5 h7 h8).ext (by simp [AV.bdds, AV.bdd, *]) kr ob ob kr H
def sCst_ann : Ann := { base := 1, fin := some 1, live := [(2, [0, 1, 2, 6, 7, 8]), (7, [0, 1, 2, 6]), (9, [0, 1, 2, 6, 7, 8])], out := [(2, [0, 1, 2, 6, 7]), (7, []), (9, [0, 1, 2, 6, 7])] }
set_option maxRecDepth 100000 in
theorem sCstb_step (cmp : Card → Card → Int) (f : Nat) (xs : List AV) (a b n g : Nat) (l : List Card) (hc : ∀ (x y : Card) (H : Heap), ACalls Try.prog f ([AV.agg (Card.row x), AV.agg (Card.row y)] ++ xs) H (AV.int .i64 (cmp x y), H)) (hxs : AV.bdds 1 xs = true) (W : Weak (ltF cmp)) (hn : n = l.length) (hnb : n < 524288) (hb : b = a + 20) (han : a ≤ n) {eX : Ex} {FX : Fr} {HX : Heap} (k1 : (decide (((b : Nat) : Int) ≤ ((n : Nat) : Int))) = true → LoopTo (codeQ Try.prog (X sCst_ann) (loopOf Try.f97 0)) (some [0, 1, 2, 6, 7, 8]) (some [0, 1, 2, 6, 7]) (mkF 63 [(0, (.osl 0 g 9 0 n)), (1, (.int .i64 ((n : Nat) : Int))), (2, (.func f xs)), (6, (.int .i64 20)), (7, (.int .i64 ((b : Nat) : Int))), (8, (.int .i64 ((b + 20 : Nat) : Int)))]) ([⟨g, 9, (List.map Card.row (insSort cmp a (b - (a + 1)) (a + 1) l)), none⟩] : Heap) eX FX HX) (k2 : (decide (((b : Nat) : Int) ≤ ((n : Nat) : Int))) = false → ((.exit 0 : Ex), (mkF 63 [(0, (.osl 0 g 9 0 n)), (1, (.int .i64 ((n : Nat) : Int))), (2, (.func f xs)), (6, (.int .i64 20)), (7, (.int .i64 ((a : Nat) : Int)))]), ([⟨g, 9, (List.map Card.row l), none⟩] : Heap)) = (eX, FX, HX)) : LoopTo (codeQ Try.prog (X sCst_ann) (loopOf Try.f97 0)) (some [0, 1, 2, 6, 7, 8]) (some [0, 1, 2, 6, 7]) (mkF 63 [(0, (.osl 0 g 9 0 n)), (1, (.int .i64 ((n : Nat) : Int))), (2, (.func f xs)), (6, (.int .i64 20)), (7, (.int .i64 ((a : Nat) : Int))), (8, (.int .i64 ((b : Nat) : Int)))]) ([⟨g, 9, (List.map Card.row l), none⟩] : Heap) eX FX HX :=
  stepO (.r (.g (.two (decide (((b : Nat) : Int) ≤ ((n : Nat) : Int))) (fun h1 h1' => (.r (.t 4 (AV.tup []) ([⟨g, 9, (List.map Card.row (insSort cmp a (b - (a + 1)) (a + 1) l)), none⟩] : Heap) (insC_at _ f xs a b n g l (by first | exact hc | exact hxs | exact W | omega | (simp; omega)) (by first | exact hc | exact hxs | exact W | omega | (simp; omega)) (by first | exact hc | exact hxs | exact W | omega | (simp; omega)) (by first | exact hc | exact hxs | exact W | omega | (simp; omega)) (by first | exact hc | exact hxs | exact W | omega | (simp; omega)) (by first | exact hc | exact hxs | exact W | omega | (simp; omega)) ([] : Heap) : ACalls Try.prog 110 [(.osl 0 g 9 0 n), (.int .i64 ((a : Nat) : Int)), (.int .i64 ((b : Nat) : Int)), (.func f xs)] ([⟨g, 9, (List.map Card.row l), none⟩] : Heap) ((AV.tup []), ([⟨g, 9, (List.map Card.row (insSort cmp a (b - (a + 1)) (a + 1) l)), none⟩] : Heap))) (.g (.r (.g (.r (.h' ([⟨g, 9, (List.map Card.row (insSort cmp a (b - (a + 1)) (a + 1) l)), none⟩] : Heap) (.y 2 (.int .i64 (IntKind.i64.wrap (((b : Nat) : Int) + 20))) (AV.int .i64 ((b + 20 : Nat) : Int)) (Yes.add ow ow ow) (.g (.l (k1 h1)))))))))))) (fun h1 h1' => (.l (k2 h1))))))
theorem sCstb_loop (cmp : Card → Card → Int) (f : Nat) (xs : List AV) (hc : ∀ (x y : Card) (H : Heap), ACalls Try.prog f ([AV.agg (Card.row x), AV.agg (Card.row y)] ++ xs) H (AV.int .i64 (cmp x y), H)) (hxs : AV.bdds 1 xs = true) (W : Weak (ltF cmp)) (n g : Nat) (l0 : List Card) (hn : n = l0.length) (hnb : n < 524288) (r : Nat) : ∀ (j a b : Nat) (l : List Card), j + r = n / 20 → a = j * 20 → b = a + 20 → l = blk (ltF cmp) 20 j l0 →
    LoopTo (codeQ Try.prog (X sCst_ann) (loopOf Try.f97 0)) (some [0, 1, 2, 6, 7, 8]) (some [0, 1, 2, 6, 7]) (mkF 63 [(0, (.osl 0 g 9 0 n)), (1, (.int .i64 ((n : Nat) : Int))), (2, (.func f xs)), (6, (.int .i64 20)), (7, (.int .i64 ((a : Nat) : Int))), (8, (.int .i64 ((b : Nat) : Int)))]) ([⟨g, 9, (List.map Card.row l), none⟩] : Heap) (.exit 0) (mkF 63 [(0, (.osl 0 g 9 0 n)), (1, (.int .i64 ((n : Nat) : Int))), (2, (.func f xs)), (6, (.int .i64 20)), (7, (.int .i64 (((n / 20 * 20) : Nat) : Int)))]) ([⟨g, 9, (List.map Card.row (blk (ltF cmp) 20 (n / 20) l0)), none⟩] : Heap) := by
  induction r with
  | zero =>
    intro j a b l hj ha hb hl
    subst hl
    refine sCstb_step cmp f xs a b n g _ hc hxs W (by rw [blk_len]; exact hn) hnb hb ow (fun h => by simp at h; omega) (fun _ => ?_)
    rw [show n / 20 = j by omega, ← ha]
  | succ r ih =>
    intro j a b l hj ha hb hl
    subst hl
    refine sCstb_step cmp f xs a b n g _ hc hxs W (by rw [blk_len]; exact hn) hnb hb ow (fun h => ?_) (fun h => by simp at h; omega)
    rw [st_block cmp ha hb ow]
    exact ih (j + 1) b (b + 20) _ ow ow rfl rfl
set_option maxRecDepth 100000 in
theorem sCstm_step (cmp : Card → Card → Int) (f : Nat) (xs : List AV) (bs a b n g : Nat) (l : List Card) (hc : ∀ (x y : Card) (H : Heap), ACalls Try.prog f ([AV.agg (Card.row x), AV.agg (Card.row y)] ++ xs) H (AV.int .i64 (cmp x y), H)) (hxs : AV.bdds 1 xs = true) (W : Weak (ltF cmp)) (hn : n = l.length) (hnb : n < 524288) (hb : b = a + 2 * bs) (hbs : 0 < bs) (hbn : bs < 524288) (han : a ≤ n) (hs7 : b ≤ n → Srt (ltF cmp) ((l.drop a).take (a + bs - a))) (hs8 : b ≤ n → Srt (ltF cmp) ((l.drop (a + bs)).take (b - (a + bs)))) {eX : Ex} {FX : Fr} {HX : Heap} (k1 : (decide (((b : Nat) : Int) ≤ ((n : Nat) : Int))) = true → LoopTo (codeQ Try.prog (X sCst_ann) (loopOf Try.f97 2)) (some [0, 1, 2, 6, 7, 8]) (some [0, 1, 2, 6, 7]) (mkF 63 [(0, (.osl 0 g 9 0 n)), (1, (.int .i64 ((n : Nat) : Int))), (2, (.func f xs)), (6, (.int .i64 ((bs : Nat) : Int))), (7, (.int .i64 ((b : Nat) : Int))), (8, (.int .i64 ((b + (2 * bs) : Nat) : Int)))]) ([⟨g, 9, (List.map Card.row (mAt (ltF cmp) a (a + bs) b l)), none⟩] : Heap) eX FX HX) (k2 : (decide (((b : Nat) : Int) ≤ ((n : Nat) : Int))) = false → ((.exit 4 : Ex), (mkF 63 [(0, (.osl 0 g 9 0 n)), (1, (.int .i64 ((n : Nat) : Int))), (2, (.func f xs)), (6, (.int .i64 ((bs : Nat) : Int))), (7, (.int .i64 ((a : Nat) : Int)))]), ([⟨g, 9, (List.map Card.row l), none⟩] : Heap)) = (eX, FX, HX)) : LoopTo (codeQ Try.prog (X sCst_ann) (loopOf Try.f97 2)) (some [0, 1, 2, 6, 7, 8]) (some [0, 1, 2, 6, 7]) (mkF 63 [(0, (.osl 0 g 9 0 n)), (1, (.int .i64 ((n : Nat) : Int))), (2, (.func f xs)), (6, (.int .i64 ((bs : Nat) : Int))), (7, (.int .i64 ((a : Nat) : Int))), (8, (.int .i64 ((b : Nat) : Int)))]) ([⟨g, 9, (List.map Card.row l), none⟩] : Heap) eX FX HX :=
  stepO (.r (.g (.two (decide (((b : Nat) : Int) ≤ ((n : Nat) : Int))) (fun h1 h1' => (.r (.y 4 (.int .i64 (IntKind.i64.wrap (((a : Nat) : Int) + ((bs : Nat) : Int)))) (AV.int .i64 ((a + bs : Nat) : Int)) (Yes.add ow ow ow) (.t 7 (AV.tup []) ([⟨g, 9, (List.map Card.row (mAt (ltF cmp) a (a + bs) b l)), none⟩] : Heap) (sCm_at _ f xs a (a + bs) b n g l (by first | exact hc | exact hxs | exact W | omega | (simp; omega)) (by first | exact hc | exact hxs | exact W | omega | (simp; omega)) (by first | exact hc | exact hxs | exact W | omega | (simp; omega)) (by first | exact hc | exact hxs | exact W | omega | (simp; omega)) (by first | exact hc | exact hxs | exact W | omega | (simp; omega)) (by first | exact hc | exact hxs | exact W | omega | (simp; omega)) (by first | exact hc | exact hxs | exact W | omega | (simp; omega)) (by first | exact hc | exact hxs | exact W | omega | (simp; omega)) (hs7 (by have := of_decide_eq_true h1; omega)) (hs8 (by have := of_decide_eq_true h1; omega)) ([] : Heap) : ACalls Try.prog 111 [(.osl 0 g 9 0 n), (.int .i64 ((a : Nat) : Int)), (.int .i64 ((a + bs : Nat) : Int)), (.int .i64 ((b : Nat) : Int)), (.func f xs)] ([⟨g, 9, (List.map Card.row l), none⟩] : Heap) ((AV.tup []), ([⟨g, 9, (List.map Card.row (mAt (ltF cmp) a (a + bs) b l)), none⟩] : Heap))) (.g (.r (.g (.r (.h' ([⟨g, 9, (List.map Card.row (mAt (ltF cmp) a (a + bs) b l)), none⟩] : Heap) (.y 2 (.int .i64 (IntKind.i64.wrap (2 * ((bs : Nat) : Int)))) (AV.int .i64 ((2 * bs : Nat) : Int)) (Yes.add ow ow ow) (.y 3 (.int .i64 (IntKind.i64.wrap (((b : Nat) : Int) + ((2 * bs : Nat) : Int)))) (AV.int .i64 ((b + (2 * bs) : Nat) : Int)) (Yes.add ow ow ow) (.g (.l (k1 h1)))))))))))))) (fun h1 h1' => (.l (k2 h1))))))
theorem sCstm_loop (cmp : Card → Card → Int) (f : Nat) (xs : List AV) (hc : ∀ (x y : Card) (H : Heap), ACalls Try.prog f ([AV.agg (Card.row x), AV.agg (Card.row y)] ++ xs) H (AV.int .i64 (cmp x y), H)) (hxs : AV.bdds 1 xs = true) (W : Weak (ltF cmp)) (bs n g : Nat) (l0 : List Card) (hn : n = l0.length) (hnb : n < 524288) (hbs : 0 < bs) (hbn : bs < 524288) (J : Nat) (hJ : J = n / (2 * bs)) (r : Nat) : ∀ (j a b : Nat) (l : List Card), j + r = J → a = j * (2 * bs) → b = a + 2 * bs → l = mix (ltF cmp) bs j l0 →
    LoopTo (codeQ Try.prog (X sCst_ann) (loopOf Try.f97 2)) (some [0, 1, 2, 6, 7, 8]) (some [0, 1, 2, 6, 7]) (mkF 63 [(0, (.osl 0 g 9 0 n)), (1, (.int .i64 ((n : Nat) : Int))), (2, (.func f xs)), (6, (.int .i64 ((bs : Nat) : Int))), (7, (.int .i64 ((a : Nat) : Int))), (8, (.int .i64 ((b : Nat) : Int)))]) ([⟨g, 9, (List.map Card.row l), none⟩] : Heap) (.exit 4) (mkF 63 [(0, (.osl 0 g 9 0 n)), (1, (.int .i64 ((n : Nat) : Int))), (2, (.func f xs)), (6, (.int .i64 ((bs : Nat) : Int))), (7, (.int .i64 (((J * (2 * bs)) : Nat) : Int)))]) ([⟨g, 9, (List.map Card.row (mix (ltF cmp) bs J l0)), none⟩] : Heap) := by
  have hdm := Nat.div_mul_le_self n (2 * bs)
  have hlt := Nat.lt_div_mul_add (a := n) (b := 2 * bs) ow
  rw [← hJ] at hdm hlt
  induction r with
  | zero =>
    intro j a b l hj ha hb hl
    subst hl
    obtain rfl : j = J := by omega
    refine sCstm_step cmp f xs bs a b n g _ hc hxs W (by rw [mix_len]; exact hn) hnb hb hbs hbn ow (fun h => by omega) (fun h => by omega) (fun h => by simp at h; omega) (fun _ => ?_)
    rw [← ha]
  | succ r ih =>
    intro j a b l hj ha hb hl
    subst hl
    have hmul : (j + 1) * (2 * bs) = j * (2 * bs) + 2 * bs := Nat.succ_mul _ _
    have hle : (j + 1) * (2 * bs) ≤ J * (2 * bs) := Nat.mul_le_mul_right _ ow
    obtain ⟨q1, q2, q3⟩ := mix_merge W hbs (l := l0) ha hb ow
    refine sCstm_step cmp f xs bs a b n g _ hc hxs W (by rw [mix_len]; exact hn) hnb hb hbs hbn ow (fun _ => q2) (fun _ => q3) (fun h => ?_) (fun h => by simp at h; omega)
    rw [q1]
    exact ih (j + 1) b (b + 2 * bs) _ ow ow rfl rfl
@[simp] abbrev Vlc_1 (v1_ : Nat) (v2_ : Nat) (v3_ : Nat) (v4_ : List AV) (v5_ : Nat) : Fr := (mkF 63 [(0, (AV.osl 0 v1_ 9 0 v2_)), (1, (AV.int .i64 ((v2_ : Nat) : Int))), (2, (AV.func v3_ v4_)), (6, (AV.int .i64 ((v5_ * 2 : Nat) : Int)))])
@[simp] abbrev Vlc_2 (v1_ : Nat) (v2_ : Nat) (v3_ : Nat) (v4_ : List AV) (v5_ : Nat) (v6_ : Nat) : Fr := (mkF 63 [(0, (AV.osl 0 v1_ 9 0 v2_)), (1, (AV.int .i64 ((v2_ : Nat) : Int))), (2, (AV.func v3_ v4_)), (6, (AV.int .i64 ((v5_ : Nat) : Int))), (7, (AV.int .i64 (((v6_ * (2 * v5_)) : Nat) : Int)))])
set_option maxRecDepth 100000 in
theorem sCsto_step (cmp : Card → Card → Int) (f : Nat) (xs : List AV) (bs J n g : Nat) (l l0 : List Card) (hc : ∀ (x y : Card) (H : Heap), ACalls Try.prog f ([AV.agg (Card.row x), AV.agg (Card.row y)] ++ xs) H (AV.int .i64 (cmp x y), H)) (hxs : AV.bdds 1 xs = true) (W : Weak (ltF cmp)) (hn : n = l0.length) (hnb : n < 524288) (hbs : 0 < bs) (hbn : bs < 1048576) (hl : l = allB (ltF cmp) bs l0) (hJ : J = n / (2 * bs)) (hJn : J * (2 * bs) ≤ n) (hs7 : J * (2 * bs) + bs < n → Srt (ltF cmp) (((mix (ltF cmp) bs J l0).drop (J * (2 * bs))).take (J * (2 * bs) + bs - J * (2 * bs)))) (hs8 : J * (2 * bs) + bs < n → Srt (ltF cmp) (((mix (ltF cmp) bs J l0).drop (J * (2 * bs) + bs)).take (n - (J * (2 * bs) + bs)))) {eX : Ex} {FX : Fr} {HX : Heap} (k1 : (decide (((bs : Nat) : Int) < ((n : Nat) : Int))) = true → (decide ((((J * (2 * bs)) + bs : Nat) : Int) < ((n : Nat) : Int))) = true → LoopTo (codeQ Try.prog (X sCst_ann) (loopOf Try.f97 1)) (some [0, 1, 2, 6]) (some []) (Vlc_1 g n f xs bs) ([⟨g, 9, (List.map Card.row (mAt (ltF cmp) (J * (2 * bs)) ((J * (2 * bs)) + bs) n (mix (ltF cmp) bs J l0))), none⟩] : Heap) eX FX HX) (k2 : (decide (((bs : Nat) : Int) < ((n : Nat) : Int))) = true → (decide ((((J * (2 * bs)) + bs : Nat) : Int) < ((n : Nat) : Int))) = false → LoopTo (codeQ Try.prog (X sCst_ann) (loopOf Try.f97 1)) (some [0, 1, 2, 6]) (some []) (Vlc_1 g n f xs bs) ([⟨g, 9, (List.map Card.row (mix (ltF cmp) bs J l0)), none⟩] : Heap) eX FX HX) (k3 : (decide (((bs : Nat) : Int) < ((n : Nat) : Int))) = false → ((.exit 2 : Ex), (mkF 63 []), ([⟨g, 9, (List.map Card.row l), none⟩] : Heap)) = (eX, FX, HX)) : LoopTo (codeQ Try.prog (X sCst_ann) (loopOf Try.f97 1)) (some [0, 1, 2, 6]) (some []) (mkF 63 [(0, (.osl 0 g 9 0 n)), (1, (.int .i64 ((n : Nat) : Int))), (2, (.func f xs)), (6, (.int .i64 ((bs : Nat) : Int)))]) ([⟨g, 9, (List.map Card.row l), none⟩] : Heap) eX FX HX :=
  stepO (.r (.g (.two (decide (((bs : Nat) : Int) < ((n : Nat) : Int))) (fun h1 h1' => (.r (.y 1 (.int .i64 (IntKind.i64.wrap (2 * ((bs : Nat) : Int)))) (AV.int .i64 ((2 * bs : Nat) : Int)) (Yes.add ow ow ow) (.g (.loop (Vlc_2 g n f xs bs J) (show LoopTo (codeQ Try.prog (X sCst_ann) (loopOf Try.f97 2)) (some [0, 1, 2, 6, 7, 8]) (some [0, 1, 2, 6, 7]) (mkF 63 [(0, (.osl 0 g 9 0 n)), (1, (.int .i64 ((n : Nat) : Int))), (2, (.func f xs)), (6, (.int .i64 ((bs : Nat) : Int))), (7, (.int .i64 0)), (8, (.int .i64 ((2 * bs : Nat) : Int)))]) ([⟨g, 9, (List.map Card.row l), none⟩] : Heap) (.exit 4) (Vlc_2 g n f xs bs J) ([⟨g, 9, (List.map Card.row (mix (ltF cmp) bs J l0)), none⟩] : Heap) from (sCstm_loop cmp f xs hc hxs W bs n g l0 hn hnb hbs ow J hJ J 0 0 (2 * bs) l ow ow ow (by rw [hl]; simp only [mix]))) (.r (.y 2 (.int .i64 (IntKind.i64.wrap ((((J * (2 * bs)) : Nat) : Int) + ((bs : Nat) : Int)))) (AV.int .i64 (((J * (2 * bs)) + bs : Nat) : Int)) (Yes.add ow ow ow) (.g (.r (.g (.two (decide ((((J * (2 * bs)) + bs : Nat) : Int) < ((n : Nat) : Int))) (fun h2 h2' => (.r (.t 5 (AV.tup []) ([⟨g, 9, (List.map Card.row (mAt (ltF cmp) (J * (2 * bs)) ((J * (2 * bs)) + bs) n (mix (ltF cmp) bs J l0))), none⟩] : Heap) (sCm_at _ f xs (J * (2 * bs)) ((J * (2 * bs)) + bs) n n g (mix (ltF cmp) bs J l0) (by first | exact hc | exact hxs | exact W | omega | (rw [mix_len]; exact hn) | (simp; omega)) (by first | exact hc | exact hxs | exact W | omega | (rw [mix_len]; exact hn) | (simp; omega)) (by first | exact hc | exact hxs | exact W | omega | (rw [mix_len]; exact hn) | (simp; omega)) (by first | exact hc | exact hxs | exact W | omega | (rw [mix_len]; exact hn) | (simp; omega)) (by first | exact hc | exact hxs | exact W | omega | (rw [mix_len]; exact hn) | (simp; omega)) (by first | exact hc | exact hxs | exact W | omega | (rw [mix_len]; exact hn) | (simp; omega)) (by have := of_decide_eq_true h2; omega) ow (hs7 (by have := of_decide_eq_true h2; omega)) (hs8 (by have := of_decide_eq_true h2; omega)) ([] : Heap) : ACalls Try.prog 111 [(.osl 0 g 9 0 n), (.int .i64 (((J * (2 * bs)) : Nat) : Int)), (.int .i64 (((J * (2 * bs)) + bs : Nat) : Int)), (.int .i64 ((n : Nat) : Int)), (.func f xs)] ([⟨g, 9, (List.map Card.row (mix (ltF cmp) bs J l0)), none⟩] : Heap) ((AV.tup []), ([⟨g, 9, (List.map Card.row (mAt (ltF cmp) (J * (2 * bs)) ((J * (2 * bs)) + bs) n (mix (ltF cmp) bs J l0))), none⟩] : Heap))) (.g (.r (.h' ([⟨g, 9, (List.map Card.row (mAt (ltF cmp) (J * (2 * bs)) ((J * (2 * bs)) + bs) n (mix (ltF cmp) bs J l0))), none⟩] : Heap) (.y 1 (.int .i64 (IntKind.i64.wrap (((bs : Nat) : Int) * 2))) (AV.int .i64 ((bs * 2 : Nat) : Int)) (Yes.add ow ow ow) (.g (.l (k1 h1 h2)))))))))) (fun h2 h2' => (.r (.y 1 (.int .i64 (IntKind.i64.wrap (((bs : Nat) : Int) * 2))) (AV.int .i64 ((bs * 2 : Nat) : Int)) (Yes.add ow ow ow) (.g (.l (k2 h1 h2))))))))))))))))) (fun h1 h1' => (.l (k3 h1))))))
theorem sCsto_loop (cmp : Card → Card → Int) (f : Nat) (xs : List AV) (hc : ∀ (x y : Card) (H : Heap), ACalls Try.prog f ([AV.agg (Card.row x), AV.agg (Card.row y)] ++ xs) H (AV.int .i64 (cmp x y), H)) (hxs : AV.bdds 1 xs = true) (W : Weak (ltF cmp)) (n g : Nat) (l0 : List Card) (hn : n = l0.length) (hnb : n < 524288) (r : Nat) : ∀ (bs : Nat) (l : List Card), n - bs ≤ r → 0 < bs → bs < 1048576 → l = allB (ltF cmp) bs l0 →
    LoopTo (codeQ Try.prog (X sCst_ann) (loopOf Try.f97 1)) (some [0, 1, 2, 6]) (some []) (mkF 63 [(0, (.osl 0 g 9 0 n)), (1, (.int .i64 ((n : Nat) : Int))), (2, (.func f xs)), (6, (.int .i64 ((bs : Nat) : Int)))]) ([⟨g, 9, (List.map Card.row l), none⟩] : Heap) (.exit 2) (mkF 63 []) ([⟨g, 9, (List.map Card.row (sortG (ltF cmp) l0)), none⟩] : Heap) := by
  have key : ∀ bs, 0 < bs → (n / (2 * bs) * (2 * bs) ≤ n ∧ n < n / (2 * bs) * (2 * bs) + 2 * bs) := fun bs hbs => ⟨Nat.div_mul_le_self n (2 * bs), Nat.lt_div_mul_add (a := n) (b := 2 * bs) ow⟩
  induction r with
  | zero =>
    intro bs l h1 hbs hbn hl
    obtain ⟨k1, k2⟩ := key bs hbs
    obtain ⟨q1, q2⟩ := mix_last W hbs (l := l0) (J := n / (2 * bs)) rfl hn k1 k2
    refine sCsto_step cmp f xs bs (n / (2 * bs)) n g l l0 hc hxs W hn hnb hbs hbn hl rfl k1 (fun h => (q1 h).2.1) (fun h => (q1 h).2.2) (fun h => by simp at h; omega) (fun h => by simp at h; omega) (fun _ => ?_)
    rw [hl, allB_one (ltF cmp) ow hbs]
  | succ r ih =>
    intro bs l h1 hbs hbn hl
    obtain ⟨k1, k2⟩ := key bs hbs
    obtain ⟨q1, q2⟩ := mix_last W hbs (l := l0) (J := n / (2 * bs)) rfl hn k1 k2
    refine sCsto_step cmp f xs bs (n / (2 * bs)) n g l l0 hc hxs W hn hnb hbs hbn hl rfl k1 (fun h => (q1 h).2.1) (fun h => (q1 h).2.2) (fun h h2 => ?_) (fun h h2 => ?_) (fun h => ?_)
    · rw [(q1 (by have := of_decide_eq_true h2; omega)).1]
      exact ih (bs * 2) _ (by simp at h; omega) ow (by simp at h; omega) (by rw [Nat.mul_comm])
    · rw [q2 (by have := of_decide_eq_false h2; omega)]
      exact ih (bs * 2) _ (by simp at h; omega) ow (by simp at h; omega) (by rw [Nat.mul_comm])
    · rw [hl, allB_one (ltF cmp) (by simp at h; omega) hbs]
@[simp] abbrev Vlc_3 (v1_ : Nat) (v2_ : Nat) (v3_ : Nat) (v4_ : List AV) : Fr := (mkF 63 [(0, (AV.osl 0 v1_ 9 0 v2_)), (1, (AV.int .i64 ((v2_ : Nat) : Int))), (2, (AV.func v3_ v4_)), (6, (AV.int .i64 20)), (7, (AV.int .i64 (((v2_ / 20 * 20) : Nat) : Int)))])
set_option maxRecDepth 100000 in
theorem sCst_spec (cmp : Card → Card → Int) (f : Nat) (xs : List AV) (n g : Nat) (l : List Card) (hc : ∀ (x y : Card) (H : Heap), ACalls Try.prog f ([AV.agg (Card.row x), AV.agg (Card.row y)] ++ xs) H (AV.int .i64 (cmp x y), H)) (hxs : AV.bdds 1 xs = true) (W : Weak (ltF cmp)) (hn : n = l.length) (hb : n < 524288) : ACalls Try.prog 97 [(.osl 0 g 9 0 n), (.int .i64 ((n : Nat) : Int)), (.func f xs)] ([⟨g, 9, (List.map Card.row l), none⟩] : Heap) ((AV.tup []), ([⟨g, 9, (List.map Card.row (insSort cmp 0 (n - 1) 1 l)), none⟩] : Heap)) := by
  have hq : (blk (ltF cmp) 20 (n / 20) l).length = n := by rw [blk_len]; exact hn.symm
  have ht := st_tail cmp (l := l) (j := n / 20) (a := n / 20 * 20) rfl hn ow ow
  have hfin : sortG (ltF cmp) l = insSort cmp 0 (n - 1) 1 l := by subst hn; exact (insSort_sortG cmp l).symm
  exact specO (fn := Try.f97) (ann := sCst_ann) (Has.o Try.func97) (.r (.g (.r (.g (.loop (Vlc_3 g n f xs) (show LoopTo (codeQ Try.prog (X sCst_ann) (loopOf Try.f97 0)) (some [0, 1, 2, 6, 7, 8]) (some [0, 1, 2, 6, 7]) (mkF 63 [(0, (.osl 0 g 9 0 n)), (1, (.int .i64 ((n : Nat) : Int))), (2, (.func f xs)), (6, (.int .i64 20)), (7, (.int .i64 0)), (8, (.int .i64 20))]) ([⟨g, 9, (List.map Card.row l), none⟩] : Heap) (.exit 0) (Vlc_3 g n f xs) ([⟨g, 9, (List.map Card.row (blk (ltF cmp) 20 (n / 20) l)), none⟩] : Heap) from (sCstb_loop cmp f xs hc hxs W n g l hn hb (n / 20) 0 0 20 l ow rfl ow (by simp only [blk]))) (.r (.t 4 (AV.tup []) ([⟨g, 9, (List.map Card.row (insSort cmp (n / 20 * 20) (n - ((n / 20 * 20) + 1)) ((n / 20 * 20) + 1) (blk (ltF cmp) 20 (n / 20) l))), none⟩] : Heap) (insC_at _ f xs (n / 20 * 20) n n g (blk (ltF cmp) 20 (n / 20) l) (by first | exact hc | exact hxs | omega | (rw [blk_len]; omega) | (simp; omega)) (by first | exact hc | exact hxs | omega | (rw [blk_len]; omega) | (simp; omega)) (by first | exact hc | exact hxs | omega | (rw [blk_len]; omega) | (simp; omega)) (by first | exact hc | exact hxs | omega | (rw [blk_len]; omega) | (simp; omega)) (by first | exact hc | exact hxs | omega | (rw [blk_len]; omega) | (simp; omega)) (by first | exact hc | exact hxs | omega | (rw [blk_len]; omega) | (simp; omega)) ([] : Heap) : ACalls Try.prog 110 [(.osl 0 g 9 0 n), (.int .i64 (((n / 20 * 20) : Nat) : Int)), (.int .i64 ((n : Nat) : Int)), (.func f xs)] ([⟨g, 9, (List.map Card.row (blk (ltF cmp) 20 (n / 20) l)), none⟩] : Heap) ((AV.tup []), ([⟨g, 9, (List.map Card.row (insSort cmp (n / 20 * 20) (n - ((n / 20 * 20) + 1)) ((n / 20 * 20) + 1) (blk (ltF cmp) 20 (n / 20) l))), none⟩] : Heap))) (.g (.loop (mkF 63 []) (show LoopTo (codeQ Try.prog (X sCst_ann) (loopOf Try.f97 1)) (some [0, 1, 2, 6]) (some []) (mkF 63 [(0, (.osl 0 g 9 0 n)), (1, (.int .i64 ((n : Nat) : Int))), (2, (.func f xs)), (6, (.int .i64 20))]) ([⟨g, 9, (List.map Card.row (insSort cmp (n / 20 * 20) (n - ((n / 20 * 20) + 1)) ((n / 20 * 20) + 1) (blk (ltF cmp) 20 (n / 20) l))), none⟩] : Heap) (.exit 2) (mkF 63 []) ([⟨g, 9, (List.map Card.row (sortG (ltF cmp) l)), none⟩] : Heap) from (sCsto_loop cmp f xs hc hxs W n g l hn hb n 20 (insSort cmp (n / 20 * 20) (n - ((n / 20 * 20) + 1)) ((n / 20 * 20) + 1) (blk (ltF cmp) 20 (n / 20) l)) ow ow ow ht)) (.f 1 (AV.tup []) (.e (AV.tup []) (by
        rw [hfin]))))))))))))
theorem sCst_at (cmp : Card → Card → Int) (f : Nat) (xs : List AV) (n g : Nat) (l : List Card) (hc : ∀ (x y : Card) (H : Heap), ACalls Try.prog f ([AV.agg (Card.row x), AV.agg (Card.row y)] ++ xs) H (AV.int .i64 (cmp x y), H)) (hxs : AV.bdds 1 xs = true) (W : Weak (ltF cmp)) (hn : n = l.length) (hb : n < 524288) (H : Heap) : ACalls Try.prog 97 [(.osl 0 g 9 0 n), (.int .i64 ((n : Nat) : Int)), (.func f xs)] (([⟨g, 9, (List.map Card.row l), none⟩] : Heap) ++ H) ((AV.tup []), ([⟨g, 9, (List.map Card.row (insSort cmp 0 (n - 1) 1 l)), none⟩] : Heap) ++ H) := (sCst_spec cmp f xs n g l hc hxs W hn hb).ext (by simp [AV.bdds, AV.bdd, *]) kr ob ob kr H
def sortCW_ann : Ann := { base := 1, fin := some 1 }
set_option maxRecDepth 100000 in
theorem sortCW_spec (cmp : Card → Card → Int) (f : Nat) (xs : List AV) (n g : Nat) (l : List Card) (hc : ∀ (x y : Card) (H : Heap), ACalls Try.prog f ([AV.agg (Card.row x), AV.agg (Card.row y)] ++ xs) H (AV.int .i64 (cmp x y), H)) (hxs : AV.bdds 1 xs = true) (W : Weak (ltF cmp)) (hn : n = l.length) (hb : n < 524288) : ACalls Try.prog 79 [(.osl 0 g 9 0 n), (.func f xs)] ([⟨g, 9, (List.map Card.row l), none⟩] : Heap) ((AV.tup []), ([⟨g, 9, (List.map Card.row (insSort cmp 0 (n - 1) 1 l)), none⟩] : Heap)) :=
  specO (fn := Try.f79) (ann := sortCW_ann) (Has.o Try.func79) (.r (.t 4 (AV.tup []) ([⟨g, 9, (List.map Card.row (insSort cmp 0 (n - 1) 1 l)), none⟩] : Heap) (sCst_at _ f xs n g l (by first | exact hc | exact hxs | exact W | omega) (by first | exact hc | exact hxs | exact W | omega) (by first | exact hc | exact hxs | exact W | omega) (by first | exact hc | exact hxs | exact W | omega) (by first | exact hc | exact hxs | exact W | omega) ([] : Heap) : ACalls Try.prog 97 [(.osl 0 g 9 0 n), (.int .i64 ((n : Nat) : Int)), (.func f xs)] ([⟨g, 9, (List.map Card.row l), none⟩] : Heap) ((AV.tup []), ([⟨g, 9, (List.map Card.row (insSort cmp 0 (n - 1) 1 l)), none⟩] : Heap))) (.g (.h' ([⟨g, 9, (List.map Card.row (insSort cmp 0 (n - 1) 1 l)), none⟩] : Heap) (.f 1 (AV.tup []) (.e (AV.tup [])))))))
theorem sortCW_at (cmp : Card → Card → Int) (f : Nat) (xs : List AV) (n g : Nat) (l : List Card) (hc : ∀ (x y : Card) (H : Heap), ACalls Try.prog f ([AV.agg (Card.row x), AV.agg (Card.row y)] ++ xs) H (AV.int .i64 (cmp x y), H)) (hxs : AV.bdds 1 xs = true) (W : Weak (ltF cmp)) (hn : n = l.length) (hb : n < 524288) (H : Heap) : ACalls Try.prog 79 [(.osl 0 g 9 0 n), (.func f xs)] (([⟨g, 9, (List.map Card.row l), none⟩] : Heap) ++ H) ((AV.tup []), ([⟨g, 9, (List.map Card.row (insSort cmp 0 (n - 1) 1 l)), none⟩] : Heap) ++ H) := (sortCW_spec cmp f xs n g l hc hxs W hn hb).ext (by simp [AV.bdds, AV.bdd, *]) kr ob ob kr H
end Go.Proofs.Yteajpacajikaaaa.AM

set_option maxRecDepth 100000
set_option linter.unusedVariables false
set_option linter.unusedSimpArgs false
namespace Go.Proofs.Yteajpacajikaaaa.AM
open Go Go.Proofs.Yteajpacajikaaaa
attribute [local irreducible] ACalls funT codeT codeQ LoopTo
structure CardL where
  l : List Card
  deriving Inhabited
def CardL.row (x : CardL) : List AV := [(AV.sl .any 9 (List.map Card.row x.l))]
@[simp] theorem CardL.row_bdd (n : Nat) (x : CardL) : AV.bdds n x.row = true := by simp [CardL.row, AV.bdds, AV.bdd]
@[simp] theorem CardL.rows_bdd (n : Nat) (l : List CardL) : AV.bddss n (l.map CardL.row) = true := by induction l with | nil => rfl | cons x l ih => simp [AV.bddss, CardL.row_bdd, ih]
theorem weakX : Weak (ltF fun a b : Card => cmpK a.key b.key) := weakE
set_option maxRecDepth 100000 in
theorem sortCardX0_spec (l : List Card) (hl : l.length < 1000) : ACalls Try.prog 58 [(.sl .any 9 (List.map Card.row l))] ([] : Heap) ((AV.sl .cn 9 (List.map Card.row (sortP l))), ([] : Heap)) := by
  have hpl := sortP_len l
  exact specO (fn := Try.f58) (ann := sortCard0_ann) (Has.o Try.func58) (.r (.g (.r (.ch 1 ([⟨0, 9, (List.map Card.row l), none⟩] : Heap) (cloneC_at l oa ([] : Heap)) (.g (.r (.ch 1 ([⟨0, 9, (List.map Card.row (insSort (fun a b => cmpK a.key b.key) 0 (l.length - 1) 1 l)), none⟩] : Heap) (sortCW_at (fun a b => cmpK a.key b.key) 80 [] l.length 0 l (fun x y H => sortcmp_at x y H) (rfl) (weakX) oa oa ([] : Heap)) (.w' 3 (List.map Card.row (insSort (fun a b => cmpK a.key b.key) 0 (l.length - 1) 1 l)) (And.intro (rowsIn_all (room := none) kr (by first | omega | (simp [insSort_len]; done) | (simp [insSort_len]; omega))) (Card.rows_bdd _ _) : rowsIn ([⟨0, 9, (List.map Card.row (insSort (fun a b => cmpK a.key b.key) 0 (l.length - 1) 1 l)), none⟩] : Heap) 9 (AV.osl 0 0 9 0 l.length) = some (List.map Card.row (insSort (fun a b => cmpK a.key b.key) 0 (l.length - 1) 1 l)) ∧ AV.bddss 0 (List.map Card.row (insSort (fun a b => cmpK a.key b.key) 0 (l.length - 1) 1 l)) = true) (.g (.r (.c 1 (clipC_at (insSort (fun a b => cmpK a.key b.key) 0 (l.length - 1) 1 l) (by rw [insSort_len]; omega) ([⟨1, 9, [], none⟩] : Heap)) (.g (.h' ([] : Heap) (.f 0 (AV.sl .cn 9 (List.map Card.row (insSort (fun a b => cmpK a.key b.key) 0 (l.length - 1) 1 l))) (.e (AV.sl .cn 9 (List.map Card.row (insSort (fun a b => cmpK a.key b.key) 0 (l.length - 1) 1 l))) (by
        with_unfolding_all rfl))))))))))))))))
theorem sortCardX_spec (l : List Card) (hl : l.length < 1000) : ACalls Try.prog 58 [(.sl .any 9 (List.map Card.row l))] ([] : Heap) ((AV.sl .any 9 (List.map Card.row (sortP l))), ([] : Heap)) := (sortCardX0_spec l hl).post ⟨rfl, rfl, .inl rfl⟩
theorem sortCardX_at (l : List Card) (hl : l.length < 1000) (H : Heap) : ACalls Try.prog 58 [(.sl .any 9 (List.map Card.row l))] H ((AV.sl .any 9 (List.map Card.row (sortP l))), H) := (sortCardX_spec l hl).lift kr kr H
attribute [local irreducible] sortP
end Go.Proofs.Yteajpacajikaaaa.AM

set_option maxRecDepth 100000
set_option linter.unusedVariables false
set_option linter.unusedSimpArgs false
namespace Go.Proofs.Yteajpacajikaaaa.AM
open Go Go.Proofs.Yteajpacajikaaaa
attribute [local irreducible] ACalls funT codeT codeQ LoopTo
attribute [local irreducible] Tp.card Tp.cardT Tp.next Tp.step Tp.cards Tp.key Tp.keyT sink insSort beforeK sortP cmpK byteB cutS textB byteAt intB showsC hereL seenK cardB sealB sumStep sumB ofB strL
@[simp] abbrev Vsx_1 (v1_ : List Card) : Fr := (mkF 22 [(3, (AV.osl 0 (hereL v1_).length 9 0 (hereL v1_).length)), (6, (AV.sl .any 9 (List.map Card.row v1_))), (7, (AV.int .i64 ((v1_.length : Nat) : Int))), (8, (AV.int .i64 ((v1_.length : Nat) : Int)))])
set_option maxRecDepth 100000 in
theorem seenX_spec (l : List Card) (hl : l.length < 1000) : ACalls Try.prog 86 [(.sl .any 9 (List.map Card.row l))] ([] : Heap) ((AV.sl .any 9 (List.map Card.row (seenK l))), ([] : Heap)) := by
  have hk := hereL_len l
  exact specO (fn := Try.f86) (ann := seen_ann) (Has.o Try.func86) (.r (.g (.r (.g (.r (.h' ([⟨0, 9, (List.map Card.row []), none⟩] : Heap) (.y 1 (.int .i64 ((List.length (List.map Card.row l) : Nat) : Int)) (AV.int .i64 ((l.length : Nat) : Int)) (Yes.len _ _ _) (.g (.loop (Vsx_1 l) (show LoopTo (codeQ Try.prog (X seen_ann) (loopOf Try.f86 0)) (some [3, 6, 7, 8]) (some [3, 6, 7, 8]) (mkF 22 [(3, (.osl 0 0 9 0 0)), (6, (.sl .any 9 (List.map Card.row l))), (7, (.int .i64 ((l.length : Nat) : Int))), (8, (.int .i64 0))]) ([⟨0, 9, (List.map Card.row []), none⟩] : Heap) (.exit 0) (Vsx_1 l) ([⟨(hereL l).length, 9, (List.map Card.row (hereL l)), none⟩] : Heap) from (seen_loop l ow (List.length l) [] 0 0 0 (hereL l, (hereL l).length, (hereL l).length) ow rfl ow (seen_iter _))) (.r (.w 3 (List.map Card.row (hereL l)) (And.intro (rowsIn_all (room := none) kr om) (Card.rows_bdd _ _) : rowsIn ([⟨(hereL l).length, 9, (List.map Card.row (hereL l)), none⟩] : Heap) 9 (AV.osl 0 (hereL l).length 9 0 (hereL l).length) = some (List.map Card.row (hereL l)) ∧ AV.bddss 0 (List.map Card.row (hereL l)) = true) (.c 1 (sortCardX_at (hereL l) oa ([⟨((hereL l).length + 1), 9, [], none⟩] : Heap)) (.g (.h' ([] : Heap) (.f 0 (AV.sl .any 9 (List.map Card.row (sortP (hereL l)))) (.e (AV.sl .any 9 (List.map Card.row (sortP (hereL l)))) (by
        with_unfolding_all rfl)))))))))))))))))
theorem seenX_at (l : List Card) (hl : l.length < 1000) (H : Heap) : ACalls Try.prog 86 [(.sl .any 9 (List.map Card.row l))] H ((AV.sl .any 9 (List.map Card.row (seenK l))), H) := (seenX_spec l hl).lift kr kr H
@[simp] abbrev Vsx_2 (v1_ : List Card) : Fr := (mkF 31 [(3, (AV.sl .any 1 (List.map rU8 (List.foldl cardB [] (seenK v1_))))), (7, (AV.sl .any 9 (List.map Card.row (seenK v1_)))), (8, (AV.int .i64 (((seenK v1_).length : Nat) : Int))), (9, (AV.int .i64 (((seenK v1_).length : Nat) : Int)))])
set_option maxRecDepth 100000 in
theorem sealBX_spec (l : List Card) (hl : l.length < 1000) : ACalls Try.prog 84 [(.sl .any 9 (List.map Card.row l))] ([] : Heap) ((AV.sl .any 1 (List.map rU8 (sealB l))), ([] : Heap)) := by
  have h1 := seenK_len l
  exact specO (fn := Try.f84) (ann := sealB_ann) (Has.o Try.func84) (.r (.g (.r (.g (.r (.c 1 (seenX_at l oa ([] : Heap)) (.y 2 (.int .i64 ((List.length (List.map Card.row (seenK l)) : Nat) : Int)) (AV.int .i64 (((seenK l).length : Nat) : Int)) (Yes.len _ _ _) (.g (.loop (Vsx_2 l) (show LoopTo (codeQ Try.prog (X sealB_ann) (loopOf Try.f84 0)) (some [3, 7, 8, 9]) (some [3, 7, 8, 9]) (mkF 31 [(3, (.sl .any 1 [])), (7, (.sl .any 9 (List.map Card.row (seenK l)))), (8, (.int .i64 (((seenK l).length : Nat) : Int))), (9, (.int .i64 0))]) ([] : Heap) (.exit 0) (Vsx_2 l) ([] : Heap) from (sealB_loop (seenK l) ow (List.length (seenK l)) [] 0 (List.foldl cardB [] (seenK l)) ow (by simp) (sealB_iter _))) (.r (.g (.f 0 (AV.sl .any 1 (List.map rU8 (List.foldl cardB [] (seenK l)))) (.e (AV.sl .any 1 (List.map rU8 (List.foldl cardB [] (seenK l)))) (by
        with_unfolding_all rfl))))))))))))))
theorem sealBX_at (l : List Card) (hl : l.length < 1000) (H : Heap) : ACalls Try.prog 84 [(.sl .any 9 (List.map Card.row l))] H ((AV.sl .any 1 (List.map rU8 (sealB l))), H) := (sealBX_spec l hl).lift kr kr H
def sealOfX_ann : Ann := { fin := some 0 }
set_option maxRecDepth 100000 in
theorem sealOfX_spec (l : List Card) (hl : l.length < 1000) : ACalls Try.prog 59 [(.sl .any 9 (List.map Card.row l))] ([] : Heap) ((AV.int .u32 (ofB l)), ([] : Heap)) := by
  have h1 := sealB_len l
  exact specO (fn := Try.f59) (ann := sealOfX_ann) (Has.o Try.func59) (.r (.g (.r (.c 1 (sealBX_at l oa ([] : Heap)) (.c 2 (sum_at (sealB l) oa ([] : Heap)) (.g (.f 0 (AV.int .u32 (sumB (sealB l))) (.e (AV.int .u32 (sumB (sealB l))) (by
        with_unfolding_all rfl)))))))))
theorem sealOfX_at (l : List Card) (hl : l.length < 1000) (H : Heap) : ACalls Try.prog 59 [(.sl .any 9 (List.map Card.row l))] H ((AV.int .u32 (ofB l)), H) := (sealOfX_spec l hl).lift kr kr H
end Go.Proofs.Yteajpacajikaaaa.AM

set_option maxRecDepth 100000
set_option linter.unusedVariables false
set_option linter.unusedSimpArgs false
namespace Go.Proofs.Yteajpacajikaaaa.AM
open Go Go.Proofs.Yteajpacajikaaaa
attribute [local irreducible] ACalls funT codeT codeQ LoopTo
attribute [local irreducible] nameB stR cardR sortP
structure Msg where
  kind : Int
  op : Int
  status : Int
  code : Int
  tag : Int
  n : Int
  seq : Int
  key : Key
  full : Bool
  sum : Int
  cards : List Card
  keys : List Key
  deriving Inhabited
def Msg.row (x : Msg) : List AV := [(AV.int .i64 x.kind), (AV.int .i64 x.op), (AV.int .i64 x.status), (AV.int .i64 x.code), (AV.int .i64 x.tag), (AV.int .i64 x.n), (AV.int .i64 x.seq), (AV.str x.key.app), (AV.str x.key.id), (AV.bool x.full), (AV.int .u32 x.sum), (AV.sl .any 9 (List.map Card.row x.cards)), (AV.sl .any 2 (List.map Key.row x.keys))]
@[simp] theorem Msg.row_bdd (n : Nat) (x : Msg) : AV.bdds n x.row = true := by simp [Msg.row, AV.bdds, AV.bdd]
@[simp] theorem Msg.rows_bdd (n : Nat) (l : List Msg) : AV.bddss n (l.map Msg.row) = true := by induction l with | nil => rfl | cons x l ih => simp [AV.bddss, Msg.row_bdd, ih]
def eqC0N_ann : Ann := { fin := some 0 }
set_option maxRecDepth 100000 in
theorem eqC0N_spec (l : List Card) (h : ¬ l.length = 0) : ACalls Try.prog 95 [(.sl .any 9 (List.map Card.row l)), (.sl .nil 0 [])] ([] : Heap) ((AV.bool (decide (l.length = 0))), ([] : Heap)) :=
  specO (fn := Try.f95) (ann := eqC0N_ann) (Has.o Try.func95) (.r (.g (.r (.y 1 (.int .i64 ((List.length (List.map Card.row l) : Nat) : Int)) (AV.int .i64 ((l.length : Nat) : Int)) (Yes.len _ _ _) (.y 4 (AV.bool (((l.length : Nat) : Int) != 0)) (AV.bool true) (Yes.bool (by simp; intro q; subst q; exact h rfl)) (.g (.yes (.r (.g (.f 0 (AV.bool false) (.e (AV.bool false) (by
        simp [h]))))))))))))
def eqC0Y_ann : Ann := { fin := some 0 }
set_option maxRecDepth 100000 in
theorem eqC0Y_spec   : ACalls Try.prog 95 [(.sl .any 9 []), (.sl .nil 0 [])] ([] : Heap) ((AV.bool true), ([] : Heap)) :=
  specO (fn := Try.f95) (ann := eqC0Y_ann) (Has.o Try.func95) (.r (.g (.r (.g (.no (.r (.g (.roll 1 (.r (.g (.no (.r (.g (.f 0 (AV.bool true) (.e (AV.bool true))))))))))))))))
theorem eqC0Y_at   (H : Heap) : ACalls Try.prog 95 [(.sl .any 9 []), (.sl .nil 0 [])] H ((AV.bool true), H) := (eqC0Y_spec  ).lift kr kr H
theorem eqC0_spec (l : List Card)  : ACalls Try.prog 95 [(.sl .any 9 (List.map Card.row l)), (.sl .nil 0 [])] ([] : Heap) ((AV.bool (decide (l.length = 0))), ([] : Heap)) := by
  by_cases h : l.length = 0
  · obtain rfl : l = [] := List.eq_nil_of_length_eq_zero h
    exact eqC0Y_spec
  · exact eqC0N_spec l h
theorem eqC0_at (l : List Card)  (H : Heap) : ACalls Try.prog 95 [(.sl .any 9 (List.map Card.row l)), (.sl .nil 0 [])] H ((AV.bool (decide (l.length = 0))), H) := (eqC0_spec l ).lift kr kr H
def eqK0N_ann : Ann := { fin := some 0 }
set_option maxRecDepth 100000 in
theorem eqK0N_spec (l : List Key) (h : ¬ l.length = 0) : ACalls Try.prog 96 [(.sl .any 2 (List.map Key.row l)), (.sl .nil 0 [])] ([] : Heap) ((AV.bool (decide (l.length = 0))), ([] : Heap)) :=
  specO (fn := Try.f96) (ann := eqK0N_ann) (Has.o Try.func96) (.r (.g (.r (.y 1 (.int .i64 ((List.length (List.map Key.row l) : Nat) : Int)) (AV.int .i64 ((l.length : Nat) : Int)) (Yes.len _ _ _) (.y 4 (AV.bool (((l.length : Nat) : Int) != 0)) (AV.bool true) (Yes.bool (by simp; intro q; subst q; exact h rfl)) (.g (.yes (.r (.g (.f 0 (AV.bool false) (.e (AV.bool false) (by
        simp [h]))))))))))))
def eqK0Y_ann : Ann := { fin := some 0 }
set_option maxRecDepth 100000 in
theorem eqK0Y_spec   : ACalls Try.prog 96 [(.sl .any 2 []), (.sl .nil 0 [])] ([] : Heap) ((AV.bool true), ([] : Heap)) :=
  specO (fn := Try.f96) (ann := eqK0Y_ann) (Has.o Try.func96) (.r (.g (.r (.g (.no (.r (.g (.roll 1 (.r (.g (.no (.r (.g (.f 0 (AV.bool true) (.e (AV.bool true))))))))))))))))
theorem eqK0Y_at   (H : Heap) : ACalls Try.prog 96 [(.sl .any 2 []), (.sl .nil 0 [])] H ((AV.bool true), H) := (eqK0Y_spec  ).lift kr kr H
theorem eqK0_spec (l : List Key)  : ACalls Try.prog 96 [(.sl .any 2 (List.map Key.row l)), (.sl .nil 0 [])] ([] : Heap) ((AV.bool (decide (l.length = 0))), ([] : Heap)) := by
  by_cases h : l.length = 0
  · obtain rfl : l = [] := List.eq_nil_of_length_eq_zero h
    exact eqK0Y_spec
  · exact eqK0N_spec l h
theorem eqK0_at (l : List Key)  (H : Heap) : ACalls Try.prog 96 [(.sl .any 2 (List.map Key.row l)), (.sl .nil 0 [])] H ((AV.bool (decide (l.length = 0))), H) := (eqK0_spec l ).lift kr kr H
def msame0_ann : Ann := { refs := [2, 3], fin := some 0 }
set_option maxRecDepth 100000 in
theorem msame0_spec   : ACalls Try.prog 73 [(.agg [(.int .i64 0), (.int .i64 0), (.int .i64 0), (.int .i64 0), (.int .i64 0), (.int .i64 0), (.int .i64 0), (.str ⟨#[]⟩), (.str ⟨#[]⟩), (.bool false), (.int .u32 0), (.sl .nil 0 []), (.sl .any 2 [])]), (.agg [(.int .i64 0), (.int .i64 0), (.int .i64 0), (.int .i64 0), (.int .i64 0), (.int .i64 0), (.int .i64 0), (.str ⟨#[]⟩), (.str ⟨#[]⟩), (.bool false), (.int .u32 0), (.sl .nil 0 []), (.sl .nil 0 [])])] ([] : Heap) ((AV.bool true), ([] : Heap)) :=
  specO (fn := Try.f73) (ann := msame0_ann) (Has.o Try.func73) (.r (.g (.r (.c 4 (ACalls.pre (args := [(AV.sl .any 9 []), (AV.sl .nil 0 [])]) (args' := [(AV.sl .nil 0 []), (AV.sl .nil 0 [])]) (eqC0Y_at   ([] : Heap)) ⟨⟨rfl, rfl, .inr rfl⟩, ⟨rfl, rfl, .inl rfl⟩, trivial⟩) (.no (.no (.no (.no (.no (.c 11 (eqK0Y_at   ([] : Heap)) (.no (.g (.no (.r (.yes (.yes (.yes (.yes (.yes (.yes (.yes (.yes (.yes (.yes (.yes (.yes (.yes (.yes (.yes (.yes (.yes (.yes (.yes (.yes (.yes (.yes (.yes (.yes (.yes (.yes (.yes (.yes (.yes (.yes (.yes (.yes (.yes (.yes (.yes (.y 52 (AV.bool (((ByteArray.mk #[]).toList == (ByteArray.mk #[]).toList) && (((ByteArray.mk #[]).toList == (ByteArray.mk #[]).toList) && true))) (AV.bool true) (Yes.bool kr) (.yes (.yes (.yes (.yes (.yes (.yes (.yes (.yes (.yes (.yes (.g (.f 0 (AV.bool true) (.e (AV.bool true))))))))))))))))))))))))))))))))))))))))))))))))))))))))))))))))
theorem msame0_at   (H : Heap) : ACalls Try.prog 73 [(.agg [(.int .i64 0), (.int .i64 0), (.int .i64 0), (.int .i64 0), (.int .i64 0), (.int .i64 0), (.int .i64 0), (.str ⟨#[]⟩), (.str ⟨#[]⟩), (.bool false), (.int .u32 0), (.sl .nil 0 []), (.sl .any 2 [])]), (.agg [(.int .i64 0), (.int .i64 0), (.int .i64 0), (.int .i64 0), (.int .i64 0), (.int .i64 0), (.int .i64 0), (.str ⟨#[]⟩), (.str ⟨#[]⟩), (.bool false), (.int .u32 0), (.sl .nil 0 []), (.sl .nil 0 [])])] H ((AV.bool true), H) := (msame0_spec  ).lift kr kr H
def mzeroF_ann : Ann := { fin := some 0 }
set_option maxRecDepth 100000 in
theorem mzeroF_spec (tag seq sum : Int) (full : Bool) (cs : List Card)  : ACalls Try.prog 48 [(.agg [(.int .i64 2), (.int .i64 5), (.int .i64 0), (.int .i64 0), (.int .i64 tag), (.int .i64 0), (.int .i64 seq), (.str ⟨#[]⟩), (.str ⟨#[]⟩), (.bool full), (.int .u32 sum), (.sl .any 9 (List.map Card.row cs)), (.sl .any 2 [])])] ([] : Heap) ((AV.bool true), ([] : Heap)) :=
  specO (fn := Try.f48) (ann := mzeroF_ann) (Has.o Try.func48) (.r (.g (.r (.g (.r (.g (.no (.r (.g (.yes (.r (.g (.r (.g (.r (.c 2 (msame0_at   ([⟨0, 13, [[(AV.int .i64 0), (AV.int .i64 0), (AV.int .i64 0), (AV.int .i64 0), (AV.int .i64 0), (AV.int .i64 0), (AV.int .i64 0), (AV.str ⟨#[]⟩), (AV.str ⟨#[]⟩), (AV.bool false), (AV.int .u32 0), (AV.sl .nil 0 []), (AV.sl .any 2 [])]], none⟩] : Heap)) (.g (.f 0 (AV.bool true) (.e (AV.bool true))))))))))))))))))))
theorem mzeroF_at (tag seq sum : Int) (full : Bool) (cs : List Card)  (H : Heap) : ACalls Try.prog 48 [(.agg [(.int .i64 2), (.int .i64 5), (.int .i64 0), (.int .i64 0), (.int .i64 tag), (.int .i64 0), (.int .i64 seq), (.str ⟨#[]⟩), (.str ⟨#[]⟩), (.bool full), (.int .u32 sum), (.sl .any 9 (List.map Card.row cs)), (.sl .any 2 [])])] H ((AV.bool true), H) := (mzeroF_spec tag seq sum full cs ).lift kr kr H
def maskedF_ann : Ann := { refs := [1], fin := some 0 }
set_option maxRecDepth 100000 in
theorem maskedF_spec (tag seq sum : Int) (full : Bool) (cs : List Card)  : ACalls Try.prog 74 [(.agg [(.int .i64 2), (.int .i64 5), (.int .i64 0), (.int .i64 0), (.int .i64 tag), (.int .i64 0), (.int .i64 seq), (.str ⟨#[]⟩), (.str ⟨#[]⟩), (.bool full), (.int .u32 sum), (.sl .any 9 (List.map Card.row cs)), (.sl .any 2 [])])] ([] : Heap) ((AV.bool true), ([] : Heap)) :=
  specO (fn := Try.f74) (ann := maskedF_ann) (Has.o Try.func74) (.r (.g (.r (.no (.no (.no (.g (.f 0 (AV.bool true) (.e (AV.bool true))))))))))
theorem maskedF_at (tag seq sum : Int) (full : Bool) (cs : List Card)  (H : Heap) : ACalls Try.prog 74 [(.agg [(.int .i64 2), (.int .i64 5), (.int .i64 0), (.int .i64 0), (.int .i64 tag), (.int .i64 0), (.int .i64 seq), (.str ⟨#[]⟩), (.str ⟨#[]⟩), (.bool full), (.int .u32 sum), (.sl .any 9 (List.map Card.row cs)), (.sl .any 2 [])])] H ((AV.bool true), H) := (maskedF_spec tag seq sum full cs ).lift kr kr H
def mopF_ann : Ann := { refs := [1], fin := some 0 }
set_option maxRecDepth 100000 in
theorem mopF_spec (tag seq sum : Int) (full : Bool) (cs : List Card)  : ACalls Try.prog 49 [(.agg [(.int .i64 2), (.int .i64 5), (.int .i64 0), (.int .i64 0), (.int .i64 tag), (.int .i64 0), (.int .i64 seq), (.str ⟨#[]⟩), (.str ⟨#[]⟩), (.bool full), (.int .u32 sum), (.sl .any 9 (List.map Card.row cs)), (.sl .any 2 [])])] ([] : Heap) ((AV.bool true), ([] : Heap)) :=
  specO (fn := Try.f49) (ann := mopF_ann) (Has.o Try.func49) (.r (.g (.r (.c 1 (maskedF_at tag seq sum full cs  ([] : Heap)) (.g (.no (.r (.g (.yes (.r (.y 3 (AV.bool (((ByteArray.mk #[]).toList == (ByteArray.mk #[]).toList) && (((ByteArray.mk #[]).toList == (ByteArray.mk #[]).toList) && true))) (AV.bool true) (Yes.bool kr) (.g (.f 0 (AV.bool true) (.e (AV.bool true)))))))))))))))
theorem mopF_at (tag seq sum : Int) (full : Bool) (cs : List Card)  (H : Heap) : ACalls Try.prog 49 [(.agg [(.int .i64 2), (.int .i64 5), (.int .i64 0), (.int .i64 0), (.int .i64 tag), (.int .i64 0), (.int .i64 seq), (.str ⟨#[]⟩), (.str ⟨#[]⟩), (.bool full), (.int .u32 sum), (.sl .any 9 (List.map Card.row cs)), (.sl .any 2 [])])] H ((AV.bool true), H) := (mopF_spec tag seq sum full cs ).lift kr kr H
def mwithin0_ann : Ann := { fin := some 0 }
set_option maxRecDepth 100000 in
theorem mwithin0_spec   : ACalls Try.prog 50 [(.int .i64 0)] ([] : Heap) ((AV.bool true), ([] : Heap)) :=
  specO (fn := Try.f50) (ann := mwithin0_ann) (Has.o Try.func50) (.r (.g (.r (.yes (.yes (.g (.f 0 (AV.bool true) (.e (AV.bool true)))))))))
theorem mwithin0_at   (H : Heap) : ACalls Try.prog 50 [(.int .i64 0)] H ((AV.bool true), H) := (mwithin0_spec  ).lift kr kr H
def mbadC_ann : Ann := { refs := [1], fin := some 0 }
set_option maxRecDepth 100000 in
theorem mbadC_spec (c : Card)  : ACalls Try.prog 52 [(.agg (Card.row c))] ([] : Heap) ((AV.bool (!(cardR c))), ([] : Heap)) :=
  specO (fn := Try.f52) (ann := mbadC_ann) (Has.o Try.func52) (.r (.g (.r (.c 1 (cright_at c  ([] : Heap)) (.g (.f 0 (AV.bool (!(cardR c))) (.e (AV.bool (!(cardR c))))))))))
theorem mbadC_at (c : Card)  (H : Heap) : ACalls Try.prog 52 [(.agg (Card.row c))] H ((AV.bool (!(cardR c))), H) := (mbadC_spec c ).lift kr kr H
def mix_ann : Ann := { fin := some 0, live := [(2, [0, 1, 7, 8])], out := [(2, [0, 1, 7, 8])] }
@[simp] abbrev Wo_1 (v1_ : List Card) (v2_ : Nat) : Fr := (mkF 19 [(0, (AV.sl .any 9 (List.map Card.row v1_))), (1, (AV.func 52 [])), (7, (AV.int .i64 ((v1_.length : Nat) : Int))), (8, (AV.int .i64 ((v2_ : Nat) : Int)))])
set_option maxRecDepth 100000 in
theorem mix_step (l : List Card)  (i : Nat) (hl : l.length < 1099511627776) (hle_ : i ≤ l.length) {eX : Ex} {FX : Fr} {HX : Heap} (k1 : (decide (((i : Nat) : Int) < ((l.length : Nat) : Int))) = true → (!(cardR (nth l i))) = true → ((.ret : Ex), (Wo_1 l i), ([] : Heap)) = (eX, FX, HX)) (k2 : (decide (((i : Nat) : Int) < ((l.length : Nat) : Int))) = true → (!(cardR (nth l i))) = false → LoopTo (codeQ Try.prog (X mix_ann) (loopOf Try.f75 0)) (some [0, 1, 7, 8]) (some [0, 1, 7, 8]) (mkF 19 [(0, (.sl .any 9 (List.map Card.row l))), (1, (.func 52 [])), (7, (.int .i64 ((l.length : Nat) : Int))), (8, (.int .i64 ((i + 1 : Nat) : Int)))]) ([] : Heap) eX FX HX) (k3 : (decide (((i : Nat) : Int) < ((l.length : Nat) : Int))) = false → ((.exit 0 : Ex), (Wo_1 l i), ([] : Heap)) = (eX, FX, HX)) : LoopTo (codeQ Try.prog (X mix_ann) (loopOf Try.f75 0)) (some [0, 1, 7, 8]) (some [0, 1, 7, 8]) (Wo_1 l i) ([] : Heap) eX FX HX :=
  stepO (.r (.g (.two (decide (((i : Nat) : Int) < ((l.length : Nat) : Int))) (fun h1 h1' => (.r (.g (.r (.is 3 9 9 (List.map Card.row l) ((i : Nat) : Int) (Card.row (nth l i)) (IdxSl.mk _ ow ow) (.c 5 (mbadC_at (nth l i)  ([] : Heap)) (.g (.two (!(cardR (nth l i))) (fun h2 h2' => (.r (.g (.l (k1 h1 h2))))) (fun h2 h2' => (.r (.y 0 (.int .i64 (IntKind.i64.wrap (((i : Nat) : Int) + 1))) (AV.int .i64 ((i + 1 : Nat) : Int)) (Yes.add ow ow ow) (.g (.l (k2 h1 h2)))))))))))))) (fun h1 h1' => (.l (k3 h1))))))
def mix_f (l : List Card) (i : Nat) (s : Unit) : Unit := ()
def mix_bad (l : List Card)  (i : Nat) : Prop := (((decide (((i : Nat) : Int) < ((l.length : Nat) : Int))) = true) ∧ ((!(cardR (nth l i))) = true))
@[simp] abbrev Wo_2 (v1_ : List Card) : Fr := (mkF 19 [(0, (AV.sl .any 9 (List.map Card.row v1_))), (1, (AV.func 52 [])), (7, (AV.int .i64 ((v1_.length : Nat) : Int))), (8, (AV.int .i64 ((v1_.length : Nat) : Int)))])
theorem mix_loop (l : List Card) (hl : l.length < 1099511627776)  (hbad : ∀ (i : Nat), i < l.length → ¬ mix_bad l  i) (r_ : Nat) : ∀  (i : Nat) (sF : Unit), i + r_ = l.length → () = (iter (mix_f l) i 0 ()) → sF = iter (mix_f l) r_ i () →
    LoopTo (codeQ Try.prog (X mix_ann) (loopOf Try.f75 0)) (some [0, 1, 7, 8]) (some [0, 1, 7, 8]) (Wo_1 l i) ([] : Heap) (.exit 0) (Wo_2 l) ([] : Heap) := by
  induction r_ with
  | zero =>
    intro  i sF hi_  hs_ hF
    obtain rfl : l.length = i := by omega
    have e_ : sF = () := hF
    refine mix_step l  l.length hl (Nat.le_refl _) (fun h _ => by simp at h <;> omega) (fun h _ => by simp at h <;> omega) (fun _ => ?_)
    first | done | rfl | (rw [e_]; done) | (rw [e_]; rfl)
  | succ r_ ih =>
    intro  i sF hi_  hs_ hF
    refine mix_step l  i hl ow (fun h1 h2 => ?_) (fun h1 h2 => ?_) (fun h => by simp at h <;> omega)
    · exact False.elim (by
        have hb_ := hbad i ow
        try rw [← hs_] at hb_
        exact hb_ (⟨h1, h2⟩))
    · exact ih  (i + 1) sF ow  (by rw [iter_succ, ← hs_] <;> simp only [mix_f, h2, if_true, Bool.false_eq_true, if_false]) (by rw [hF] <;> simp only [iter, mix_f, h2, if_true, Bool.false_eq_true, if_false])
set_option maxRecDepth 100000 in
theorem mix_spec (l : List Card) (hl : l.length < 1099511627776) (hr : ∀ c ∈ l, cardR c = true) : ACalls Try.prog 75 [(.sl .any 9 (List.map Card.row l)), (.func 52 [])] ([] : Heap) ((AV.int .i64 (-1)), ([] : Heap)) :=
  specO (fn := Try.f75) (ann := mix_ann) (Has.o Try.func75) (.r (.g (.r (.y 1 (.int .i64 ((List.length (List.map Card.row l) : Nat) : Int)) (AV.int .i64 ((l.length : Nat) : Int)) (Yes.len _ _ _) (.g (.loop (Wo_2 l) (show LoopTo (codeQ Try.prog (X mix_ann) (loopOf Try.f75 0)) (some [0, 1, 7, 8]) (some [0, 1, 7, 8]) (mkF 19 [(0, (.sl .any 9 (List.map Card.row l))), (1, (.func 52 [])), (7, (.int .i64 ((l.length : Nat) : Int))), (8, (.int .i64 0))]) ([] : Heap) (.exit 0) (Wo_2 l) ([] : Heap) from (mix_loop l hl (fun i hi => by simp only [mix_bad]; rw [hr _ (nth_mem hi)]; simp) l.length 0 () ow rfl rfl)) (.r (.g (.f 0 (AV.int .i64 (-1)) (.e (AV.int .i64 (-1))))))))))))
theorem mix_at (l : List Card) (hl : l.length < 1099511627776) (hr : ∀ c ∈ l, cardR c = true) (H : Heap) : ACalls Try.prog 75 [(.sl .any 9 (List.map Card.row l)), (.func 52 [])] H ((AV.int .i64 (-1)), H) := (mix_spec l hl hr).lift kr kr H
def mcont_ann : Ann := { fin := some 0 }
set_option maxRecDepth 100000 in
theorem mcont_spec (l : List Card) (hl : l.length < 1099511627776) (hr : ∀ c ∈ l, cardR c = true) : ACalls Try.prog 51 [(.sl .any 9 (List.map Card.row l)), (.func 52 [])] ([] : Heap) ((AV.bool false), ([] : Heap)) :=
  specO (fn := Try.f51) (ann := mcont_ann) (Has.o Try.func51) (.r (.g (.r (.c 2 (mix_at l oa oa ([] : Heap)) (.g (.f 0 (AV.bool false) (.e (AV.bool false))))))))
theorem mcont_at (l : List Card) (hl : l.length < 1099511627776) (hr : ∀ c ∈ l, cardR c = true) (H : Heap) : ACalls Try.prog 51 [(.sl .any 9 (List.map Card.row l)), (.func 52 [])] H ((AV.bool false), H) := (mcont_spec l hl hr).lift kr kr H
def mixK0_ann : Ann := { fin := some 0 }
set_option maxRecDepth 100000 in
theorem mixK0_spec   : ACalls Try.prog 77 [(.sl .any 2 []), (.func 55 [])] ([] : Heap) ((AV.int .i64 (-1)), ([] : Heap)) :=
  specO (fn := Try.f77) (ann := mixK0_ann) (Has.o Try.func77) (.r (.g (.r (.g (.roll 1 (.r (.g (.no (.r (.g (.f 0 (AV.int .i64 (-1)) (.e (AV.int .i64 (-1))))))))))))))
theorem mixK0_at   (H : Heap) : ACalls Try.prog 77 [(.sl .any 2 []), (.func 55 [])] H ((AV.int .i64 (-1)), H) := (mixK0_spec  ).lift kr kr H
def mcontK0_ann : Ann := { fin := some 0 }
set_option maxRecDepth 100000 in
theorem mcontK0_spec   : ACalls Try.prog 54 [(.sl .any 2 []), (.func 55 [])] ([] : Heap) ((AV.bool false), ([] : Heap)) :=
  specO (fn := Try.f54) (ann := mcontK0_ann) (Has.o Try.func54) (.r (.g (.r (.c 2 (mixK0_at   ([] : Heap)) (.g (.f 0 (AV.bool false) (.e (AV.bool false))))))))
theorem mcontK0_at   (H : Heap) : ACalls Try.prog 54 [(.sl .any 2 []), (.func 55 [])] H ((AV.bool false), H) := (mcontK0_spec  ).lift kr kr H
def mrightF_ann : Ann := { refs := [1], fin := some 0 }
set_option maxRecDepth 100000 in
theorem mrightF_spec (tag seq sum : Int) (full : Bool) (cs : List Card) (hs : -1 ≤ seq) (hl : cs.length ≤ 64) (hr : ∀ c ∈ cs, cardR c = true) : ACalls Try.prog 29 [(.agg [(.int .i64 2), (.int .i64 5), (.int .i64 0), (.int .i64 0), (.int .i64 tag), (.int .i64 0), (.int .i64 seq), (.str ⟨#[]⟩), (.str ⟨#[]⟩), (.bool full), (.int .u32 sum), (.sl .any 9 (List.map Card.row cs)), (.sl .any 2 [])])] ([] : Heap) (AV.nili, ([] : Heap)) :=
  specO (fn := Try.f29) (ann := mrightF_ann) (Has.o Try.func29) (.r (.g (.r (.no (.no (.no (.g (.no (.r (.c 1 (mzeroF_at tag seq sum full cs  ([] : Heap)) (.g (.no (.r (.c 1 (mopF_at tag seq sum full cs  ([] : Heap)) (.g (.no (.r (.c 2 (mwithin0_at   ([] : Heap)) (.no (.no (.no (.c 7 (mwithin0_at   ([] : Heap)) (.no (.no (.no (.no (.y 13 (AV.bool (decide (seq < (-1)))) (AV.bool false) (Yes.bool om) (.g (.no (.r (.y 2 (.int .i64 ((List.length (List.map Card.row cs) : Nat) : Int)) (AV.int .i64 ((cs.length : Nat) : Int)) (Yes.len _ _ _) (.y 3 (AV.bool (decide (((cs.length : Nat) : Int) > 64))) (AV.bool false) (Yes.bool (by simp; omega)) (.no (.no (.no (.no (.g (.no (.r (.c 2 (mcont_at cs oa oa ([] : Heap)) (.g (.r (.no (.no (.no (.c 4 (mcontK0_at   ([] : Heap)) (.g (.no (.r (.g (.f 0 AV.nili (.e AV.nili))))))))))))))))))))))))))))))))))))))))))))))))))))
theorem mrightF_at (tag seq sum : Int) (full : Bool) (cs : List Card) (hs : -1 ≤ seq) (hl : cs.length ≤ 64) (hr : ∀ c ∈ cs, cardR c = true) (H : Heap) : ACalls Try.prog 29 [(.agg [(.int .i64 2), (.int .i64 5), (.int .i64 0), (.int .i64 0), (.int .i64 tag), (.int .i64 0), (.int .i64 seq), (.str ⟨#[]⟩), (.str ⟨#[]⟩), (.bool full), (.int .u32 sum), (.sl .any 9 (List.map Card.row cs)), (.sl .any 2 [])])] H (AV.nili, H) := (mrightF_spec tag seq sum full cs hs hl hr).lift kr kr H
def putD (l : List Card) (c : Card) : List Card := (l.filter fun x => !Key.eqb x.key c.key) ++ (if (!c.gone) = true then [c] else [])
theorem putD_len (l : List Card) (c : Card) : (putD l c).length ≤ l.length + 1 := by
  unfold putD
  have := List.length_filter_le (fun x : Card => !Key.eqb x.key c.key) l
  rw [List.length_append]; split <;> simp <;> omega
theorem putsD_len (cs : List Card) : ∀ (l : List Card), (cs.foldl putD l).length ≤ l.length + cs.length := by
  induction cs with
  | nil => intro l; simp
  | cons c cs ih => intro l; rw [List.foldl_cons, List.length_cons]; have := ih (putD l c); have := putD_len l c; omega
def cput_ann : Ann := { refs := [3], gh := [(10, .frz 5)], gha := [(1, .vir 5 9), (7, .cut 1)], fin := some 0, live := [(3, [3, 5, 8, 9, 10])], out := [(3, [3, 5, 8, 9, 10])] }
@[simp] abbrev Wo_3 (v1_ : Nat) (v2_ : List Card) (v3_ : List Card) (v4_ : Nat) : Heap := [⟨(v1_ + 1), 9, (List.map Card.row (v2_ ++ [(nth v3_ v4_)])), none⟩]
@[simp] abbrev Wo_4 (v1_ : Card) (v2_ : Nat) (v3_ : Nat) (v4_ : List Card) (v5_ : Nat) : Fr := (mkF 32 [(3, (AV.ref (Card.row v1_) 0)), (5, (AV.osl 0 v2_ 9 0 v3_)), (8, (AV.sl .any 9 (List.map Card.row v4_))), (9, (AV.int .i64 ((v4_.length : Nat) : Int))), (10, (AV.int .i64 ((v5_ : Nat) : Int)))])
@[simp] abbrev Wo_5 (v1_ : Nat) (v2_ : List Card) (v3_ : List Card) (v4_ : Nat) : Heap := [⟨v1_, 9, (List.map Card.row v2_), none⟩, ⟨0, 9, [(Card.row (nth v3_ v4_))], none⟩]
set_option maxRecDepth 100000 in
theorem cput_step (l : List Card) (x : Card) (out : List Card) (k : Nat) (h : Nat) (i : Nat) (hl : l.length < 1000000) (hk : k = out.length) (hki : k ≤ i) (hle_ : i ≤ l.length) {eX : Ex} {FX : Fr} {HX : Heap} (k1 : (decide (((i : Nat) : Int) < ((l.length : Nat) : Int))) = true → (!(Key.eqb (nth l i).key x.key)) = true → LoopTo (codeQ Try.prog (X cput_ann) (loopOf Try.f57 0)) (some [3, 5, 8, 9, 10]) (some [3, 5, 8, 9, 10]) (mkF 32 [(3, (.ref (Card.row x) 0)), (5, (.osl 0 (h + 1) 9 0 (k + 1))), (8, (.sl .any 9 (List.map Card.row l))), (9, (.int .i64 ((l.length : Nat) : Int))), (10, (.int .i64 ((i + 1 : Nat) : Int)))]) (Wo_3 h out l i) eX FX HX) (k2 : (decide (((i : Nat) : Int) < ((l.length : Nat) : Int))) = true → (!(Key.eqb (nth l i).key x.key)) = false → LoopTo (codeQ Try.prog (X cput_ann) (loopOf Try.f57 0)) (some [3, 5, 8, 9, 10]) (some [3, 5, 8, 9, 10]) (mkF 32 [(3, (.ref (Card.row x) 0)), (5, (.osl 0 h 9 0 k)), (8, (.sl .any 9 (List.map Card.row l))), (9, (.int .i64 ((l.length : Nat) : Int))), (10, (.int .i64 ((i + 1 : Nat) : Int)))]) ([⟨h, 9, (List.map Card.row out), none⟩] : Heap) eX FX HX) (k3 : (decide (((i : Nat) : Int) < ((l.length : Nat) : Int))) = false → ((.exit 0 : Ex), (Wo_4 x h k l i), ([⟨h, 9, (List.map Card.row out), none⟩] : Heap)) = (eX, FX, HX)) : LoopTo (codeQ Try.prog (X cput_ann) (loopOf Try.f57 0)) (some [3, 5, 8, 9, 10]) (some [3, 5, 8, 9, 10]) (Wo_4 x h k l i) ([⟨h, 9, (List.map Card.row out), none⟩] : Heap) eX FX HX :=
  stepO (.r (.g (.two (decide (((i : Nat) : Int) < ((l.length : Nat) : Int))) (fun h1 h1' => (.r (.h' ([⟨h, 9, (List.map Card.row out), none⟩, ⟨0, 9, [[(AV.str ⟨#[]⟩), (AV.str ⟨#[]⟩), (AV.int .i64 0), (AV.int .i64 0), (AV.int .i64 0), (AV.int .i64 0), (AV.int .i64 0), (AV.int .i64 0), (AV.bool false)]], none⟩] : Heap) (.is 0 9 9 (List.map Card.row l) ((i : Nat) : Int) (Card.row (nth l i)) (IdxSl.mk _ ow ow) (.g (.r (.g (.two (!(Key.eqb (nth l i).key x.key)) (fun h2 h2' => (.r (.h' (Wo_5 h out l i) (.ap 3 35 (AV.osl 0 h 9 0 k) (AV.sl .clip 9 [(Card.row (nth l i))]) (AV.osl 0 (h + 1) 9 0 (k + 1)) ([⟨(h + 1), 9, (List.map Card.row (out ++ [(nth l i)])), none⟩, ⟨0, 9, [(Card.row (nth l i))], none⟩] : Heap) (evAppend_one (row := Card.row) (l := out) (x := (nth l i)) (T := tt) (e := 58) (te := { d := .struct [(26, 0), (3, 2), (3, 3), (2, 4), (56, 5), (4, 8)], size := 9, bytes := 88, zero := [.str ⟨#[]⟩, .str ⟨#[]⟩, .int .i64 0, .int .i64 0, .int .i64 0, .int .i64 0, .int .i64 0, .int .i64 0, .bool false] }) (z := 1) (b := 24) (y := [.sl .nil 0 []]) kr kr rfl (by decide) (by decide) kr (by first | assumption | omega | (simp; done) | (simp; omega)) rfl rfl (by first | omega | (show _ * 88 ≤ _; omega) | (simp; omega))) (.g (.r (.y 0 (.int .i64 (IntKind.i64.wrap (((i : Nat) : Int) + 1))) (AV.int .i64 ((i + 1 : Nat) : Int)) (Yes.add ow ow ow) (.h' (Wo_3 h out l i) (.b 1 (.g (.l (k1 h1 h2)))))))))))) (fun h2 h2' => (.r (.h' (Wo_5 h out l i) (.y 0 (.int .i64 (IntKind.i64.wrap (((i : Nat) : Int) + 1))) (AV.int .i64 ((i + 1 : Nat) : Int)) (Yes.add ow ow ow) (.h' ([⟨h, 9, (List.map Card.row out), none⟩] : Heap) (.b 1 (.g (.l (k2 h1 h2))))))))))))))))) (fun h1 h1' => (.l (k3 h1))))))
def cput_f (l : List Card) (x : Card) (i : Nat) (s : (List Card) × Nat × Nat) : (List Card) × Nat × Nat := (if (!(Key.eqb (nth l i).key x.key)) = true then (s.1 ++ [(nth l i)], (s.2.1 + 1), (s.2.2 + 1)) else (s.1, s.2.1, s.2.2))
theorem cput_loop (l : List Card) (x : Card) (hl : l.length < 1000000)  (r_ : Nat) : ∀ (out : List Card) (k : Nat) (h : Nat) (i : Nat) (sF : (List Card) × Nat × Nat), i + r_ = l.length → k = out.length → k ≤ i → sF = iter (cput_f l x) r_ i (out, k, h) →
    LoopTo (codeQ Try.prog (X cput_ann) (loopOf Try.f57 0)) (some [3, 5, 8, 9, 10]) (some [3, 5, 8, 9, 10]) (Wo_4 x h k l i) ([⟨h, 9, (List.map Card.row out), none⟩] : Heap) (.exit 0) (mkF 32 [(3, (.ref (Card.row x) 0)), (5, (.osl 0 sF.2.2 9 0 sF.2.1)), (8, (.sl .any 9 (List.map Card.row l))), (9, (.int .i64 ((l.length : Nat) : Int))), (10, (.int .i64 ((l.length : Nat) : Int)))]) ([⟨sF.2.2, 9, (List.map Card.row sF.1), none⟩] : Heap) := by
  induction r_ with
  | zero =>
    intro out k h i sF hi_ hk hki  hF
    obtain rfl : l.length = i := by omega
    have e_ : sF = (out, k, h) := hF
    refine cput_step l x out k h l.length hl hk hki (Nat.le_refl _) (fun h _ => by simp at h <;> omega) (fun h _ => by simp at h <;> omega) (fun _ => ?_)
    first | done | rfl | (rw [e_]; done) | (rw [e_]; rfl)
  | succ r_ ih =>
    intro out k h i sF hi_ hk hki  hF
    refine cput_step l x out k h i hl hk hki ow (fun h1 h2 => ?_) (fun h1 h2 => ?_) (fun h => by simp at h <;> omega)
    · exact ih (out ++ [(nth l i)]) (k + 1) (h + 1) (i + 1) sF ow (by first | omega | assumption | (simp; done) | (simp; omega) | (simp [*]; done) | (simp [*]; omega)) (by first | omega | assumption | (simp; done) | (simp; omega) | (simp [*]; done) | (simp [*]; omega))  (by rw [hF] <;> simp only [iter, cput_f, h2, if_true, Bool.false_eq_true, if_false])
    · exact ih out k h (i + 1) sF ow (by first | omega | assumption | (simp; done) | (simp; omega) | (simp [*]; done) | (simp [*]; omega)) (by first | omega | assumption | (simp; done) | (simp; omega) | (simp [*]; done) | (simp [*]; omega))  (by rw [hF] <;> simp only [iter, cput_f, h2, if_true, Bool.false_eq_true, if_false])
theorem cput_iter (l : List Card) (x : Card) : ∃ h, (l.filter (fun y => !Key.eqb y.key x.key), (l.filter (fun y => !Key.eqb y.key x.key)).length, h) = iter (cput_f l x) l.length 0 ([], 0, 0) := by
  refine ⟨(iter (cput_f l x) l.length 0 ([], 0, 0)).2.2, ?_⟩
  have h1 := iter_proj (cput_f l x) (fun i s => if (!Key.eqb (nth l i).key x.key) = true then s ++ [nth l i] else s) (fun s => s.1) (fun i s => by unfold cput_f; split <;> rfl) l.length 0 ([], 0, 0)
  rw [iter_all (fun i s => if (!Key.eqb (nth l i).key x.key) = true then s ++ [nth l i] else s) (fun s y => if (!Key.eqb y.key x.key) = true then s ++ [y] else s) l (fun i s hi => rfl)] at h1
  have h2 := iter_inv (cput_f l x) (fun _ s => s.2.1 = s.1.length) l.length (fun i s _ hs => by unfold cput_f; split <;> simp [hs]) l.length 0 ([], 0, 0) ow rfl
  have h3 : ∀ (l : List Card) (s : List Card), l.foldl (fun s y => if (!Key.eqb y.key x.key) = true then s ++ [y] else s) s = s ++ l.filter (fun y => !Key.eqb y.key x.key) := by
    intro l
    induction l with
    | nil => intro s; simp
    | cons y l ih => intro s; rw [List.foldl_cons, ih, List.filter_cons]; split <;> simp
  rw [h3] at h1
  generalize iter (cput_f l x) l.length 0 ([], 0, 0) = z at h1 h2 ⊢
  obtain ⟨z1, z2, z3⟩ := z
  simp only [List.nil_append] at h1 h2 ⊢
  rw [h1, h2, h1]
set_option maxRecDepth 100000 in
theorem cput0_spec (l : List Card) (x : Card) (q : Nat) (hl : l.length < 100000) (hq : ((l.filter (fun y => !Key.eqb y.key x.key)), (l.filter (fun y => !Key.eqb y.key x.key)).length, q) = iter (cput_f l x) l.length 0 ([], 0, 0)) : ACalls Try.prog 57 [(.sl .any 9 (List.map Card.row l)), (.agg (Card.row x))] ([] : Heap) ((AV.sl .any 9 (List.map Card.row (putD l x))), ([] : Heap)) := by
  have hfl : (l.filter (fun y => !Key.eqb y.key x.key)).length ≤ l.length := List.length_filter_le _ _
  exact specO (fn := Try.f57) (ann := cput_ann) (Has.o Try.func57) (.r (.g (.r (.g (.r (.h' ([⟨0, 9, (List.map Card.row []), none⟩] : Heap) (.y 1 (.int .i64 ((List.length (List.map Card.row l) : Nat) : Int)) (AV.int .i64 ((l.length : Nat) : Int)) (Yes.len _ _ _) (.g (.loop (mkF 32 [(3, (.ref (Card.row x) 0)), (5, (.osl 0 q 9 0 (l.filter (fun y => !Key.eqb y.key x.key)).length)), (8, (.sl .any 9 (List.map Card.row l))), (9, (.int .i64 ((l.length : Nat) : Int))), (10, (.int .i64 ((l.length : Nat) : Int)))]) (show LoopTo (codeQ Try.prog (X cput_ann) (loopOf Try.f57 0)) (some [3, 5, 8, 9, 10]) (some [3, 5, 8, 9, 10]) (mkF 32 [(3, (.ref (Card.row x) 0)), (5, (.osl 0 0 9 0 0)), (8, (.sl .any 9 (List.map Card.row l))), (9, (.int .i64 ((l.length : Nat) : Int))), (10, (.int .i64 0))]) ([⟨0, 9, (List.map Card.row []), none⟩] : Heap) (.exit 0) (mkF 32 [(3, (.ref (Card.row x) 0)), (5, (.osl 0 q 9 0 (l.filter (fun y => !Key.eqb y.key x.key)).length)), (8, (.sl .any 9 (List.map Card.row l))), (9, (.int .i64 ((l.length : Nat) : Int))), (10, (.int .i64 ((l.length : Nat) : Int)))]) ([⟨q, 9, (List.map Card.row (l.filter (fun y => !Key.eqb y.key x.key))), none⟩] : Heap) from (cput_loop l x ow l.length [] 0 0 0 _ ow rfl ow hq)) (.r (.g (.two (!x.gone) (fun h1 h1' => (.r (.ap 3 35 (AV.osl 0 q 9 0 (l.filter (fun y => !Key.eqb y.key x.key)).length) (AV.sl .clip 9 [(Card.row x)]) (AV.osl 0 (q + 1) 9 0 ((l.filter (fun y => !Key.eqb y.key x.key)).length + 1)) ([⟨(q + 1), 9, (List.map Card.row ((l.filter (fun y => !Key.eqb y.key x.key)) ++ [x])), none⟩] : Heap) (evAppend_one (row := Card.row) (l := (l.filter (fun y => !Key.eqb y.key x.key))) (x := x) (T := tt) (e := 58) (te := { d := .struct [(26, 0), (3, 2), (3, 3), (2, 4), (56, 5), (4, 8)], size := 9, bytes := 88, zero := [.str ⟨#[]⟩, .str ⟨#[]⟩, .int .i64 0, .int .i64 0, .int .i64 0, .int .i64 0, .int .i64 0, .int .i64 0, .bool false] }) (z := 1) (b := 24) (y := [.sl .nil 0 []]) kr kr rfl (by decide) (by decide) kr (by first | assumption | omega | (simp; done) | (simp; omega)) rfl rfl (by first | omega | (show _ * 88 ≤ _; omega) | (simp; omega))) (.g (.r (.w 5 (List.map Card.row ((l.filter (fun y => !Key.eqb y.key x.key)) ++ [x])) (And.intro (rowsIn_all (room := none) kr om) (Card.rows_bdd _ _) : rowsIn ([⟨(q + 1), 9, (List.map Card.row ((l.filter (fun y => !Key.eqb y.key x.key)) ++ [x])), none⟩] : Heap) 9 (AV.osl 0 (q + 1) 9 0 ((l.filter (fun y => !Key.eqb y.key x.key)).length + 1)) = some (List.map Card.row ((l.filter (fun y => !Key.eqb y.key x.key)) ++ [x])) ∧ AV.bddss 0 (List.map Card.row ((l.filter (fun y => !Key.eqb y.key x.key)) ++ [x])) = true) (.g (.h' ([] : Heap) (.f 0 (AV.sl .any 9 (List.map Card.row ((l.filter (fun y => !Key.eqb y.key x.key)) ++ [x]))) (.e (AV.sl .any 9 (List.map Card.row ((l.filter (fun y => !Key.eqb y.key x.key)) ++ [x]))) (by
        have e : putD l x = (l.filter (fun y => !Key.eqb y.key x.key)) ++ [x] := by unfold putD; rw [if_pos h1]
        rw [e]))))))))))) (fun h1 h1' => (.r (.w 5 (List.map Card.row (l.filter (fun y => !Key.eqb y.key x.key))) (And.intro (rowsIn_all (room := none) kr om) (Card.rows_bdd _ _) : rowsIn ([⟨q, 9, (List.map Card.row (l.filter (fun y => !Key.eqb y.key x.key))), none⟩] : Heap) 9 (AV.osl 0 q 9 0 (l.filter (fun y => !Key.eqb y.key x.key)).length) = some (List.map Card.row (l.filter (fun y => !Key.eqb y.key x.key))) ∧ AV.bddss 0 (List.map Card.row (l.filter (fun y => !Key.eqb y.key x.key))) = true) (.g (.h' ([] : Heap) (.f 0 (AV.sl .any 9 (List.map Card.row (l.filter (fun y => !Key.eqb y.key x.key)))) (.e (AV.sl .any 9 (List.map Card.row (l.filter (fun y => !Key.eqb y.key x.key)))) (by
        have e : putD l x = (l.filter (fun y => !Key.eqb y.key x.key)) ++ [] := by unfold putD; rw [if_neg (by rw [h1]; simp)]
        rw [e]; simp))))))))))))))))))))
theorem cput_spec (l : List Card) (x : Card) (hl : l.length < 100000) : ACalls Try.prog 57 [(.sl .any 9 (List.map Card.row l)), (.agg (Card.row x))] ([] : Heap) ((AV.sl .any 9 (List.map Card.row (putD l x))), ([] : Heap)) := by
  obtain ⟨q, hq⟩ := cput_iter l x
  exact cput0_spec l x q hl hq
theorem cput_at (l : List Card) (x : Card) (hl : l.length < 100000) (H : Heap) : ACalls Try.prog 57 [(.sl .any 9 (List.map Card.row l)), (.agg (Card.row x))] H ((AV.sl .any 9 (List.map Card.row (putD l x))), H) := (cput_spec l x hl).lift kr kr H
def cnew_ann : Ann := { gha := [(1, .frzf 2 0 9)], fin := some 1 }
set_option maxRecDepth 100000 in
theorem cnew_spec   : ACalls Try.prog 24 [] ([] : Heap) ((AV.obj 0 0 0 0), ([⟨0, 2, [[(.sl .any 9 (List.map Card.row ([] : List Card))), (.int .i64 (-1))]], none⟩] : Heap)) :=
  specO (fn := Try.f24) (ann := cnew_ann) (Has.o Try.func24) (.r (.g (.r (.o (rfl : 0 = 0) (.g (.h' ([⟨0, 2, [[(AV.sl .any 9 (List.map Card.row [])), (AV.int .i64 (-1))]], none⟩] : Heap) (.f 1 (AV.obj 0 0 0 0) (.e (AV.obj 0 0 0 0)))))))))
def csince_ann : Ann := { base := 1, fin := some 1 }
@[simp] abbrev Wo_o1 (v1_ : List Card) (v2_ : Int) : Ob := ⟨0, 2, [[(AV.sl .any 9 (List.map Card.row v1_)), (AV.int .i64 v2_)]], none⟩
@[simp] abbrev Wo_6 (v1_ : List Card) (v2_ : Int) : Heap := [Wo_o1 v1_ v2_]
set_option maxRecDepth 100000 in
theorem csince_spec (l : List Card) (s : Int)  : ACalls Try.prog 46 [(.obj 0 0 0 0)] (Wo_6 l s) ((AV.int .i64 s), (Wo_6 l s)) :=
  specO (fn := Try.f46) (ann := csince_ann) (Has.o Try.func46) (.r (.g (.r (.g (.f 1 (AV.int .i64 s) (.e (AV.int .i64 s)))))))
theorem csince_at (l : List Card) (s : Int)  (H : Heap) : ACalls Try.prog 46 [(.obj 0 0 0 0)] ((Wo_6 l s) ++ H) ((AV.int .i64 s), (Wo_6 l s) ++ H) := (csince_spec l s ).ext kr kr ob ob kr H
def cforget_ann : Ann := { base := 1, fin := some 1 }
@[simp] abbrev Wo_7 (v1_ : List Card) : Heap := [⟨0, 2, [[(AV.sl .any 9 (List.map Card.row v1_)), (AV.int .i64 (-1))]], none⟩]
set_option maxRecDepth 100000 in
theorem cforget_spec (l : List Card) (s : Int)  : ACalls Try.prog 42 [(.obj 0 0 0 0)] (Wo_6 l s) ((AV.tup []), (Wo_7 l)) :=
  specO (fn := Try.f42) (ann := cforget_ann) (Has.o Try.func42) (.r (.g (.h' (Wo_7 l) (.f 1 (AV.tup []) (.e (AV.tup []))))))
theorem cforget_at (l : List Card) (s : Int)  (H : Heap) : ACalls Try.prog 42 [(.obj 0 0 0 0)] ((Wo_6 l s) ++ H) ((AV.tup []), (Wo_7 l) ++ H) := (cforget_spec l s ).ext kr kr ob ob kr H
def apL (full : Bool) (l cs : List Card) : List Card := sortP (cs.foldl putD (if full = true then [] else l))
def apE (full : Bool) (l cs : List Card) (s sum : Int) : Int := if full = false ∧ s = -1 then 25 else if ofB (apL full l cs) = sum then 0 else 25
def apC (full : Bool) (l cs : List Card) (s : Int) : List Card := if full = false ∧ s = -1 then l else apL full l cs
def apS (full : Bool) (l cs : List Card) (s seq sum : Int) : Int := if full = false ∧ s = -1 then s else if ofB (apL full l cs) = sum then seq else -1
attribute [local irreducible] putD ofB
def cap_ann : Ann := { refs := [3], gha := [(5, .any 5 9), (7, .any 5 9), (12, .cut 1)], base := 1, fin := some 1, live := [(9, [0, 3, 5, 43, 44, 45])], out := [(9, [0, 3, 5, 43, 44, 45])] }
@[simp] abbrev Wo_8 (v1_ : Int) (v2_ : Int) (v3_ : Bool) (v4_ : Int) (v5_ : List Card) (v6_ : List Card) (v7_ : Nat) : Fr := (mkF 74 [(0, (AV.obj 0 0 0 0)), (3, (AV.ref [(AV.int .i64 2), (AV.int .i64 5), (AV.int .i64 0), (AV.int .i64 0), (AV.int .i64 v1_), (AV.int .i64 0), (AV.int .i64 v2_), (AV.str ⟨#[]⟩), (AV.str ⟨#[]⟩), (AV.bool v3_), (AV.int .u32 v4_), (AV.sl .any 9 (List.map Card.row v5_)), (AV.sl .any 2 [])] 0)), (5, (AV.sl .any 9 (List.map Card.row v6_))), (43, (AV.sl .any 9 (List.map Card.row v5_))), (44, (AV.int .i64 ((v5_.length : Nat) : Int))), (45, (AV.int .i64 ((v7_ : Nat) : Int)))])
@[simp] abbrev Wo_9 (v1_ : List Card) (v2_ : Int) (v3_ : List Card) (v4_ : Nat) : Heap := [Wo_o1 v1_ v2_, ⟨0, 9, [(Card.row (nth v3_ v4_))], none⟩]
set_option maxRecDepth 100000 in
theorem cap_step (tag : Int) (seq : Int) (sum : Int) (full : Bool) (cs : List Card) (l : List Card) (s : Int) (y0 : Nat) (y : List Card) (i : Nat) (hc : cs.length + y0 < 1000) (hy : y.length ≤ y0 + i) (hle_ : i ≤ cs.length) {eX : Ex} {FX : Fr} {HX : Heap} (k1 : (decide (((i : Nat) : Int) < ((cs.length : Nat) : Int))) = true → LoopTo (codeQ Try.prog (X cap_ann) (loopOf Try.f31 0)) (some [0, 3, 5, 43, 44, 45]) (some [0, 3, 5, 43, 44, 45]) (mkF 74 [(0, (.obj 0 0 0 0)), (3, (.ref [(.int .i64 2), (.int .i64 5), (.int .i64 0), (.int .i64 0), (.int .i64 tag), (.int .i64 0), (.int .i64 seq), (.str ⟨#[]⟩), (.str ⟨#[]⟩), (.bool full), (.int .u32 sum), (.sl .any 9 (List.map Card.row cs)), (.sl .any 2 [])] 0)), (5, (.sl .any 9 (List.map Card.row (putD y (nth cs i))))), (43, (.sl .any 9 (List.map Card.row cs))), (44, (.int .i64 ((cs.length : Nat) : Int))), (45, (.int .i64 ((i + 1 : Nat) : Int)))]) (Wo_6 l s) eX FX HX) (k2 : (decide (((i : Nat) : Int) < ((cs.length : Nat) : Int))) = false → ((.exit 0 : Ex), (Wo_8 tag seq full sum cs y i), (Wo_6 l s)) = (eX, FX, HX)) : LoopTo (codeQ Try.prog (X cap_ann) (loopOf Try.f31 0)) (some [0, 3, 5, 43, 44, 45]) (some [0, 3, 5, 43, 44, 45]) (Wo_8 tag seq full sum cs y i) (Wo_6 l s) eX FX HX := by
  have u1 := putD_len y (nth cs i)
  exact stepO (.r (.g (.two (decide (((i : Nat) : Int) < ((cs.length : Nat) : Int))) (fun h1 h1' => (.r (.h' ([⟨0, 2, [[(AV.sl .any 9 (List.map Card.row l)), (AV.int .i64 s)]], none⟩, ⟨0, 9, [[(AV.str ⟨#[]⟩), (AV.str ⟨#[]⟩), (AV.int .i64 0), (AV.int .i64 0), (AV.int .i64 0), (AV.int .i64 0), (AV.int .i64 0), (AV.int .i64 0), (AV.bool false)]], none⟩] : Heap) (.is 0 9 9 (List.map Card.row cs) ((i : Nat) : Int) (Card.row (nth cs i)) (IdxSl.mk _ ow ow) (.g (.r (.c 2 (cput_at y (nth cs i) oa (Wo_9 l s cs i)) (.g (.r (.h' (Wo_9 l s cs i) (.y 0 (.int .i64 (IntKind.i64.wrap (((i : Nat) : Int) + 1))) (AV.int .i64 ((i + 1 : Nat) : Int)) (Yes.add ow ow ow) (.h' (Wo_6 l s) (.b 1 (.g (.l (k1 h1)))))))))))))))) (fun h1 h1' => (.l (k2 h1))))))
def cap_f (tag : Int) (seq : Int) (sum : Int) (full : Bool) (cs : List Card) (l : List Card) (s : Int) (y0 : Nat) (i : Nat) (s : (List Card)) : (List Card) := ((putD s (nth cs i)))
theorem cap_loop (tag : Int) (seq : Int) (sum : Int) (full : Bool) (cs : List Card) (l : List Card) (s : Int) (y0 : Nat) (hc : cs.length + y0 < 1000)  (r_ : Nat) : ∀ (y : List Card) (i : Nat) (sF : (List Card)), i + r_ = cs.length → y.length ≤ y0 + i → sF = iter (cap_f tag seq sum full cs l s y0) r_ i (y) →
    LoopTo (codeQ Try.prog (X cap_ann) (loopOf Try.f31 0)) (some [0, 3, 5, 43, 44, 45]) (some [0, 3, 5, 43, 44, 45]) (Wo_8 tag seq full sum cs y i) (Wo_6 l s) (.exit 0) (mkF 74 [(0, (.obj 0 0 0 0)), (3, (.ref [(.int .i64 2), (.int .i64 5), (.int .i64 0), (.int .i64 0), (.int .i64 tag), (.int .i64 0), (.int .i64 seq), (.str ⟨#[]⟩), (.str ⟨#[]⟩), (.bool full), (.int .u32 sum), (.sl .any 9 (List.map Card.row cs)), (.sl .any 2 [])] 0)), (5, (.sl .any 9 (List.map Card.row sF))), (43, (.sl .any 9 (List.map Card.row cs))), (44, (.int .i64 ((cs.length : Nat) : Int))), (45, (.int .i64 ((cs.length : Nat) : Int)))]) (Wo_6 l s) := by
  induction r_ with
  | zero =>
    intro y i sF hi_ hy  hF
    obtain rfl : cs.length = i := by omega
    have e_ : sF = (y) := hF
    refine cap_step tag seq sum full cs l s y0 y cs.length hc hy (Nat.le_refl _) (fun h => by simp at h <;> omega) (fun _ => ?_)
    first | done | rfl | (rw [e_]; done) | (rw [e_]; rfl)
  | succ r_ ih =>
    intro y i sF hi_ hy  hF
    refine cap_step tag seq sum full cs l s y0 y i hc hy ow (fun h1 => ?_) (fun h => by simp at h <;> omega)
    · exact ih (putD y (nth cs i)) (i + 1) sF ow (by have u1 := putD_len y (nth cs i); first | omega | assumption | (simp; done) | (simp; omega) | (simp [*]; done) | (simp [*]; omega))  (by rw [hF] <;> simp only [iter, cap_f, if_true, Bool.false_eq_true, if_false])
theorem cap_iter (tag seq sum : Int) (full : Bool) (cs l : List Card) (s : Int) (y0 : Nat) (y : List Card) : cs.foldl putD y = iter (cap_f tag seq sum full cs l s y0) cs.length 0 y := by
  rw [iter_all (cap_f tag seq sum full cs l s y0) putD cs (fun i s hi => rfl)]
@[simp] abbrev Wo_10 (v1_ : List Card) (v2_ : Int) : Heap := [⟨0, 2, [[(AV.sl .any 9 (List.map Card.row (sortP (List.foldl putD ([] : List Card) v1_)))), (AV.int .i64 v2_)]], none⟩]
@[simp] abbrev Wo_11 (v1_ : Int) (v2_ : Int) (v3_ : Int) (v4_ : List Card) : Fr := (mkF 74 [(0, (AV.obj 0 0 0 0)), (3, (AV.ref [(AV.int .i64 2), (AV.int .i64 5), (AV.int .i64 0), (AV.int .i64 0), (AV.int .i64 v1_), (AV.int .i64 0), (AV.int .i64 v2_), (AV.str ⟨#[]⟩), (AV.str ⟨#[]⟩), (AV.bool true), (AV.int .u32 v3_), (AV.sl .any 9 (List.map Card.row v4_)), (AV.sl .any 2 [])] 0)), (5, (AV.sl .any 9 (List.map Card.row (List.foldl putD ([] : List Card) v4_)))), (43, (AV.sl .any 9 (List.map Card.row v4_))), (44, (AV.int .i64 ((v4_.length : Nat) : Int))), (45, (AV.int .i64 ((v4_.length : Nat) : Int)))])
@[simp] abbrev Wo_12 (v1_ : Int) (v2_ : Int) (v3_ : Int) (v4_ : List Card) : Fr := (mkF 74 [(0, (AV.obj 0 0 0 0)), (3, (AV.ref [(AV.int .i64 2), (AV.int .i64 5), (AV.int .i64 0), (AV.int .i64 0), (AV.int .i64 v1_), (AV.int .i64 0), (AV.int .i64 v2_), (AV.str ⟨#[]⟩), (AV.str ⟨#[]⟩), (AV.bool true), (AV.int .u32 v3_), (AV.sl .any 9 (List.map Card.row v4_)), (AV.sl .any 2 [])] 0)), (5, (AV.sl .any 9 [])), (43, (AV.sl .any 9 (List.map Card.row v4_))), (44, (AV.int .i64 ((v4_.length : Nat) : Int))), (45, (AV.int .i64 0))])
set_option maxRecDepth 100000 in
theorem capOKtrue_spec (tag seq sum : Int) (cs l : List Card) (s : Int) (hs : -1 ≤ seq) (hl : cs.length ≤ 64) (hr : ∀ c ∈ cs, cardR c = true) (hll : l.length < 900) (h : ofB (sortP (List.foldl putD ([] : List Card) cs)) = sum) : ACalls Try.prog 31 [(.obj 0 0 0 0), (.agg [(.int .i64 2), (.int .i64 5), (.int .i64 0), (.int .i64 0), (.int .i64 tag), (.int .i64 0), (.int .i64 seq), (.str ⟨#[]⟩), (.str ⟨#[]⟩), (.bool true), (.int .u32 sum), (.sl .any 9 (List.map Card.row cs)), (.sl .any 2 [])])] (Wo_6 l s) ((AV.int .i64 0), (Wo_10 cs seq)) := by
  have u2 := putsD_len cs ([] : List Card)
  have u3 : (([] : List Card) : List Card).length ≤ l.length := by simp
  have u4 := sortP_len (List.foldl putD ([] : List Card) cs)
  exact specO (fn := Try.f31) (ann := cap_ann) (Has.o Try.func31) (.r (.g (.r (.no (.no (.no (.no (.no (.no (.no (.no (.c 15 (mrightF_at tag seq sum true cs oa oa oa (Wo_6 l s)) (.no (.g (.no (.r (.no (.no (.no (.no (.no (.g (.no (.r (.g (.r (.g (.yes (.r (.g (.r (.y 2 (.int .i64 ((List.length (List.map Card.row cs) : Nat) : Int)) (AV.int .i64 ((cs.length : Nat) : Int)) (Yes.len _ _ _) (.g (.loop (Wo_11 tag seq sum cs) (show LoopTo (codeQ Try.prog (X cap_ann) (loopOf Try.f31 0)) (some [0, 3, 5, 43, 44, 45]) (some [0, 3, 5, 43, 44, 45]) (Wo_12 tag seq sum cs) (Wo_6 l s) (.exit 0) (Wo_11 tag seq sum cs) (Wo_6 l s) from (cap_loop tag seq sum true cs l s ([] : List Card).length ow cs.length ([] : List Card) 0 _ ow ow (cap_iter tag seq sum true cs l s ([] : List Card).length ([] : List Card)))) (.r (.c 2 (sortCardX_at (List.foldl putD ([] : List Card) cs) oa (Wo_6 l s)) (.g (.r (.c 4 (sealOfX_at (sortP (List.foldl putD ([] : List Card) cs)) oa (Wo_10 cs s)) (.h' (Wo_10 cs s) (.y 7 (AV.bool ((ofB (sortP (List.foldl putD ([] : List Card) cs))) != sum)) (AV.bool false) (Yes.bool (by rw [h]; simp)) (.g (.no (.r (.g (.r (.g (.h' (Wo_10 cs seq) (.f 1 (AV.int .i64 0) (.e (AV.int .i64 0)))))))))))))))))))))))))))))))))))))))))))))))))))
@[simp] abbrev Wo_13 (v1_ : List Card) : Heap := [⟨0, 2, [[(AV.sl .any 9 (List.map Card.row (sortP (List.foldl putD ([] : List Card) v1_)))), (AV.int .i64 (-1))]], none⟩]
set_option maxRecDepth 100000 in
theorem capNOtrue_spec (tag seq sum : Int) (cs l : List Card) (s : Int) (hs : -1 ≤ seq) (hl : cs.length ≤ 64) (hr : ∀ c ∈ cs, cardR c = true) (hll : l.length < 900) (h : ¬ ofB (sortP (List.foldl putD ([] : List Card) cs)) = sum) : ACalls Try.prog 31 [(.obj 0 0 0 0), (.agg [(.int .i64 2), (.int .i64 5), (.int .i64 0), (.int .i64 0), (.int .i64 tag), (.int .i64 0), (.int .i64 seq), (.str ⟨#[]⟩), (.str ⟨#[]⟩), (.bool true), (.int .u32 sum), (.sl .any 9 (List.map Card.row cs)), (.sl .any 2 [])])] (Wo_6 l s) ((AV.int .i64 25), (Wo_13 cs)) := by
  have u2 := putsD_len cs ([] : List Card)
  have u3 : (([] : List Card) : List Card).length ≤ l.length := by simp
  have u4 := sortP_len (List.foldl putD ([] : List Card) cs)
  exact specO (fn := Try.f31) (ann := cap_ann) (Has.o Try.func31) (.r (.g (.r (.no (.no (.no (.no (.no (.no (.no (.no (.c 15 (mrightF_at tag seq sum true cs oa oa oa (Wo_6 l s)) (.no (.g (.no (.r (.no (.no (.no (.no (.no (.g (.no (.r (.g (.r (.g (.yes (.r (.g (.r (.y 2 (.int .i64 ((List.length (List.map Card.row cs) : Nat) : Int)) (AV.int .i64 ((cs.length : Nat) : Int)) (Yes.len _ _ _) (.g (.loop (Wo_11 tag seq sum cs) (show LoopTo (codeQ Try.prog (X cap_ann) (loopOf Try.f31 0)) (some [0, 3, 5, 43, 44, 45]) (some [0, 3, 5, 43, 44, 45]) (Wo_12 tag seq sum cs) (Wo_6 l s) (.exit 0) (Wo_11 tag seq sum cs) (Wo_6 l s) from (cap_loop tag seq sum true cs l s ([] : List Card).length ow cs.length ([] : List Card) 0 _ ow ow (cap_iter tag seq sum true cs l s ([] : List Card).length ([] : List Card)))) (.r (.c 2 (sortCardX_at (List.foldl putD ([] : List Card) cs) oa (Wo_6 l s)) (.g (.r (.c 4 (sealOfX_at (sortP (List.foldl putD ([] : List Card) cs)) oa (Wo_10 cs s)) (.h' (Wo_10 cs s) (.y 7 (AV.bool ((ofB (sortP (List.foldl putD ([] : List Card) cs))) != sum)) (AV.bool true) (Yes.bool (by simpa using h)) (.g (.yes (.r (.g (.r (.g (.h' (Wo_13 cs) (.f 1 (AV.int .i64 25) (.e (AV.int .i64 25)))))))))))))))))))))))))))))))))))))))))))))))))))
@[simp] abbrev Wo_14 (v1_ : List Card) (v2_ : List Card) (v3_ : Int) : Heap := [⟨0, 2, [[(AV.sl .any 9 (List.map Card.row (sortP (List.foldl putD v1_ v2_)))), (AV.int .i64 v3_)]], none⟩]
@[simp] abbrev Wo_15 (v1_ : Int) (v2_ : Int) (v3_ : Int) (v4_ : List Card) (v5_ : List Card) : Fr := (mkF 74 [(0, (AV.obj 0 0 0 0)), (3, (AV.ref [(AV.int .i64 2), (AV.int .i64 5), (AV.int .i64 0), (AV.int .i64 0), (AV.int .i64 v1_), (AV.int .i64 0), (AV.int .i64 v2_), (AV.str ⟨#[]⟩), (AV.str ⟨#[]⟩), (AV.bool false), (AV.int .u32 v3_), (AV.sl .any 9 (List.map Card.row v4_)), (AV.sl .any 2 [])] 0)), (5, (AV.sl .any 9 (List.map Card.row (List.foldl putD v5_ v4_)))), (43, (AV.sl .any 9 (List.map Card.row v4_))), (44, (AV.int .i64 ((v4_.length : Nat) : Int))), (45, (AV.int .i64 ((v4_.length : Nat) : Int)))])
@[simp] abbrev Wo_16 (v1_ : Int) (v2_ : Int) (v3_ : Int) (v4_ : List Card) (v5_ : List Card) : Fr := (mkF 74 [(0, (AV.obj 0 0 0 0)), (3, (AV.ref [(AV.int .i64 2), (AV.int .i64 5), (AV.int .i64 0), (AV.int .i64 0), (AV.int .i64 v1_), (AV.int .i64 0), (AV.int .i64 v2_), (AV.str ⟨#[]⟩), (AV.str ⟨#[]⟩), (AV.bool false), (AV.int .u32 v3_), (AV.sl .any 9 (List.map Card.row v4_)), (AV.sl .any 2 [])] 0)), (5, (AV.sl .any 9 (List.map Card.row v5_))), (43, (AV.sl .any 9 (List.map Card.row v4_))), (44, (AV.int .i64 ((v4_.length : Nat) : Int))), (45, (AV.int .i64 0))])
set_option maxRecDepth 100000 in
theorem capOKfalse_spec (tag seq sum : Int) (cs l : List Card) (s : Int) (hs : -1 ≤ seq) (hl : cs.length ≤ 64) (hr : ∀ c ∈ cs, cardR c = true) (hll : l.length < 900) (h0 : ¬ s = -1) (h : ofB (sortP (List.foldl putD l cs)) = sum) : ACalls Try.prog 31 [(.obj 0 0 0 0), (.agg [(.int .i64 2), (.int .i64 5), (.int .i64 0), (.int .i64 0), (.int .i64 tag), (.int .i64 0), (.int .i64 seq), (.str ⟨#[]⟩), (.str ⟨#[]⟩), (.bool false), (.int .u32 sum), (.sl .any 9 (List.map Card.row cs)), (.sl .any 2 [])])] (Wo_6 l s) ((AV.int .i64 0), (Wo_14 l cs seq)) := by
  have u2 := putsD_len cs l
  have u3 : (l : List Card).length ≤ l.length := by simp
  have u4 := sortP_len (List.foldl putD l cs)
  exact specO (fn := Try.f31) (ann := cap_ann) (Has.o Try.func31) (.r (.g (.r (.no (.no (.no (.no (.no (.no (.no (.no (.c 15 (mrightF_at tag seq sum false cs oa oa oa (Wo_6 l s)) (.no (.g (.no (.r (.yes (.yes (.yes (.yes (.yes (.y 8 (AV.bool (s == (-1))) (AV.bool false) (Yes.bool (beq_eq_false_iff_ne.2 h0)) (.g (.no (.r (.g (.r (.g (.no (.r (.y 2 (.int .i64 ((List.length (List.map Card.row cs) : Nat) : Int)) (AV.int .i64 ((cs.length : Nat) : Int)) (Yes.len _ _ _) (.g (.loop (Wo_15 tag seq sum cs l) (show LoopTo (codeQ Try.prog (X cap_ann) (loopOf Try.f31 0)) (some [0, 3, 5, 43, 44, 45]) (some [0, 3, 5, 43, 44, 45]) (Wo_16 tag seq sum cs l) (Wo_6 l s) (.exit 0) (Wo_15 tag seq sum cs l) (Wo_6 l s) from (cap_loop tag seq sum false cs l s l.length ow cs.length l 0 _ ow ow (cap_iter tag seq sum false cs l s l.length l))) (.r (.c 2 (sortCardX_at (List.foldl putD l cs) oa (Wo_6 l s)) (.g (.r (.c 4 (sealOfX_at (sortP (List.foldl putD l cs)) oa (Wo_14 l cs s)) (.h' (Wo_14 l cs s) (.y 7 (AV.bool ((ofB (sortP (List.foldl putD l cs))) != sum)) (AV.bool false) (Yes.bool (by rw [h]; simp)) (.g (.no (.r (.g (.r (.g (.h' (Wo_14 l cs seq) (.f 1 (AV.int .i64 0) (.e (AV.int .i64 0))))))))))))))))))))))))))))))))))))))))))))))))))
@[simp] abbrev Wo_17 (v1_ : List Card) (v2_ : List Card) : Heap := [⟨0, 2, [[(AV.sl .any 9 (List.map Card.row (sortP (List.foldl putD v1_ v2_)))), (AV.int .i64 (-1))]], none⟩]
set_option maxRecDepth 100000 in
theorem capNOfalse_spec (tag seq sum : Int) (cs l : List Card) (s : Int) (hs : -1 ≤ seq) (hl : cs.length ≤ 64) (hr : ∀ c ∈ cs, cardR c = true) (hll : l.length < 900) (h0 : ¬ s = -1) (h : ¬ ofB (sortP (List.foldl putD l cs)) = sum) : ACalls Try.prog 31 [(.obj 0 0 0 0), (.agg [(.int .i64 2), (.int .i64 5), (.int .i64 0), (.int .i64 0), (.int .i64 tag), (.int .i64 0), (.int .i64 seq), (.str ⟨#[]⟩), (.str ⟨#[]⟩), (.bool false), (.int .u32 sum), (.sl .any 9 (List.map Card.row cs)), (.sl .any 2 [])])] (Wo_6 l s) ((AV.int .i64 25), (Wo_17 l cs)) := by
  have u2 := putsD_len cs l
  have u3 : (l : List Card).length ≤ l.length := by simp
  have u4 := sortP_len (List.foldl putD l cs)
  exact specO (fn := Try.f31) (ann := cap_ann) (Has.o Try.func31) (.r (.g (.r (.no (.no (.no (.no (.no (.no (.no (.no (.c 15 (mrightF_at tag seq sum false cs oa oa oa (Wo_6 l s)) (.no (.g (.no (.r (.yes (.yes (.yes (.yes (.yes (.y 8 (AV.bool (s == (-1))) (AV.bool false) (Yes.bool (beq_eq_false_iff_ne.2 h0)) (.g (.no (.r (.g (.r (.g (.no (.r (.y 2 (.int .i64 ((List.length (List.map Card.row cs) : Nat) : Int)) (AV.int .i64 ((cs.length : Nat) : Int)) (Yes.len _ _ _) (.g (.loop (Wo_15 tag seq sum cs l) (show LoopTo (codeQ Try.prog (X cap_ann) (loopOf Try.f31 0)) (some [0, 3, 5, 43, 44, 45]) (some [0, 3, 5, 43, 44, 45]) (Wo_16 tag seq sum cs l) (Wo_6 l s) (.exit 0) (Wo_15 tag seq sum cs l) (Wo_6 l s) from (cap_loop tag seq sum false cs l s l.length ow cs.length l 0 _ ow ow (cap_iter tag seq sum false cs l s l.length l))) (.r (.c 2 (sortCardX_at (List.foldl putD l cs) oa (Wo_6 l s)) (.g (.r (.c 4 (sealOfX_at (sortP (List.foldl putD l cs)) oa (Wo_14 l cs s)) (.h' (Wo_14 l cs s) (.y 7 (AV.bool ((ofB (sortP (List.foldl putD l cs))) != sum)) (AV.bool true) (Yes.bool (by simpa using h)) (.g (.yes (.r (.g (.r (.g (.h' (Wo_17 l cs) (.f 1 (AV.int .i64 25) (.e (AV.int .i64 25))))))))))))))))))))))))))))))))))))))))))))))))))
set_option maxRecDepth 100000 in
theorem capST_spec (tag seq sum : Int) (cs l : List Card) (hs : -1 ≤ seq) (hl : cs.length ≤ 64) (hr : ∀ c ∈ cs, cardR c = true) (hll : l.length < 900) : ACalls Try.prog 31 [(.obj 0 0 0 0), (.agg [(.int .i64 2), (.int .i64 5), (.int .i64 0), (.int .i64 0), (.int .i64 tag), (.int .i64 0), (.int .i64 seq), (.str ⟨#[]⟩), (.str ⟨#[]⟩), (.bool false), (.int .u32 sum), (.sl .any 9 (List.map Card.row cs)), (.sl .any 2 [])])] (Wo_7 l) ((AV.int .i64 25), (Wo_7 l)) :=
  specO (fn := Try.f31) (ann := cap_ann) (Has.o Try.func31) (.r (.g (.r (.no (.no (.no (.no (.no (.no (.no (.no (.c 15 (mrightF_at tag seq sum false cs oa oa oa (Wo_7 l)) (.no (.g (.no (.r (.yes (.yes (.yes (.yes (.yes (.g (.yes (.r (.g (.f 1 (AV.int .i64 25) (.e (AV.int .i64 25))))))))))))))))))))))))))))
theorem cap_spec (tag seq sum : Int) (full : Bool) (cs l : List Card) (s : Int) (hs : -1 ≤ seq) (hl : cs.length ≤ 64) (hr : ∀ c ∈ cs, cardR c = true) (hll : l.length < 900) : ACalls Try.prog 31 [(.obj 0 0 0 0), (.agg [(.int .i64 2), (.int .i64 5), (.int .i64 0), (.int .i64 0), (.int .i64 tag), (.int .i64 0), (.int .i64 seq), (.str ⟨#[]⟩), (.str ⟨#[]⟩), (.bool full), (.int .u32 sum), (.sl .any 9 (List.map Card.row cs)), (.sl .any 2 [])])] ([⟨0, 2, [[(.sl .any 9 (List.map Card.row l)), (.int .i64 s)]], none⟩] : Heap) ((AV.int .i64 (apE full l cs s sum)), ([⟨0, 2, [[(.sl .any 9 (List.map Card.row (apC full l cs s))), (.int .i64 (apS full l cs s seq sum))]], none⟩] : Heap)) := by
  cases full with
  | true =>
    by_cases h : ofB (apL true l cs) = sum
    · have e1 : apE true l cs s sum = 0 := by unfold apE; rw [if_neg (by simp), if_pos h]
      have e2 : apC true l cs s = apL true l cs := by unfold apC; rw [if_neg (by simp)]
      have e3 : apS true l cs s seq sum = seq := by unfold apS; rw [if_neg (by simp), if_pos h]
      rw [e1, e2, e3]
      exact capOKtrue_spec tag seq sum cs l s hs hl hr hll h
    · have e1 : apE true l cs s sum = 25 := by unfold apE; rw [if_neg (by simp), if_neg h]
      have e2 : apC true l cs s = apL true l cs := by unfold apC; rw [if_neg (by simp)]
      have e3 : apS true l cs s seq sum = -1 := by unfold apS; rw [if_neg (by simp), if_neg h]
      rw [e1, e2, e3]
      exact capNOtrue_spec tag seq sum cs l s hs hl hr hll h
  | false =>
    by_cases h0 : s = -1
    · subst h0
      have e1 : apE false l cs (-1) sum = 25 := by unfold apE; rw [if_pos ⟨rfl, rfl⟩]
      have e2 : apC false l cs (-1) = l := by unfold apC; rw [if_pos ⟨rfl, rfl⟩]
      have e3 : apS false l cs (-1) seq sum = -1 := by unfold apS; rw [if_pos ⟨rfl, rfl⟩]
      rw [e1, e2, e3]
      exact capST_spec tag seq sum cs l hs hl hr hll
    · by_cases h : ofB (apL false l cs) = sum
      · have e1 : apE false l cs s sum = 0 := by unfold apE; rw [if_neg (by simp [h0]), if_pos h]
        have e2 : apC false l cs s = apL false l cs := by unfold apC; rw [if_neg (by simp [h0])]
        have e3 : apS false l cs s seq sum = seq := by unfold apS; rw [if_neg (by simp [h0]), if_pos h]
        rw [e1, e2, e3]
        exact capOKfalse_spec tag seq sum cs l s hs hl hr hll h0 h
      · have e1 : apE false l cs s sum = 25 := by unfold apE; rw [if_neg (by simp [h0]), if_neg h]
        have e2 : apC false l cs s = apL false l cs := by unfold apC; rw [if_neg (by simp [h0])]
        have e3 : apS false l cs s seq sum = -1 := by unfold apS; rw [if_neg (by simp [h0]), if_neg h]
        rw [e1, e2, e3]
        exact capNOfalse_spec tag seq sum cs l s hs hl hr hll h0 h
theorem cap_at (tag seq sum : Int) (full : Bool) (cs l : List Card) (s : Int) (hs : -1 ≤ seq) (hl : cs.length ≤ 64) (hr : ∀ c ∈ cs, cardR c = true) (hll : l.length < 900) (H : Heap) : ACalls Try.prog 31 [(.obj 0 0 0 0), (.agg [(.int .i64 2), (.int .i64 5), (.int .i64 0), (.int .i64 0), (.int .i64 tag), (.int .i64 0), (.int .i64 seq), (.str ⟨#[]⟩), (.str ⟨#[]⟩), (.bool full), (.int .u32 sum), (.sl .any 9 (List.map Card.row cs)), (.sl .any 2 [])])] ((Wo_6 l s) ++ H) ((AV.int .i64 (apE full l cs s sum)), ([⟨0, 2, [[(.sl .any 9 (List.map Card.row (apC full l cs s))), (.int .i64 (apS full l cs s seq sum))]], none⟩] : Heap) ++ H) := (cap_spec tag seq sum full cs l s hs hl hr hll).ext kr kr ob ob kr H
end Go.Proofs.Yteajpacajikaaaa.AM
