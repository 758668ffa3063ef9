/-
  Texts of this claim, part 6 of 7: an abstract machine over the model; what functions come to; plain laws.
-/
import Derived.Test.YtcmfnfkahdconaaMMergeNumbers5
set_option maxRecDepth 100000
set_option linter.unusedVariables false
set_option linter.unusedSimpArgs false
namespace Go.Proofs.Ytcmfnfkahdconaa.AM
open Go Go.Proofs.Ytcmfnfkahdconaa
attribute [local irreducible] ACalls funT codeT codeQ LoopTo
attribute [local irreducible] Tp.card Tp.cardT Tp.next Tp.step Tp.cards Tp.cardsT Tp.key Tp.keyT sink insSort sortK insK posK beforeK sortP cmpK
attribute [local irreducible] swapL rotS rotL bsr mgL mg mAt shU shD
@[simp] abbrev Vjc_1 (v1_ : Nat) (v2_ : List Card) (v3_ : List Card) (v4_ : Card) (v5_ : List Card) (v6_ : List Card) : Heap := [⟨v1_, 9, (List.map Card.row (v2_ ++ (v3_ ++ (v4_ :: (v5_ ++ v6_))))), none⟩]
@[simp] abbrev Vjc_2 (v1_ : Nat) (v2_ : Nat) (v3_ : Nat) (v4_ : Nat) : Fr := (mkF 220 [(0, (AV.osl 0 v1_ 9 0 v2_)), (1, (AV.int .i64 ((v3_ : Nat) : Int))), (10, (AV.int .i64 ((v4_ : Nat) : Int)))])
@[simp] abbrev Vjc_3 (v1_ : Nat) (v2_ : Nat) (v3_ : Nat) : Fr := (mkF 220 [(0, (AV.osl 0 v1_ 9 0 v2_)), (10, (AV.int .i64 ((v3_ : Nat) : Int))), (13, (AV.int .i64 (((v3_ - 1) : Nat) : Int)))])
set_option maxRecDepth 100000 in
theorem sCA_spec (cmp : Card → Card → Int) (f : Nat) (xs : List AV) (A R1 R2 B : List Card) (x : Card) (a p b n g i : Nat) (l : List Card) (hc : ∀ (x y : Card) (H : Heap), ACalls Try.prog f ([AV.agg (Card.row x), AV.agg (Card.row y)] ++ xs) H (AV.int .i64 (cmp x y), H)) (hxs : AV.bdds 1 xs = true) (hn : n = l.length) (hnb : n < 1048576) (hl : l = A ++ (x :: (R1 ++ (R2 ++ B)))) (hA : a = A.length) (hp : p = a + 1) (hpb : p ≤ b) (hbn : b ≤ n) (hi : i = p + R1.length) (hib : i ≤ b) (hs : i = bsr (fun c => decide (cmp (nth l c) (nth l a) < 0)) (b - p) p b) : ACalls Try.prog 157 [(.osl 0 g 9 0 n), (.int .i64 ((a : Nat) : Int)), (.int .i64 ((p : Nat) : Int)), (.int .i64 ((b : Nat) : Int)), (.func f xs)] ([⟨g, 9, (List.map Card.row l), none⟩] : Heap) ((AV.tup []), (Vjc_1 g A R1 x R2 B)) := by
  have hfin : shU (i - 1 - a) a l = A ++ (R1 ++ (x :: (R2 ++ B))) := by rw [hl, show i - 1 - a = R1.length by omega]; exact shU_parts x R1 A (R2 ++ B) a hA
  exact specO (fn := Try.f157) (ann := sC_ann) (Has.o Try.func157) (.r (.y 2 (.int .i64 (IntKind.i64.wrap (((p : Nat) : Int) - ((a : Nat) : Int)))) (AV.int .i64 ((p - a : Nat) : Int)) (Yes.add ow ow ow) (.y 3 (AV.bool (((p - a : Nat) : Int) == 1)) (AV.bool true) (Yes.bool (by exact beq_iff_eq.2 ow)) (.g (.yes (.r (.g (.r (.g (.loop (Vjc_2 g n a i) (show LoopTo (codeQ Try.prog (X sC_ann) (loopOf Try.f157 0)) (some [0, 1, 4, 10, 11]) (some [0, 1, 10]) (mkF 220 [(0, (.osl 0 g 9 0 n)), (1, (.int .i64 ((a : Nat) : Int))), (4, (.func f xs)), (10, (.int .i64 ((p : Nat) : Int))), (11, (.int .i64 ((b : Nat) : Int)))]) ([⟨g, 9, (List.map Card.row l), none⟩] : Heap) (.exit 0) (Vjc_2 g n a i) ([⟨g, 9, (List.map Card.row l), none⟩] : Heap) from (by rw [hs]; exact sCa_loop cmp f xs hc a n g l hn hnb ow (b - p) p b ow ow ow)) (.r (.g (.loop (Vjc_3 g n i) (show LoopTo (codeQ Try.prog (X sC_ann) (loopOf Try.f157 1)) (some [0, 10, 13]) (some [0, 10, 13]) (mkF 220 [(0, (.osl 0 g 9 0 n)), (10, (.int .i64 ((i : Nat) : Int))), (13, (.int .i64 ((a : Nat) : Int)))]) ([⟨g, 9, (List.map Card.row l), none⟩] : Heap) (.exit 2) (Vjc_3 g n i) ([⟨g, 9, (List.map Card.row (shU (i - 1 - a) a l)), none⟩] : Heap) from (sCu_loop i n g ow ow hnb (i - 1 - a) l a _ ow hn (sCu_iter _ _ _ _ _ _))) (.f 1 (AV.tup []) (.e (AV.tup []) (by
        try delta Vjc_1
        rw [hfin]))))))))))))))))
@[simp] abbrev Vjc_4 (v1_ : Nat) (v2_ : Nat) (v3_ : Nat) (v4_ : Nat) : Fr := (mkF 220 [(0, (AV.osl 0 v1_ 9 0 v2_)), (2, (AV.int .i64 ((v3_ : Nat) : Int))), (14, (AV.int .i64 ((v4_ : Nat) : Int)))])
@[simp] abbrev Vjc_5 (v1_ : Nat) (v2_ : Nat) (v3_ : Nat) : Fr := (mkF 220 [(0, (AV.osl 0 v1_ 9 0 v2_)), (14, (AV.int .i64 ((v3_ : Nat) : Int))), (17, (AV.int .i64 ((v3_ : Nat) : Int)))])
set_option maxRecDepth 100000 in
theorem sCB_spec (cmp : Card → Card → Int) (f : Nat) (xs : List AV) (A L1 L2 B : List Card) (y : Card) (a p b n g i : Nat) (l : List Card) (hc : ∀ (x y : Card) (H : Heap), ACalls Try.prog f ([AV.agg (Card.row x), AV.agg (Card.row y)] ++ xs) H (AV.int .i64 (cmp x y), H)) (hxs : AV.bdds 1 xs = true) (hn : n = l.length) (hnb : n < 1048576) (hl : l = A ++ (L1 ++ (L2 ++ (y :: B)))) (hA : a = A.length) (hi : i = a + L1.length) (hp : p = i + L2.length) (h1 : p ≠ a + 1) (hb : b = p + 1) (hbn : b ≤ n) (hs : i = bsr (fun c => !decide (cmp (nth l p) (nth l c) < 0)) (p - a) a p) : ACalls Try.prog 157 [(.osl 0 g 9 0 n), (.int .i64 ((a : Nat) : Int)), (.int .i64 ((p : Nat) : Int)), (.int .i64 ((b : Nat) : Int)), (.func f xs)] ([⟨g, 9, (List.map Card.row l), none⟩] : Heap) ((AV.tup []), (Vjc_1 g A L1 y L2 B)) := by
  have hfin : shD (p - i) p l = A ++ (L1 ++ (y :: (L2 ++ B))) := by rw [hl, show p - i = L2.length by omega, show A ++ (L1 ++ (L2 ++ (y :: B))) = (A ++ L1) ++ (L2 ++ (y :: B)) by simp, shD_parts y L2.length (A ++ L1) L2 B p rfl (by simp; omega)]; simp
  exact specO (fn := Try.f157) (ann := sC_ann) (Has.o Try.func157) (.r (.y 2 (.int .i64 (IntKind.i64.wrap (((p : Nat) : Int) - ((a : Nat) : Int)))) (AV.int .i64 ((p - a : Nat) : Int)) (Yes.add ow ow ow) (.y 3 (AV.bool (((p - a : Nat) : Int) == 1)) (AV.bool false) (Yes.bool (by exact beq_eq_false_iff_ne.2 ow)) (.g (.no (.r (.y 2 (.int .i64 (IntKind.i64.wrap (((b : Nat) : Int) - ((p : Nat) : Int)))) (AV.int .i64 ((b - p : Nat) : Int)) (Yes.add ow ow ow) (.y 3 (AV.bool (((b - p : Nat) : Int) == 1)) (AV.bool true) (Yes.bool (by exact beq_iff_eq.2 ow)) (.g (.yes (.r (.g (.r (.g (.loop (Vjc_4 g n p i) (show LoopTo (codeQ Try.prog (X sC_ann) (loopOf Try.f157 2)) (some [0, 2, 4, 14, 15]) (some [0, 2, 14]) (mkF 220 [(0, (.osl 0 g 9 0 n)), (2, (.int .i64 ((p : Nat) : Int))), (4, (.func f xs)), (14, (.int .i64 ((a : Nat) : Int))), (15, (.int .i64 ((p : Nat) : Int)))]) ([⟨g, 9, (List.map Card.row l), none⟩] : Heap) (.exit 4) (Vjc_4 g n p i) ([⟨g, 9, (List.map Card.row l), none⟩] : Heap) from (by rw [hs]; exact sCb_loop cmp f xs hc p n g l hn hnb ow (p - a) a p ow ow ow)) (.r (.g (.loop (Vjc_5 g n i) (show LoopTo (codeQ Try.prog (X sC_ann) (loopOf Try.f157 3)) (some [0, 14, 17]) (some [0, 14, 17]) (mkF 220 [(0, (.osl 0 g 9 0 n)), (14, (.int .i64 ((i : Nat) : Int))), (17, (.int .i64 ((p : Nat) : Int)))]) ([⟨g, 9, (List.map Card.row l), none⟩] : Heap) (.exit 6) (Vjc_5 g n i) ([⟨g, 9, (List.map Card.row (shD (p - i) p l)), none⟩] : Heap) from (sCd_loop i n g hnb (p - i) p l ow hn ow)) (.f 1 (AV.tup []) (.e (AV.tup []) (by
        try delta Vjc_1
        rw [hfin])))))))))))))))))))))
@[simp] abbrev Vjc_6 (v1_ : Nat) (v2_ : Nat) (v3_ : Nat) (v4_ : Nat) (v5_ : Nat) (v6_ : Nat) (v7_ : List AV) (v8_ : Nat) (v9_ : Nat) : Fr := (mkF 220 [(0, (AV.osl 0 v1_ 9 0 v2_)), (1, (AV.int .i64 ((v3_ : Nat) : Int))), (2, (AV.int .i64 ((v4_ : Nat) : Int))), (3, (AV.int .i64 ((v5_ : Nat) : Int))), (4, (AV.func v6_ v7_)), (18, (AV.int .i64 ((v8_ : Nat) : Int))), (19, (AV.int .i64 (((v8_ + v4_) : Nat) : Int))), (20, (AV.int .i64 ((v9_ : Nat) : Int)))])
@[simp] abbrev Vjc_7 (v1_ : Nat) (v2_ : Nat) (v3_ : Nat) (v4_ : Nat) (v5_ : List Card) : Heap := [⟨v1_, 9, (List.map Card.row (rotL v2_ v3_ ((v4_ + v3_) - v2_) v5_)), none⟩]
set_option maxHeartbeats 4000000 in
set_option maxRecDepth 100000 in
theorem sCC_spec (cmp : Card → Card → Int) (f : Nat) (xs : List AV) (A L1 L2 R1 R2 B : List Card) (a p b n g i mid Nz : Nat) (l : List Card) (hc : ∀ (x y : Card) (H : Heap), ACalls Try.prog f ([AV.agg (Card.row x), AV.agg (Card.row y)] ++ xs) H (AV.int .i64 (cmp x y), H)) (hxs : AV.bdds 1 xs = true) (hn : n = l.length) (hnb : n < 1048576) (ih_at : ∀ (a p b n g : Nat) (l : List Card), n = l.length → n < 1048576 → a < p → p < b → b ≤ n → b - a < Nz → Srt (ltF cmp) ((l.drop a).take (p - a)) → Srt (ltF cmp) ((l.drop p).take (b - p)) → ∀ H : Heap, ACalls Try.prog 157 [(.osl 0 g 9 0 n), (.int .i64 ((a : Nat) : Int)), (.int .i64 ((p : Nat) : Int)), (.int .i64 ((b : Nat) : Int)), (.func f xs)] (([⟨g, 9, (List.map Card.row l), none⟩] : Heap) ++ H) (.tup [], ([⟨g, 9, (List.map Card.row (mAt (ltF cmp) a p b l)), none⟩] : Heap) ++ H)) (hl : l = A ++ (L1 ++ (L2 ++ (R1 ++ (R2 ++ B))))) (hA : a = A.length) (hi : i = a + L1.length) (hp : p = i + L2.length) (hR1 : mid = i + R1.length) (hb : b = p + R1.length + R2.length) (hbn : b ≤ n) (hap : a < p) (hpb : p < b) (h1 : p ≠ a + 1) (h2 : b ≠ p + 1) (hmid : mid = (a + b) / 2) (hNz : b - a ≤ Nz) (hgt : mid < p) (hs : i = bsr (fun c => !decide (cmp (nth l (mid + p - 1 - c)) (nth l c) < 0)) (mid - (mid + p - b)) (mid + p - b) mid) (hlo : mid + p - b ≤ i) (hhi : i ≤ mid) (q1 : Srt (ltF cmp) L1) (q2 : Srt (ltF cmp) L2) (q3 : Srt (ltF cmp) R1) (q4 : Srt (ltF cmp) R2) : ACalls Try.prog 157 [(.osl 0 g 9 0 n), (.int .i64 ((a : Nat) : Int)), (.int .i64 ((p : Nat) : Int)), (.int .i64 ((b : Nat) : Int)), (.func f xs)] ([⟨g, 9, (List.map Card.row l), none⟩] : Heap) ((AV.tup []), ([⟨g, 9, (List.map Card.row (A ++ (mg (ltF cmp) L1 R1 ++ (mg (ltF cmp) L2 R2 ++ B)))), none⟩] : Heap)) := by
  have hll : n = A.length + L1.length + L2.length + R1.length + R2.length + B.length := by rw [hn, hl]; simp; omega
  have e1 := sm1 A L1 L2 R1 R2 B hl (s := i) (m := p) (e := mid + p - i) ow hp ow
  have e2 := sm2 (ltF cmp) A L1 R1 (L2 ++ (R2 ++ B)) (a := a) (s := i) (mid := mid) hA hi hR1
  have e3 := sm3 (ltF cmp) A (mg (ltF cmp) L1 R1) L2 R2 B (mid := mid) (e := mid + p - i) (b := b) (by rw [mg_len]; omega) ow ow
  have hrot : 0 < L2.length → 0 < R1.length → _ := rot_facts (A ++ L1) L2 R1 (R2 ++ B) (l := l) (by rw [hl]; simp) (a := i) (m := p) (b := mid + p - i) (by simp; omega) hp ow
  have hlen2 : (A ++ (mg (ltF cmp) L1 R1 ++ (L2 ++ (R2 ++ B)))).length = n := by rw [hll]; simp [mg_len]; omega
  have hlen1 : (A ++ (L1 ++ (R1 ++ (L2 ++ (R2 ++ B))))).length = n := by rw [hll]; simp; omega
  exact specO (fn := Try.f157) (ann := sC_ann) (Has.o Try.func157) (.r (.y 2 (.int .i64 (IntKind.i64.wrap (((p : Nat) : Int) - ((a : Nat) : Int)))) (AV.int .i64 ((p - a : Nat) : Int)) (Yes.add ow ow ow) (.y 3 (AV.bool (((p - a : Nat) : Int) == 1)) (AV.bool false) (Yes.bool (by exact beq_eq_false_iff_ne.2 ow)) (.g (.no (.r (.y 2 (.int .i64 (IntKind.i64.wrap (((b : Nat) : Int) - ((p : Nat) : Int)))) (AV.int .i64 ((b - p : Nat) : Int)) (Yes.add ow ow ow) (.y 3 (AV.bool (((b - p : Nat) : Int) == 1)) (AV.bool false) (Yes.bool (by exact beq_eq_false_iff_ne.2 ow)) (.g (.no (.r (.y 2 (.int .i64 (IntKind.i64.wrap (((a : Nat) : Int) + ((b : Nat) : Int)))) (AV.int .i64 ((a + b : Nat) : Int)) (Yes.add ow ow ow) (.y 5 (AV.int .i64 (IntKind.i64.wrap (Int.fdiv (IntKind.u64.wrap ((a + b : Nat) : Int)) (2 ^ (min (Int.toNat 1) 64))))) (AV.int .i64 ((mid : Nat) : Int)) (Yes.int (half_nat ow ow)) (.g (.r (.y 2 (.int .i64 (IntKind.i64.wrap (((mid : Nat) : Int) + ((p : Nat) : Int)))) (AV.int .i64 ((mid + p : Nat) : Int)) (Yes.add ow ow ow) (.g (.r (.g (.r (.y 2 (AV.bool (decide (((p : Nat) : Int) > ((mid : Nat) : Int)))) (AV.bool true) (Yes.bool (by exact decide_eq_true ow)) (.g (.yes (.r (.y 2 (.int .i64 (IntKind.i64.wrap (((mid + p : Nat) : Int) - ((b : Nat) : Int)))) (AV.int .i64 ((mid + p - b : Nat) : Int)) (Yes.add ow ow ow) (.g (.r (.g (.r (.y 1 (.int .i64 (IntKind.i64.wrap (((mid + p : Nat) : Int) - 1))) (AV.int .i64 ((mid + p - 1 : Nat) : Int)) (Yes.add ow ow ow) (.g (.loop (Vjc_6 g n a p b f xs mid i) (show LoopTo (codeQ Try.prog (X sC_ann) (loopOf Try.f157 4)) (some [0, 1, 2, 3, 4, 18, 19, 20, 21, 22]) (some [0, 1, 2, 3, 4, 18, 19, 20]) (mkF 220 [(0, (.osl 0 g 9 0 n)), (1, (.int .i64 ((a : Nat) : Int))), (2, (.int .i64 ((p : Nat) : Int))), (3, (.int .i64 ((b : Nat) : Int))), (4, (.func f xs)), (18, (.int .i64 ((mid : Nat) : Int))), (19, (.int .i64 ((mid + p : Nat) : Int))), (20, (.int .i64 ((mid + p - b : Nat) : Int))), (21, (.int .i64 ((mid : Nat) : Int))), (22, (.int .i64 ((mid + p - 1 : Nat) : Int)))]) ([⟨g, 9, (List.map Card.row l), none⟩] : Heap) (.exit 8) (Vjc_6 g n a p b f xs mid i) ([⟨g, 9, (List.map Card.row l), none⟩] : Heap) from (by rw [hs]; exact sCc_loop cmp f xs hc a p b mid (mid + p) (mid + p - 1) n g l hn hnb (mid - ((mid + p - b))) (mid + p - b) mid ow ow ow)) (.r (.y 2 (.int .i64 (IntKind.i64.wrap ((((mid + p) : Nat) : Int) - ((i : Nat) : Int)))) (AV.int .i64 (((mid + p) - i : Nat) : Int)) (Yes.add ow ow ow) (.g (.r (.two (decide (((i : Nat) : Int) < ((p : Nat) : Int))) (fun h1 h1' => (.yes (.yes (.g (.two (decide (((p : Nat) : Int) < (((mid + p) - i : Nat) : Int))) (fun h2 h2' => (.r (.ch 5 (Vjc_7 g i p mid l) (ACalls.pre (args' := [(.osl 0 g 9 0 n), (.int .i64 ((i : Nat) : Int)), (.int .i64 ((p : Nat) : Int)), (.int .i64 (((mid + p) - i : Nat) : Int)), (.func f xs)]) (mCr_at f xs i p ((mid + p) - i) n g l (by first | exact hc | exact hxs | omega | (simp; omega)) (by first | exact hc | exact hxs | omega | (simp; omega)) (by first | exact hc | exact hxs | omega | (simp; omega)) (by first | exact hc | exact hxs | omega | (simp; omega)) (by first | exact hc | exact hxs | omega | (simp; omega)) (by first | exact hc | exact hxs | omega | (simp; omega)) ((hrot ow ow).1) ((hrot ow ow).2.1) ((hrot ow ow).2.2) ([] : Heap)) ⟨AV.wk_refl_any _, AV.wk_refl_any _, AV.wk_refl_any _, AV.wk_refl_any _, AV.wk_refl_any _, trivial⟩) (.g (.r (.two (decide (((a : Nat) : Int) < ((i : Nat) : Int))) (fun h3 h3' => (.yes (.yes (.g (.two (decide (((i : Nat) : Int) < ((mid : Nat) : Int))) (fun h4 h4' => (.r (.ch 5 ([⟨g, 9, (List.map Card.row (mAt (ltF cmp) a i mid (rotL i p ((mid + p) - i) l))), none⟩] : Heap) (ih_at a i mid n g (rotL i p ((mid + p) - i) l) (by first | (exfalso; omega) | ((first | rw [if_pos ow] at e1 | rw [if_neg ow] at e1); rw [e1]; exact hlen1.symm)) (by first | exact hc | exact hxs | omega | (simp; omega)) (by first | exact hc | exact hxs | omega | (simp; omega)) (by first | exact hc | exact hxs | omega | (simp; omega)) (by first | exact hc | exact hxs | omega | (simp; omega)) (by first | exact hc | exact hxs | omega | (simp; omega)) (by first | (exfalso; omega) | ((first | rw [if_pos ow] at e1 | rw [if_neg ow] at e1); rw [e1]; rw [piece A L1 _ hA ow]; exact q1)) (by first | (exfalso; omega) | ((first | rw [if_pos ow] at e1 | rw [if_neg ow] at e1); rw [e1]; rw [show A ++ (L1 ++ (R1 ++ (L2 ++ (R2 ++ B)))) = (A ++ L1) ++ (R1 ++ (L2 ++ (R2 ++ B))) by simp, piece (A ++ L1) R1 _ (by simp; omega) ow]; exact q3)) ([] : Heap)) (.g (.r (.two (decide (((mid : Nat) : Int) < (((mid + p) - i : Nat) : Int))) (fun h5 h5' => (.yes (.yes (.g (.two (decide ((((mid + p) - i : Nat) : Int) < ((b : Nat) : Int))) (fun h6 h6' => (.r (.ch 5 ([⟨g, 9, (List.map Card.row (mAt (ltF cmp) mid ((mid + p) - i) b (mAt (ltF cmp) a i mid (rotL i p ((mid + p) - i) l)))), none⟩] : Heap) (ACalls.pre (args' := [(.osl 0 g 9 0 n), (.int .i64 ((mid : Nat) : Int)), (.int .i64 (((mid + p) - i : Nat) : Int)), (.int .i64 ((b : Nat) : Int)), (.func f xs)]) (ih_at mid ((mid + p) - i) b n g (mAt (ltF cmp) a i mid (rotL i p ((mid + p) - i) l)) (by first | (exfalso; omega) | ((first | rw [if_pos ow] at e1 | rw [if_neg ow] at e1); (first | rw [if_pos ow] at e2 | rw [if_neg ow] at e2); rw [e1, e2]; exact hlen2.symm)) (by first | exact hc | exact hxs | omega | (simp; omega)) (by first | exact hc | exact hxs | omega | (simp; omega)) (by first | exact hc | exact hxs | omega | (simp; omega)) (by first | exact hc | exact hxs | omega | (simp; omega)) (by first | exact hc | exact hxs | omega | (simp; omega)) (by first | (exfalso; omega) | ((first | rw [if_pos ow] at e1 | rw [if_neg ow] at e1); (first | rw [if_pos ow] at e2 | rw [if_neg ow] at e2); rw [e1, e2]; rw [show A ++ (mg (ltF cmp) L1 R1 ++ (L2 ++ (R2 ++ B))) = (A ++ mg (ltF cmp) L1 R1) ++ (L2 ++ (R2 ++ B)) by simp, piece (A ++ mg (ltF cmp) L1 R1) L2 _ (by simp [mg_len]; omega) ow]; exact q2)) (by first | (exfalso; omega) | ((first | rw [if_pos ow] at e1 | rw [if_neg ow] at e1); (first | rw [if_pos ow] at e2 | rw [if_neg ow] at e2); rw [e1, e2]; rw [show A ++ (mg (ltF cmp) L1 R1 ++ (L2 ++ (R2 ++ B))) = ((A ++ mg (ltF cmp) L1 R1) ++ L2) ++ (R2 ++ B) by simp, piece ((A ++ mg (ltF cmp) L1 R1) ++ L2) R2 _ (by simp [mg_len]; omega) ow]; exact q4)) ([] : Heap)) ⟨AV.wk_refl_any _, AV.wk_refl_any _, AV.wk_refl_any _, AV.wk_refl_any _, AV.wk_refl_any _, trivial⟩) (.g (.f 1 (AV.tup []) (.e (AV.tup []) (by
        try delta Vjc_7
        first | (exfalso; omega) | ((first | rw [if_pos ow] at e1 | rw [if_neg ow] at e1); (first | rw [if_pos ow] at e2 | rw [if_neg ow] at e2); (first | rw [if_pos ow] at e3 | rw [if_neg ow] at e3); rw [e1, e2, e3])))))))) (fun h6 h6' => (.f 1 (AV.tup []) (.e (AV.tup []) (by
        try delta Vjc_7
        first | (exfalso; omega) | ((first | rw [if_pos ow] at e1 | rw [if_neg ow] at e1); (first | rw [if_pos ow] at e2 | rw [if_neg ow] at e2); (first | rw [if_pos ow] at e3 | rw [if_neg ow] at e3); rw [e1, e2, e3])))))))))) (fun h5 h5' => (.no (.no (.g (.no (.f 1 (AV.tup []) (.e (AV.tup []) (by
        try delta Vjc_7
        first | (exfalso; omega) | ((first | rw [if_pos ow] at e1 | rw [if_neg ow] at e1); (first | rw [if_pos ow] at e2 | rw [if_neg ow] at e2); (first | rw [if_pos ow] at e3 | rw [if_neg ow] at e3); rw [e1, e2, e3]))))))))))))))) (fun h4 h4' => (.r (.two (decide (((mid : Nat) : Int) < (((mid + p) - i : Nat) : Int))) (fun h5 h5' => (.yes (.yes (.g (.two (decide ((((mid + p) - i : Nat) : Int) < ((b : Nat) : Int))) (fun h6 h6' => (.r (.ch 5 ([⟨g, 9, (List.map Card.row (mAt (ltF cmp) mid ((mid + p) - i) b (rotL i p ((mid + p) - i) l))), none⟩] : Heap) (ACalls.pre (args' := [(AV.osl 0 g 9 0 n), (AV.int .i64 ((mid : Nat) : Int)), (AV.int .i64 (((mid + p) - i : Nat) : Int)), (AV.int .i64 ((b : Nat) : Int)), (AV.func f xs)]) (ih_at mid ((mid + p) - i) b n g (rotL i p ((mid + p) - i) l) (by first | (exfalso; omega) | ((first | rw [if_pos ow] at e1 | rw [if_neg ow] at e1); (first | rw [if_pos ow] at e2 | rw [if_neg ow] at e2); rw [e1, e2]; exact hlen2.symm)) (by first | exact hc | exact hxs | omega | (simp; omega)) (by first | exact hc | exact hxs | omega | (simp; omega)) (by first | exact hc | exact hxs | omega | (simp; omega)) (by first | exact hc | exact hxs | omega | (simp; omega)) (by first | exact hc | exact hxs | omega | (simp; omega)) (by first | (exfalso; omega) | ((first | rw [if_pos ow] at e1 | rw [if_neg ow] at e1); (first | rw [if_pos ow] at e2 | rw [if_neg ow] at e2); rw [e1, e2]; rw [show A ++ (mg (ltF cmp) L1 R1 ++ (L2 ++ (R2 ++ B))) = (A ++ mg (ltF cmp) L1 R1) ++ (L2 ++ (R2 ++ B)) by simp, piece (A ++ mg (ltF cmp) L1 R1) L2 _ (by simp [mg_len]; omega) ow]; exact q2)) (by first | (exfalso; omega) | ((first | rw [if_pos ow] at e1 | rw [if_neg ow] at e1); (first | rw [if_pos ow] at e2 | rw [if_neg ow] at e2); rw [e1, e2]; rw [show A ++ (mg (ltF cmp) L1 R1 ++ (L2 ++ (R2 ++ B))) = ((A ++ mg (ltF cmp) L1 R1) ++ L2) ++ (R2 ++ B) by simp, piece ((A ++ mg (ltF cmp) L1 R1) ++ L2) R2 _ (by simp [mg_len]; omega) ow]; exact q4)) ([] : Heap)) ⟨AV.wk_refl_any _, AV.wk_refl_any _, AV.wk_refl_any _, AV.wk_refl_any _, AV.wk_refl_any _, trivial⟩) (.g (.f 1 (AV.tup []) (.e (AV.tup []) (by
        try delta Vjc_7
        first | (exfalso; omega) | ((first | rw [if_pos ow] at e1 | rw [if_neg ow] at e1); (first | rw [if_pos ow] at e2 | rw [if_neg ow] at e2); (first | rw [if_pos ow] at e3 | rw [if_neg ow] at e3); rw [e1, e2, e3])))))))) (fun h6 h6' => (.f 1 (AV.tup []) (.e (AV.tup []) (by
        try delta Vjc_7
        first | (exfalso; omega) | ((first | rw [if_pos ow] at e1 | rw [if_neg ow] at e1); (first | rw [if_pos ow] at e2 | rw [if_neg ow] at e2); (first | rw [if_pos ow] at e3 | rw [if_neg ow] at e3); rw [e1, e2, e3])))))))))) (fun h5 h5' => (.no (.no (.g (.no (.f 1 (AV.tup []) (.e (AV.tup []) (by
        try delta Vjc_7
        first | (exfalso; omega) | ((first | rw [if_pos ow] at e1 | rw [if_neg ow] at e1); (first | rw [if_pos ow] at e2 | rw [if_neg ow] at e2); (first | rw [if_pos ow] at e3 | rw [if_neg ow] at e3); rw [e1, e2, e3]))))))))))))))))) (fun h3 h3' => (.no (.no (.g (.no (.r (.two (decide (((mid : Nat) : Int) < (((mid + p) - i : Nat) : Int))) (fun h4 h4' => (.yes (.yes (.g (.two (decide ((((mid + p) - i : Nat) : Int) < ((b : Nat) : Int))) (fun h5 h5' => (.r (.ch 5 ([⟨g, 9, (List.map Card.row (mAt (ltF cmp) mid ((mid + p) - i) b (rotL i p ((mid + p) - i) l))), none⟩] : Heap) (ACalls.pre (args' := [(AV.osl 0 g 9 0 n), (AV.int .i64 ((mid : Nat) : Int)), (AV.int .i64 (((mid + p) - i : Nat) : Int)), (AV.int .i64 ((b : Nat) : Int)), (AV.func f xs)]) (ih_at mid ((mid + p) - i) b n g (rotL i p ((mid + p) - i) l) (by first | (exfalso; omega) | ((first | rw [if_pos ow] at e1 | rw [if_neg ow] at e1); (first | rw [if_pos ow] at e2 | rw [if_neg ow] at e2); rw [e1, e2]; exact hlen2.symm)) (by first | exact hc | exact hxs | omega | (simp; omega)) (by first | exact hc | exact hxs | omega | (simp; omega)) (by first | exact hc | exact hxs | omega | (simp; omega)) (by first | exact hc | exact hxs | omega | (simp; omega)) (by first | exact hc | exact hxs | omega | (simp; omega)) (by first | (exfalso; omega) | ((first | rw [if_pos ow] at e1 | rw [if_neg ow] at e1); (first | rw [if_pos ow] at e2 | rw [if_neg ow] at e2); rw [e1, e2]; rw [show A ++ (mg (ltF cmp) L1 R1 ++ (L2 ++ (R2 ++ B))) = (A ++ mg (ltF cmp) L1 R1) ++ (L2 ++ (R2 ++ B)) by simp, piece (A ++ mg (ltF cmp) L1 R1) L2 _ (by simp [mg_len]; omega) ow]; exact q2)) (by first | (exfalso; omega) | ((first | rw [if_pos ow] at e1 | rw [if_neg ow] at e1); (first | rw [if_pos ow] at e2 | rw [if_neg ow] at e2); rw [e1, e2]; rw [show A ++ (mg (ltF cmp) L1 R1 ++ (L2 ++ (R2 ++ B))) = ((A ++ mg (ltF cmp) L1 R1) ++ L2) ++ (R2 ++ B) by simp, piece ((A ++ mg (ltF cmp) L1 R1) ++ L2) R2 _ (by simp [mg_len]; omega) ow]; exact q4)) ([] : Heap)) ⟨AV.wk_refl_any _, AV.wk_refl_any _, AV.wk_refl_any _, AV.wk_refl_any _, AV.wk_refl_any _, trivial⟩) (.g (.f 1 (AV.tup []) (.e (AV.tup []) (by
        try delta Vjc_7
        first | (exfalso; omega) | ((first | rw [if_pos ow] at e1 | rw [if_neg ow] at e1); (first | rw [if_pos ow] at e2 | rw [if_neg ow] at e2); (first | rw [if_pos ow] at e3 | rw [if_neg ow] at e3); rw [e1, e2, e3])))))))) (fun h5 h5' => (.f 1 (AV.tup []) (.e (AV.tup []) (by
        try delta Vjc_7
        first | (exfalso; omega) | ((first | rw [if_pos ow] at e1 | rw [if_neg ow] at e1); (first | rw [if_pos ow] at e2 | rw [if_neg ow] at e2); (first | rw [if_pos ow] at e3 | rw [if_neg ow] at e3); rw [e1, e2, e3])))))))))) (fun h4 h4' => (.no (.no (.g (.no (.f 1 (AV.tup []) (.e (AV.tup []) (by
        try delta Vjc_7
        first | (exfalso; omega) | ((first | rw [if_pos ow] at e1 | rw [if_neg ow] at e1); (first | rw [if_pos ow] at e2 | rw [if_neg ow] at e2); (first | rw [if_pos ow] at e3 | rw [if_neg ow] at e3); rw [e1, e2, e3])))))))))))))))))))))) (fun h2 h2' => (.r (.two (decide (((a : Nat) : Int) < ((i : Nat) : Int))) (fun h3 h3' => (.yes (.yes (.g (.two (decide (((i : Nat) : Int) < ((mid : Nat) : Int))) (fun h4 h4' => (.r (.ch 5 ([⟨g, 9, (List.map Card.row (mAt (ltF cmp) a i mid l)), none⟩] : Heap) (ih_at a i mid n g l (by first | (exfalso; omega) | ((first | rw [if_pos ow] at e1 | rw [if_neg ow] at e1); rw [e1]; exact hlen1.symm)) (by first | exact hc | exact hxs | omega | (simp; omega)) (by first | exact hc | exact hxs | omega | (simp; omega)) (by first | exact hc | exact hxs | omega | (simp; omega)) (by first | exact hc | exact hxs | omega | (simp; omega)) (by first | exact hc | exact hxs | omega | (simp; omega)) (by first | (exfalso; omega) | ((first | rw [if_pos ow] at e1 | rw [if_neg ow] at e1); rw [e1]; rw [piece A L1 _ hA ow]; exact q1)) (by first | (exfalso; omega) | ((first | rw [if_pos ow] at e1 | rw [if_neg ow] at e1); rw [e1]; rw [show A ++ (L1 ++ (R1 ++ (L2 ++ (R2 ++ B)))) = (A ++ L1) ++ (R1 ++ (L2 ++ (R2 ++ B))) by simp, piece (A ++ L1) R1 _ (by simp; omega) ow]; exact q3)) ([] : Heap)) (.g (.r (.two (decide (((mid : Nat) : Int) < (((mid + p) - i : Nat) : Int))) (fun h5 h5' => (.yes (.yes (.g (.two (decide ((((mid + p) - i : Nat) : Int) < ((b : Nat) : Int))) (fun h6 h6' => (.r (.ch 5 ([⟨g, 9, (List.map Card.row (mAt (ltF cmp) mid ((mid + p) - i) b (mAt (ltF cmp) a i mid l))), none⟩] : Heap) (ACalls.pre (args' := [(AV.osl 0 g 9 0 n), (AV.int .i64 ((mid : Nat) : Int)), (AV.int .i64 (((mid + p) - i : Nat) : Int)), (AV.int .i64 ((b : Nat) : Int)), (AV.func f xs)]) (ih_at mid ((mid + p) - i) b n g (mAt (ltF cmp) a i mid l) (by first | (exfalso; omega) | ((first | rw [if_pos ow] at e1 | rw [if_neg ow] at e1); (first | rw [if_pos ow] at e2 | rw [if_neg ow] at e2); rw [e1, e2]; exact hlen2.symm)) (by first | exact hc | exact hxs | omega | (simp; omega)) (by first | exact hc | exact hxs | omega | (simp; omega)) (by first | exact hc | exact hxs | omega | (simp; omega)) (by first | exact hc | exact hxs | omega | (simp; omega)) (by first | exact hc | exact hxs | omega | (simp; omega)) (by first | (exfalso; omega) | ((first | rw [if_pos ow] at e1 | rw [if_neg ow] at e1); (first | rw [if_pos ow] at e2 | rw [if_neg ow] at e2); rw [e1, e2]; rw [show A ++ (mg (ltF cmp) L1 R1 ++ (L2 ++ (R2 ++ B))) = (A ++ mg (ltF cmp) L1 R1) ++ (L2 ++ (R2 ++ B)) by simp, piece (A ++ mg (ltF cmp) L1 R1) L2 _ (by simp [mg_len]; omega) ow]; exact q2)) (by first | (exfalso; omega) | ((first | rw [if_pos ow] at e1 | rw [if_neg ow] at e1); (first | rw [if_pos ow] at e2 | rw [if_neg ow] at e2); rw [e1, e2]; rw [show A ++ (mg (ltF cmp) L1 R1 ++ (L2 ++ (R2 ++ B))) = ((A ++ mg (ltF cmp) L1 R1) ++ L2) ++ (R2 ++ B) by simp, piece ((A ++ mg (ltF cmp) L1 R1) ++ L2) R2 _ (by simp [mg_len]; omega) ow]; exact q4)) ([] : Heap)) ⟨AV.wk_refl_any _, AV.wk_refl_any _, AV.wk_refl_any _, AV.wk_refl_any _, AV.wk_refl_any _, trivial⟩) (.g (.f 1 (AV.tup []) (.e (AV.tup []) (by
        try delta Vjc_7
        first | (exfalso; omega) | ((first | rw [if_pos ow] at e1 | rw [if_neg ow] at e1); (first | rw [if_pos ow] at e2 | rw [if_neg ow] at e2); (first | rw [if_pos ow] at e3 | rw [if_neg ow] at e3); rw [e1, e2, e3])))))))) (fun h6 h6' => (.f 1 (AV.tup []) (.e (AV.tup []) (by
        try delta Vjc_7
        first | (exfalso; omega) | ((first | rw [if_pos ow] at e1 | rw [if_neg ow] at e1); (first | rw [if_pos ow] at e2 | rw [if_neg ow] at e2); (first | rw [if_pos ow] at e3 | rw [if_neg ow] at e3); rw [e1, e2, e3])))))))))) (fun h5 h5' => (.no (.no (.g (.no (.f 1 (AV.tup []) (.e (AV.tup []) (by
        try delta Vjc_7
        first | (exfalso; omega) | ((first | rw [if_pos ow] at e1 | rw [if_neg ow] at e1); (first | rw [if_pos ow] at e2 | rw [if_neg ow] at e2); (first | rw [if_pos ow] at e3 | rw [if_neg ow] at e3); rw [e1, e2, e3]))))))))))))))) (fun h4 h4' => (.r (.two (decide (((mid : Nat) : Int) < (((mid + p) - i : Nat) : Int))) (fun h5 h5' => (.yes (.yes (.g (.two (decide ((((mid + p) - i : Nat) : Int) < ((b : Nat) : Int))) (fun h6 h6' => (.r (.ch 5 ([⟨g, 9, (List.map Card.row (mAt (ltF cmp) mid ((mid + p) - i) b l)), none⟩] : Heap) (ACalls.pre (args' := [(AV.osl 0 g 9 0 n), (AV.int .i64 ((mid : Nat) : Int)), (AV.int .i64 (((mid + p) - i : Nat) : Int)), (AV.int .i64 ((b : Nat) : Int)), (AV.func f xs)]) (ih_at mid ((mid + p) - i) b n g l (by first | (exfalso; omega) | ((first | rw [if_pos ow] at e1 | rw [if_neg ow] at e1); (first | rw [if_pos ow] at e2 | rw [if_neg ow] at e2); rw [e1, e2]; exact hlen2.symm)) (by first | exact hc | exact hxs | omega | (simp; omega)) (by first | exact hc | exact hxs | omega | (simp; omega)) (by first | exact hc | exact hxs | omega | (simp; omega)) (by first | exact hc | exact hxs | omega | (simp; omega)) (by first | exact hc | exact hxs | omega | (simp; omega)) (by first | (exfalso; omega) | ((first | rw [if_pos ow] at e1 | rw [if_neg ow] at e1); (first | rw [if_pos ow] at e2 | rw [if_neg ow] at e2); rw [e1, e2]; rw [show A ++ (mg (ltF cmp) L1 R1 ++ (L2 ++ (R2 ++ B))) = (A ++ mg (ltF cmp) L1 R1) ++ (L2 ++ (R2 ++ B)) by simp, piece (A ++ mg (ltF cmp) L1 R1) L2 _ (by simp [mg_len]; omega) ow]; exact q2)) (by first | (exfalso; omega) | ((first | rw [if_pos ow] at e1 | rw [if_neg ow] at e1); (first | rw [if_pos ow] at e2 | rw [if_neg ow] at e2); rw [e1, e2]; rw [show A ++ (mg (ltF cmp) L1 R1 ++ (L2 ++ (R2 ++ B))) = ((A ++ mg (ltF cmp) L1 R1) ++ L2) ++ (R2 ++ B) by simp, piece ((A ++ mg (ltF cmp) L1 R1) ++ L2) R2 _ (by simp [mg_len]; omega) ow]; exact q4)) ([] : Heap)) ⟨AV.wk_refl_any _, AV.wk_refl_any _, AV.wk_refl_any _, AV.wk_refl_any _, AV.wk_refl_any _, trivial⟩) (.g (.f 1 (AV.tup []) (.e (AV.tup []) (by
        try delta Vjc_7
        first | (exfalso; omega) | ((first | rw [if_pos ow] at e1 | rw [if_neg ow] at e1); (first | rw [if_pos ow] at e2 | rw [if_neg ow] at e2); (first | rw [if_pos ow] at e3 | rw [if_neg ow] at e3); rw [e1, e2, e3])))))))) (fun h6 h6' => (.f 1 (AV.tup []) (.e (AV.tup []) (by
        try delta Vjc_7
        first | (exfalso; omega) | ((first | rw [if_pos ow] at e1 | rw [if_neg ow] at e1); (first | rw [if_pos ow] at e2 | rw [if_neg ow] at e2); (first | rw [if_pos ow] at e3 | rw [if_neg ow] at e3); rw [e1, e2, e3])))))))))) (fun h5 h5' => (.no (.no (.g (.no (.f 1 (AV.tup []) (.e (AV.tup []) (by
        try delta Vjc_7
        first | (exfalso; omega) | ((first | rw [if_pos ow] at e1 | rw [if_neg ow] at e1); (first | rw [if_pos ow] at e2 | rw [if_neg ow] at e2); (first | rw [if_pos ow] at e3 | rw [if_neg ow] at e3); rw [e1, e2, e3]))))))))))))))))) (fun h3 h3' => (.no (.no (.g (.no (.r (.two (decide (((mid : Nat) : Int) < (((mid + p) - i : Nat) : Int))) (fun h4 h4' => (.yes (.yes (.g (.two (decide ((((mid + p) - i : Nat) : Int) < ((b : Nat) : Int))) (fun h5 h5' => (.r (.ch 5 ([⟨g, 9, (List.map Card.row (mAt (ltF cmp) mid ((mid + p) - i) b l)), none⟩] : Heap) (ACalls.pre (args' := [(AV.osl 0 g 9 0 n), (AV.int .i64 ((mid : Nat) : Int)), (AV.int .i64 (((mid + p) - i : Nat) : Int)), (AV.int .i64 ((b : Nat) : Int)), (AV.func f xs)]) (ih_at mid ((mid + p) - i) b n g l (by first | (exfalso; omega) | ((first | rw [if_pos ow] at e1 | rw [if_neg ow] at e1); (first | rw [if_pos ow] at e2 | rw [if_neg ow] at e2); rw [e1, e2]; exact hlen2.symm)) (by first | exact hc | exact hxs | omega | (simp; omega)) (by first | exact hc | exact hxs | omega | (simp; omega)) (by first | exact hc | exact hxs | omega | (simp; omega)) (by first | exact hc | exact hxs | omega | (simp; omega)) (by first | exact hc | exact hxs | omega | (simp; omega)) (by first | (exfalso; omega) | ((first | rw [if_pos ow] at e1 | rw [if_neg ow] at e1); (first | rw [if_pos ow] at e2 | rw [if_neg ow] at e2); rw [e1, e2]; rw [show A ++ (mg (ltF cmp) L1 R1 ++ (L2 ++ (R2 ++ B))) = (A ++ mg (ltF cmp) L1 R1) ++ (L2 ++ (R2 ++ B)) by simp, piece (A ++ mg (ltF cmp) L1 R1) L2 _ (by simp [mg_len]; omega) ow]; exact q2)) (by first | (exfalso; omega) | ((first | rw [if_pos ow] at e1 | rw [if_neg ow] at e1); (first | rw [if_pos ow] at e2 | rw [if_neg ow] at e2); rw [e1, e2]; rw [show A ++ (mg (ltF cmp) L1 R1 ++ (L2 ++ (R2 ++ B))) = ((A ++ mg (ltF cmp) L1 R1) ++ L2) ++ (R2 ++ B) by simp, piece ((A ++ mg (ltF cmp) L1 R1) ++ L2) R2 _ (by simp [mg_len]; omega) ow]; exact q4)) ([] : Heap)) ⟨AV.wk_refl_any _, AV.wk_refl_any _, AV.wk_refl_any _, AV.wk_refl_any _, AV.wk_refl_any _, trivial⟩) (.g (.f 1 (AV.tup []) (.e (AV.tup []) (by
        try delta Vjc_7
        first | (exfalso; omega) | ((first | rw [if_pos ow] at e1 | rw [if_neg ow] at e1); (first | rw [if_pos ow] at e2 | rw [if_neg ow] at e2); (first | rw [if_pos ow] at e3 | rw [if_neg ow] at e3); rw [e1, e2, e3])))))))) (fun h5 h5' => (.f 1 (AV.tup []) (.e (AV.tup []) (by
        try delta Vjc_7
        first | (exfalso; omega) | ((first | rw [if_pos ow] at e1 | rw [if_neg ow] at e1); (first | rw [if_pos ow] at e2 | rw [if_neg ow] at e2); (first | rw [if_pos ow] at e3 | rw [if_neg ow] at e3); rw [e1, e2, e3])))))))))) (fun h4 h4' => (.no (.no (.g (.no (.f 1 (AV.tup []) (.e (AV.tup []) (by
        try delta Vjc_7
        first | (exfalso; omega) | ((first | rw [if_pos ow] at e1 | rw [if_neg ow] at e1); (first | rw [if_pos ow] at e2 | rw [if_neg ow] at e2); (first | rw [if_pos ow] at e3 | rw [if_neg ow] at e3); rw [e1, e2, e3])))))))))))))))))))))))) (fun h1 h1' => (.no (.no (.g (.no (.r (.two (decide (((a : Nat) : Int) < ((i : Nat) : Int))) (fun h2 h2' => (.yes (.yes (.g (.two (decide (((i : Nat) : Int) < ((mid : Nat) : Int))) (fun h3 h3' => (.r (.ch 5 ([⟨g, 9, (List.map Card.row (mAt (ltF cmp) a i mid l)), none⟩] : Heap) (ih_at a i mid n g l (by first | (exfalso; omega) | ((first | rw [if_pos ow] at e1 | rw [if_neg ow] at e1); rw [e1]; exact hlen1.symm)) (by first | exact hc | exact hxs | omega | (simp; omega)) (by first | exact hc | exact hxs | omega | (simp; omega)) (by first | exact hc | exact hxs | omega | (simp; omega)) (by first | exact hc | exact hxs | omega | (simp; omega)) (by first | exact hc | exact hxs | omega | (simp; omega)) (by first | (exfalso; omega) | ((first | rw [if_pos ow] at e1 | rw [if_neg ow] at e1); rw [e1]; rw [piece A L1 _ hA ow]; exact q1)) (by first | (exfalso; omega) | ((first | rw [if_pos ow] at e1 | rw [if_neg ow] at e1); rw [e1]; rw [show A ++ (L1 ++ (R1 ++ (L2 ++ (R2 ++ B)))) = (A ++ L1) ++ (R1 ++ (L2 ++ (R2 ++ B))) by simp, piece (A ++ L1) R1 _ (by simp; omega) ow]; exact q3)) ([] : Heap)) (.g (.r (.two (decide (((mid : Nat) : Int) < (((mid + p) - i : Nat) : Int))) (fun h4 h4' => (.yes (.yes (.g (.two (decide ((((mid + p) - i : Nat) : Int) < ((b : Nat) : Int))) (fun h5 h5' => (.r (.ch 5 ([⟨g, 9, (List.map Card.row (mAt (ltF cmp) mid ((mid + p) - i) b (mAt (ltF cmp) a i mid l))), none⟩] : Heap) (ACalls.pre (args' := [(AV.osl 0 g 9 0 n), (AV.int .i64 ((mid : Nat) : Int)), (AV.int .i64 (((mid + p) - i : Nat) : Int)), (AV.int .i64 ((b : Nat) : Int)), (AV.func f xs)]) (ih_at mid ((mid + p) - i) b n g (mAt (ltF cmp) a i mid l) (by first | (exfalso; omega) | ((first | rw [if_pos ow] at e1 | rw [if_neg ow] at e1); (first | rw [if_pos ow] at e2 | rw [if_neg ow] at e2); rw [e1, e2]; exact hlen2.symm)) (by first | exact hc | exact hxs | omega | (simp; omega)) (by first | exact hc | exact hxs | omega | (simp; omega)) (by first | exact hc | exact hxs | omega | (simp; omega)) (by first | exact hc | exact hxs | omega | (simp; omega)) (by first | exact hc | exact hxs | omega | (simp; omega)) (by first | (exfalso; omega) | ((first | rw [if_pos ow] at e1 | rw [if_neg ow] at e1); (first | rw [if_pos ow] at e2 | rw [if_neg ow] at e2); rw [e1, e2]; rw [show A ++ (mg (ltF cmp) L1 R1 ++ (L2 ++ (R2 ++ B))) = (A ++ mg (ltF cmp) L1 R1) ++ (L2 ++ (R2 ++ B)) by simp, piece (A ++ mg (ltF cmp) L1 R1) L2 _ (by simp [mg_len]; omega) ow]; exact q2)) (by first | (exfalso; omega) | ((first | rw [if_pos ow] at e1 | rw [if_neg ow] at e1); (first | rw [if_pos ow] at e2 | rw [if_neg ow] at e2); rw [e1, e2]; rw [show A ++ (mg (ltF cmp) L1 R1 ++ (L2 ++ (R2 ++ B))) = ((A ++ mg (ltF cmp) L1 R1) ++ L2) ++ (R2 ++ B) by simp, piece ((A ++ mg (ltF cmp) L1 R1) ++ L2) R2 _ (by simp [mg_len]; omega) ow]; exact q4)) ([] : Heap)) ⟨AV.wk_refl_any _, AV.wk_refl_any _, AV.wk_refl_any _, AV.wk_refl_any _, AV.wk_refl_any _, trivial⟩) (.g (.f 1 (AV.tup []) (.e (AV.tup []) (by
        try delta Vjc_7
        first | (exfalso; omega) | ((first | rw [if_pos ow] at e1 | rw [if_neg ow] at e1); (first | rw [if_pos ow] at e2 | rw [if_neg ow] at e2); (first | rw [if_pos ow] at e3 | rw [if_neg ow] at e3); rw [e1, e2, e3])))))))) (fun h5 h5' => (.f 1 (AV.tup []) (.e (AV.tup []) (by
        try delta Vjc_7
        first | (exfalso; omega) | ((first | rw [if_pos ow] at e1 | rw [if_neg ow] at e1); (first | rw [if_pos ow] at e2 | rw [if_neg ow] at e2); (first | rw [if_pos ow] at e3 | rw [if_neg ow] at e3); rw [e1, e2, e3])))))))))) (fun h4 h4' => (.no (.no (.g (.no (.f 1 (AV.tup []) (.e (AV.tup []) (by
        try delta Vjc_7
        first | (exfalso; omega) | ((first | rw [if_pos ow] at e1 | rw [if_neg ow] at e1); (first | rw [if_pos ow] at e2 | rw [if_neg ow] at e2); (first | rw [if_pos ow] at e3 | rw [if_neg ow] at e3); rw [e1, e2, e3]))))))))))))))) (fun h3 h3' => (.r (.two (decide (((mid : Nat) : Int) < (((mid + p) - i : Nat) : Int))) (fun h4 h4' => (.yes (.yes (.g (.two (decide ((((mid + p) - i : Nat) : Int) < ((b : Nat) : Int))) (fun h5 h5' => (.r (.ch 5 ([⟨g, 9, (List.map Card.row (mAt (ltF cmp) mid ((mid + p) - i) b l)), none⟩] : Heap) (ACalls.pre (args' := [(AV.osl 0 g 9 0 n), (AV.int .i64 ((mid : Nat) : Int)), (AV.int .i64 (((mid + p) - i : Nat) : Int)), (AV.int .i64 ((b : Nat) : Int)), (AV.func f xs)]) (ih_at mid ((mid + p) - i) b n g l (by first | (exfalso; omega) | ((first | rw [if_pos ow] at e1 | rw [if_neg ow] at e1); (first | rw [if_pos ow] at e2 | rw [if_neg ow] at e2); rw [e1, e2]; exact hlen2.symm)) (by first | exact hc | exact hxs | omega | (simp; omega)) (by first | exact hc | exact hxs | omega | (simp; omega)) (by first | exact hc | exact hxs | omega | (simp; omega)) (by first | exact hc | exact hxs | omega | (simp; omega)) (by first | exact hc | exact hxs | omega | (simp; omega)) (by first | (exfalso; omega) | ((first | rw [if_pos ow] at e1 | rw [if_neg ow] at e1); (first | rw [if_pos ow] at e2 | rw [if_neg ow] at e2); rw [e1, e2]; rw [show A ++ (mg (ltF cmp) L1 R1 ++ (L2 ++ (R2 ++ B))) = (A ++ mg (ltF cmp) L1 R1) ++ (L2 ++ (R2 ++ B)) by simp, piece (A ++ mg (ltF cmp) L1 R1) L2 _ (by simp [mg_len]; omega) ow]; exact q2)) (by first | (exfalso; omega) | ((first | rw [if_pos ow] at e1 | rw [if_neg ow] at e1); (first | rw [if_pos ow] at e2 | rw [if_neg ow] at e2); rw [e1, e2]; rw [show A ++ (mg (ltF cmp) L1 R1 ++ (L2 ++ (R2 ++ B))) = ((A ++ mg (ltF cmp) L1 R1) ++ L2) ++ (R2 ++ B) by simp, piece ((A ++ mg (ltF cmp) L1 R1) ++ L2) R2 _ (by simp [mg_len]; omega) ow]; exact q4)) ([] : Heap)) ⟨AV.wk_refl_any _, AV.wk_refl_any _, AV.wk_refl_any _, AV.wk_refl_any _, AV.wk_refl_any _, trivial⟩) (.g (.f 1 (AV.tup []) (.e (AV.tup []) (by
        try delta Vjc_7
        first | (exfalso; omega) | ((first | rw [if_pos ow] at e1 | rw [if_neg ow] at e1); (first | rw [if_pos ow] at e2 | rw [if_neg ow] at e2); (first | rw [if_pos ow] at e3 | rw [if_neg ow] at e3); rw [e1, e2, e3])))))))) (fun h5 h5' => (.f 1 (AV.tup []) (.e (AV.tup []) (by
        try delta Vjc_7
        first | (exfalso; omega) | ((first | rw [if_pos ow] at e1 | rw [if_neg ow] at e1); (first | rw [if_pos ow] at e2 | rw [if_neg ow] at e2); (first | rw [if_pos ow] at e3 | rw [if_neg ow] at e3); rw [e1, e2, e3])))))))))) (fun h4 h4' => (.no (.no (.g (.no (.f 1 (AV.tup []) (.e (AV.tup []) (by
        try delta Vjc_7
        first | (exfalso; omega) | ((first | rw [if_pos ow] at e1 | rw [if_neg ow] at e1); (first | rw [if_pos ow] at e2 | rw [if_neg ow] at e2); (first | rw [if_pos ow] at e3 | rw [if_neg ow] at e3); rw [e1, e2, e3]))))))))))))))))) (fun h2 h2' => (.no (.no (.g (.no (.r (.two (decide (((mid : Nat) : Int) < (((mid + p) - i : Nat) : Int))) (fun h3 h3' => (.yes (.yes (.g (.two (decide ((((mid + p) - i : Nat) : Int) < ((b : Nat) : Int))) (fun h4 h4' => (.r (.ch 5 ([⟨g, 9, (List.map Card.row (mAt (ltF cmp) mid ((mid + p) - i) b l)), none⟩] : Heap) (ACalls.pre (args' := [(AV.osl 0 g 9 0 n), (AV.int .i64 ((mid : Nat) : Int)), (AV.int .i64 (((mid + p) - i : Nat) : Int)), (AV.int .i64 ((b : Nat) : Int)), (AV.func f xs)]) (ih_at mid ((mid + p) - i) b n g l (by first | (exfalso; omega) | ((first | rw [if_pos ow] at e1 | rw [if_neg ow] at e1); (first | rw [if_pos ow] at e2 | rw [if_neg ow] at e2); rw [e1, e2]; exact hlen2.symm)) (by first | exact hc | exact hxs | omega | (simp; omega)) (by first | exact hc | exact hxs | omega | (simp; omega)) (by first | exact hc | exact hxs | omega | (simp; omega)) (by first | exact hc | exact hxs | omega | (simp; omega)) (by first | exact hc | exact hxs | omega | (simp; omega)) (by first | (exfalso; omega) | ((first | rw [if_pos ow] at e1 | rw [if_neg ow] at e1); (first | rw [if_pos ow] at e2 | rw [if_neg ow] at e2); rw [e1, e2]; rw [show A ++ (mg (ltF cmp) L1 R1 ++ (L2 ++ (R2 ++ B))) = (A ++ mg (ltF cmp) L1 R1) ++ (L2 ++ (R2 ++ B)) by simp, piece (A ++ mg (ltF cmp) L1 R1) L2 _ (by simp [mg_len]; omega) ow]; exact q2)) (by first | (exfalso; omega) | ((first | rw [if_pos ow] at e1 | rw [if_neg ow] at e1); (first | rw [if_pos ow] at e2 | rw [if_neg ow] at e2); rw [e1, e2]; rw [show A ++ (mg (ltF cmp) L1 R1 ++ (L2 ++ (R2 ++ B))) = ((A ++ mg (ltF cmp) L1 R1) ++ L2) ++ (R2 ++ B) by simp, piece ((A ++ mg (ltF cmp) L1 R1) ++ L2) R2 _ (by simp [mg_len]; omega) ow]; exact q4)) ([] : Heap)) ⟨AV.wk_refl_any _, AV.wk_refl_any _, AV.wk_refl_any _, AV.wk_refl_any _, AV.wk_refl_any _, trivial⟩) (.g (.f 1 (AV.tup []) (.e (AV.tup []) (by
        try delta Vjc_7
        first | (exfalso; omega) | ((first | rw [if_pos ow] at e1 | rw [if_neg ow] at e1); (first | rw [if_pos ow] at e2 | rw [if_neg ow] at e2); (first | rw [if_pos ow] at e3 | rw [if_neg ow] at e3); rw [e1, e2, e3])))))))) (fun h4 h4' => (.f 1 (AV.tup []) (.e (AV.tup []) (by
        try delta Vjc_7
        first | (exfalso; omega) | ((first | rw [if_pos ow] at e1 | rw [if_neg ow] at e1); (first | rw [if_pos ow] at e2 | rw [if_neg ow] at e2); (first | rw [if_pos ow] at e3 | rw [if_neg ow] at e3); rw [e1, e2, e3])))))))))) (fun h3 h3' => (.no (.no (.g (.no (.f 1 (AV.tup []) (.e (AV.tup []) (by
        try delta Vjc_7
        first | (exfalso; omega) | ((first | rw [if_pos ow] at e1 | rw [if_neg ow] at e1); (first | rw [if_pos ow] at e2 | rw [if_neg ow] at e2); (first | rw [if_pos ow] at e3 | rw [if_neg ow] at e3); rw [e1, e2, e3]))))))))))))))))))))))))))))))))))))))))))))))))))))))))))))
set_option maxHeartbeats 4000000 in
set_option maxRecDepth 100000 in
theorem sCD_spec (cmp : Card → Card → Int) (f : Nat) (xs : List AV) (A L1 L2 R1 R2 B : List Card) (a p b n g i mid Nz : Nat) (l : List Card) (hc : ∀ (x y : Card) (H : Heap), ACalls Try.prog f ([AV.agg (Card.row x), AV.agg (Card.row y)] ++ xs) H (AV.int .i64 (cmp x y), H)) (hxs : AV.bdds 1 xs = true) (hn : n = l.length) (hnb : n < 1048576) (ih_at : ∀ (a p b n g : Nat) (l : List Card), n = l.length → n < 1048576 → a < p → p < b → b ≤ n → b - a < Nz → Srt (ltF cmp) ((l.drop a).take (p - a)) → Srt (ltF cmp) ((l.drop p).take (b - p)) → ∀ H : Heap, ACalls Try.prog 157 [(.osl 0 g 9 0 n), (.int .i64 ((a : Nat) : Int)), (.int .i64 ((p : Nat) : Int)), (.int .i64 ((b : Nat) : Int)), (.func f xs)] (([⟨g, 9, (List.map Card.row l), none⟩] : Heap) ++ H) (.tup [], ([⟨g, 9, (List.map Card.row (mAt (ltF cmp) a p b l)), none⟩] : Heap) ++ H)) (hl : l = A ++ (L1 ++ (L2 ++ (R1 ++ (R2 ++ B))))) (hA : a = A.length) (hi : i = a + L1.length) (hp : p = i + L2.length) (hR1 : mid = i + R1.length) (hb : b = p + R1.length + R2.length) (hbn : b ≤ n) (hap : a < p) (hpb : p < b) (h1 : p ≠ a + 1) (h2 : b ≠ p + 1) (hmid : mid = (a + b) / 2) (hNz : b - a ≤ Nz) (hgt : p ≤ mid) (hs : i = bsr (fun c => !decide (cmp (nth l (mid + p - 1 - c)) (nth l c) < 0)) (p - (a)) (a) p) (hlo : a ≤ i) (hhi : i ≤ p) (q1 : Srt (ltF cmp) L1) (q2 : Srt (ltF cmp) L2) (q3 : Srt (ltF cmp) R1) (q4 : Srt (ltF cmp) R2) : ACalls Try.prog 157 [(.osl 0 g 9 0 n), (.int .i64 ((a : Nat) : Int)), (.int .i64 ((p : Nat) : Int)), (.int .i64 ((b : Nat) : Int)), (.func f xs)] ([⟨g, 9, (List.map Card.row l), none⟩] : Heap) ((AV.tup []), ([⟨g, 9, (List.map Card.row (A ++ (mg (ltF cmp) L1 R1 ++ (mg (ltF cmp) L2 R2 ++ B)))), none⟩] : Heap)) := by
  have hll : n = A.length + L1.length + L2.length + R1.length + R2.length + B.length := by rw [hn, hl]; simp; omega
  have e1 := sm1 A L1 L2 R1 R2 B hl (s := i) (m := p) (e := mid + p - i) ow hp ow
  have e2 := sm2 (ltF cmp) A L1 R1 (L2 ++ (R2 ++ B)) (a := a) (s := i) (mid := mid) hA hi hR1
  have e3 := sm3 (ltF cmp) A (mg (ltF cmp) L1 R1) L2 R2 B (mid := mid) (e := mid + p - i) (b := b) (by rw [mg_len]; omega) ow ow
  have hrot : 0 < L2.length → 0 < R1.length → _ := rot_facts (A ++ L1) L2 R1 (R2 ++ B) (l := l) (by rw [hl]; simp) (a := i) (m := p) (b := mid + p - i) (by simp; omega) hp ow
  have hlen2 : (A ++ (mg (ltF cmp) L1 R1 ++ (L2 ++ (R2 ++ B)))).length = n := by rw [hll]; simp [mg_len]; omega
  have hlen1 : (A ++ (L1 ++ (R1 ++ (L2 ++ (R2 ++ B))))).length = n := by rw [hll]; simp; omega
  exact specO (fn := Try.f157) (ann := sC_ann) (Has.o Try.func157) (.r (.y 2 (.int .i64 (IntKind.i64.wrap (((p : Nat) : Int) - ((a : Nat) : Int)))) (AV.int .i64 ((p - a : Nat) : Int)) (Yes.add ow ow ow) (.y 3 (AV.bool (((p - a : Nat) : Int) == 1)) (AV.bool false) (Yes.bool (by exact beq_eq_false_iff_ne.2 ow)) (.g (.no (.r (.y 2 (.int .i64 (IntKind.i64.wrap (((b : Nat) : Int) - ((p : Nat) : Int)))) (AV.int .i64 ((b - p : Nat) : Int)) (Yes.add ow ow ow) (.y 3 (AV.bool (((b - p : Nat) : Int) == 1)) (AV.bool false) (Yes.bool (by exact beq_eq_false_iff_ne.2 ow)) (.g (.no (.r (.y 2 (.int .i64 (IntKind.i64.wrap (((a : Nat) : Int) + ((b : Nat) : Int)))) (AV.int .i64 ((a + b : Nat) : Int)) (Yes.add ow ow ow) (.y 5 (AV.int .i64 (IntKind.i64.wrap (Int.fdiv (IntKind.u64.wrap ((a + b : Nat) : Int)) (2 ^ (min (Int.toNat 1) 64))))) (AV.int .i64 ((mid : Nat) : Int)) (Yes.int (half_nat ow ow)) (.g (.r (.y 2 (.int .i64 (IntKind.i64.wrap (((mid : Nat) : Int) + ((p : Nat) : Int)))) (AV.int .i64 ((mid + p : Nat) : Int)) (Yes.add ow ow ow) (.g (.r (.g (.r (.y 2 (AV.bool (decide (((p : Nat) : Int) > ((mid : Nat) : Int)))) (AV.bool false) (Yes.bool (by exact decide_eq_false ow)) (.g (.no (.r (.g (.r (.g (.r (.y 1 (.int .i64 (IntKind.i64.wrap (((mid + p : Nat) : Int) - 1))) (AV.int .i64 ((mid + p - 1 : Nat) : Int)) (Yes.add ow ow ow) (.g (.loop (Vjc_6 g n a p b f xs mid i) (show LoopTo (codeQ Try.prog (X sC_ann) (loopOf Try.f157 4)) (some [0, 1, 2, 3, 4, 18, 19, 20, 21, 22]) (some [0, 1, 2, 3, 4, 18, 19, 20]) (mkF 220 [(0, (.osl 0 g 9 0 n)), (1, (.int .i64 ((a : Nat) : Int))), (2, (.int .i64 ((p : Nat) : Int))), (3, (.int .i64 ((b : Nat) : Int))), (4, (.func f xs)), (18, (.int .i64 ((mid : Nat) : Int))), (19, (.int .i64 ((mid + p : Nat) : Int))), (20, (.int .i64 ((a : Nat) : Int))), (21, (.int .i64 ((p : Nat) : Int))), (22, (.int .i64 ((mid + p - 1 : Nat) : Int)))]) ([⟨g, 9, (List.map Card.row l), none⟩] : Heap) (.exit 8) (Vjc_6 g n a p b f xs mid i) ([⟨g, 9, (List.map Card.row l), none⟩] : Heap) from (by rw [hs]; exact sCc_loop cmp f xs hc a p b mid (mid + p) (mid + p - 1) n g l hn hnb (p - (a)) a p ow ow ow)) (.r (.y 2 (.int .i64 (IntKind.i64.wrap ((((mid + p) : Nat) : Int) - ((i : Nat) : Int)))) (AV.int .i64 (((mid + p) - i : Nat) : Int)) (Yes.add ow ow ow) (.g (.r (.two (decide (((i : Nat) : Int) < ((p : Nat) : Int))) (fun h1 h1' => (.yes (.yes (.g (.two (decide (((p : Nat) : Int) < (((mid + p) - i : Nat) : Int))) (fun h2 h2' => (.r (.ch 5 (Vjc_7 g i p mid l) (ACalls.pre (args' := [(.osl 0 g 9 0 n), (.int .i64 ((i : Nat) : Int)), (.int .i64 ((p : Nat) : Int)), (.int .i64 (((mid + p) - i : Nat) : Int)), (.func f xs)]) (mCr_at f xs i p ((mid + p) - i) n g l (by first | exact hc | exact hxs | omega | (simp; omega)) (by first | exact hc | exact hxs | omega | (simp; omega)) (by first | exact hc | exact hxs | omega | (simp; omega)) (by first | exact hc | exact hxs | omega | (simp; omega)) (by first | exact hc | exact hxs | omega | (simp; omega)) (by first | exact hc | exact hxs | omega | (simp; omega)) ((hrot ow ow).1) ((hrot ow ow).2.1) ((hrot ow ow).2.2) ([] : Heap)) ⟨AV.wk_refl_any _, AV.wk_refl_any _, AV.wk_refl_any _, AV.wk_refl_any _, AV.wk_refl_any _, trivial⟩) (.g (.r (.two (decide (((a : Nat) : Int) < ((i : Nat) : Int))) (fun h3 h3' => (.yes (.yes (.g (.two (decide (((i : Nat) : Int) < ((mid : Nat) : Int))) (fun h4 h4' => (.r (.ch 5 ([⟨g, 9, (List.map Card.row (mAt (ltF cmp) a i mid (rotL i p ((mid + p) - i) l))), none⟩] : Heap) (ih_at a i mid n g (rotL i p ((mid + p) - i) l) (by first | (exfalso; omega) | ((first | rw [if_pos ow] at e1 | rw [if_neg ow] at e1); rw [e1]; exact hlen1.symm)) (by first | exact hc | exact hxs | omega | (simp; omega)) (by first | exact hc | exact hxs | omega | (simp; omega)) (by first | exact hc | exact hxs | omega | (simp; omega)) (by first | exact hc | exact hxs | omega | (simp; omega)) (by first | exact hc | exact hxs | omega | (simp; omega)) (by first | (exfalso; omega) | ((first | rw [if_pos ow] at e1 | rw [if_neg ow] at e1); rw [e1]; rw [piece A L1 _ hA ow]; exact q1)) (by first | (exfalso; omega) | ((first | rw [if_pos ow] at e1 | rw [if_neg ow] at e1); rw [e1]; rw [show A ++ (L1 ++ (R1 ++ (L2 ++ (R2 ++ B)))) = (A ++ L1) ++ (R1 ++ (L2 ++ (R2 ++ B))) by simp, piece (A ++ L1) R1 _ (by simp; omega) ow]; exact q3)) ([] : Heap)) (.g (.r (.two (decide (((mid : Nat) : Int) < (((mid + p) - i : Nat) : Int))) (fun h5 h5' => (.yes (.yes (.g (.two (decide ((((mid + p) - i : Nat) : Int) < ((b : Nat) : Int))) (fun h6 h6' => (.r (.ch 5 ([⟨g, 9, (List.map Card.row (mAt (ltF cmp) mid ((mid + p) - i) b (mAt (ltF cmp) a i mid (rotL i p ((mid + p) - i) l)))), none⟩] : Heap) (ACalls.pre (args' := [(.osl 0 g 9 0 n), (.int .i64 ((mid : Nat) : Int)), (.int .i64 (((mid + p) - i : Nat) : Int)), (.int .i64 ((b : Nat) : Int)), (.func f xs)]) (ih_at mid ((mid + p) - i) b n g (mAt (ltF cmp) a i mid (rotL i p ((mid + p) - i) l)) (by first | (exfalso; omega) | ((first | rw [if_pos ow] at e1 | rw [if_neg ow] at e1); (first | rw [if_pos ow] at e2 | rw [if_neg ow] at e2); rw [e1, e2]; exact hlen2.symm)) (by first | exact hc | exact hxs | omega | (simp; omega)) (by first | exact hc | exact hxs | omega | (simp; omega)) (by first | exact hc | exact hxs | omega | (simp; omega)) (by first | exact hc | exact hxs | omega | (simp; omega)) (by first | exact hc | exact hxs | omega | (simp; omega)) (by first | (exfalso; omega) | ((first | rw [if_pos ow] at e1 | rw [if_neg ow] at e1); (first | rw [if_pos ow] at e2 | rw [if_neg ow] at e2); rw [e1, e2]; rw [show A ++ (mg (ltF cmp) L1 R1 ++ (L2 ++ (R2 ++ B))) = (A ++ mg (ltF cmp) L1 R1) ++ (L2 ++ (R2 ++ B)) by simp, piece (A ++ mg (ltF cmp) L1 R1) L2 _ (by simp [mg_len]; omega) ow]; exact q2)) (by first | (exfalso; omega) | ((first | rw [if_pos ow] at e1 | rw [if_neg ow] at e1); (first | rw [if_pos ow] at e2 | rw [if_neg ow] at e2); rw [e1, e2]; rw [show A ++ (mg (ltF cmp) L1 R1 ++ (L2 ++ (R2 ++ B))) = ((A ++ mg (ltF cmp) L1 R1) ++ L2) ++ (R2 ++ B) by simp, piece ((A ++ mg (ltF cmp) L1 R1) ++ L2) R2 _ (by simp [mg_len]; omega) ow]; exact q4)) ([] : Heap)) ⟨AV.wk_refl_any _, AV.wk_refl_any _, AV.wk_refl_any _, AV.wk_refl_any _, AV.wk_refl_any _, trivial⟩) (.g (.f 1 (AV.tup []) (.e (AV.tup []) (by
        try delta Vjc_7
        first | (exfalso; omega) | ((first | rw [if_pos ow] at e1 | rw [if_neg ow] at e1); (first | rw [if_pos ow] at e2 | rw [if_neg ow] at e2); (first | rw [if_pos ow] at e3 | rw [if_neg ow] at e3); rw [e1, e2, e3])))))))) (fun h6 h6' => (.f 1 (AV.tup []) (.e (AV.tup []) (by
        try delta Vjc_7
        first | (exfalso; omega) | ((first | rw [if_pos ow] at e1 | rw [if_neg ow] at e1); (first | rw [if_pos ow] at e2 | rw [if_neg ow] at e2); (first | rw [if_pos ow] at e3 | rw [if_neg ow] at e3); rw [e1, e2, e3])))))))))) (fun h5 h5' => (.no (.no (.g (.no (.f 1 (AV.tup []) (.e (AV.tup []) (by
        try delta Vjc_7
        first | (exfalso; omega) | ((first | rw [if_pos ow] at e1 | rw [if_neg ow] at e1); (first | rw [if_pos ow] at e2 | rw [if_neg ow] at e2); (first | rw [if_pos ow] at e3 | rw [if_neg ow] at e3); rw [e1, e2, e3]))))))))))))))) (fun h4 h4' => (.r (.two (decide (((mid : Nat) : Int) < (((mid + p) - i : Nat) : Int))) (fun h5 h5' => (.yes (.yes (.g (.two (decide ((((mid + p) - i : Nat) : Int) < ((b : Nat) : Int))) (fun h6 h6' => (.r (.ch 5 ([⟨g, 9, (List.map Card.row (mAt (ltF cmp) mid ((mid + p) - i) b (rotL i p ((mid + p) - i) l))), none⟩] : Heap) (ACalls.pre (args' := [(AV.osl 0 g 9 0 n), (AV.int .i64 ((mid : Nat) : Int)), (AV.int .i64 (((mid + p) - i : Nat) : Int)), (AV.int .i64 ((b : Nat) : Int)), (AV.func f xs)]) (ih_at mid ((mid + p) - i) b n g (rotL i p ((mid + p) - i) l) (by first | (exfalso; omega) | ((first | rw [if_pos ow] at e1 | rw [if_neg ow] at e1); (first | rw [if_pos ow] at e2 | rw [if_neg ow] at e2); rw [e1, e2]; exact hlen2.symm)) (by first | exact hc | exact hxs | omega | (simp; omega)) (by first | exact hc | exact hxs | omega | (simp; omega)) (by first | exact hc | exact hxs | omega | (simp; omega)) (by first | exact hc | exact hxs | omega | (simp; omega)) (by first | exact hc | exact hxs | omega | (simp; omega)) (by first | (exfalso; omega) | ((first | rw [if_pos ow] at e1 | rw [if_neg ow] at e1); (first | rw [if_pos ow] at e2 | rw [if_neg ow] at e2); rw [e1, e2]; rw [show A ++ (mg (ltF cmp) L1 R1 ++ (L2 ++ (R2 ++ B))) = (A ++ mg (ltF cmp) L1 R1) ++ (L2 ++ (R2 ++ B)) by simp, piece (A ++ mg (ltF cmp) L1 R1) L2 _ (by simp [mg_len]; omega) ow]; exact q2)) (by first | (exfalso; omega) | ((first | rw [if_pos ow] at e1 | rw [if_neg ow] at e1); (first | rw [if_pos ow] at e2 | rw [if_neg ow] at e2); rw [e1, e2]; rw [show A ++ (mg (ltF cmp) L1 R1 ++ (L2 ++ (R2 ++ B))) = ((A ++ mg (ltF cmp) L1 R1) ++ L2) ++ (R2 ++ B) by simp, piece ((A ++ mg (ltF cmp) L1 R1) ++ L2) R2 _ (by simp [mg_len]; omega) ow]; exact q4)) ([] : Heap)) ⟨AV.wk_refl_any _, AV.wk_refl_any _, AV.wk_refl_any _, AV.wk_refl_any _, AV.wk_refl_any _, trivial⟩) (.g (.f 1 (AV.tup []) (.e (AV.tup []) (by
        try delta Vjc_7
        first | (exfalso; omega) | ((first | rw [if_pos ow] at e1 | rw [if_neg ow] at e1); (first | rw [if_pos ow] at e2 | rw [if_neg ow] at e2); (first | rw [if_pos ow] at e3 | rw [if_neg ow] at e3); rw [e1, e2, e3])))))))) (fun h6 h6' => (.f 1 (AV.tup []) (.e (AV.tup []) (by
        try delta Vjc_7
        first | (exfalso; omega) | ((first | rw [if_pos ow] at e1 | rw [if_neg ow] at e1); (first | rw [if_pos ow] at e2 | rw [if_neg ow] at e2); (first | rw [if_pos ow] at e3 | rw [if_neg ow] at e3); rw [e1, e2, e3])))))))))) (fun h5 h5' => (.no (.no (.g (.no (.f 1 (AV.tup []) (.e (AV.tup []) (by
        try delta Vjc_7
        first | (exfalso; omega) | ((first | rw [if_pos ow] at e1 | rw [if_neg ow] at e1); (first | rw [if_pos ow] at e2 | rw [if_neg ow] at e2); (first | rw [if_pos ow] at e3 | rw [if_neg ow] at e3); rw [e1, e2, e3]))))))))))))))))) (fun h3 h3' => (.no (.no (.g (.no (.r (.two (decide (((mid : Nat) : Int) < (((mid + p) - i : Nat) : Int))) (fun h4 h4' => (.yes (.yes (.g (.two (decide ((((mid + p) - i : Nat) : Int) < ((b : Nat) : Int))) (fun h5 h5' => (.r (.ch 5 ([⟨g, 9, (List.map Card.row (mAt (ltF cmp) mid ((mid + p) - i) b (rotL i p ((mid + p) - i) l))), none⟩] : Heap) (ACalls.pre (args' := [(AV.osl 0 g 9 0 n), (AV.int .i64 ((mid : Nat) : Int)), (AV.int .i64 (((mid + p) - i : Nat) : Int)), (AV.int .i64 ((b : Nat) : Int)), (AV.func f xs)]) (ih_at mid ((mid + p) - i) b n g (rotL i p ((mid + p) - i) l) (by first | (exfalso; omega) | ((first | rw [if_pos ow] at e1 | rw [if_neg ow] at e1); (first | rw [if_pos ow] at e2 | rw [if_neg ow] at e2); rw [e1, e2]; exact hlen2.symm)) (by first | exact hc | exact hxs | omega | (simp; omega)) (by first | exact hc | exact hxs | omega | (simp; omega)) (by first | exact hc | exact hxs | omega | (simp; omega)) (by first | exact hc | exact hxs | omega | (simp; omega)) (by first | exact hc | exact hxs | omega | (simp; omega)) (by first | (exfalso; omega) | ((first | rw [if_pos ow] at e1 | rw [if_neg ow] at e1); (first | rw [if_pos ow] at e2 | rw [if_neg ow] at e2); rw [e1, e2]; rw [show A ++ (mg (ltF cmp) L1 R1 ++ (L2 ++ (R2 ++ B))) = (A ++ mg (ltF cmp) L1 R1) ++ (L2 ++ (R2 ++ B)) by simp, piece (A ++ mg (ltF cmp) L1 R1) L2 _ (by simp [mg_len]; omega) ow]; exact q2)) (by first | (exfalso; omega) | ((first | rw [if_pos ow] at e1 | rw [if_neg ow] at e1); (first | rw [if_pos ow] at e2 | rw [if_neg ow] at e2); rw [e1, e2]; rw [show A ++ (mg (ltF cmp) L1 R1 ++ (L2 ++ (R2 ++ B))) = ((A ++ mg (ltF cmp) L1 R1) ++ L2) ++ (R2 ++ B) by simp, piece ((A ++ mg (ltF cmp) L1 R1) ++ L2) R2 _ (by simp [mg_len]; omega) ow]; exact q4)) ([] : Heap)) ⟨AV.wk_refl_any _, AV.wk_refl_any _, AV.wk_refl_any _, AV.wk_refl_any _, AV.wk_refl_any _, trivial⟩) (.g (.f 1 (AV.tup []) (.e (AV.tup []) (by
        try delta Vjc_7
        first | (exfalso; omega) | ((first | rw [if_pos ow] at e1 | rw [if_neg ow] at e1); (first | rw [if_pos ow] at e2 | rw [if_neg ow] at e2); (first | rw [if_pos ow] at e3 | rw [if_neg ow] at e3); rw [e1, e2, e3])))))))) (fun h5 h5' => (.f 1 (AV.tup []) (.e (AV.tup []) (by
        try delta Vjc_7
        first | (exfalso; omega) | ((first | rw [if_pos ow] at e1 | rw [if_neg ow] at e1); (first | rw [if_pos ow] at e2 | rw [if_neg ow] at e2); (first | rw [if_pos ow] at e3 | rw [if_neg ow] at e3); rw [e1, e2, e3])))))))))) (fun h4 h4' => (.no (.no (.g (.no (.f 1 (AV.tup []) (.e (AV.tup []) (by
        try delta Vjc_7
        first | (exfalso; omega) | ((first | rw [if_pos ow] at e1 | rw [if_neg ow] at e1); (first | rw [if_pos ow] at e2 | rw [if_neg ow] at e2); (first | rw [if_pos ow] at e3 | rw [if_neg ow] at e3); rw [e1, e2, e3])))))))))))))))))))))) (fun h2 h2' => (.r (.two (decide (((a : Nat) : Int) < ((i : Nat) : Int))) (fun h3 h3' => (.yes (.yes (.g (.two (decide (((i : Nat) : Int) < ((mid : Nat) : Int))) (fun h4 h4' => (.r (.ch 5 ([⟨g, 9, (List.map Card.row (mAt (ltF cmp) a i mid l)), none⟩] : Heap) (ih_at a i mid n g l (by first | (exfalso; omega) | ((first | rw [if_pos ow] at e1 | rw [if_neg ow] at e1); rw [e1]; exact hlen1.symm)) (by first | exact hc | exact hxs | omega | (simp; omega)) (by first | exact hc | exact hxs | omega | (simp; omega)) (by first | exact hc | exact hxs | omega | (simp; omega)) (by first | exact hc | exact hxs | omega | (simp; omega)) (by first | exact hc | exact hxs | omega | (simp; omega)) (by first | (exfalso; omega) | ((first | rw [if_pos ow] at e1 | rw [if_neg ow] at e1); rw [e1]; rw [piece A L1 _ hA ow]; exact q1)) (by first | (exfalso; omega) | ((first | rw [if_pos ow] at e1 | rw [if_neg ow] at e1); rw [e1]; rw [show A ++ (L1 ++ (R1 ++ (L2 ++ (R2 ++ B)))) = (A ++ L1) ++ (R1 ++ (L2 ++ (R2 ++ B))) by simp, piece (A ++ L1) R1 _ (by simp; omega) ow]; exact q3)) ([] : Heap)) (.g (.r (.two (decide (((mid : Nat) : Int) < (((mid + p) - i : Nat) : Int))) (fun h5 h5' => (.yes (.yes (.g (.two (decide ((((mid + p) - i : Nat) : Int) < ((b : Nat) : Int))) (fun h6 h6' => (.r (.ch 5 ([⟨g, 9, (List.map Card.row (mAt (ltF cmp) mid ((mid + p) - i) b (mAt (ltF cmp) a i mid l))), none⟩] : Heap) (ACalls.pre (args' := [(AV.osl 0 g 9 0 n), (AV.int .i64 ((mid : Nat) : Int)), (AV.int .i64 (((mid + p) - i : Nat) : Int)), (AV.int .i64 ((b : Nat) : Int)), (AV.func f xs)]) (ih_at mid ((mid + p) - i) b n g (mAt (ltF cmp) a i mid l) (by first | (exfalso; omega) | ((first | rw [if_pos ow] at e1 | rw [if_neg ow] at e1); (first | rw [if_pos ow] at e2 | rw [if_neg ow] at e2); rw [e1, e2]; exact hlen2.symm)) (by first | exact hc | exact hxs | omega | (simp; omega)) (by first | exact hc | exact hxs | omega | (simp; omega)) (by first | exact hc | exact hxs | omega | (simp; omega)) (by first | exact hc | exact hxs | omega | (simp; omega)) (by first | exact hc | exact hxs | omega | (simp; omega)) (by first | (exfalso; omega) | ((first | rw [if_pos ow] at e1 | rw [if_neg ow] at e1); (first | rw [if_pos ow] at e2 | rw [if_neg ow] at e2); rw [e1, e2]; rw [show A ++ (mg (ltF cmp) L1 R1 ++ (L2 ++ (R2 ++ B))) = (A ++ mg (ltF cmp) L1 R1) ++ (L2 ++ (R2 ++ B)) by simp, piece (A ++ mg (ltF cmp) L1 R1) L2 _ (by simp [mg_len]; omega) ow]; exact q2)) (by first | (exfalso; omega) | ((first | rw [if_pos ow] at e1 | rw [if_neg ow] at e1); (first | rw [if_pos ow] at e2 | rw [if_neg ow] at e2); rw [e1, e2]; rw [show A ++ (mg (ltF cmp) L1 R1 ++ (L2 ++ (R2 ++ B))) = ((A ++ mg (ltF cmp) L1 R1) ++ L2) ++ (R2 ++ B) by simp, piece ((A ++ mg (ltF cmp) L1 R1) ++ L2) R2 _ (by simp [mg_len]; omega) ow]; exact q4)) ([] : Heap)) ⟨AV.wk_refl_any _, AV.wk_refl_any _, AV.wk_refl_any _, AV.wk_refl_any _, AV.wk_refl_any _, trivial⟩) (.g (.f 1 (AV.tup []) (.e (AV.tup []) (by
        try delta Vjc_7
        first | (exfalso; omega) | ((first | rw [if_pos ow] at e1 | rw [if_neg ow] at e1); (first | rw [if_pos ow] at e2 | rw [if_neg ow] at e2); (first | rw [if_pos ow] at e3 | rw [if_neg ow] at e3); rw [e1, e2, e3])))))))) (fun h6 h6' => (.f 1 (AV.tup []) (.e (AV.tup []) (by
        try delta Vjc_7
        first | (exfalso; omega) | ((first | rw [if_pos ow] at e1 | rw [if_neg ow] at e1); (first | rw [if_pos ow] at e2 | rw [if_neg ow] at e2); (first | rw [if_pos ow] at e3 | rw [if_neg ow] at e3); rw [e1, e2, e3])))))))))) (fun h5 h5' => (.no (.no (.g (.no (.f 1 (AV.tup []) (.e (AV.tup []) (by
        try delta Vjc_7
        first | (exfalso; omega) | ((first | rw [if_pos ow] at e1 | rw [if_neg ow] at e1); (first | rw [if_pos ow] at e2 | rw [if_neg ow] at e2); (first | rw [if_pos ow] at e3 | rw [if_neg ow] at e3); rw [e1, e2, e3]))))))))))))))) (fun h4 h4' => (.r (.two (decide (((mid : Nat) : Int) < (((mid + p) - i : Nat) : Int))) (fun h5 h5' => (.yes (.yes (.g (.two (decide ((((mid + p) - i : Nat) : Int) < ((b : Nat) : Int))) (fun h6 h6' => (.r (.ch 5 ([⟨g, 9, (List.map Card.row (mAt (ltF cmp) mid ((mid + p) - i) b l)), none⟩] : Heap) (ACalls.pre (args' := [(AV.osl 0 g 9 0 n), (AV.int .i64 ((mid : Nat) : Int)), (AV.int .i64 (((mid + p) - i : Nat) : Int)), (AV.int .i64 ((b : Nat) : Int)), (AV.func f xs)]) (ih_at mid ((mid + p) - i) b n g l (by first | (exfalso; omega) | ((first | rw [if_pos ow] at e1 | rw [if_neg ow] at e1); (first | rw [if_pos ow] at e2 | rw [if_neg ow] at e2); rw [e1, e2]; exact hlen2.symm)) (by first | exact hc | exact hxs | omega | (simp; omega)) (by first | exact hc | exact hxs | omega | (simp; omega)) (by first | exact hc | exact hxs | omega | (simp; omega)) (by first | exact hc | exact hxs | omega | (simp; omega)) (by first | exact hc | exact hxs | omega | (simp; omega)) (by first | (exfalso; omega) | ((first | rw [if_pos ow] at e1 | rw [if_neg ow] at e1); (first | rw [if_pos ow] at e2 | rw [if_neg ow] at e2); rw [e1, e2]; rw [show A ++ (mg (ltF cmp) L1 R1 ++ (L2 ++ (R2 ++ B))) = (A ++ mg (ltF cmp) L1 R1) ++ (L2 ++ (R2 ++ B)) by simp, piece (A ++ mg (ltF cmp) L1 R1) L2 _ (by simp [mg_len]; omega) ow]; exact q2)) (by first | (exfalso; omega) | ((first | rw [if_pos ow] at e1 | rw [if_neg ow] at e1); (first | rw [if_pos ow] at e2 | rw [if_neg ow] at e2); rw [e1, e2]; rw [show A ++ (mg (ltF cmp) L1 R1 ++ (L2 ++ (R2 ++ B))) = ((A ++ mg (ltF cmp) L1 R1) ++ L2) ++ (R2 ++ B) by simp, piece ((A ++ mg (ltF cmp) L1 R1) ++ L2) R2 _ (by simp [mg_len]; omega) ow]; exact q4)) ([] : Heap)) ⟨AV.wk_refl_any _, AV.wk_refl_any _, AV.wk_refl_any _, AV.wk_refl_any _, AV.wk_refl_any _, trivial⟩) (.g (.f 1 (AV.tup []) (.e (AV.tup []) (by
        try delta Vjc_7
        first | (exfalso; omega) | ((first | rw [if_pos ow] at e1 | rw [if_neg ow] at e1); (first | rw [if_pos ow] at e2 | rw [if_neg ow] at e2); (first | rw [if_pos ow] at e3 | rw [if_neg ow] at e3); rw [e1, e2, e3])))))))) (fun h6 h6' => (.f 1 (AV.tup []) (.e (AV.tup []) (by
        try delta Vjc_7
        first | (exfalso; omega) | ((first | rw [if_pos ow] at e1 | rw [if_neg ow] at e1); (first | rw [if_pos ow] at e2 | rw [if_neg ow] at e2); (first | rw [if_pos ow] at e3 | rw [if_neg ow] at e3); rw [e1, e2, e3])))))))))) (fun h5 h5' => (.no (.no (.g (.no (.f 1 (AV.tup []) (.e (AV.tup []) (by
        try delta Vjc_7
        first | (exfalso; omega) | ((first | rw [if_pos ow] at e1 | rw [if_neg ow] at e1); (first | rw [if_pos ow] at e2 | rw [if_neg ow] at e2); (first | rw [if_pos ow] at e3 | rw [if_neg ow] at e3); rw [e1, e2, e3]))))))))))))))))) (fun h3 h3' => (.no (.no (.g (.no (.r (.two (decide (((mid : Nat) : Int) < (((mid + p) - i : Nat) : Int))) (fun h4 h4' => (.yes (.yes (.g (.two (decide ((((mid + p) - i : Nat) : Int) < ((b : Nat) : Int))) (fun h5 h5' => (.r (.ch 5 ([⟨g, 9, (List.map Card.row (mAt (ltF cmp) mid ((mid + p) - i) b l)), none⟩] : Heap) (ACalls.pre (args' := [(AV.osl 0 g 9 0 n), (AV.int .i64 ((mid : Nat) : Int)), (AV.int .i64 (((mid + p) - i : Nat) : Int)), (AV.int .i64 ((b : Nat) : Int)), (AV.func f xs)]) (ih_at mid ((mid + p) - i) b n g l (by first | (exfalso; omega) | ((first | rw [if_pos ow] at e1 | rw [if_neg ow] at e1); (first | rw [if_pos ow] at e2 | rw [if_neg ow] at e2); rw [e1, e2]; exact hlen2.symm)) (by first | exact hc | exact hxs | omega | (simp; omega)) (by first | exact hc | exact hxs | omega | (simp; omega)) (by first | exact hc | exact hxs | omega | (simp; omega)) (by first | exact hc | exact hxs | omega | (simp; omega)) (by first | exact hc | exact hxs | omega | (simp; omega)) (by first | (exfalso; omega) | ((first | rw [if_pos ow] at e1 | rw [if_neg ow] at e1); (first | rw [if_pos ow] at e2 | rw [if_neg ow] at e2); rw [e1, e2]; rw [show A ++ (mg (ltF cmp) L1 R1 ++ (L2 ++ (R2 ++ B))) = (A ++ mg (ltF cmp) L1 R1) ++ (L2 ++ (R2 ++ B)) by simp, piece (A ++ mg (ltF cmp) L1 R1) L2 _ (by simp [mg_len]; omega) ow]; exact q2)) (by first | (exfalso; omega) | ((first | rw [if_pos ow] at e1 | rw [if_neg ow] at e1); (first | rw [if_pos ow] at e2 | rw [if_neg ow] at e2); rw [e1, e2]; rw [show A ++ (mg (ltF cmp) L1 R1 ++ (L2 ++ (R2 ++ B))) = ((A ++ mg (ltF cmp) L1 R1) ++ L2) ++ (R2 ++ B) by simp, piece ((A ++ mg (ltF cmp) L1 R1) ++ L2) R2 _ (by simp [mg_len]; omega) ow]; exact q4)) ([] : Heap)) ⟨AV.wk_refl_any _, AV.wk_refl_any _, AV.wk_refl_any _, AV.wk_refl_any _, AV.wk_refl_any _, trivial⟩) (.g (.f 1 (AV.tup []) (.e (AV.tup []) (by
        try delta Vjc_7
        first | (exfalso; omega) | ((first | rw [if_pos ow] at e1 | rw [if_neg ow] at e1); (first | rw [if_pos ow] at e2 | rw [if_neg ow] at e2); (first | rw [if_pos ow] at e3 | rw [if_neg ow] at e3); rw [e1, e2, e3])))))))) (fun h5 h5' => (.f 1 (AV.tup []) (.e (AV.tup []) (by
        try delta Vjc_7
        first | (exfalso; omega) | ((first | rw [if_pos ow] at e1 | rw [if_neg ow] at e1); (first | rw [if_pos ow] at e2 | rw [if_neg ow] at e2); (first | rw [if_pos ow] at e3 | rw [if_neg ow] at e3); rw [e1, e2, e3])))))))))) (fun h4 h4' => (.no (.no (.g (.no (.f 1 (AV.tup []) (.e (AV.tup []) (by
        try delta Vjc_7
        first | (exfalso; omega) | ((first | rw [if_pos ow] at e1 | rw [if_neg ow] at e1); (first | rw [if_pos ow] at e2 | rw [if_neg ow] at e2); (first | rw [if_pos ow] at e3 | rw [if_neg ow] at e3); rw [e1, e2, e3])))))))))))))))))))))))) (fun h1 h1' => (.no (.no (.g (.no (.r (.two (decide (((a : Nat) : Int) < ((i : Nat) : Int))) (fun h2 h2' => (.yes (.yes (.g (.two (decide (((i : Nat) : Int) < ((mid : Nat) : Int))) (fun h3 h3' => (.r (.ch 5 ([⟨g, 9, (List.map Card.row (mAt (ltF cmp) a i mid l)), none⟩] : Heap) (ih_at a i mid n g l (by first | (exfalso; omega) | ((first | rw [if_pos ow] at e1 | rw [if_neg ow] at e1); rw [e1]; exact hlen1.symm)) (by first | exact hc | exact hxs | omega | (simp; omega)) (by first | exact hc | exact hxs | omega | (simp; omega)) (by first | exact hc | exact hxs | omega | (simp; omega)) (by first | exact hc | exact hxs | omega | (simp; omega)) (by first | exact hc | exact hxs | omega | (simp; omega)) (by first | (exfalso; omega) | ((first | rw [if_pos ow] at e1 | rw [if_neg ow] at e1); rw [e1]; rw [piece A L1 _ hA ow]; exact q1)) (by first | (exfalso; omega) | ((first | rw [if_pos ow] at e1 | rw [if_neg ow] at e1); rw [e1]; rw [show A ++ (L1 ++ (R1 ++ (L2 ++ (R2 ++ B)))) = (A ++ L1) ++ (R1 ++ (L2 ++ (R2 ++ B))) by simp, piece (A ++ L1) R1 _ (by simp; omega) ow]; exact q3)) ([] : Heap)) (.g (.r (.two (decide (((mid : Nat) : Int) < (((mid + p) - i : Nat) : Int))) (fun h4 h4' => (.yes (.yes (.g (.two (decide ((((mid + p) - i : Nat) : Int) < ((b : Nat) : Int))) (fun h5 h5' => (.r (.ch 5 ([⟨g, 9, (List.map Card.row (mAt (ltF cmp) mid ((mid + p) - i) b (mAt (ltF cmp) a i mid l))), none⟩] : Heap) (ACalls.pre (args' := [(AV.osl 0 g 9 0 n), (AV.int .i64 ((mid : Nat) : Int)), (AV.int .i64 (((mid + p) - i : Nat) : Int)), (AV.int .i64 ((b : Nat) : Int)), (AV.func f xs)]) (ih_at mid ((mid + p) - i) b n g (mAt (ltF cmp) a i mid l) (by first | (exfalso; omega) | ((first | rw [if_pos ow] at e1 | rw [if_neg ow] at e1); (first | rw [if_pos ow] at e2 | rw [if_neg ow] at e2); rw [e1, e2]; exact hlen2.symm)) (by first | exact hc | exact hxs | omega | (simp; omega)) (by first | exact hc | exact hxs | omega | (simp; omega)) (by first | exact hc | exact hxs | omega | (simp; omega)) (by first | exact hc | exact hxs | omega | (simp; omega)) (by first | exact hc | exact hxs | omega | (simp; omega)) (by first | (exfalso; omega) | ((first | rw [if_pos ow] at e1 | rw [if_neg ow] at e1); (first | rw [if_pos ow] at e2 | rw [if_neg ow] at e2); rw [e1, e2]; rw [show A ++ (mg (ltF cmp) L1 R1 ++ (L2 ++ (R2 ++ B))) = (A ++ mg (ltF cmp) L1 R1) ++ (L2 ++ (R2 ++ B)) by simp, piece (A ++ mg (ltF cmp) L1 R1) L2 _ (by simp [mg_len]; omega) ow]; exact q2)) (by first | (exfalso; omega) | ((first | rw [if_pos ow] at e1 | rw [if_neg ow] at e1); (first | rw [if_pos ow] at e2 | rw [if_neg ow] at e2); rw [e1, e2]; rw [show A ++ (mg (ltF cmp) L1 R1 ++ (L2 ++ (R2 ++ B))) = ((A ++ mg (ltF cmp) L1 R1) ++ L2) ++ (R2 ++ B) by simp, piece ((A ++ mg (ltF cmp) L1 R1) ++ L2) R2 _ (by simp [mg_len]; omega) ow]; exact q4)) ([] : Heap)) ⟨AV.wk_refl_any _, AV.wk_refl_any _, AV.wk_refl_any _, AV.wk_refl_any _, AV.wk_refl_any _, trivial⟩) (.g (.f 1 (AV.tup []) (.e (AV.tup []) (by
        try delta Vjc_7
        first | (exfalso; omega) | ((first | rw [if_pos ow] at e1 | rw [if_neg ow] at e1); (first | rw [if_pos ow] at e2 | rw [if_neg ow] at e2); (first | rw [if_pos ow] at e3 | rw [if_neg ow] at e3); rw [e1, e2, e3])))))))) (fun h5 h5' => (.f 1 (AV.tup []) (.e (AV.tup []) (by
        try delta Vjc_7
        first | (exfalso; omega) | ((first | rw [if_pos ow] at e1 | rw [if_neg ow] at e1); (first | rw [if_pos ow] at e2 | rw [if_neg ow] at e2); (first | rw [if_pos ow] at e3 | rw [if_neg ow] at e3); rw [e1, e2, e3])))))))))) (fun h4 h4' => (.no (.no (.g (.no (.f 1 (AV.tup []) (.e (AV.tup []) (by
        try delta Vjc_7
        first | (exfalso; omega) | ((first | rw [if_pos ow] at e1 | rw [if_neg ow] at e1); (first | rw [if_pos ow] at e2 | rw [if_neg ow] at e2); (first | rw [if_pos ow] at e3 | rw [if_neg ow] at e3); rw [e1, e2, e3]))))))))))))))) (fun h3 h3' => (.r (.two (decide (((mid : Nat) : Int) < (((mid + p) - i : Nat) : Int))) (fun h4 h4' => (.yes (.yes (.g (.two (decide ((((mid + p) - i : Nat) : Int) < ((b : Nat) : Int))) (fun h5 h5' => (.r (.ch 5 ([⟨g, 9, (List.map Card.row (mAt (ltF cmp) mid ((mid + p) - i) b l)), none⟩] : Heap) (ACalls.pre (args' := [(AV.osl 0 g 9 0 n), (AV.int .i64 ((mid : Nat) : Int)), (AV.int .i64 (((mid + p) - i : Nat) : Int)), (AV.int .i64 ((b : Nat) : Int)), (AV.func f xs)]) (ih_at mid ((mid + p) - i) b n g l (by first | (exfalso; omega) | ((first | rw [if_pos ow] at e1 | rw [if_neg ow] at e1); (first | rw [if_pos ow] at e2 | rw [if_neg ow] at e2); rw [e1, e2]; exact hlen2.symm)) (by first | exact hc | exact hxs | omega | (simp; omega)) (by first | exact hc | exact hxs | omega | (simp; omega)) (by first | exact hc | exact hxs | omega | (simp; omega)) (by first | exact hc | exact hxs | omega | (simp; omega)) (by first | exact hc | exact hxs | omega | (simp; omega)) (by first | (exfalso; omega) | ((first | rw [if_pos ow] at e1 | rw [if_neg ow] at e1); (first | rw [if_pos ow] at e2 | rw [if_neg ow] at e2); rw [e1, e2]; rw [show A ++ (mg (ltF cmp) L1 R1 ++ (L2 ++ (R2 ++ B))) = (A ++ mg (ltF cmp) L1 R1) ++ (L2 ++ (R2 ++ B)) by simp, piece (A ++ mg (ltF cmp) L1 R1) L2 _ (by simp [mg_len]; omega) ow]; exact q2)) (by first | (exfalso; omega) | ((first | rw [if_pos ow] at e1 | rw [if_neg ow] at e1); (first | rw [if_pos ow] at e2 | rw [if_neg ow] at e2); rw [e1, e2]; rw [show A ++ (mg (ltF cmp) L1 R1 ++ (L2 ++ (R2 ++ B))) = ((A ++ mg (ltF cmp) L1 R1) ++ L2) ++ (R2 ++ B) by simp, piece ((A ++ mg (ltF cmp) L1 R1) ++ L2) R2 _ (by simp [mg_len]; omega) ow]; exact q4)) ([] : Heap)) ⟨AV.wk_refl_any _, AV.wk_refl_any _, AV.wk_refl_any _, AV.wk_refl_any _, AV.wk_refl_any _, trivial⟩) (.g (.f 1 (AV.tup []) (.e (AV.tup []) (by
        try delta Vjc_7
        first | (exfalso; omega) | ((first | rw [if_pos ow] at e1 | rw [if_neg ow] at e1); (first | rw [if_pos ow] at e2 | rw [if_neg ow] at e2); (first | rw [if_pos ow] at e3 | rw [if_neg ow] at e3); rw [e1, e2, e3])))))))) (fun h5 h5' => (.f 1 (AV.tup []) (.e (AV.tup []) (by
        try delta Vjc_7
        first | (exfalso; omega) | ((first | rw [if_pos ow] at e1 | rw [if_neg ow] at e1); (first | rw [if_pos ow] at e2 | rw [if_neg ow] at e2); (first | rw [if_pos ow] at e3 | rw [if_neg ow] at e3); rw [e1, e2, e3])))))))))) (fun h4 h4' => (.no (.no (.g (.no (.f 1 (AV.tup []) (.e (AV.tup []) (by
        try delta Vjc_7
        first | (exfalso; omega) | ((first | rw [if_pos ow] at e1 | rw [if_neg ow] at e1); (first | rw [if_pos ow] at e2 | rw [if_neg ow] at e2); (first | rw [if_pos ow] at e3 | rw [if_neg ow] at e3); rw [e1, e2, e3]))))))))))))))))) (fun h2 h2' => (.no (.no (.g (.no (.r (.two (decide (((mid : Nat) : Int) < (((mid + p) - i : Nat) : Int))) (fun h3 h3' => (.yes (.yes (.g (.two (decide ((((mid + p) - i : Nat) : Int) < ((b : Nat) : Int))) (fun h4 h4' => (.r (.ch 5 ([⟨g, 9, (List.map Card.row (mAt (ltF cmp) mid ((mid + p) - i) b l)), none⟩] : Heap) (ACalls.pre (args' := [(AV.osl 0 g 9 0 n), (AV.int .i64 ((mid : Nat) : Int)), (AV.int .i64 (((mid + p) - i : Nat) : Int)), (AV.int .i64 ((b : Nat) : Int)), (AV.func f xs)]) (ih_at mid ((mid + p) - i) b n g l (by first | (exfalso; omega) | ((first | rw [if_pos ow] at e1 | rw [if_neg ow] at e1); (first | rw [if_pos ow] at e2 | rw [if_neg ow] at e2); rw [e1, e2]; exact hlen2.symm)) (by first | exact hc | exact hxs | omega | (simp; omega)) (by first | exact hc | exact hxs | omega | (simp; omega)) (by first | exact hc | exact hxs | omega | (simp; omega)) (by first | exact hc | exact hxs | omega | (simp; omega)) (by first | exact hc | exact hxs | omega | (simp; omega)) (by first | (exfalso; omega) | ((first | rw [if_pos ow] at e1 | rw [if_neg ow] at e1); (first | rw [if_pos ow] at e2 | rw [if_neg ow] at e2); rw [e1, e2]; rw [show A ++ (mg (ltF cmp) L1 R1 ++ (L2 ++ (R2 ++ B))) = (A ++ mg (ltF cmp) L1 R1) ++ (L2 ++ (R2 ++ B)) by simp, piece (A ++ mg (ltF cmp) L1 R1) L2 _ (by simp [mg_len]; omega) ow]; exact q2)) (by first | (exfalso; omega) | ((first | rw [if_pos ow] at e1 | rw [if_neg ow] at e1); (first | rw [if_pos ow] at e2 | rw [if_neg ow] at e2); rw [e1, e2]; rw [show A ++ (mg (ltF cmp) L1 R1 ++ (L2 ++ (R2 ++ B))) = ((A ++ mg (ltF cmp) L1 R1) ++ L2) ++ (R2 ++ B) by simp, piece ((A ++ mg (ltF cmp) L1 R1) ++ L2) R2 _ (by simp [mg_len]; omega) ow]; exact q4)) ([] : Heap)) ⟨AV.wk_refl_any _, AV.wk_refl_any _, AV.wk_refl_any _, AV.wk_refl_any _, AV.wk_refl_any _, trivial⟩) (.g (.f 1 (AV.tup []) (.e (AV.tup []) (by
        try delta Vjc_7
        first | (exfalso; omega) | ((first | rw [if_pos ow] at e1 | rw [if_neg ow] at e1); (first | rw [if_pos ow] at e2 | rw [if_neg ow] at e2); (first | rw [if_pos ow] at e3 | rw [if_neg ow] at e3); rw [e1, e2, e3])))))))) (fun h4 h4' => (.f 1 (AV.tup []) (.e (AV.tup []) (by
        try delta Vjc_7
        first | (exfalso; omega) | ((first | rw [if_pos ow] at e1 | rw [if_neg ow] at e1); (first | rw [if_pos ow] at e2 | rw [if_neg ow] at e2); (first | rw [if_pos ow] at e3 | rw [if_neg ow] at e3); rw [e1, e2, e3])))))))))) (fun h3 h3' => (.no (.no (.g (.no (.f 1 (AV.tup []) (.e (AV.tup []) (by
        try delta Vjc_7
        first | (exfalso; omega) | ((first | rw [if_pos ow] at e1 | rw [if_neg ow] at e1); (first | rw [if_pos ow] at e2 | rw [if_neg ow] at e2); (first | rw [if_pos ow] at e3 | rw [if_neg ow] at e3); rw [e1, e2, e3])))))))))))))))))))))))))))))))))))))))))))))))))))))))))))
end Go.Proofs.Ytcmfnfkahdconaa.AM

set_option linter.unusedVariables false
set_option linter.unusedSimpArgs false
set_option linter.unusedSectionVars false
namespace Go.Proofs.Ytcmfnfkahdconaa.AM
open Go
section
variable {α : Type} [Inhabited α] {lt : α → α → Bool}
theorem Weak.irr (W : Weak lt) (a : α) : lt a a = false := by
  cases h : lt a a with
  | false => rfl
  | true => have := W.asymm a a h; rw [h] at this; exact this
theorem four {l : List α} {a m b : Nat} (ham : a ≤ m) (hmb : m ≤ b) : l = l.take a ++ ((l.drop a).take (m - a) ++ ((l.drop m).take (b - m) ++ l.drop b)) := by
  have h1 : (l.drop m).take (b - m) ++ l.drop b = l.drop m := by
    have := List.take_append_drop (b - m) (l.drop m)
    rw [List.drop_drop, show m + (b - m) = b by omega] at this
    exact this
  have h2 : (l.drop a).take (m - a) ++ l.drop m = l.drop a := by
    have := List.take_append_drop (m - a) (l.drop a)
    rw [List.drop_drop, show a + (m - a) = m by omega] at this
    exact this
  rw [h1, h2, List.take_append_drop]
theorem part_nth {l : List α} {a k i : Nat} (hi : i < k) : nth ((l.drop a).take k) i = nth l (a + i) := by rw [nth_take hi, nth_drop]
theorem part_len {l : List α} {a k : Nat} (h : a + k ≤ l.length) : ((l.drop a).take k).length = k := by simp; omega
theorem part_mem {l : List α} {a k : Nat} {x : α} (h : a + k ≤ l.length) (hx : x ∈ (l.drop a).take k) : ∃ i, a ≤ i ∧ i < a + k ∧ nth l i = x := by
  obtain ⟨i, hi, rfl⟩ := mem_nth hx
  rw [part_len h] at hi
  exact ⟨a + i, by omega, by omega, (part_nth hi).symm⟩
theorem srt_at {l : List α} {a k : Nat} (W : Weak lt) (h : a + k ≤ l.length) (hs : Srt lt ((l.drop a).take k)) {i j : Nat} (h1 : a ≤ i) (h2 : i ≤ j) (h3 : j < a + k) : lt (nth l j) (nth l i) = false := by
  rcases Nat.lt_or_ge i j with h4 | h4
  · have := pw_nth.1 hs (i - a) (j - a) (by omega) (by rw [part_len h]; omega)
    rw [part_nth (by omega), part_nth (by omega)] at this
    rwa [show a + (i - a) = i by omega, show a + (j - a) = j by omega] at this
  · obtain rfl : i = j := by omega
    exact W.irr _
theorem part_cut {l : List α} {a k s : Nat} (hs : s ≤ k) : (l.drop a).take k = (l.drop a).take s ++ (l.drop (a + s)).take (k - s) := by
  have := List.take_append_drop s ((l.drop a).take k)
  rw [List.take_take, Nat.min_eq_left hs, List.drop_take, List.drop_drop] at this
  exact this.symm
theorem srt_cut {l : List α} {a k s : Nat} (hs : s ≤ k) (h : Srt lt ((l.drop a).take k)) : Srt lt ((l.drop a).take s) ∧ Srt lt ((l.drop (a + s)).take (k - s)) := by
  rw [part_cut hs] at h
  have := List.pairwise_append.1 h
  exact ⟨this.1, this.2.1⟩
theorem le_lt_le (W : Weak lt) {x y u v : α} (h1 : lt u y = false) (h2 : lt u v = true) (h3 : lt x v = false) : lt y x = true := by
  cases h : lt y x with
  | true => rfl
  | false =>
    have h4 := W.trans v x y h3 h
    have h5 := W.trans v y u h4 h1
    rw [h2] at h5; simp at h5
theorem part_law (W : Weak lt) {l : List α} {a p b s e : Nat} (ham : a ≤ p) (hpb : p ≤ b) (hbl : b ≤ l.length) (h7 : Srt lt ((l.drop a).take (p - a))) (h8 : Srt lt ((l.drop p).take (b - p))) (has : a ≤ s) (hsp : s ≤ p) (hpe : p ≤ e) (heb : e ≤ b)
    (k1 : s < p → p < e → lt (nth l (e - 1)) (nth l s) = true) (k2 : a < s → e < b → lt (nth l e) (nth l (s - 1)) = false) :
    mAt lt a p b l = l.take a ++ (mg lt ((l.drop a).take (s - a)) ((l.drop p).take (e - p)) ++ (mg lt ((l.drop s).take (p - s)) ((l.drop e).take (b - e)) ++ l.drop b)) := by
  unfold mAt
  have c1 := part_cut (l := l) (a := a) (k := p - a) (s := s - a) (by omega)
  have c2 := part_cut (l := l) (a := p) (k := b - p) (s := e - p) (by omega)
  rw [show a + (s - a) = s by omega, show p - a - (s - a) = p - s by omega] at c1
  rw [show p + (e - p) = e by omega, show b - p - (e - p) = b - e by omega] at c2
  rw [c1, c2, mg_split lt _ _ _ (Nat.le_refl _) (fun x hx y hy => ?_) (fun x hx y hy => ?_), List.append_assoc]
  · obtain ⟨i, i1, i2, rfl⟩ := part_mem (by omega) hx
    obtain ⟨j, j1, j2, rfl⟩ := part_mem (by omega) hy
    exact le_lt_le W (srt_at W (by omega) h8 (i := j) (j := e - 1) (by omega) (by omega) (by omega)) (k1 (by omega) (by omega)) (srt_at W (by omega) h7 (i := s) (j := i) (by omega) (by omega) (by omega))
  · obtain ⟨i, i1, i2, rfl⟩ := part_mem (by omega) hx
    obtain ⟨j, j1, j2, rfl⟩ := part_mem (by omega) hy
    have q1 := srt_at W (by omega) h7 (i := i) (j := s - 1) (by omega) (by omega) (by omega)
    have q2 := srt_at W (by omega) h8 (i := e) (j := j) (by omega) (by omega) (by omega)
    exact W.trans _ _ _ (W.trans _ _ _ q1 (k2 (by omega) (by omega))) q2
theorem mg_one_l {x : α} {R : List α} (h : ∀ y, R.head? = some y → lt y x = false) : mg lt [x] R = x :: R := by
  cases R with
  | nil => rw [mg_nil_r]
  | cons y R => rw [mg_cons, if_neg (by rw [h y rfl]; simp), mg_nil_l]
theorem mg_one_r {y : α} {L : List α} (h : ∀ x, L.head? = some x → lt y x = true) : mg lt L [y] = y :: L := by
  cases L with
  | nil => rw [mg_nil_l]
  | cons x L => rw [mg_cons, if_pos (h x rfl), mg_nil_r]
theorem one_part {l : List α} {a : Nat} (h : a < l.length) : (l.drop a).take 1 = [nth l a] := by rw [drop_nth h]; rfl
theorem head_part {l : List α} {a k : Nat} {x : α} (h : ((l.drop a).take k).head? = some x) (hl : a + k ≤ l.length) : 0 < k ∧ x = nth l a := by
  cases k with
  | zero => simp at h
  | succ k =>
    rw [drop_nth (by omega)] at h
    simp at h
    exact ⟨by omega, h.symm⟩
theorem mg_insG (W : Weak lt) {S T : List α} (hS : Srt lt S) (hT : Srt lt T) (y : α) : mg lt S (insG lt T y) = insG lt (mg lt S T) y := by
  have fS : S = S.filter (fun z => !lt y z) ++ S.filter (fun z => lt y z) := by
    clear hT
    induction S with
    | nil => rfl
    | cons z S ih =>
      have h := List.pairwise_cons.1 hS
      have ih' := ih h.2
      by_cases c : lt y z = true
      · have hall : ∀ w ∈ S, lt y w = true := fun w hw => le_lt_le W (W.irr y) c (h.1 w hw)
        have e1 : S.filter (fun z => !lt y z) = [] := List.filter_eq_nil_iff.2 fun w hw => by simp [hall w hw]
        have e2 : S.filter (fun z => lt y z) = S := List.filter_eq_self.2 fun w hw => hall w hw
        simp [List.filter_cons, c, e1, e2]
      · simp only [Bool.not_eq_true] at c
        conv => lhs; rw [ih']
        simp [List.filter_cons, c]
  have fT : T = T.filter (fun z => !lt y z) ++ T.filter (fun z => lt y z) := by
    clear hS fS
    induction T with
    | nil => rfl
    | cons z T ih =>
      have h := List.pairwise_cons.1 hT
      have ih' := ih h.2
      by_cases c : lt y z = true
      · have hall : ∀ w ∈ T, lt y w = true := fun w hw => le_lt_le W (W.irr y) c (h.1 w hw)
        have e1 : T.filter (fun z => !lt y z) = [] := List.filter_eq_nil_iff.2 fun w hw => by simp [hall w hw]
        have e2 : T.filter (fun z => lt y z) = T := List.filter_eq_self.2 fun w hw => hall w hw
        simp [List.filter_cons, c, e1, e2]
      · simp only [Bool.not_eq_true] at c
        conv => lhs; rw [ih']
        simp [List.filter_cons, c]
  have m1 : ∀ z ∈ S.filter (fun z => !lt y z), lt y z = false := fun z hz => by simpa using (List.mem_filter.1 hz).2
  have m2 : ∀ z ∈ S.filter (fun z => lt y z), lt y z = true := fun z hz => (List.mem_filter.1 hz).2
  have m3 : ∀ z ∈ T.filter (fun z => !lt y z), lt y z = false := fun z hz => by simpa using (List.mem_filter.1 hz).2
  have m4 : ∀ z ∈ T.filter (fun z => lt y z), lt y z = true := fun z hz => (List.mem_filter.1 hz).2
  rw [insG_split W hT y]
  generalize hS1 : S.filter (fun z => !lt y z) = S1 at fS m1
  generalize hS2 : S.filter (fun z => lt y z) = S2 at fS m2
  generalize hT1 : T.filter (fun z => !lt y z) = T1 at fT m3
  generalize hT2 : T.filter (fun z => lt y z) = T2 at fT m4
  have cross : ∀ x ∈ S2, ∀ z ∈ T1, lt z x = true := fun x hx z hz => by
    cases h : lt z x with
    | true => rfl
    | false => have := W.trans x z y h (m3 z hz); rw [m2 x hx] at this; simp at this
  have cross2 : ∀ x ∈ S1, ∀ z ∈ T2, lt z x = false := fun x hx z hz => by
    have h1 := W.asymm _ _ (m4 z hz)
    exact W.trans x y z (m1 x hx) h1
  have e1 : mg lt S T = mg lt S1 T1 ++ mg lt S2 T2 := by
    rw [fS, fT]; exact mg_split lt _ _ _ (Nat.le_refl _) cross cross2
  have e2 : mg lt S (T1 ++ y :: T2) = mg lt S1 T1 ++ mg lt S2 (y :: T2) := by
    rw [fS]; exact mg_split lt _ _ _ (Nat.le_refl _) cross fun x hx z hz => by
      rcases List.mem_cons.1 hz with rfl | hz
      · exact m1 x hx
      · exact cross2 x hx z hz
  have e3 : mg lt S2 (y :: T2) = y :: mg lt S2 T2 := by
    cases S2 with
    | nil => rw [mg_nil_l, mg_nil_l]
    | cons x S2 => rw [mg_cons, if_pos (m2 x (by simp))]
  have p1 : ∀ z ∈ mg lt S1 T1, lt y z = false := fun z hz => by
    have := (mg_perm lt _ S1 T1 (Nat.le_refl _)).mem_iff.1 hz
    rcases List.mem_append.1 this with h | h
    · exact m1 z h
    · exact m3 z h
  have p2 : ∀ z ∈ mg lt S2 T2, lt y z = true := fun z hz => by
    have := (mg_perm lt _ S2 T2 (Nat.le_refl _)).mem_iff.1 hz
    rcases List.mem_append.1 this with h | h
    · exact m2 z h
    · exact m4 z h
  have ins : ∀ (P Q : List α), (∀ z ∈ P, lt y z = false) → (∀ z ∈ Q, lt y z = true) → insG lt (P ++ Q) y = P ++ y :: Q := fun P Q hP hQ => by
    have hpos : posG lt y (P ++ Q) (P ++ Q).length = P.length := by
      obtain ⟨s1, s2⟩ := posG_spec lt y (P ++ Q) (P ++ Q).length
      have s3 := posG_le lt y (P ++ Q) (P ++ Q).length
      have hlen : (P ++ Q).length = P.length + Q.length := List.length_append
      rcases Nat.lt_trichotomy (posG lt y (P ++ Q) (P ++ Q).length) P.length with h | h | h
      · have := s1 _ (Nat.le_refl _) (by omega)
        rw [nth_appM, if_pos h] at this
        rw [hP _ (nth_mem h)] at this; simp at this
      · exact h
      · have := s2 (by omega)
        rw [nth_appM, if_neg (by omega)] at this
        rw [hQ _ (nth_mem (by omega))] at this; simp at this
    unfold insG
    rw [hpos]
    simp
  rw [e2, e3, e1, ins _ _ p1 p2]
theorem sortG_app (W : Weak lt) (Y : List α) : ∀ (X : List α), sortG lt (X ++ Y) = mg lt (sortG lt X) (sortG lt Y) := by
  intro X
  have key : ∀ (Z T : List α), Srt lt T → mg lt (sortG lt X) (Z.foldl (insG lt) T) = Z.foldl (insG lt) (mg lt (sortG lt X) T) := by
    intro Z
    induction Z with
    | nil => intro T _; rfl
    | cons z Z ih =>
      intro T hT
      simp only [List.foldl_cons]
      rw [ih _ (insG_sorted W hT z), mg_insG W (sortG_sorted W X) hT]
  have := key Y [] List.Pairwise.nil
  rw [mg_nil_r] at this
  have e : sortG lt (X ++ Y) = Y.foldl (insG lt) (sortG lt X) := by unfold sortG; rw [List.foldl_append]
  rw [e, ← this]
  rfl
end
end Go.Proofs.Ytcmfnfkahdconaa.AM

set_option maxRecDepth 100000
set_option linter.unusedVariables false
set_option linter.unusedSimpArgs false
namespace Go.Proofs.Ytcmfnfkahdconaa.AM
open Go Go.Proofs.Ytcmfnfkahdconaa
attribute [local irreducible] ACalls funT codeT codeQ LoopTo
attribute [local irreducible] Tp.card Tp.cardT Tp.next Tp.step Tp.cards Tp.cardsT Tp.key Tp.keyT sink insSort sortK insK posK beforeK sortP cmpK
attribute [local irreducible] swapL rotS rotL bsr mgL mg shU shD
theorem sC_all (cmp : Card → Card → Int) (f : Nat) (xs : List AV) (hc : ∀ (x y : Card) (H : Heap), ACalls Try.prog f ([AV.agg (Card.row x), AV.agg (Card.row y)] ++ xs) H (AV.int .i64 (cmp x y), H)) (hxs : AV.bdds 1 xs = true) (W : Weak (ltF cmp)) (Nz : Nat) : ∀ (a p b n g : Nat) (l : List Card), n = l.length → n < 1048576 → a < p → p < b → b ≤ n → b - a < Nz →
    Srt (ltF cmp) ((l.drop a).take (p - a)) → Srt (ltF cmp) ((l.drop p).take (b - p)) → ACalls Try.prog 157 [(AV.osl 0 g 9 0 n), (AV.int .i64 ((a : Nat) : Int)), (AV.int .i64 ((p : Nat) : Int)), (AV.int .i64 ((b : Nat) : Int)), (AV.func f xs)] ([⟨g, 9, (List.map Card.row l), none⟩] : Heap) (.tup [], ([⟨g, 9, (List.map Card.row (mAt (ltF cmp) a p b l)), none⟩] : Heap)) := by
  induction Nz with
  | zero => intro a p b n g l _ _ _ _ _ h; omega
  | succ Nz ih =>
    intro a p b n g l hn hnb hap hpb hbn hN h7 h8
    by_cases c1 : p = a + 1
    · obtain ⟨s1, s2, s3, s4⟩ := bsr_spec (fun c => decide (cmp (nth l c) (nth l a) < 0)) (b - p) p b (Nat.le_refl _) ow
      generalize hs : bsr (fun c => decide (cmp (nth l c) (nth l a) < 0)) (b - p) p b = s at s1 s2 s3 s4
      have hlaw := part_law W (l := l) (a := a) (p := p) (b := b) (s := a) (e := s) ow ow ow h7 h8 ow ow s1 s2 (fun _ h => s3 h) (fun h => by omega)
      have hx : (l.drop a).take (p - a) = [nth l a] := by rw [show p - a = 1 by omega]; exact one_part ow
      rw [Nat.sub_self, List.take_zero, mg_nil_l, hx, mg_one_l (fun y hy => by
        obtain ⟨q1, q2⟩ := head_part hy ow
        rw [q2]; exact s4 ow)] at hlaw
      rw [hlaw]
      have hl := four (l := l) (a := a) (m := p) (b := b) ow ow
      rw [hx, part_cut (l := l) (a := p) (k := b - p) (s := s - p) ow, show p + (s - p) = s by omega, show b - p - (s - p) = b - s by omega, List.append_assoc] at hl
      exact sCA_spec cmp f xs (l.take a) ((l.drop p).take (s - p)) ((l.drop s).take (b - s)) (l.drop b) (nth l a) a p b n g s l hc hxs hn hnb hl (by simp; omega) c1 ow hbn (by rw [part_len ow]; omega) s2 hs.symm
    by_cases c2 : b = p + 1
    · obtain ⟨s1, s2, s3, s4⟩ := bsr_spec (fun c => !decide (cmp (nth l p) (nth l c) < 0)) (p - a) a p (Nat.le_refl _) ow
      generalize hs : bsr (fun c => !decide (cmp (nth l p) (nth l c) < 0)) (p - a) a p = s at s1 s2 s3 s4
      have hlaw := part_law W (l := l) (a := a) (p := p) (b := b) (s := s) (e := p) ow ow ow h7 h8 s1 s2 ow ow (fun _ h => by omega) (fun h _ => by have := s3 h; simp only [Bool.not_eq_true'] at this; exact this)
      have hx : (l.drop p).take (b - p) = [nth l p] := by rw [show b - p = 1 by omega]; exact one_part ow
      rw [Nat.sub_self, List.take_zero, mg_nil_r, hx, mg_one_r (fun y hy => by
        obtain ⟨q1, q2⟩ := head_part hy ow
        rw [q2]; simpa [ltF] using s4 ow)] at hlaw
      rw [hlaw]
      have hl := four (l := l) (a := a) (m := p) (b := b) ow ow
      rw [hx, part_cut (l := l) (a := a) (k := p - a) (s := s - a) ow, show a + (s - a) = s by omega, show p - a - (s - a) = p - s by omega, List.append_assoc] at hl
      exact sCB_spec cmp f xs (l.take a) ((l.drop a).take (s - a)) ((l.drop s).take (p - s)) (l.drop b) (nth l p) a p b n g s l hc hxs hn hnb hl (by simp; omega) (by rw [part_len ow]; omega) (by rw [part_len ow]; omega) c1 c2 hbn hs.symm
    have ih_at : ∀ (a p b n g : Nat) (l : List Card), n = l.length → n < 1048576 → a < p → p < b → b ≤ n → b - a < Nz → Srt (ltF cmp) ((l.drop a).take (p - a)) → Srt (ltF cmp) ((l.drop p).take (b - p)) → ∀ H : Heap, ACalls Try.prog 157 [(AV.osl 0 g 9 0 n), (AV.int .i64 ((a : Nat) : Int)), (AV.int .i64 ((p : Nat) : Int)), (AV.int .i64 ((b : Nat) : Int)), (AV.func f xs)] (([⟨g, 9, (List.map Card.row l), none⟩] : Heap) ++ H) (.tup [], ([⟨g, 9, (List.map Card.row (mAt (ltF cmp) a p b l)), none⟩] : Heap) ++ H) :=
      fun a p b n g l q1 q2 q3 q4 q5 q6 q7 q8 H => (ih a p b n g l q1 q2 q3 q4 q5 q6 q7 q8).ext (by simp [AV.bdds, AV.bdd, hxs]) kr ob ob kr H
    obtain ⟨mid, hmid⟩ : ∃ mid, mid = (a + b) / 2 := ⟨_, rfl⟩
    have go : ∀ lo hi, lo ≤ hi → (∀ s, lo ≤ s → s ≤ hi → a ≤ s ∧ s ≤ p ∧ p ≤ mid + p - s ∧ mid + p - s ≤ b ∧ (s < p → p < mid + p - s → s < hi) ∧ (a < s → mid + p - s < b → lo < s)) →
        (∀ s, s = bsr (fun c => !decide (cmp (nth l (mid + p - 1 - c)) (nth l c) < 0)) (hi - lo) lo hi → lo ≤ s → s ≤ hi → ∀ (L1 L2 R1 R2 : List Card), l = l.take a ++ (L1 ++ (L2 ++ (R1 ++ (R2 ++ l.drop b)))) → s = a + L1.length → p = s + L2.length → mid = s + R1.length → b = p + R1.length + R2.length → Srt (ltF cmp) L1 → Srt (ltF cmp) L2 → Srt (ltF cmp) R1 → Srt (ltF cmp) R2 →
          ACalls Try.prog 157 [(AV.osl 0 g 9 0 n), (AV.int .i64 ((a : Nat) : Int)), (AV.int .i64 ((p : Nat) : Int)), (AV.int .i64 ((b : Nat) : Int)), (AV.func f xs)] ([⟨g, 9, (List.map Card.row l), none⟩] : Heap) (.tup [], ([⟨g, 9, (List.map Card.row (l.take a ++ (mg (ltF cmp) L1 R1 ++ (mg (ltF cmp) L2 R2 ++ l.drop b)))), none⟩] : Heap))) →
        ACalls Try.prog 157 [(AV.osl 0 g 9 0 n), (AV.int .i64 ((a : Nat) : Int)), (AV.int .i64 ((p : Nat) : Int)), (AV.int .i64 ((b : Nat) : Int)), (AV.func f xs)] ([⟨g, 9, (List.map Card.row l), none⟩] : Heap) (.tup [], ([⟨g, 9, (List.map Card.row (mAt (ltF cmp) a p b l)), none⟩] : Heap)) := by
      intro lo hi hlh hb walk
      obtain ⟨s1, s2, s3, s4⟩ := bsr_spec (fun c => !decide (cmp (nth l (mid + p - 1 - c)) (nth l c) < 0)) (hi - lo) lo hi (Nat.le_refl _) hlh
      generalize hs : bsr (fun c => !decide (cmp (nth l (mid + p - 1 - c)) (nth l c) < 0)) (hi - lo) lo hi = s at s1 s2 s3 s4
      obtain ⟨b1, b2, b3, b4, b5, b6⟩ := hb s s1 s2
      have hlaw := part_law W (l := l) (a := a) (p := p) (b := b) (s := s) (e := mid + p - s) ow ow ow h7 h8 b1 b2 b3 b4 (fun h1 h2 => by
          have := s4 (b5 h1 h2)
          simp only [Bool.not_eq_false'] at this
          rwa [show mid + p - 1 - s = mid + p - s - 1 by omega] at this) (fun h1 h2 => by
          have := s3 (b6 h1 h2)
          simp only [Bool.not_eq_true'] at this
          rwa [show mid + p - 1 - (s - 1) = mid + p - s by omega] at this)
      rw [hlaw]
      have hl := four (l := l) (a := a) (m := p) (b := b) ow ow
      rw [part_cut (l := l) (a := a) (k := p - a) (s := s - a) ow, show a + (s - a) = s by omega, show p - a - (s - a) = p - s by omega,
        part_cut (l := l) (a := p) (k := b - p) (s := mid + p - s - p) ow, show p + (mid + p - s - p) = mid + p - s by omega, show b - p - (mid + p - s - p) = b - (mid + p - s) by omega, List.append_assoc, List.append_assoc] at hl
      have q1 := srt_cut (l := l) (a := a) (k := p - a) (s := s - a) ow h7
      have q2 := srt_cut (l := l) (a := p) (k := b - p) (s := mid + p - s - p) ow h8
      rw [show a + (s - a) = s by omega, show p - a - (s - a) = p - s by omega] at q1
      rw [show p + (mid + p - s - p) = mid + p - s by omega, show b - p - (mid + p - s - p) = b - (mid + p - s) by omega] at q2
      exact walk s hs.symm s1 s2 _ _ _ _ hl (by rw [part_len ow]; omega) (by rw [part_len ow]; omega) (by rw [part_len ow]; omega) (by rw [part_len ow, part_len ow]; omega) q1.1 q1.2 q2.1 q2.2
    have hA : a = (l.take a).length := by simp; omega
    by_cases hgt : mid < p
    · refine go (mid + p - b) mid ow (fun s h1 h2 => ⟨by omega, by omega, by omega, by omega, fun _ _ => by omega, fun _ _ => by omega⟩) fun s hs h1 h2 L1 L2 R1 R2 hl e1 e2 e3 e4 q1 q2 q3 q4 => ?_
      exact sCC_spec cmp f xs (l.take a) L1 L2 R1 R2 (l.drop b) a p b n g s mid Nz l hc hxs hn hnb ih_at hl hA e1 e2 e3 e4 hbn hap hpb c1 c2 hmid ow hgt hs h1 h2 q1 q2 q3 q4
    · refine go a p ow (fun s h1 h2 => ⟨by omega, by omega, by omega, by omega, fun _ _ => by omega, fun _ _ => by omega⟩) fun s hs h1 h2 L1 L2 R1 R2 hl e1 e2 e3 e4 q1 q2 q3 q4 => ?_
      exact sCD_spec cmp f xs (l.take a) L1 L2 R1 R2 (l.drop b) a p b n g s mid Nz l hc hxs hn hnb ih_at hl hA e1 e2 e3 e4 hbn hap hpb c1 c2 hmid ow ow hs h1 h2 q1 q2 q3 q4
end Go.Proofs.Ytcmfnfkahdconaa.AM

set_option linter.unusedVariables false
set_option linter.unusedSimpArgs false
set_option linter.unusedSectionVars false
namespace Go.Proofs.Ytcmfnfkahdconaa.AM
open Go
section
variable {α : Type} [Inhabited α]
theorem sink_shift (cmp : α → α → Int) (X : List α) (j : Nat) : ∀ (l : List α), j < l.length → sink cmp X.length (X.length + j) (X ++ l) = X ++ sink cmp 0 j l := by
  induction j with
  | zero =>
    intro l hl
    have h1 : sink cmp X.length X.length (X ++ l) = X ++ l := by
      cases h : X.length with
      | zero => simp only [sink]
      | succ q => simp only [sink]; rw [if_neg]; simp
    simpa [sink] using h1
  | succ j ih =>
    intro l hl
    have e1 : nth (X ++ l) (X.length + j + 1) = nth l (j + 1) := by rw [nth_appM, if_neg (by omega)]; congr 1; omega
    have e2 : nth (X ++ l) (X.length + j) = nth l j := by rw [nth_appM, if_neg (by omega)]; congr 1; omega
    have L : sink cmp X.length (X.length + (j + 1)) (X ++ l) = if decide (cmp (nth (X ++ l) (X.length + j + 1)) (nth (X ++ l) (X.length + j)) < 0) = true then sink cmp X.length (X.length + j) (((X ++ l).set (X.length + j + 1) (nth (X ++ l) (X.length + j))).set (X.length + j) (nth (X ++ l) (X.length + j + 1))) else X ++ l := by
      rw [← Nat.add_assoc]; simp only [sink]; rw [if_pos (by simp; omega)]
    have R : sink cmp 0 (j + 1) l = if decide (cmp (nth l (j + 1)) (nth l j) < 0) = true then sink cmp 0 j ((l.set (j + 1) (nth l j)).set j (nth l (j + 1))) else l := by
      simp only [sink]; rw [if_pos (by simp)]
    rw [L, R, e1, e2]
    split
    · have e3 : ((X ++ l).set (X.length + j + 1) (nth l j)).set (X.length + j) (nth l (j + 1)) = X ++ (l.set (j + 1) (nth l j)).set j (nth l (j + 1)) := by
        rw [List.set_append_right _ _ (by omega), List.set_append_right _ _ (by omega)]
        congr 2
        · congr 1; omega
        · omega
      rw [e3]
      exact ih _ (by simpa using (by omega : j < l.length))
    · rfl
theorem insSort_shift (cmp : α → α → Int) (X : List α) (k : Nat) : ∀ (i : Nat) (l : List α), i + k ≤ l.length → insSort cmp X.length k (X.length + i) (X ++ l) = X ++ insSort cmp 0 k i l := by
  induction k with
  | zero => intro i l _; simp only [insSort]
  | succ k ih =>
    intro i l h
    simp only [insSort]
    rw [sink_shift cmp X i l (by omega)]
    exact ih (i + 1) _ (by rw [sink_len]; omega)
theorem insSort_mid (cmp : α → α → Int) (Y : List α) (rest : List α) : ∀ (S : List α), insSort cmp 0 rest.length S.length (S ++ (rest ++ Y)) = rest.foldl (insG fun a b => decide (cmp a b < 0)) S ++ Y := by
  induction rest with
  | nil => intro S; simp only [List.length_nil, insSort, List.nil_append, List.foldl_nil]
  | cons x rest ih =>
    intro S
    simp only [List.length_cons, insSort, List.foldl_cons]
    have h1 := sink_ins cmp S.length (S ++ (x :: rest ++ Y)) (by simp)
    have e1 : (S ++ (x :: rest ++ Y)).take S.length = S := by rw [List.take_append_of_le_length (Nat.le_refl _), List.take_length]
    have e2 : nth (S ++ (x :: rest ++ Y)) S.length = x := by rw [nth_appM, if_neg (by omega), Nat.sub_self]; rfl
    have e3 : (S ++ (x :: rest ++ Y)).drop (S.length + 1) = rest ++ Y := by
      rw [← List.drop_drop, List.drop_append_of_le_length (Nat.le_refl _), List.drop_length]; rfl
    rw [e1, e2, e3] at h1
    rw [h1]
    have := ih (insG (fun a b => decide (cmp a b < 0)) S x)
    rw [insG_len] at this
    exact this
theorem insSort_part (cmp : α → α → Int) (X M Y : List α) {a b : Nat} (ha : a = X.length) (hb : b = a + M.length) : insSort cmp a (b - (a + 1)) (a + 1) (X ++ (M ++ Y)) = X ++ (sortG (fun a b => decide (cmp a b < 0)) M ++ Y) := by
  subst ha hb
  cases M with
  | nil => rw [show X.length + ([] : List α).length - (X.length + 1) = 0 by simp]; simp only [insSort]; rfl
  | cons x M =>
    rw [show X.length + (x :: M).length - (X.length + 1) = M.length by simp; omega, insSort_shift cmp X M.length 1 (x :: M ++ Y) (by simp; omega)]
    have := insSort_mid cmp Y M [x]
    simp only [List.length_singleton, List.singleton_append] at this
    rw [show x :: M ++ Y = x :: (M ++ Y) from rfl, this]
    have e : sortG (fun a b => decide (cmp a b < 0)) (x :: M) = M.foldl (insG fun a b => decide (cmp a b < 0)) [x] := by
      unfold sortG
      rw [List.foldl_cons]
      congr 1
    rw [e]
def blk (lt : α → α → Bool) (bs : Nat) : Nat → List α → List α
  | 0, l => l
  | K + 1, l => sortG lt (l.take bs) ++ blk lt bs K (l.drop bs)
theorem sortG_len (lt : α → α → Bool) (l : List α) : (sortG lt l).length = l.length := (sortG_perm lt l).length_eq
theorem blk_nil (lt : α → α → Bool) (bs K : Nat) : blk lt bs K ([] : List α) = [] := by
  induction K with
  | zero => rfl
  | succ K ih => simp only [blk, List.take_nil, List.drop_nil]; rw [ih]; rfl
theorem blk_len (lt : α → α → Bool) (bs K : Nat) : ∀ (l : List α), (blk lt bs K l).length = l.length := by
  induction K with
  | zero => intro l; rfl
  | succ K ih => intro l; simp only [blk, List.length_append]; rw [sortG_len, ih, List.length_take, List.length_drop]; omega
theorem blk_next (lt : α → α → Bool) (bs K : Nat) : ∀ (l : List α), K * bs ≤ l.length → ∃ X, X.length = K * bs ∧ blk lt bs K l = X ++ l.drop (K * bs) ∧ ∀ (D : Nat), blk lt bs (K + D) l = X ++ blk lt bs D (l.drop (K * bs)) := by
  induction K with
  | zero => intro l h; exact ⟨[], by simp, by simp [blk], fun D => by simp⟩
  | succ K ih =>
    intro l h
    rw [Nat.succ_mul] at h
    obtain ⟨X, h1, h2, h3⟩ := ih (l.drop bs) (by simp; omega)
    refine ⟨sortG lt (l.take bs) ++ X, by rw [List.length_append, sortG_len, h1, Nat.succ_mul]; simp; omega, ?_, fun D => ?_⟩
    · simp only [blk]
      rw [h2, List.drop_drop, List.append_assoc, Nat.succ_mul, Nat.add_comm bs]
    · rw [show K + 1 + D = (K + D) + 1 by omega]
      simp only [blk]
      rw [h3, List.drop_drop, List.append_assoc, Nat.succ_mul, Nat.add_comm bs]
theorem blk_more (lt : α → α → Bool) (bs D : Nat) (K : Nat) : ∀ (l : List α), l.length ≤ K * bs → blk lt bs (K + D) l = blk lt bs K l := by
  induction K with
  | zero => intro l h; obtain rfl : l = [] := List.eq_nil_of_length_eq_zero (by omega); rw [blk_nil, blk_nil]
  | succ K ih =>
    intro l h
    rw [Nat.succ_mul] at h
    rw [show K + 1 + D = (K + D) + 1 by omega]
    simp only [blk]
    rw [ih _ (by simp; omega)]
def allB (lt : α → α → Bool) (bs : Nat) (l : List α) : List α := blk lt bs (l.length + 1) l
theorem allB_of (lt : α → α → Bool) {bs K : Nat} (hb : 0 < bs) {l : List α} (h : l.length ≤ K * bs) : blk lt bs K l = allB lt bs l := by
  unfold allB
  have h2 : l.length ≤ (l.length + 1) * bs := Nat.le_trans (Nat.le_succ _) (Nat.le_mul_of_pos_right _ hb)
  rcases Nat.le_total K (l.length + 1) with h1 | h1
  · obtain ⟨D, hD⟩ := Nat.le.dest h1
    rw [← hD, blk_more lt bs D K l h]
  · obtain ⟨D, hD⟩ := Nat.le.dest h1
    rw [← hD, blk_more lt bs D _ l h2]
theorem allB_one (lt : α → α → Bool) {bs : Nat} {l : List α} (h : l.length ≤ bs) (hb : 0 < bs) : allB lt bs l = sortG lt l := by
  rw [← allB_of lt (K := 1) hb (by omega)]
  simp only [blk]
  rw [List.take_of_length_le h, List.drop_of_length_le h, List.append_nil]
theorem allB_step (lt : α → α → Bool) {bs : Nat} (hb : 0 < bs) (l : List α) : allB lt bs l = sortG lt (l.take bs) ++ allB lt bs (l.drop bs) := by
  have h2 : ∀ q : Nat, q ≤ (q + 1) * bs := fun q => Nat.le_trans (Nat.le_succ _) (Nat.le_mul_of_pos_right _ hb)
  rw [← allB_of lt (K := (l.length + 1) + 1) hb (Nat.le_trans (h2 _) (Nat.mul_le_mul_right _ (Nat.le_succ _)))]
  have e : blk lt bs (l.length + 1 + 1) l = sortG lt (l.take bs) ++ blk lt bs (l.length + 1) (l.drop bs) := rfl
  rw [e, allB_of lt hb (Nat.le_trans (by simp) (h2 l.length))]
theorem allB_len (lt : α → α → Bool) (bs : Nat) (l : List α) : (allB lt bs l).length = l.length := blk_len lt bs _ l
def mix (lt : α → α → Bool) (bs : Nat) : Nat → List α → List α
  | 0, l => allB lt bs l
  | J + 1, l => sortG lt (l.take (2 * bs)) ++ mix lt bs J (l.drop (2 * bs))
theorem mix_next (lt : α → α → Bool) {bs : Nat} (hb : 0 < bs) (J : Nat) : ∀ (l : List α), J * (2 * bs) ≤ l.length → ∃ X, X.length = J * (2 * bs) ∧ mix lt bs J l = X ++ allB lt bs (l.drop (J * (2 * bs))) ∧ mix lt bs (J + 1) l = X ++ (sortG lt ((l.drop (J * (2 * bs))).take (2 * bs)) ++ allB lt bs ((l.drop (J * (2 * bs))).drop (2 * bs))) ∧ ∀ D, blk lt (2 * bs) (J + D) l = X ++ blk lt (2 * bs) D (l.drop (J * (2 * bs))) := by
  induction J with
  | zero => intro l h; exact ⟨[], by simp, by simp [mix], by simp [mix], fun D => by simp⟩
  | succ J ih =>
    intro l h
    rw [Nat.succ_mul] at h
    obtain ⟨X, h1, h2, h3, h4⟩ := ih (l.drop (2 * bs)) (by simp; omega)
    have hmul : (J + 1) * (2 * bs) = J * (2 * bs) + 2 * bs := Nat.succ_mul _ _
    have hd0 : (l.drop (2 * bs)).drop (J * (2 * bs)) = l.drop ((J + 1) * (2 * bs)) := by rw [List.drop_drop, hmul, Nat.add_comm]
    refine ⟨sortG lt (l.take (2 * bs)) ++ X, by rw [List.length_append, sortG_len, h1, hmul, List.length_take]; omega, ?_, ?_, fun D => ?_⟩
    · rw [mix, h2, hd0, List.append_assoc]
    · rw [mix, h3, hd0, List.append_assoc]
    · rw [show J + 1 + D = (J + D) + 1 by omega]
      simp only [blk]
      rw [h4, hd0, List.append_assoc]
theorem mix_len (lt : α → α → Bool) (bs J : Nat) : ∀ (l : List α), (mix lt bs J l).length = l.length := by
  induction J with
  | zero => intro l; exact allB_len lt bs l
  | succ J ih => intro l; simp only [mix, List.length_append]; rw [sortG_len, ih, List.length_take, List.length_drop]; omega
variable {lt : α → α → Bool}
theorem mix_merge (W : Weak lt) {bs J : Nat} (hb : 0 < bs) {l : List α} {a b : Nat} (ha : a = J * (2 * bs)) (hbe : b = a + 2 * bs) (hn : b ≤ l.length) :
    mAt lt a (a + bs) b (mix lt bs J l) = mix lt bs (J + 1) l ∧ Srt lt (((mix lt bs J l).drop a).take (a + bs - a)) ∧ Srt lt (((mix lt bs J l).drop (a + bs)).take (b - (a + bs))) := by
  obtain ⟨X, h1, h2, h3, _⟩ := mix_next lt hb J l (by omega)
  rw [← ha] at h1 h2 h3
  rw [h2, h3, allB_step lt hb, allB_step lt hb ((l.drop a).drop bs)]
  have l1 : (sortG lt ((l.drop a).take bs)).length = bs := by rw [sortG_len]; simp; omega
  have l2 : (sortG lt (((l.drop a).drop bs).take bs)).length = bs := by rw [sortG_len]; simp; omega
  refine ⟨?_, ?_, ?_⟩
  · rw [mAt_parts lt X _ _ _ h1.symm (by omega) (by omega), ← sortG_app W]
    have e : (l.drop a).take bs ++ ((l.drop a).drop bs).take bs = (l.drop a).take (2 * bs) := by
      rw [show 2 * bs = bs + bs by omega, List.take_add]
    rw [e, List.drop_drop, show bs + bs = 2 * bs by omega]
  · rw [piece X _ _ h1.symm (by omega)]; exact sortG_sorted W _
  · have := piece (X ++ sortG lt ((l.drop a).take bs)) (sortG lt (((l.drop a).drop bs).take bs)) (allB lt bs (((l.drop a).drop bs).drop bs)) (a := a + bs) (k := b - (a + bs)) (by simp [l1, h1]) (by omega)
    rw [List.append_assoc] at this
    rw [this]; exact sortG_sorted W _
theorem mix_last (W : Weak lt) {bs J : Nat} (hb : 0 < bs) {l : List α} {a n : Nat} (ha : a = J * (2 * bs)) (hn : n = l.length) (han : a ≤ n) (hlt : n < a + 2 * bs) :
    (a + bs < n → mAt lt a (a + bs) n (mix lt bs J l) = allB lt (2 * bs) l ∧ Srt lt (((mix lt bs J l).drop a).take (a + bs - a)) ∧ Srt lt (((mix lt bs J l).drop (a + bs)).take (n - (a + bs)))) ∧ (n ≤ a + bs → mix lt bs J l = allB lt (2 * bs) l) := by
  obtain ⟨X, h1, h2, _, h4⟩ := mix_next lt hb J l (by omega)
  rw [← ha] at h1 h2
  have h5 := h4 1
  rw [allB_of lt (by omega) (by rw [Nat.succ_mul]; omega), ← ha] at h5
  simp only [blk] at h5
  rw [List.take_of_length_le (by simp; omega), List.drop_of_length_le (i := 2 * bs) (by simp; omega), List.append_nil] at h5
  rw [h2, h5]
  refine ⟨fun h => ?_, fun h => ?_⟩
  · rw [allB_step lt hb, allB_one lt (l := (l.drop a).drop bs) (by simp; omega) hb]
    have l1 : (sortG lt ((l.drop a).take bs)).length = bs := by rw [sortG_len]; simp; omega
    have l2 : (sortG lt ((l.drop a).drop bs)).length = n - (a + bs) := by rw [sortG_len]; simp; omega
    refine ⟨?_, ?_, ?_⟩
    · have := mAt_parts lt X (sortG lt ((l.drop a).take bs)) (sortG lt ((l.drop a).drop bs)) [] (a := a) (m := a + bs) (b := n) h1.symm (by omega) (by omega)
      rw [List.append_nil, List.append_nil] at this
      rw [this, ← sortG_app W, List.take_append_drop]
    · rw [piece X _ _ h1.symm (by omega)]; exact sortG_sorted W _
    · have := piece (X ++ sortG lt ((l.drop a).take bs)) (sortG lt ((l.drop a).drop bs)) [] (a := a + bs) (k := n - (a + bs)) (by simp [l1, h1]) (by omega)
      rw [List.append_assoc, List.append_nil] at this
      rw [this]; exact sortG_sorted W _
  · rw [allB_one lt (by simp; omega) hb]
end
end Go.Proofs.Ytcmfnfkahdconaa.AM

set_option linter.unusedVariables false
set_option linter.unusedSimpArgs false
set_option linter.unusedSectionVars false
namespace Go.Proofs.Ytcmfnfkahdconaa.AM
open Go
section
variable {α : Type} [Inhabited α]
theorem st_block (cmp : α → α → Int) {l : List α} {j a b : Nat} (ha : a = j * 20) (hb : b = a + 20) (hn : b ≤ l.length) : insSort cmp a (b - (a + 1)) (a + 1) (blk (ltF cmp) 20 j l) = blk (ltF cmp) 20 (j + 1) l := by
  obtain ⟨X, h1, h2, h3⟩ := blk_next (ltF cmp) 20 j l (by omega)
  have h4 : blk (ltF cmp) 20 1 (l.drop (j * 20)) = sortG (ltF cmp) ((l.drop (j * 20)).take 20) ++ (l.drop (j * 20)).drop 20 := by simp only [blk]
  rw [h2, h3 1, h4, ← ha]
  have := insSort_part cmp X ((l.drop a).take 20) ((l.drop a).drop 20) (a := a) (b := b) (by omega) (by simp; omega)
  rw [List.take_append_drop] at this
  exact this
theorem st_tail (cmp : α → α → Int) {l : List α} {j a n : Nat} (ha : a = j * 20) (hn : n = l.length) (han : a ≤ n) (hlt : n < a + 20) : insSort cmp a (n - (a + 1)) (a + 1) (blk (ltF cmp) 20 j l) = allB (ltF cmp) 20 l := by
  obtain ⟨X, h1, h2, h3⟩ := blk_next (ltF cmp) 20 j l (by omega)
  have h4 : blk (ltF cmp) 20 1 (l.drop (j * 20)) = sortG (ltF cmp) ((l.drop (j * 20)).take 20) ++ (l.drop (j * 20)).drop 20 := by simp only [blk]
  rw [← allB_of (ltF cmp) (bs := 20) (K := j + 1) (by omega) (by omega), h2, h3 1, h4, ← ha]
  have := insSort_part cmp X (l.drop a) [] (a := a) (b := n) (by omega) (by simp; omega)
  rw [List.append_nil, List.append_nil] at this
  rw [this, List.take_of_length_le (by simp; omega), List.drop_of_length_le (i := 20) (by simp; omega), List.append_nil]
  rfl
end
end Go.Proofs.Ytcmfnfkahdconaa.AM

set_option maxRecDepth 100000
set_option linter.unusedVariables false
set_option linter.unusedSimpArgs false
namespace Go.Proofs.Ytcmfnfkahdconaa.AM
open Go Go.Proofs.Ytcmfnfkahdconaa
attribute [local irreducible] ACalls funT codeT codeQ LoopTo
attribute [local irreducible] Tp.card Tp.cardT Tp.next Tp.step Tp.cards Tp.cardsT Tp.key Tp.keyT sink insSort sortK insK posK beforeK sortP cmpK
attribute [local irreducible] mgL mg mAt blk allB mix sortG
theorem sCm_spec (cmp : Card → Card → Int) (f : Nat) (xs : List AV) (a p b n g : Nat) (l : List Card) (hc : ∀ (x y : Card) (H : Heap), ACalls Try.prog f ([AV.agg (Card.row x), AV.agg (Card.row y)] ++ xs) H (AV.int .i64 (cmp x y), H)) (hxs : AV.bdds 1 xs = true) (W : Weak (ltF cmp)) (h1 : n = l.length) (h2 : n < 1048576) (h3 : a < p) (h4 : p < b) (h5 : b ≤ n) (h7 : Srt (ltF cmp) ((l.drop a).take (p - a))) (h8 : Srt (ltF cmp) ((l.drop p).take (b - p))) : ACalls Try.prog 157 [(.osl 0 g 9 0 n), (.int .i64 ((a : Nat) : Int)), (.int .i64 ((p : Nat) : Int)), (.int .i64 ((b : Nat) : Int)), (.func f xs)] ([⟨g, 9, (List.map Card.row l), none⟩] : Heap) ((AV.tup []), ([⟨g, 9, (List.map Card.row (mAt (ltF cmp) a p b l)), none⟩] : Heap)) := sC_all cmp f xs hc hxs W (b - a + 1) a p b n g l h1 h2 h3 h4 h5 ow h7 h8
theorem sCm_at (cmp : Card → Card → Int) (f : Nat) (xs : List AV) (a p b n g : Nat) (l : List Card) (hc : ∀ (x y : Card) (H : Heap), ACalls Try.prog f ([AV.agg (Card.row x), AV.agg (Card.row y)] ++ xs) H (AV.int .i64 (cmp x y), H)) (hxs : AV.bdds 1 xs = true) (W : Weak (ltF cmp)) (h1 : n = l.length) (h2 : n < 1048576) (h3 : a < p) (h4 : p < b) (h5 : b ≤ n) (h7 : Srt (ltF cmp) ((l.drop a).take (p - a))) (h8 : Srt (ltF cmp) ((l.drop p).take (b - p))) (H : Heap) : ACalls Try.prog 157 [(.osl 0 g 9 0 n), (.int .i64 ((a : Nat) : Int)), (.int .i64 ((p : Nat) : Int)), (.int .i64 ((b : Nat) : Int)), (.func f xs)] (([⟨g, 9, (List.map Card.row l), none⟩] : Heap) ++ H) ((AV.tup []), ([⟨g, 9, (List.map Card.row (mAt (ltF cmp) a p b l)), none⟩] : Heap) ++ H) := (sCm_spec cmp f xs a p b n g l hc hxs W h1 h2 h3 h4 h5 h7 h8).ext (by simp [AV.bdds, AV.bdd, *]) kr ob ob kr H
def sCst_ann : Ann := { base := 1, fin := some 1, live := [(2, [0, 1, 2, 6, 7, 8]), (7, [0, 1, 2, 6]), (9, [0, 1, 2, 6, 7, 8])], out := [(2, [0, 1, 2, 6, 7]), (7, []), (9, [0, 1, 2, 6, 7])] }
set_option maxRecDepth 100000 in
theorem sCstb_step (cmp : Card → Card → Int) (f : Nat) (xs : List AV) (a b n g : Nat) (l : List Card) (hc : ∀ (x y : Card) (H : Heap), ACalls Try.prog f ([AV.agg (Card.row x), AV.agg (Card.row y)] ++ xs) H (AV.int .i64 (cmp x y), H)) (hxs : AV.bdds 1 xs = true) (W : Weak (ltF cmp)) (hn : n = l.length) (hnb : n < 524288) (hb : b = a + 20) (han : a ≤ n) {eX : Ex} {FX : Fr} {HX : Heap} (k1 : (decide (((b : Nat) : Int) ≤ ((n : Nat) : Int))) = true → LoopTo (codeQ Try.prog (X sCst_ann) (loopOf Try.f145 0)) (some [0, 1, 2, 6, 7, 8]) (some [0, 1, 2, 6, 7]) (mkF 63 [(0, (.osl 0 g 9 0 n)), (1, (.int .i64 ((n : Nat) : Int))), (2, (.func f xs)), (6, (.int .i64 20)), (7, (.int .i64 ((b : Nat) : Int))), (8, (.int .i64 ((b + 20 : Nat) : Int)))]) ([⟨g, 9, (List.map Card.row (insSort cmp a (b - (a + 1)) (a + 1) l)), none⟩] : Heap) eX FX HX) (k2 : (decide (((b : Nat) : Int) ≤ ((n : Nat) : Int))) = false → ((.exit 0 : Ex), (mkF 63 [(0, (.osl 0 g 9 0 n)), (1, (.int .i64 ((n : Nat) : Int))), (2, (.func f xs)), (6, (.int .i64 20)), (7, (.int .i64 ((a : Nat) : Int)))]), ([⟨g, 9, (List.map Card.row l), none⟩] : Heap)) = (eX, FX, HX)) : LoopTo (codeQ Try.prog (X sCst_ann) (loopOf Try.f145 0)) (some [0, 1, 2, 6, 7, 8]) (some [0, 1, 2, 6, 7]) (mkF 63 [(0, (.osl 0 g 9 0 n)), (1, (.int .i64 ((n : Nat) : Int))), (2, (.func f xs)), (6, (.int .i64 20)), (7, (.int .i64 ((a : Nat) : Int))), (8, (.int .i64 ((b : Nat) : Int)))]) ([⟨g, 9, (List.map Card.row l), none⟩] : Heap) eX FX HX :=
  stepO (.r (.g (.two (decide (((b : Nat) : Int) ≤ ((n : Nat) : Int))) (fun h1 h1' => (.r (.t 4 (AV.tup []) ([⟨g, 9, (List.map Card.row (insSort cmp a (b - (a + 1)) (a + 1) l)), none⟩] : Heap) (insC_at _ f xs a b n g l (by first | exact hc | exact hxs | exact W | omega | (simp; omega)) (by first | exact hc | exact hxs | exact W | omega | (simp; omega)) (by first | exact hc | exact hxs | exact W | omega | (simp; omega)) (by first | exact hc | exact hxs | exact W | omega | (simp; omega)) (by first | exact hc | exact hxs | exact W | omega | (simp; omega)) (by first | exact hc | exact hxs | exact W | omega | (simp; omega)) ([] : Heap) : ACalls Try.prog 156 [(.osl 0 g 9 0 n), (.int .i64 ((a : Nat) : Int)), (.int .i64 ((b : Nat) : Int)), (.func f xs)] ([⟨g, 9, (List.map Card.row l), none⟩] : Heap) ((AV.tup []), ([⟨g, 9, (List.map Card.row (insSort cmp a (b - (a + 1)) (a + 1) l)), none⟩] : Heap))) (.g (.r (.g (.r (.h' ([⟨g, 9, (List.map Card.row (insSort cmp a (b - (a + 1)) (a + 1) l)), none⟩] : Heap) (.y 2 (.int .i64 (IntKind.i64.wrap (((b : Nat) : Int) + 20))) (AV.int .i64 ((b + 20 : Nat) : Int)) (Yes.add ow ow ow) (.g (.l (k1 h1)))))))))))) (fun h1 h1' => (.l (k2 h1))))))
theorem sCstb_loop (cmp : Card → Card → Int) (f : Nat) (xs : List AV) (hc : ∀ (x y : Card) (H : Heap), ACalls Try.prog f ([AV.agg (Card.row x), AV.agg (Card.row y)] ++ xs) H (AV.int .i64 (cmp x y), H)) (hxs : AV.bdds 1 xs = true) (W : Weak (ltF cmp)) (n g : Nat) (l0 : List Card) (hn : n = l0.length) (hnb : n < 524288) (r : Nat) : ∀ (j a b : Nat) (l : List Card), j + r = n / 20 → a = j * 20 → b = a + 20 → l = blk (ltF cmp) 20 j l0 →
    LoopTo (codeQ Try.prog (X sCst_ann) (loopOf Try.f145 0)) (some [0, 1, 2, 6, 7, 8]) (some [0, 1, 2, 6, 7]) (mkF 63 [(0, (.osl 0 g 9 0 n)), (1, (.int .i64 ((n : Nat) : Int))), (2, (.func f xs)), (6, (.int .i64 20)), (7, (.int .i64 ((a : Nat) : Int))), (8, (.int .i64 ((b : Nat) : Int)))]) ([⟨g, 9, (List.map Card.row l), none⟩] : Heap) (.exit 0) (mkF 63 [(0, (.osl 0 g 9 0 n)), (1, (.int .i64 ((n : Nat) : Int))), (2, (.func f xs)), (6, (.int .i64 20)), (7, (.int .i64 (((n / 20 * 20) : Nat) : Int)))]) ([⟨g, 9, (List.map Card.row (blk (ltF cmp) 20 (n / 20) l0)), none⟩] : Heap) := by
  induction r with
  | zero =>
    intro j a b l hj ha hb hl
    subst hl
    refine sCstb_step cmp f xs a b n g _ hc hxs W (by rw [blk_len]; exact hn) hnb hb ow (fun h => by simp at h; omega) (fun _ => ?_)
    rw [show n / 20 = j by omega, ← ha]
  | succ r ih =>
    intro j a b l hj ha hb hl
    subst hl
    refine sCstb_step cmp f xs a b n g _ hc hxs W (by rw [blk_len]; exact hn) hnb hb ow (fun h => ?_) (fun h => by simp at h; omega)
    rw [st_block cmp ha hb ow]
    exact ih (j + 1) b (b + 20) _ ow ow rfl rfl
set_option maxRecDepth 100000 in
theorem sCstm_step (cmp : Card → Card → Int) (f : Nat) (xs : List AV) (bs a b n g : Nat) (l : List Card) (hc : ∀ (x y : Card) (H : Heap), ACalls Try.prog f ([AV.agg (Card.row x), AV.agg (Card.row y)] ++ xs) H (AV.int .i64 (cmp x y), H)) (hxs : AV.bdds 1 xs = true) (W : Weak (ltF cmp)) (hn : n = l.length) (hnb : n < 524288) (hb : b = a + 2 * bs) (hbs : 0 < bs) (hbn : bs < 524288) (han : a ≤ n) (hs7 : b ≤ n → Srt (ltF cmp) ((l.drop a).take (a + bs - a))) (hs8 : b ≤ n → Srt (ltF cmp) ((l.drop (a + bs)).take (b - (a + bs)))) {eX : Ex} {FX : Fr} {HX : Heap} (k1 : (decide (((b : Nat) : Int) ≤ ((n : Nat) : Int))) = true → LoopTo (codeQ Try.prog (X sCst_ann) (loopOf Try.f145 2)) (some [0, 1, 2, 6, 7, 8]) (some [0, 1, 2, 6, 7]) (mkF 63 [(0, (.osl 0 g 9 0 n)), (1, (.int .i64 ((n : Nat) : Int))), (2, (.func f xs)), (6, (.int .i64 ((bs : Nat) : Int))), (7, (.int .i64 ((b : Nat) : Int))), (8, (.int .i64 ((b + (2 * bs) : Nat) : Int)))]) ([⟨g, 9, (List.map Card.row (mAt (ltF cmp) a (a + bs) b l)), none⟩] : Heap) eX FX HX) (k2 : (decide (((b : Nat) : Int) ≤ ((n : Nat) : Int))) = false → ((.exit 4 : Ex), (mkF 63 [(0, (.osl 0 g 9 0 n)), (1, (.int .i64 ((n : Nat) : Int))), (2, (.func f xs)), (6, (.int .i64 ((bs : Nat) : Int))), (7, (.int .i64 ((a : Nat) : Int)))]), ([⟨g, 9, (List.map Card.row l), none⟩] : Heap)) = (eX, FX, HX)) : LoopTo (codeQ Try.prog (X sCst_ann) (loopOf Try.f145 2)) (some [0, 1, 2, 6, 7, 8]) (some [0, 1, 2, 6, 7]) (mkF 63 [(0, (.osl 0 g 9 0 n)), (1, (.int .i64 ((n : Nat) : Int))), (2, (.func f xs)), (6, (.int .i64 ((bs : Nat) : Int))), (7, (.int .i64 ((a : Nat) : Int))), (8, (.int .i64 ((b : Nat) : Int)))]) ([⟨g, 9, (List.map Card.row l), none⟩] : Heap) eX FX HX :=
  stepO (.r (.g (.two (decide (((b : Nat) : Int) ≤ ((n : Nat) : Int))) (fun h1 h1' => (.r (.y 4 (.int .i64 (IntKind.i64.wrap (((a : Nat) : Int) + ((bs : Nat) : Int)))) (AV.int .i64 ((a + bs : Nat) : Int)) (Yes.add ow ow ow) (.t 7 (AV.tup []) ([⟨g, 9, (List.map Card.row (mAt (ltF cmp) a (a + bs) b l)), none⟩] : Heap) (ACalls.pre (args' := [(.osl 0 g 9 0 n), (.int .i64 ((a : Nat) : Int)), (.int .i64 ((a + bs : Nat) : Int)), (.int .i64 ((b : Nat) : Int)), (.func f xs)]) (sCm_at _ f xs a (a + bs) b n g l (by first | exact hc | exact hxs | exact W | omega | (simp; omega)) (by first | exact hc | exact hxs | exact W | omega | (simp; omega)) (by first | exact hc | exact hxs | exact W | omega | (simp; omega)) (by first | exact hc | exact hxs | exact W | omega | (simp; omega)) (by first | exact hc | exact hxs | exact W | omega | (simp; omega)) (by first | exact hc | exact hxs | exact W | omega | (simp; omega)) (by first | exact hc | exact hxs | exact W | omega | (simp; omega)) (by first | exact hc | exact hxs | exact W | omega | (simp; omega)) (hs7 (by have := of_decide_eq_true h1; omega)) (hs8 (by have := of_decide_eq_true h1; omega)) ([] : Heap)) ⟨AV.wk_refl_any _, AV.wk_refl_any _, AV.wk_refl_any _, AV.wk_refl_any _, AV.wk_refl_any _, trivial⟩ : ACalls Try.prog 157 [(.osl 0 g 9 0 n), (.int .i64 ((a : Nat) : Int)), (.int .i64 ((a + bs : Nat) : Int)), (.int .i64 ((b : Nat) : Int)), (.func f xs)] ([⟨g, 9, (List.map Card.row l), none⟩] : Heap) ((AV.tup []), ([⟨g, 9, (List.map Card.row (mAt (ltF cmp) a (a + bs) b l)), none⟩] : Heap))) (.g (.r (.g (.r (.h' ([⟨g, 9, (List.map Card.row (mAt (ltF cmp) a (a + bs) b l)), none⟩] : Heap) (.y 2 (.int .i64 (IntKind.i64.wrap (2 * ((bs : Nat) : Int)))) (AV.int .i64 ((2 * bs : Nat) : Int)) (Yes.add ow ow ow) (.y 3 (.int .i64 (IntKind.i64.wrap (((b : Nat) : Int) + ((2 * bs : Nat) : Int)))) (AV.int .i64 ((b + (2 * bs) : Nat) : Int)) (Yes.add ow ow ow) (.g (.l (k1 h1)))))))))))))) (fun h1 h1' => (.l (k2 h1))))))
theorem sCstm_loop (cmp : Card → Card → Int) (f : Nat) (xs : List AV) (hc : ∀ (x y : Card) (H : Heap), ACalls Try.prog f ([AV.agg (Card.row x), AV.agg (Card.row y)] ++ xs) H (AV.int .i64 (cmp x y), H)) (hxs : AV.bdds 1 xs = true) (W : Weak (ltF cmp)) (bs n g : Nat) (l0 : List Card) (hn : n = l0.length) (hnb : n < 524288) (hbs : 0 < bs) (hbn : bs < 524288) (J : Nat) (hJ : J = n / (2 * bs)) (r : Nat) : ∀ (j a b : Nat) (l : List Card), j + r = J → a = j * (2 * bs) → b = a + 2 * bs → l = mix (ltF cmp) bs j l0 →
    LoopTo (codeQ Try.prog (X sCst_ann) (loopOf Try.f145 2)) (some [0, 1, 2, 6, 7, 8]) (some [0, 1, 2, 6, 7]) (mkF 63 [(0, (.osl 0 g 9 0 n)), (1, (.int .i64 ((n : Nat) : Int))), (2, (.func f xs)), (6, (.int .i64 ((bs : Nat) : Int))), (7, (.int .i64 ((a : Nat) : Int))), (8, (.int .i64 ((b : Nat) : Int)))]) ([⟨g, 9, (List.map Card.row l), none⟩] : Heap) (.exit 4) (mkF 63 [(0, (.osl 0 g 9 0 n)), (1, (.int .i64 ((n : Nat) : Int))), (2, (.func f xs)), (6, (.int .i64 ((bs : Nat) : Int))), (7, (.int .i64 (((J * (2 * bs)) : Nat) : Int)))]) ([⟨g, 9, (List.map Card.row (mix (ltF cmp) bs J l0)), none⟩] : Heap) := by
  have hdm := Nat.div_mul_le_self n (2 * bs)
  have hlt := Nat.lt_div_mul_add (a := n) (b := 2 * bs) ow
  rw [← hJ] at hdm hlt
  induction r with
  | zero =>
    intro j a b l hj ha hb hl
    subst hl
    obtain rfl : j = J := by omega
    refine sCstm_step cmp f xs bs a b n g _ hc hxs W (by rw [mix_len]; exact hn) hnb hb hbs hbn ow (fun h => by omega) (fun h => by omega) (fun h => by simp at h; omega) (fun _ => ?_)
    rw [← ha]
  | succ r ih =>
    intro j a b l hj ha hb hl
    subst hl
    have hmul : (j + 1) * (2 * bs) = j * (2 * bs) + 2 * bs := Nat.succ_mul _ _
    have hle : (j + 1) * (2 * bs) ≤ J * (2 * bs) := Nat.mul_le_mul_right _ ow
    obtain ⟨q1, q2, q3⟩ := mix_merge W hbs (l := l0) ha hb ow
    refine sCstm_step cmp f xs bs a b n g _ hc hxs W (by rw [mix_len]; exact hn) hnb hb hbs hbn ow (fun _ => q2) (fun _ => q3) (fun h => ?_) (fun h => by simp at h; omega)
    rw [q1]
    exact ih (j + 1) b (b + 2 * bs) _ ow ow rfl rfl
@[simp] abbrev Vlc_1 (v1_ : Nat) (v2_ : Nat) (v3_ : Nat) (v4_ : List AV) (v5_ : Nat) : Fr := (mkF 63 [(0, (AV.osl 0 v1_ 9 0 v2_)), (1, (AV.int .i64 ((v2_ : Nat) : Int))), (2, (AV.func v3_ v4_)), (6, (AV.int .i64 ((v5_ * 2 : Nat) : Int)))])
@[simp] abbrev Vlc_2 (v1_ : Nat) (v2_ : Nat) (v3_ : Nat) (v4_ : List AV) (v5_ : Nat) (v6_ : Nat) : Fr := (mkF 63 [(0, (AV.osl 0 v1_ 9 0 v2_)), (1, (AV.int .i64 ((v2_ : Nat) : Int))), (2, (AV.func v3_ v4_)), (6, (AV.int .i64 ((v5_ : Nat) : Int))), (7, (AV.int .i64 (((v6_ * (2 * v5_)) : Nat) : Int)))])
set_option maxRecDepth 100000 in
theorem sCsto_step (cmp : Card → Card → Int) (f : Nat) (xs : List AV) (bs J n g : Nat) (l l0 : List Card) (hc : ∀ (x y : Card) (H : Heap), ACalls Try.prog f ([AV.agg (Card.row x), AV.agg (Card.row y)] ++ xs) H (AV.int .i64 (cmp x y), H)) (hxs : AV.bdds 1 xs = true) (W : Weak (ltF cmp)) (hn : n = l0.length) (hnb : n < 524288) (hbs : 0 < bs) (hbn : bs < 1048576) (hl : l = allB (ltF cmp) bs l0) (hJ : J = n / (2 * bs)) (hJn : J * (2 * bs) ≤ n) (hs7 : J * (2 * bs) + bs < n → Srt (ltF cmp) (((mix (ltF cmp) bs J l0).drop (J * (2 * bs))).take (J * (2 * bs) + bs - J * (2 * bs)))) (hs8 : J * (2 * bs) + bs < n → Srt (ltF cmp) (((mix (ltF cmp) bs J l0).drop (J * (2 * bs) + bs)).take (n - (J * (2 * bs) + bs)))) {eX : Ex} {FX : Fr} {HX : Heap} (k1 : (decide (((bs : Nat) : Int) < ((n : Nat) : Int))) = true → (decide ((((J * (2 * bs)) + bs : Nat) : Int) < ((n : Nat) : Int))) = true → LoopTo (codeQ Try.prog (X sCst_ann) (loopOf Try.f145 1)) (some [0, 1, 2, 6]) (some []) (Vlc_1 g n f xs bs) ([⟨g, 9, (List.map Card.row (mAt (ltF cmp) (J * (2 * bs)) ((J * (2 * bs)) + bs) n (mix (ltF cmp) bs J l0))), none⟩] : Heap) eX FX HX) (k2 : (decide (((bs : Nat) : Int) < ((n : Nat) : Int))) = true → (decide ((((J * (2 * bs)) + bs : Nat) : Int) < ((n : Nat) : Int))) = false → LoopTo (codeQ Try.prog (X sCst_ann) (loopOf Try.f145 1)) (some [0, 1, 2, 6]) (some []) (Vlc_1 g n f xs bs) ([⟨g, 9, (List.map Card.row (mix (ltF cmp) bs J l0)), none⟩] : Heap) eX FX HX) (k3 : (decide (((bs : Nat) : Int) < ((n : Nat) : Int))) = false → ((.exit 2 : Ex), (mkF 63 []), ([⟨g, 9, (List.map Card.row l), none⟩] : Heap)) = (eX, FX, HX)) : LoopTo (codeQ Try.prog (X sCst_ann) (loopOf Try.f145 1)) (some [0, 1, 2, 6]) (some []) (mkF 63 [(0, (.osl 0 g 9 0 n)), (1, (.int .i64 ((n : Nat) : Int))), (2, (.func f xs)), (6, (.int .i64 ((bs : Nat) : Int)))]) ([⟨g, 9, (List.map Card.row l), none⟩] : Heap) eX FX HX :=
  stepO (.r (.g (.two (decide (((bs : Nat) : Int) < ((n : Nat) : Int))) (fun h1 h1' => (.r (.y 1 (.int .i64 (IntKind.i64.wrap (2 * ((bs : Nat) : Int)))) (AV.int .i64 ((2 * bs : Nat) : Int)) (Yes.add ow ow ow) (.g (.loop (Vlc_2 g n f xs bs J) (show LoopTo (codeQ Try.prog (X sCst_ann) (loopOf Try.f145 2)) (some [0, 1, 2, 6, 7, 8]) (some [0, 1, 2, 6, 7]) (mkF 63 [(0, (.osl 0 g 9 0 n)), (1, (.int .i64 ((n : Nat) : Int))), (2, (.func f xs)), (6, (.int .i64 ((bs : Nat) : Int))), (7, (.int .i64 0)), (8, (.int .i64 ((2 * bs : Nat) : Int)))]) ([⟨g, 9, (List.map Card.row l), none⟩] : Heap) (.exit 4) (Vlc_2 g n f xs bs J) ([⟨g, 9, (List.map Card.row (mix (ltF cmp) bs J l0)), none⟩] : Heap) from (sCstm_loop cmp f xs hc hxs W bs n g l0 hn hnb hbs ow J hJ J 0 0 (2 * bs) l ow ow ow (by rw [hl]; simp only [mix]))) (.r (.y 2 (.int .i64 (IntKind.i64.wrap ((((J * (2 * bs)) : Nat) : Int) + ((bs : Nat) : Int)))) (AV.int .i64 (((J * (2 * bs)) + bs : Nat) : Int)) (Yes.add ow ow ow) (.g (.r (.g (.two (decide ((((J * (2 * bs)) + bs : Nat) : Int) < ((n : Nat) : Int))) (fun h2 h2' => (.r (.t 5 (AV.tup []) ([⟨g, 9, (List.map Card.row (mAt (ltF cmp) (J * (2 * bs)) ((J * (2 * bs)) + bs) n (mix (ltF cmp) bs J l0))), none⟩] : Heap) (ACalls.pre (args' := [(.osl 0 g 9 0 n), (.int .i64 (((J * (2 * bs)) : Nat) : Int)), (.int .i64 (((J * (2 * bs)) + bs : Nat) : Int)), (.int .i64 ((n : Nat) : Int)), (.func f xs)]) (sCm_at _ f xs (J * (2 * bs)) ((J * (2 * bs)) + bs) n n g (mix (ltF cmp) bs J l0) (by first | exact hc | exact hxs | exact W | omega | (rw [mix_len]; exact hn) | (simp; omega)) (by first | exact hc | exact hxs | exact W | omega | (rw [mix_len]; exact hn) | (simp; omega)) (by first | exact hc | exact hxs | exact W | omega | (rw [mix_len]; exact hn) | (simp; omega)) (by first | exact hc | exact hxs | exact W | omega | (rw [mix_len]; exact hn) | (simp; omega)) (by first | exact hc | exact hxs | exact W | omega | (rw [mix_len]; exact hn) | (simp; omega)) (by first | exact hc | exact hxs | exact W | omega | (rw [mix_len]; exact hn) | (simp; omega)) (by have := of_decide_eq_true h2; omega) ow (hs7 (by have := of_decide_eq_true h2; omega)) (hs8 (by have := of_decide_eq_true h2; omega)) ([] : Heap)) ⟨AV.wk_refl_any _, AV.wk_refl_any _, AV.wk_refl_any _, AV.wk_refl_any _, AV.wk_refl_any _, trivial⟩ : ACalls Try.prog 157 [(.osl 0 g 9 0 n), (.int .i64 (((J * (2 * bs)) : Nat) : Int)), (.int .i64 (((J * (2 * bs)) + bs : Nat) : Int)), (.int .i64 ((n : Nat) : Int)), (.func f xs)] ([⟨g, 9, (List.map Card.row (mix (ltF cmp) bs J l0)), none⟩] : Heap) ((AV.tup []), ([⟨g, 9, (List.map Card.row (mAt (ltF cmp) (J * (2 * bs)) ((J * (2 * bs)) + bs) n (mix (ltF cmp) bs J l0))), none⟩] : Heap))) (.g (.r (.h' ([⟨g, 9, (List.map Card.row (mAt (ltF cmp) (J * (2 * bs)) ((J * (2 * bs)) + bs) n (mix (ltF cmp) bs J l0))), none⟩] : Heap) (.y 1 (.int .i64 (IntKind.i64.wrap (((bs : Nat) : Int) * 2))) (AV.int .i64 ((bs * 2 : Nat) : Int)) (Yes.add ow ow ow) (.g (.l (k1 h1 h2)))))))))) (fun h2 h2' => (.r (.y 1 (.int .i64 (IntKind.i64.wrap (((bs : Nat) : Int) * 2))) (AV.int .i64 ((bs * 2 : Nat) : Int)) (Yes.add ow ow ow) (.g (.l (k2 h1 h2))))))))))))))))) (fun h1 h1' => (.l (k3 h1))))))
theorem sCsto_loop (cmp : Card → Card → Int) (f : Nat) (xs : List AV) (hc : ∀ (x y : Card) (H : Heap), ACalls Try.prog f ([AV.agg (Card.row x), AV.agg (Card.row y)] ++ xs) H (AV.int .i64 (cmp x y), H)) (hxs : AV.bdds 1 xs = true) (W : Weak (ltF cmp)) (n g : Nat) (l0 : List Card) (hn : n = l0.length) (hnb : n < 524288) (r : Nat) : ∀ (bs : Nat) (l : List Card), n - bs ≤ r → 0 < bs → bs < 1048576 → l = allB (ltF cmp) bs l0 →
    LoopTo (codeQ Try.prog (X sCst_ann) (loopOf Try.f145 1)) (some [0, 1, 2, 6]) (some []) (mkF 63 [(0, (.osl 0 g 9 0 n)), (1, (.int .i64 ((n : Nat) : Int))), (2, (.func f xs)), (6, (.int .i64 ((bs : Nat) : Int)))]) ([⟨g, 9, (List.map Card.row l), none⟩] : Heap) (.exit 2) (mkF 63 []) ([⟨g, 9, (List.map Card.row (sortG (ltF cmp) l0)), none⟩] : Heap) := by
  have key : ∀ bs, 0 < bs → (n / (2 * bs) * (2 * bs) ≤ n ∧ n < n / (2 * bs) * (2 * bs) + 2 * bs) := fun bs hbs => ⟨Nat.div_mul_le_self n (2 * bs), Nat.lt_div_mul_add (a := n) (b := 2 * bs) ow⟩
  induction r with
  | zero =>
    intro bs l h1 hbs hbn hl
    obtain ⟨k1, k2⟩ := key bs hbs
    obtain ⟨q1, q2⟩ := mix_last W hbs (l := l0) (J := n / (2 * bs)) rfl hn k1 k2
    refine sCsto_step cmp f xs bs (n / (2 * bs)) n g l l0 hc hxs W hn hnb hbs hbn hl rfl k1 (fun h => (q1 h).2.1) (fun h => (q1 h).2.2) (fun h => by simp at h; omega) (fun h => by simp at h; omega) (fun _ => ?_)
    rw [hl, allB_one (ltF cmp) ow hbs]
  | succ r ih =>
    intro bs l h1 hbs hbn hl
    obtain ⟨k1, k2⟩ := key bs hbs
    obtain ⟨q1, q2⟩ := mix_last W hbs (l := l0) (J := n / (2 * bs)) rfl hn k1 k2
    refine sCsto_step cmp f xs bs (n / (2 * bs)) n g l l0 hc hxs W hn hnb hbs hbn hl rfl k1 (fun h => (q1 h).2.1) (fun h => (q1 h).2.2) (fun h h2 => ?_) (fun h h2 => ?_) (fun h => ?_)
    · rw [(q1 (by have := of_decide_eq_true h2; omega)).1]
      exact ih (bs * 2) _ (by simp at h; omega) ow (by simp at h; omega) (by rw [Nat.mul_comm])
    · rw [q2 (by have := of_decide_eq_false h2; omega)]
      exact ih (bs * 2) _ (by simp at h; omega) ow (by simp at h; omega) (by rw [Nat.mul_comm])
    · rw [hl, allB_one (ltF cmp) (by simp at h; omega) hbs]
@[simp] abbrev Vlc_3 (v1_ : Nat) (v2_ : Nat) (v3_ : Nat) (v4_ : List AV) : Fr := (mkF 63 [(0, (AV.osl 0 v1_ 9 0 v2_)), (1, (AV.int .i64 ((v2_ : Nat) : Int))), (2, (AV.func v3_ v4_)), (6, (AV.int .i64 20)), (7, (AV.int .i64 (((v2_ / 20 * 20) : Nat) : Int)))])
set_option maxRecDepth 100000 in
theorem sCst_spec (cmp : Card → Card → Int) (f : Nat) (xs : List AV) (n g : Nat) (l : List Card) (hc : ∀ (x y : Card) (H : Heap), ACalls Try.prog f ([AV.agg (Card.row x), AV.agg (Card.row y)] ++ xs) H (AV.int .i64 (cmp x y), H)) (hxs : AV.bdds 1 xs = true) (W : Weak (ltF cmp)) (hn : n = l.length) (hb : n < 524288) : ACalls Try.prog 145 [(.osl 0 g 9 0 n), (.int .i64 ((n : Nat) : Int)), (.func f xs)] ([⟨g, 9, (List.map Card.row l), none⟩] : Heap) ((AV.tup []), ([⟨g, 9, (List.map Card.row (insSort cmp 0 (n - 1) 1 l)), none⟩] : Heap)) := by
  have hq : (blk (ltF cmp) 20 (n / 20) l).length = n := by rw [blk_len]; exact hn.symm
  have ht := st_tail cmp (l := l) (j := n / 20) (a := n / 20 * 20) rfl hn ow ow
  have hfin : sortG (ltF cmp) l = insSort cmp 0 (n - 1) 1 l := by subst hn; exact (insSort_sortG cmp l).symm
  exact specO (fn := Try.f145) (ann := sCst_ann) (Has.o Try.func145) (.r (.g (.r (.g (.loop (Vlc_3 g n f xs) (show LoopTo (codeQ Try.prog (X sCst_ann) (loopOf Try.f145 0)) (some [0, 1, 2, 6, 7, 8]) (some [0, 1, 2, 6, 7]) (mkF 63 [(0, (.osl 0 g 9 0 n)), (1, (.int .i64 ((n : Nat) : Int))), (2, (.func f xs)), (6, (.int .i64 20)), (7, (.int .i64 0)), (8, (.int .i64 20))]) ([⟨g, 9, (List.map Card.row l), none⟩] : Heap) (.exit 0) (Vlc_3 g n f xs) ([⟨g, 9, (List.map Card.row (blk (ltF cmp) 20 (n / 20) l)), none⟩] : Heap) from (sCstb_loop cmp f xs hc hxs W n g l hn hb (n / 20) 0 0 20 l ow rfl ow (by simp only [blk]))) (.r (.t 4 (AV.tup []) ([⟨g, 9, (List.map Card.row (insSort cmp (n / 20 * 20) (n - ((n / 20 * 20) + 1)) ((n / 20 * 20) + 1) (blk (ltF cmp) 20 (n / 20) l))), none⟩] : Heap) (insC_at _ f xs (n / 20 * 20) n n g (blk (ltF cmp) 20 (n / 20) l) (by first | exact hc | exact hxs | omega | (rw [blk_len]; omega) | (simp; omega)) (by first | exact hc | exact hxs | omega | (rw [blk_len]; omega) | (simp; omega)) (by first | exact hc | exact hxs | omega | (rw [blk_len]; omega) | (simp; omega)) (by first | exact hc | exact hxs | omega | (rw [blk_len]; omega) | (simp; omega)) (by first | exact hc | exact hxs | omega | (rw [blk_len]; omega) | (simp; omega)) (by first | exact hc | exact hxs | omega | (rw [blk_len]; omega) | (simp; omega)) ([] : Heap) : ACalls Try.prog 156 [(.osl 0 g 9 0 n), (.int .i64 (((n / 20 * 20) : Nat) : Int)), (.int .i64 ((n : Nat) : Int)), (.func f xs)] ([⟨g, 9, (List.map Card.row (blk (ltF cmp) 20 (n / 20) l)), none⟩] : Heap) ((AV.tup []), ([⟨g, 9, (List.map Card.row (insSort cmp (n / 20 * 20) (n - ((n / 20 * 20) + 1)) ((n / 20 * 20) + 1) (blk (ltF cmp) 20 (n / 20) l))), none⟩] : Heap))) (.g (.loop (mkF 63 []) (show LoopTo (codeQ Try.prog (X sCst_ann) (loopOf Try.f145 1)) (some [0, 1, 2, 6]) (some []) (mkF 63 [(0, (.osl 0 g 9 0 n)), (1, (.int .i64 ((n : Nat) : Int))), (2, (.func f xs)), (6, (.int .i64 20))]) ([⟨g, 9, (List.map Card.row (insSort cmp (n / 20 * 20) (n - ((n / 20 * 20) + 1)) ((n / 20 * 20) + 1) (blk (ltF cmp) 20 (n / 20) l))), none⟩] : Heap) (.exit 2) (mkF 63 []) ([⟨g, 9, (List.map Card.row (sortG (ltF cmp) l)), none⟩] : Heap) from (sCsto_loop cmp f xs hc hxs W n g l hn hb n 20 (insSort cmp (n / 20 * 20) (n - ((n / 20 * 20) + 1)) ((n / 20 * 20) + 1) (blk (ltF cmp) 20 (n / 20) l)) ow ow ow ht)) (.f 1 (AV.tup []) (.e (AV.tup []) (by
        rw [hfin]))))))))))))
theorem sCst_at (cmp : Card → Card → Int) (f : Nat) (xs : List AV) (n g : Nat) (l : List Card) (hc : ∀ (x y : Card) (H : Heap), ACalls Try.prog f ([AV.agg (Card.row x), AV.agg (Card.row y)] ++ xs) H (AV.int .i64 (cmp x y), H)) (hxs : AV.bdds 1 xs = true) (W : Weak (ltF cmp)) (hn : n = l.length) (hb : n < 524288) (H : Heap) : ACalls Try.prog 145 [(.osl 0 g 9 0 n), (.int .i64 ((n : Nat) : Int)), (.func f xs)] (([⟨g, 9, (List.map Card.row l), none⟩] : Heap) ++ H) ((AV.tup []), ([⟨g, 9, (List.map Card.row (insSort cmp 0 (n - 1) 1 l)), none⟩] : Heap) ++ H) := (sCst_spec cmp f xs n g l hc hxs W hn hb).ext (by simp [AV.bdds, AV.bdd, *]) kr ob ob kr H
def sortCW_ann : Ann := { base := 1, fin := some 1 }
set_option maxRecDepth 100000 in
theorem sortCW_spec (cmp : Card → Card → Int) (f : Nat) (xs : List AV) (n g : Nat) (l : List Card) (hc : ∀ (x y : Card) (H : Heap), ACalls Try.prog f ([AV.agg (Card.row x), AV.agg (Card.row y)] ++ xs) H (AV.int .i64 (cmp x y), H)) (hxs : AV.bdds 1 xs = true) (W : Weak (ltF cmp)) (hn : n = l.length) (hb : n < 524288) : ACalls Try.prog 113 [(.osl 0 g 9 0 n), (.func f xs)] ([⟨g, 9, (List.map Card.row l), none⟩] : Heap) ((AV.tup []), ([⟨g, 9, (List.map Card.row (insSort cmp 0 (n - 1) 1 l)), none⟩] : Heap)) :=
  specO (fn := Try.f113) (ann := sortCW_ann) (Has.o Try.func113) (.r (.t 4 (AV.tup []) ([⟨g, 9, (List.map Card.row (insSort cmp 0 (n - 1) 1 l)), none⟩] : Heap) (sCst_at _ f xs n g l (by first | exact hc | exact hxs | exact W | omega) (by first | exact hc | exact hxs | exact W | omega) (by first | exact hc | exact hxs | exact W | omega) (by first | exact hc | exact hxs | exact W | omega) (by first | exact hc | exact hxs | exact W | omega) ([] : Heap) : ACalls Try.prog 145 [(.osl 0 g 9 0 n), (.int .i64 ((n : Nat) : Int)), (.func f xs)] ([⟨g, 9, (List.map Card.row l), none⟩] : Heap) ((AV.tup []), ([⟨g, 9, (List.map Card.row (insSort cmp 0 (n - 1) 1 l)), none⟩] : Heap))) (.g (.h' ([⟨g, 9, (List.map Card.row (insSort cmp 0 (n - 1) 1 l)), none⟩] : Heap) (.f 1 (AV.tup []) (.e (AV.tup [])))))))
theorem sortCW_at (cmp : Card → Card → Int) (f : Nat) (xs : List AV) (n g : Nat) (l : List Card) (hc : ∀ (x y : Card) (H : Heap), ACalls Try.prog f ([AV.agg (Card.row x), AV.agg (Card.row y)] ++ xs) H (AV.int .i64 (cmp x y), H)) (hxs : AV.bdds 1 xs = true) (W : Weak (ltF cmp)) (hn : n = l.length) (hb : n < 524288) (H : Heap) : ACalls Try.prog 113 [(.osl 0 g 9 0 n), (.func f xs)] (([⟨g, 9, (List.map Card.row l), none⟩] : Heap) ++ H) ((AV.tup []), ([⟨g, 9, (List.map Card.row (insSort cmp 0 (n - 1) 1 l)), none⟩] : Heap) ++ H) := (sortCW_spec cmp f xs n g l hc hxs W hn hb).ext (by simp [AV.bdds, AV.bdd, *]) kr ob ob kr H
end Go.Proofs.Ytcmfnfkahdconaa.AM

set_option maxRecDepth 100000
set_option linter.unusedVariables false
set_option linter.unusedSimpArgs false
namespace Go.Proofs.Ytcmfnfkahdconaa.AM
open Go Go.Proofs.Ytcmfnfkahdconaa
attribute [local irreducible] ACalls funT codeT codeQ LoopTo
def growC0_ann : Ann := { big := [22, 25], fin := some 0 }
set_option maxRecDepth 100000 in
theorem growC0_spec   : ACalls Try.prog 123 [(.sl .nil 0 []), (.int .i64 0)] ([] : Heap) ((AV.sl .nil 0 []), ([] : Heap)) :=
  specO (fn := Try.f123) (ann := growC0_ann) (Has.o Try.func123) (.r (.g (.r (.g (.no (.r (.t 2 (AV.int .i64 0) ([] : Heap) (sat_cap0 (o := (opIn Try.f123 3 2)) (t := 33) (e0 := 58) (ti := { d := .slice 58, size := 1, bytes := 24, zero := [.sl .nil 0 []] }) (k := 0) ttOk kr kr kr rfl kr : Sat Try.prog (X growC0_ann) (mkF 27 [(0, (AV.sl .nil 0 [])), (1, (AV.int .i64 0)), (4, (AV.sl .nil 0 [])), (5, (AV.int .i64 0)), (6, (AV.bool false)), (8, (AV.int .i64 0)), (9, (AV.sl .nil 0 []))]) ([] : Heap) 0 (opIn Try.f123 3 2) (AV.int .i64 0) ([] : Heap)) (.g (.r (.g (.no (.r (.g (.f 0 (AV.sl .nil 0 []) (.e (AV.sl .nil 0 []))))))))))))))))
theorem growC0_at   (H : Heap) : ACalls Try.prog 123 [(.sl .nil 0 []), (.int .i64 0)] H ((AV.sl .nil 0 []), H) := (growC0_spec  ).lift kr kr H
def growC1_ann : Ann := { big := [22, 25] }
set_option maxRecDepth 100000 in
theorem growC1_spec (n : Nat) (h1 : 0 < n) (h2 : n < 100000) : ACalls Try.prog 123 [(.sl .nil 0 []), (.int .i64 ((n : Nat) : Int))] ([] : Heap) ((AV.osl 0 0 9 0 0), ([⟨0, 9, (List.replicate n (List.replicate 9 AV.unk)), none⟩] : Heap)) :=
  specO (fn := Try.f123) (ann := growC1_ann) (Has.o Try.func123) (.r (.g (.r (.y 1 (AV.bool (decide (((n : Nat) : Int) < 0))) (AV.bool false) (Yes.bool (by simp)) (.g (.no (.r (.t 2 (AV.int .i64 0) ([] : Heap) (sat_cap0 (o := (opIn Try.f123 3 2)) (t := 33) (e0 := 58) (ti := { d := .slice 58, size := 1, bytes := 24, zero := [.sl .nil 0 []] }) (k := 0) ttOk kr kr kr rfl kr : Sat Try.prog (X growC1_ann) (mkF 27 [(0, (AV.sl .nil 0 [])), (1, (AV.int .i64 ((n : Nat) : Int))), (4, (AV.sl .nil 0 [])), (5, (AV.int .i64 ((n : Nat) : Int))), (6, (AV.bool false)), (8, (AV.int .i64 ((n : Nat) : Int))), (9, (AV.sl .nil 0 []))]) ([] : Heap) 0 (opIn Try.f123 3 2) (AV.int .i64 0) ([] : Heap)) (.y 6 (.int .i64 (IntKind.i64.wrap (((n : Nat) : Int) - 0))) (AV.int .i64 ((n : Nat) : Int)) (Yes.add ow ow ow) (.g (.r (.y 1 (AV.bool (decide (((n : Nat) : Int) > 0))) (AV.bool true) (Yes.bool (by simp; omega)) (.g (.yes (.r (.t 2 (AV.int .i64 0) ([] : Heap) (sat_cap0 (o := (opIn Try.f123 5 2)) (t := 33) (e0 := 58) (ti := { d := .slice 58, size := 1, bytes := 24, zero := [.sl .nil 0 []] }) (k := 0) ttOk kr kr kr rfl kr : Sat Try.prog (X growC1_ann) (mkF 27 [(0, (AV.sl .nil 0 [])), (1, (AV.int .i64 ((n : Nat) : Int))), (4, (AV.sl .nil 0 [])), (5, (AV.int .i64 ((n : Nat) : Int))), (6, (AV.bool false)), (8, (AV.int .i64 ((n : Nat) : Int))), (9, (AV.sl .nil 0 [])), (10, (AV.int .i64 0)), (11, (AV.sl .nil 0 [])), (12, (AV.int .i64 0)), (13, (AV.int .i64 0)), (14, (AV.int .i64 ((n : Nat) : Int))), (15, (AV.int .i64 ((n : Nat) : Int))), (16, (AV.bool true)), (17, (AV.sl .nil 0 [])), (18, (AV.sl .nil 0 []))]) ([] : Heap) 0 (opIn Try.f123 5 2) (AV.int .i64 0) ([] : Heap)) (.t 5 (AV.osl 0 0 9 0 n) ([⟨0, 9, (List.replicate n (List.replicate 9 AV.unk)), none⟩] : Heap) (sat_make0 (o := (opIn Try.f123 5 5)) (t := 33) (e0 := 58) (ti := { d := .slice 58, size := 1, bytes := 24, zero := [.sl .nil 0 []] }) (t' := 3) (te := { d := .struct [(31, 0), (3, 2), (3, 3), (2, 4), (56, 5), (4, 8)], size := 9, bytes := 88, zero := [.str ⟨#[]⟩, .str ⟨#[]⟩, .int .i64 0, .int .i64 0, .int .i64 0, .int .i64 0, .int .i64 0, .int .i64 0, .bool false] }) (ti' := { d := .int .i64, size := 1, bytes := 8, zero := [.int .i64 0] }) (kk := .i64) (kx := .i64) (k := 9) (k0 := 0) (c := n) (els' := List.replicate n (List.replicate 9 AV.unk)) ttOk kr kr kr rfl kr kr rfl rfl kr kr (by decide) (by decide) om om rfl rfl : Sat Try.prog (X growC1_ann) (mkF 27 [(0, (AV.sl .nil 0 [])), (1, (AV.int .i64 ((n : Nat) : Int))), (4, (AV.sl .nil 0 [])), (5, (AV.int .i64 ((n : Nat) : Int))), (6, (AV.bool false)), (8, (AV.int .i64 ((n : Nat) : Int))), (9, (AV.sl .nil 0 [])), (10, (AV.int .i64 0)), (11, (AV.sl .nil 0 [])), (12, (AV.int .i64 0)), (13, (AV.int .i64 0)), (14, (AV.int .i64 ((n : Nat) : Int))), (15, (AV.int .i64 ((n : Nat) : Int))), (16, (AV.bool true)), (17, (AV.sl .nil 0 [])), (18, (AV.sl .nil 0 [])), (19, (AV.int .i64 0)), (20, (AV.sl .nil 0 [])), (21, (AV.int .i64 ((n : Nat) : Int)))]) ([] : Heap) 0 (opIn Try.f123 5 5) (AV.osl 0 0 9 0 n) ([⟨0, 9, (List.replicate n (List.replicate 9 AV.unk)), none⟩] : Heap)) (.t 8 (AV.osl 0 0 9 0 0) ([⟨0, 9, (List.replicate n (List.replicate 9 AV.unk)), none⟩] : Heap) (sat_sliceR (o := (opIn Try.f123 5 8)) (t := 33) (e0 := 58) (ti := { d := .slice 58, size := 1, bytes := 24, zero := [.sl .nil 0 []] }) (id := 0) (g := 0) (e := 0) (n := n) (te := { d := .struct [(31, 0), (3, 2), (3, 3), (2, 4), (56, 5), (4, 8)], size := 9, bytes := 88, zero := [.str ⟨#[]⟩, .str ⟨#[]⟩, .int .i64 0, .int .i64 0, .int .i64 0, .int .i64 0, .int .i64 0, .int .i64 0, .bool false] }) (k := 9) (room := none) (l := 0) (h := 0) (els := (List.replicate n (List.replicate 9 AV.unk))) ttOk kr kr kr rfl kr rfl kr kr kr kr om om om om : Sat Try.prog (X growC1_ann) (mkF 27 [(0, (AV.sl .nil 0 [])), (1, (AV.int .i64 ((n : Nat) : Int))), (4, (AV.sl .nil 0 [])), (5, (AV.int .i64 ((n : Nat) : Int))), (6, (AV.bool false)), (8, (AV.int .i64 ((n : Nat) : Int))), (9, (AV.sl .nil 0 [])), (10, (AV.int .i64 0)), (11, (AV.sl .nil 0 [])), (12, (AV.int .i64 0)), (13, (AV.int .i64 0)), (14, (AV.int .i64 ((n : Nat) : Int))), (15, (AV.int .i64 ((n : Nat) : Int))), (16, (AV.bool true)), (17, (AV.sl .nil 0 [])), (18, (AV.sl .nil 0 [])), (19, (AV.int .i64 0)), (20, (AV.sl .nil 0 [])), (21, (AV.int .i64 ((n : Nat) : Int))), (22, (AV.osl 0 0 9 0 n)), (23, (AV.sl .nil 0 [])), (24, (AV.int .i64 0))]) ([⟨0, 9, (List.replicate n (List.replicate 9 AV.unk)), none⟩] : Heap) 0 (opIn Try.f123 5 8) (AV.osl 0 0 9 0 0) ([⟨0, 9, (List.replicate n (List.replicate 9 AV.unk)), none⟩] : Heap)) (.g (.r (.g (.h' ([⟨0, 9, (List.replicate n (List.replicate 9 AV.unk)), none⟩] : Heap) (.e (AV.osl 0 0 9 0 0))))))))))))))))))))))))
theorem growC_spec (n : Nat) (h1 : 0 < n) (h2 : n < 100000) : ACalls Try.prog 123 [(.sl .nil 0 []), (.int .i64 ((n : Nat) : Int))] ([] : Heap) ((AV.osl 0 0 9 0 0), ([⟨0, 9, (List.map Card.row ([] : List Card)), none⟩] : Heap)) := (growC1_spec n h1 h2).shrink (m := 0) rfl
theorem growC_at (n : Nat) (h1 : 0 < n) (h2 : n < 100000) (H : Heap) : ACalls Try.prog 123 [(.sl .nil 0 []), (.int .i64 ((n : Nat) : Int))] H (.osl H.length 0 9 0 0, H ++ ([⟨0, 9, (List.map Card.row ([] : List Card)), none⟩] : Heap)) := (growC_spec n h1 h2).lift_osl kr (by simp [AV.bddss, Card.rows_bdd]) H
structure CardL where
  l : List Card
  deriving Inhabited
def CardL.row (x : CardL) : List AV := [(AV.sl .any 9 (List.map Card.row x.l))]
@[simp] theorem CardL.row_bdd (n : Nat) (x : CardL) : AV.bdds n x.row = true := by simp [CardL.row, AV.bdds, AV.bdd]
@[simp] theorem CardL.rows_bdd (n : Nat) (l : List CardL) : AV.bddss n (l.map CardL.row) = true := by induction l with | nil => rfl | cons x l ih => simp [AV.bddss, CardL.row_bdd, ih]
def flatC (rs : List CardL) : List Card := rs.foldl (fun s x => s ++ x.l) []
theorem flatC_from (rs : List CardL) : ∀ (s : List Card), rs.foldl (fun s x => s ++ x.l) s = s ++ flatC rs := by
  induction rs with
  | nil => intro s; simp [flatC]
  | cons x rs ih => intro s; simp only [List.foldl_cons, flatC, List.nil_append]; rw [ih, ih x.l, List.append_assoc]
theorem flatC_cons (x : CardL) (rs : List CardL) : flatC (x :: rs) = x.l ++ flatC rs := by
  rw [flatC, List.foldl_cons, List.nil_append, flatC_from]
theorem flatC_len (rs : List CardL) (B : Nat) (h : ∀ x ∈ rs, x.l.length ≤ B) : (flatC rs).length ≤ rs.length * B := by
  induction rs with
  | nil => simp [flatC]
  | cons x rs ih =>
    rw [flatC_cons, List.length_append, List.length_cons, Nat.succ_mul]
    have h1 := h x (by simp); have h2 := ih fun y hy => h y (by simp [hy]); omega
theorem flatC_sum (rs : List CardL) : ∀ (z : Nat), rs.foldl (fun z x => z + x.l.length) z = z + (flatC rs).length := by
  induction rs with
  | nil => intro z; simp [flatC]
  | cons x rs ih => intro z; rw [List.foldl_cons, ih, flatC_cons, List.length_append, Nat.add_assoc]
theorem nth_le (rs : List CardL) (B : Nat) (h : ∀ x ∈ rs, x.l.length ≤ B) (i : Nat) : (nth rs i).l.length ≤ B := by
  rcases Nat.lt_or_ge i rs.length with h1 | h1
  · exact h _ (List.mem_of_getElem? (nth_get h1))
  · simp [nth, List.getD_eq_getElem?_getD, List.getElem?_eq_none h1]; exact Nat.zero_le _
def conc_ann : Ann := { own := [33], gh := [(15, .frz 6)], gha := [(9, .vir 6 9)], fin := some 0, live := [(3, [0, 3, 9, 10, 11]), (11, [6, 25, 26, 27])], out := [(3, [0, 3, 9, 10, 11]), (11, [6, 25, 26, 27])] }
@[simp] abbrev Wk_1 (v1_ : List CardL) (v2_ : Nat) (v3_ : Nat) : Fr := (mkF 36 [(0, (AV.sl .any 1 (List.map CardL.row v1_))), (3, (AV.int .i64 ((v2_ : Nat) : Int))), (9, (AV.sl .any 1 (List.map CardL.row v1_))), (10, (AV.int .i64 ((v1_.length : Nat) : Int))), (11, (AV.int .i64 ((v3_ : Nat) : Int)))])
set_option maxRecDepth 100000 in
theorem conc1_step (rs : List CardL) (z : Nat) (i : Nat) (hrs : rs.length < 1000) (hz : ∀ i, (nth rs i).l.length ≤ 100) (hzi : z ≤ 100 * i) (hle_ : i ≤ rs.length) {eX : Ex} {FX : Fr} {HX : Heap} (k1 : (decide (((i : Nat) : Int) < ((rs.length : Nat) : Int))) = true → LoopTo (codeQ Try.prog (X conc_ann) (loopOf Try.f68 0)) (some [0, 3, 9, 10, 11]) (some [0, 3, 9, 10, 11]) (mkF 36 [(0, (.sl .any 1 (List.map CardL.row rs))), (3, (.int .i64 ((z + (nth rs i).l.length : Nat) : Int))), (9, (.sl .any 1 (List.map CardL.row rs))), (10, (.int .i64 ((rs.length : Nat) : Int))), (11, (.int .i64 ((i + 1 : Nat) : Int)))]) ([] : Heap) eX FX HX) (k2 : (decide (((i : Nat) : Int) < ((rs.length : Nat) : Int))) = false → ((.exit 0 : Ex), (Wk_1 rs z i), ([] : Heap)) = (eX, FX, HX)) : LoopTo (codeQ Try.prog (X conc_ann) (loopOf Try.f68 0)) (some [0, 3, 9, 10, 11]) (some [0, 3, 9, 10, 11]) (Wk_1 rs z i) ([] : Heap) eX FX HX := by
  have q := hz i
  exact stepO (.r (.g (.two (decide (((i : Nat) : Int) < ((rs.length : Nat) : Int))) (fun h1 h1' => (.r (.is 0 1 1 (List.map CardL.row rs) ((i : Nat) : Int) (CardL.row (nth rs i)) (IdxSl.mk _ ow ow) (.g (.r (.y 2 (.int .i64 ((List.length (List.map Card.row (nth rs i).l) : Nat) : Int)) (AV.int .i64 (((nth rs i).l.length : Nat) : Int)) (Yes.len _ _ _) (.y 3 (.int .i64 (IntKind.i64.wrap (((z : Nat) : Int) + (((nth rs i).l.length : Nat) : Int)))) (AV.int .i64 ((z + (nth rs i).l.length : Nat) : Int)) (Yes.add ow ow ow) (.g (.r (.y 1 (AV.bool (decide (((z + (nth rs i).l.length : Nat) : Int) < 0))) (AV.bool false) (Yes.bool (by simp; omega)) (.g (.no (.r (.y 0 (.int .i64 (IntKind.i64.wrap (((i : Nat) : Int) + 1))) (AV.int .i64 ((i + 1 : Nat) : Int)) (Yes.add ow ow ow) (.g (.l (k1 h1))))))))))))))))) (fun h1 h1' => (.l (k2 h1))))))
def conc1_f (rs : List CardL) (i : Nat) (s : Nat) : Nat := (s + (nth rs i).l.length)
theorem conc1_loop (rs : List CardL) (hrs : rs.length < 1000) (hz : ∀ i, (nth rs i).l.length ≤ 100)  (r_ : Nat) : ∀ (z : Nat) (i : Nat) (sF : Nat), i + r_ = rs.length → z ≤ 100 * i → sF = iter (conc1_f rs) r_ i (z) →
    LoopTo (codeQ Try.prog (X conc_ann) (loopOf Try.f68 0)) (some [0, 3, 9, 10, 11]) (some [0, 3, 9, 10, 11]) (Wk_1 rs z i) ([] : Heap) (.exit 0) (mkF 36 [(0, (.sl .any 1 (List.map CardL.row rs))), (3, (.int .i64 ((sF : Nat) : Int))), (9, (.sl .any 1 (List.map CardL.row rs))), (10, (.int .i64 ((rs.length : Nat) : Int))), (11, (.int .i64 ((rs.length : Nat) : Int)))]) ([] : Heap) := by
  induction r_ with
  | zero =>
    intro z i sF hi_ hzi  hF
    obtain rfl : rs.length = i := by omega
    have e_ : sF = (z) := hF
    refine conc1_step rs z rs.length hrs hz hzi (Nat.le_refl _) (fun h => by simp at h <;> omega) (fun _ => ?_)
    first | done | rfl | (rw [e_]; done) | (rw [e_]; rfl)
  | succ r_ ih =>
    intro z i sF hi_ hzi  hF
    refine conc1_step rs z i hrs hz hzi ow (fun h1 => ?_) (fun h => by simp at h <;> omega)
    · exact ih (z + (nth rs i).l.length) (i + 1) sF ow (by have q := hz i; first | omega | assumption | (simp; done) | (simp; omega) | (simp [*]; done) | (simp [*]; omega))  (by rw [hF] <;> simp only [iter, conc1_f, if_true, Bool.false_eq_true, if_false])
@[simp] abbrev Wk_2 (v1_ : Nat) (v2_ : List Card) (v3_ : List CardL) (v4_ : Nat) : Heap := [⟨(v1_ + 1), 9, (List.map Card.row (v2_ ++ (nth v3_ v4_).l)), none⟩]
@[simp] abbrev Wk_3 (v1_ : Nat) (v2_ : Nat) (v3_ : List CardL) (v4_ : Nat) : Fr := (mkF 36 [(6, (AV.osl 0 v1_ 9 0 v2_)), (25, (AV.sl .any 1 (List.map CardL.row v3_))), (26, (AV.int .i64 ((v3_.length : Nat) : Int))), (27, (AV.int .i64 ((v4_ : Nat) : Int)))])
set_option maxRecDepth 100000 in
theorem conc2_step (rs : List CardL) (out : List Card) (k : Nat) (h : Nat) (i : Nat) (hrs : rs.length < 1000) (hz : ∀ i, (nth rs i).l.length ≤ 100) (hk : k = out.length) (hki : k ≤ 100 * i) (hle_ : i ≤ rs.length) {eX : Ex} {FX : Fr} {HX : Heap} (k1 : (decide (((i : Nat) : Int) < ((rs.length : Nat) : Int))) = true → LoopTo (codeQ Try.prog (X conc_ann) (loopOf Try.f68 1)) (some [6, 25, 26, 27]) (some [6, 25, 26, 27]) (mkF 36 [(6, (.osl 0 (h + 1) 9 0 (k + (nth rs i).l.length))), (25, (.sl .any 1 (List.map CardL.row rs))), (26, (.int .i64 ((rs.length : Nat) : Int))), (27, (.int .i64 ((i + 1 : Nat) : Int)))]) (Wk_2 h out rs i) eX FX HX) (k2 : (decide (((i : Nat) : Int) < ((rs.length : Nat) : Int))) = false → ((.exit 2 : Ex), (Wk_3 h k rs i), ([⟨h, 9, (List.map Card.row out), none⟩] : Heap)) = (eX, FX, HX)) : LoopTo (codeQ Try.prog (X conc_ann) (loopOf Try.f68 1)) (some [6, 25, 26, 27]) (some [6, 25, 26, 27]) (Wk_3 h k rs i) ([⟨h, 9, (List.map Card.row out), none⟩] : Heap) eX FX HX := by
  have q := hz i
  exact stepO (.r (.g (.two (decide (((i : Nat) : Int) < ((rs.length : Nat) : Int))) (fun h1 h1' => (.r (.is 0 1 1 (List.map CardL.row rs) ((i : Nat) : Int) (CardL.row (nth rs i)) (IdxSl.mk _ ow ow) (.g (.r (.ao 2 33 (AV.osl 0 h 9 0 k) (AV.sl .any 9 (List.map Card.row (nth rs i).l)) (AV.osl 0 (h + 1) 9 0 (k + (nth rs i).l.length)) (Wk_2 h out rs i) (evAppendO_end (T := tt) (e := 58) (te := { d := .struct [(31, 0), (3, 2), (3, 3), (2, 4), (56, 5), (4, 8)], size := 9, bytes := 88, zero := [.str ⟨#[]⟩, .str ⟨#[]⟩, .int .i64 0, .int .i64 0, .int .i64 0, .int .i64 0, .int .i64 0, .int .i64 0, .bool false] }) (z := 1) (b := 24) (y := [.sl .nil 0 []]) (row := Card.row) (l := out) kr kr rfl (by decide) (by decide) kr (by first | (simp [rowsIn, List.map_take, List.map_drop, List.take_of_length_le]; done) | simp [rowsIn, rU8, rI64, rStr, rBool]) om rfl rfl (by first | omega | (show _ * 88 ≤ _; omega) | (simp; done) | (simp; omega))) (.g (.r (.y 0 (.int .i64 (IntKind.i64.wrap (((i : Nat) : Int) + 1))) (AV.int .i64 ((i + 1 : Nat) : Int)) (Yes.add ow ow ow) (.g (.l (k1 h1)))))))))))) (fun h1 h1' => (.l (k2 h1))))))
def conc2_f (rs : List CardL) (i : Nat) (s : (List Card) × Nat × Nat) : (List Card) × Nat × Nat := (s.1 ++ (nth rs i).l, (s.2.1 + (nth rs i).l.length), (s.2.2 + 1))
theorem conc2_loop (rs : List CardL) (hrs : rs.length < 1000) (hz : ∀ i, (nth rs i).l.length ≤ 100)  (r_ : Nat) : ∀ (out : List Card) (k : Nat) (h : Nat) (i : Nat) (sF : (List Card) × Nat × Nat), i + r_ = rs.length → k = out.length → k ≤ 100 * i → sF = iter (conc2_f rs) r_ i (out, k, h) →
    LoopTo (codeQ Try.prog (X conc_ann) (loopOf Try.f68 1)) (some [6, 25, 26, 27]) (some [6, 25, 26, 27]) (Wk_3 h k rs i) ([⟨h, 9, (List.map Card.row out), none⟩] : Heap) (.exit 2) (mkF 36 [(6, (.osl 0 sF.2.2 9 0 sF.2.1)), (25, (.sl .any 1 (List.map CardL.row rs))), (26, (.int .i64 ((rs.length : Nat) : Int))), (27, (.int .i64 ((rs.length : Nat) : Int)))]) ([⟨sF.2.2, 9, (List.map Card.row sF.1), none⟩] : Heap) := by
  induction r_ with
  | zero =>
    intro out k h i sF hi_ hk hki  hF
    obtain rfl : rs.length = i := by omega
    have e_ : sF = (out, k, h) := hF
    refine conc2_step rs out k h rs.length hrs hz hk hki (Nat.le_refl _) (fun h => by simp at h <;> omega) (fun _ => ?_)
    first | done | rfl | (rw [e_]; done) | (rw [e_]; rfl)
  | succ r_ ih =>
    intro out k h i sF hi_ hk hki  hF
    refine conc2_step rs out k h i hrs hz hk hki ow (fun h1 => ?_) (fun h => by simp at h <;> omega)
    · exact ih (out ++ (nth rs i).l) (k + (nth rs i).l.length) (h + 1) (i + 1) sF ow (by have q := hz i; first | omega | assumption | (simp; done) | (simp; omega) | (simp [*]; done) | (simp [*]; omega)) (by have q := hz i; first | omega | assumption | (simp; done) | (simp; omega) | (simp [*]; done) | (simp [*]; omega))  (by rw [hF] <;> simp only [iter, conc2_f, if_true, Bool.false_eq_true, if_false])
theorem conc1_iter (rs : List CardL) : (flatC rs).length = iter (conc1_f rs) rs.length 0 0 := by
  rw [iter_all (conc1_f rs) (fun z x => z + x.l.length) rs (fun i s hi => rfl), flatC_sum, Nat.zero_add]
theorem conc2_iter (rs : List CardL) : ∃ h, (flatC rs, (flatC rs).length, h) = iter (conc2_f rs) rs.length 0 ([], 0, 0) := by
  refine ⟨(iter (conc2_f rs) rs.length 0 ([], 0, 0)).2.2, ?_⟩
  have h1 := iter_proj (conc2_f rs) (fun i s => s ++ (nth rs i).l) (fun s => s.1) (fun i s => rfl) rs.length 0 ([], 0, 0)
  rw [iter_all (fun i s => s ++ (nth rs i).l) (fun s x => s ++ x.l) rs (fun i s hi => rfl)] at h1
  have h2 := iter_inv (conc2_f rs) (fun _ s => s.2.1 = s.1.length) rs.length (fun i s _ hs => by simp [conc2_f, hs]) rs.length 0 ([], 0, 0) ow rfl
  generalize iter (conc2_f rs) rs.length 0 ([], 0, 0) = x at h1 h2 ⊢
  obtain ⟨x1, x2, x3⟩ := x
  simp only at h1 h2 ⊢
  rw [h1, h2]; simp only [h1]; rfl
attribute [local irreducible] flatC
@[simp] abbrev Wk_4 (v1_ : List CardL) : Fr := (mkF 36 [(0, (AV.sl .any 1 (List.map CardL.row v1_))), (3, (AV.int .i64 (((List.length (flatC v1_)) : Nat) : Int))), (9, (AV.sl .any 1 (List.map CardL.row v1_))), (10, (AV.int .i64 ((v1_.length : Nat) : Int))), (11, (AV.int .i64 ((v1_.length : Nat) : Int)))])
@[simp] abbrev Wk_5 (v1_ : List CardL) : Fr := (mkF 36 [(0, (AV.sl .any 1 (List.map CardL.row v1_))), (3, (AV.int .i64 0)), (9, (AV.sl .any 1 (List.map CardL.row v1_))), (10, (AV.int .i64 ((v1_.length : Nat) : Int))), (11, (AV.int .i64 0))])
@[simp] abbrev Wk_6 (v1_ : Nat) (v2_ : List CardL) : Fr := (mkF 36 [(6, (AV.osl 0 v1_ 9 0 (List.length (flatC v2_)))), (25, (AV.sl .any 1 (List.map CardL.row v2_))), (26, (AV.int .i64 ((v2_.length : Nat) : Int))), (27, (AV.int .i64 ((v2_.length : Nat) : Int)))])
@[simp] abbrev Wk_7 (v1_ : List CardL) : Fr := (mkF 36 [(6, (AV.osl 0 0 9 0 0)), (25, (AV.sl .any 1 (List.map CardL.row v1_))), (26, (AV.int .i64 ((v1_.length : Nat) : Int))), (27, (AV.int .i64 0))])
set_option maxRecDepth 100000 in
theorem conc1_spec (rs : List CardL) (q : Nat) (hrs : rs.length < 1000) (hz : ∀ i, (nth rs i).l.length ≤ 100) (h0 : 0 < (List.length (flatC rs))) (hq : ((flatC rs), (List.length (flatC rs)), q) = iter (conc2_f rs) rs.length 0 ([], 0, 0)) : ACalls Try.prog 68 [(.sl .any 1 (List.map CardL.row rs))] ([] : Heap) ((AV.sl .any 9 (List.map Card.row (flatC rs))), ([] : Heap)) := by
  have hfl := flatC_len rs 100 (fun x hx => by obtain ⟨j, hj, e⟩ := List.getElem_of_mem hx; have := hz j; rw [nth_eq (by rw [List.getElem?_eq_getElem hj, e])] at this; exact this)
  exact specO (fn := Try.f68) (ann := conc_ann) (Has.o Try.func68) (.r (.g (.r (.g (.r (.y 1 (.int .i64 ((List.length (List.map CardL.row rs) : Nat) : Int)) (AV.int .i64 ((rs.length : Nat) : Int)) (Yes.len _ _ _) (.g (.loop (Wk_4 rs) (show LoopTo (codeQ Try.prog (X conc_ann) (loopOf Try.f68 0)) (some [0, 3, 9, 10, 11]) (some [0, 3, 9, 10, 11]) (Wk_5 rs) ([] : Heap) (.exit 0) (Wk_4 rs) ([] : Heap) from (conc1_loop rs hrs hz rs.length 0 0 _ ow ow (conc1_iter rs))) (.r (.ch 1 ([⟨0, 9, (List.map Card.row ([] : List Card)), none⟩] : Heap) (growC_at (List.length (flatC rs)) oa oa ([] : Heap)) (.g (.r (.y 1 (.int .i64 ((List.length (List.map CardL.row rs) : Nat) : Int)) (AV.int .i64 ((rs.length : Nat) : Int)) (Yes.len _ _ _) (.g (.loop (Wk_6 q rs) (show LoopTo (codeQ Try.prog (X conc_ann) (loopOf Try.f68 1)) (some [6, 25, 26, 27]) (some [6, 25, 26, 27]) (Wk_7 rs) ([⟨0, 9, (List.map Card.row ([] : List Card)), none⟩] : Heap) (.exit 2) (Wk_6 q rs) ([⟨q, 9, (List.map Card.row (flatC rs)), none⟩] : Heap) from (conc2_loop rs hrs hz rs.length [] 0 0 0 _ ow rfl ow hq)) (.r (.w 6 (List.map Card.row (flatC rs)) (And.intro (rowsIn_all (room := none) kr om) (Card.rows_bdd _ _) : rowsIn ([⟨q, 9, (List.map Card.row (flatC rs)), none⟩] : Heap) 9 (AV.osl 0 q 9 0 (List.length (flatC rs))) = some (List.map Card.row (flatC rs)) ∧ AV.bddss 0 (List.map Card.row (flatC rs)) = true) (.g (.h' ([] : Heap) (.f 0 (AV.sl .any 9 (List.map Card.row (flatC rs))) (.e (AV.sl .any 9 (List.map Card.row (flatC rs))))))))))))))))))))))))
@[simp] abbrev Wk_8 (v1_ : List CardL) : Fr := (mkF 36 [(0, (AV.sl .any 1 (List.map CardL.row v1_))), (3, (AV.int .i64 0)), (9, (AV.sl .any 1 (List.map CardL.row v1_))), (10, (AV.int .i64 ((v1_.length : Nat) : Int))), (11, (AV.int .i64 ((v1_.length : Nat) : Int)))])
set_option maxRecDepth 100000 in
theorem conc0_spec (rs : List CardL) (q : Nat) (hrs : rs.length < 1000) (hz : ∀ i, (nth rs i).l.length ≤ 100) (h0 : (List.length (flatC rs)) = 0) (hq : ((flatC rs), (List.length (flatC rs)), q) = iter (conc2_f rs) rs.length 0 ([], 0, 0)) : ACalls Try.prog 68 [(.sl .any 1 (List.map CardL.row rs))] ([] : Heap) ((AV.sl .any 9 (List.map Card.row (flatC rs))), ([] : Heap)) := by
  have hfl := flatC_len rs 100 (fun x hx => by obtain ⟨j, hj, e⟩ := List.getElem_of_mem hx; have := hz j; rw [nth_eq (by rw [List.getElem?_eq_getElem hj, e])] at this; exact this)
  exact specO (fn := Try.f68) (ann := conc_ann) (Has.o Try.func68) (.r (.g (.r (.g (.r (.y 1 (.int .i64 ((List.length (List.map CardL.row rs) : Nat) : Int)) (AV.int .i64 ((rs.length : Nat) : Int)) (Yes.len _ _ _) (.g (.loop (Wk_8 rs) (show LoopTo (codeQ Try.prog (X conc_ann) (loopOf Try.f68 0)) (some [0, 3, 9, 10, 11]) (some [0, 3, 9, 10, 11]) (Wk_5 rs) ([] : Heap) (.exit 0) (Wk_8 rs) ([] : Heap) from (conc1_loop rs hrs hz rs.length 0 0 0 ow ow (by rw [← conc1_iter rs]; exact h0.symm))) (.r (.c 1 (growC0_at   ([] : Heap)) (.g (.r (.h' ([⟨0, 9, (List.map Card.row []), none⟩] : Heap) (.y 1 (.int .i64 ((List.length (List.map CardL.row rs) : Nat) : Int)) (AV.int .i64 ((rs.length : Nat) : Int)) (Yes.len _ _ _) (.g (.loop (Wk_6 q rs) (show LoopTo (codeQ Try.prog (X conc_ann) (loopOf Try.f68 1)) (some [6, 25, 26, 27]) (some [6, 25, 26, 27]) (Wk_7 rs) ([⟨0, 9, (List.map Card.row []), none⟩] : Heap) (.exit 2) (Wk_6 q rs) ([⟨q, 9, (List.map Card.row (flatC rs)), none⟩] : Heap) from (conc2_loop rs hrs hz rs.length [] 0 0 0 _ ow rfl ow hq)) (.r (.w 6 (List.map Card.row (flatC rs)) (And.intro (rowsIn_all (room := none) kr om) (Card.rows_bdd _ _) : rowsIn ([⟨q, 9, (List.map Card.row (flatC rs)), none⟩] : Heap) 9 (AV.osl 0 q 9 0 (List.length (flatC rs))) = some (List.map Card.row (flatC rs)) ∧ AV.bddss 0 (List.map Card.row (flatC rs)) = true) (.g (.h' ([] : Heap) (.f 0 (AV.sl .any 9 (List.map Card.row (flatC rs))) (.e (AV.sl .any 9 (List.map Card.row (flatC rs)))))))))))))))))))))))))
theorem conc_spec (rs : List CardL) (hrs : rs.length < 1000) (hz : ∀ i, (nth rs i).l.length ≤ 100) : ACalls Try.prog 68 [(.sl .any 1 (List.map CardL.row rs))] ([] : Heap) ((AV.sl .any 9 (List.map Card.row (flatC rs))), ([] : Heap)) := by
  obtain ⟨q, hq⟩ := conc2_iter rs
  rcases Nat.eq_zero_or_pos (List.length (flatC rs)) with h | h
  · exact conc0_spec rs q hrs hz h hq
  · exact conc1_spec rs q hrs hz h hq
theorem conc_at (rs : List CardL) (hrs : rs.length < 1000) (hz : ∀ i, (nth rs i).l.length ≤ 100) (H : Heap) : ACalls Try.prog 68 [(.sl .any 1 (List.map CardL.row rs))] H ((AV.sl .any 9 (List.map Card.row (flatC rs))), H) := (conc_spec rs hrs hz).lift kr kr H
theorem weakX : Weak (ltF fun a b : Card => cmpK a.key b.key) := weakE
set_option maxRecDepth 100000 in
theorem sortCardX0_spec (l : List Card) (hl : l.length < 1000) : ACalls Try.prog 62 [(.sl .any 9 (List.map Card.row l))] ([] : Heap) ((AV.sl .cn 9 (List.map Card.row (sortP l))), ([] : Heap)) := by
  have hpl := sortP_len l
  exact specO (fn := Try.f62) (ann := sortCard0_ann) (Has.o Try.func62) (.r (.g (.r (.ch 1 ([⟨0, 9, (List.map Card.row l), none⟩] : Heap) (cloneC_at l oa ([] : Heap)) (.g (.r (.ch 1 ([⟨0, 9, (List.map Card.row (insSort (fun a b => cmpK a.key b.key) 0 (l.length - 1) 1 l)), none⟩] : Heap) (sortCW_at (fun a b => cmpK a.key b.key) 114 [] l.length 0 l (fun x y H => sortcmp_at x y H) (rfl) (weakX) oa oa ([] : Heap)) (.w' 3 (List.map Card.row (insSort (fun a b => cmpK a.key b.key) 0 (l.length - 1) 1 l)) (And.intro (rowsIn_all (room := none) kr (by first | omega | (simp [insSort_len]; done) | (simp [insSort_len]; omega))) (Card.rows_bdd _ _) : rowsIn ([⟨0, 9, (List.map Card.row (insSort (fun a b => cmpK a.key b.key) 0 (l.length - 1) 1 l)), none⟩] : Heap) 9 (AV.osl 0 0 9 0 l.length) = some (List.map Card.row (insSort (fun a b => cmpK a.key b.key) 0 (l.length - 1) 1 l)) ∧ AV.bddss 0 (List.map Card.row (insSort (fun a b => cmpK a.key b.key) 0 (l.length - 1) 1 l)) = true) (.g (.r (.c 1 (clipC_at (insSort (fun a b => cmpK a.key b.key) 0 (l.length - 1) 1 l) (by rw [insSort_len]; omega) ([⟨1, 9, [], none⟩] : Heap)) (.g (.h' ([] : Heap) (.f 0 (AV.sl .cn 9 (List.map Card.row (insSort (fun a b => cmpK a.key b.key) 0 (l.length - 1) 1 l))) (.e (AV.sl .cn 9 (List.map Card.row (insSort (fun a b => cmpK a.key b.key) 0 (l.length - 1) 1 l))) (by
        with_unfolding_all rfl))))))))))))))))
theorem sortCardX_spec (l : List Card) (hl : l.length < 1000) : ACalls Try.prog 62 [(.sl .any 9 (List.map Card.row l))] ([] : Heap) ((AV.sl .any 9 (List.map Card.row (sortP l))), ([] : Heap)) := (sortCardX0_spec l hl).post ⟨rfl, rfl, .inl rfl⟩
theorem sortCardX_at (l : List Card) (hl : l.length < 1000) (H : Heap) : ACalls Try.prog 62 [(.sl .any 9 (List.map Card.row l))] H ((AV.sl .any 9 (List.map Card.row (sortP l))), H) := (sortCardX_spec l hl).lift kr kr H
def joinS (s : List Card) (c : Card) : List Card := if 0 < s.length ∧ Key.eqb (nth s (s.length - 1)).key c.key = true then s.set (s.length - 1) (joinC (nth s (s.length - 1)) c) else s ++ [c]
def joinF (l : List Card) : List Card := l.foldl joinS []
def joinK (l : List Card) : List Card := joinF (sortK l)
theorem joinS_len (s : List Card) (c : Card) : (joinS s c).length ≤ s.length + 1 := by
  unfold joinS; split
  · simp
  · simp
attribute [local irreducible] sortP sortK joinC
def mj_ann : Ann := { gh := [(10, .frz 3)], gha := [(1, .vir 3 9), (9, .cut 1)], fin := some 0, live := [(3, [3, 9, 10, 11])], out := [(3, [3, 9, 10, 11])] }
@[simp] abbrev Wk_o1 (v1_ : Nat) (v2_ : List Card) (v3_ : Nat) (v4_ : List Card) (v5_ : Nat) : Ob := ⟨v1_, 9, (List.map Card.row (v2_.set (v3_ - 1) (joinC (nth v2_ (v3_ - 1)) (nth v4_ v5_)))), none⟩
@[simp] abbrev Wk_9 (v1_ : Nat) (v2_ : List Card) (v3_ : Nat) (v4_ : List Card) (v5_ : Nat) : Heap := [Wk_o1 v1_ v2_ v3_ v4_ v5_]
@[simp] abbrev Wk_10 (v1_ : Nat) (v2_ : Nat) (v3_ : List Card) (v4_ : Nat) : Fr := (mkF 47 [(3, (AV.osl 0 (v1_ + 1) 9 0 (v2_ + 1))), (9, (AV.sl .any 9 (List.map Card.row v3_))), (10, (AV.int .i64 ((v3_.length : Nat) : Int))), (11, (AV.int .i64 ((v4_ + 1 : Nat) : Int)))])
@[simp] abbrev Wk_o2 (v1_ : Nat) (v2_ : List Card) (v3_ : List Card) (v4_ : Nat) : Ob := ⟨(v1_ + 1), 9, (List.map Card.row (v2_ ++ [(nth v3_ v4_)])), none⟩
@[simp] abbrev Wk_11 (v1_ : Nat) (v2_ : List Card) (v3_ : List Card) (v4_ : Nat) : Heap := [Wk_o2 v1_ v2_ v3_ v4_]
@[simp] abbrev Wk_12 (v1_ : Nat) (v2_ : Nat) (v3_ : List Card) (v4_ : Nat) : Fr := (mkF 47 [(3, (AV.osl 0 v1_ 9 0 v2_)), (9, (AV.sl .any 9 (List.map Card.row v3_))), (10, (AV.int .i64 ((v3_.length : Nat) : Int))), (11, (AV.int .i64 ((v4_ : Nat) : Int)))])
@[simp] abbrev Wk_13 (v1_ : Nat) (v2_ : List Card) (v3_ : List Card) (v4_ : Nat) : Heap := [⟨v1_, 9, (List.map Card.row v2_), none⟩, ⟨0, 9, [(Card.row (nth v3_ v4_))], none⟩]
@[simp] abbrev Wk_14 (v1_ : Nat) (v2_ : List Card) (v3_ : List Card) (v4_ : Nat) : Heap := [Wk_o2 v1_ v2_ v3_ v4_, ⟨0, 9, [(Card.row (nth v3_ v4_))], none⟩]
set_option maxRecDepth 100000 in
theorem mj_step (l : List Card) (out : List Card) (k : Nat) (h : Nat) (i : Nat) (hl : l.length < 1000000) (hk : k = out.length) (hki : k ≤ i) (hle_ : i ≤ l.length) {eX : Ex} {FX : Fr} {HX : Heap} (k1 : (decide (((i : Nat) : Int) < ((l.length : Nat) : Int))) = true → (decide (((k : Nat) : Int) > 0)) = true → (Key.eqb (nth out (k - 1)).key (nth l i).key) = true → LoopTo (codeQ Try.prog (X mj_ann) (loopOf Try.f30 0)) (some [3, 9, 10, 11]) (some [3, 9, 10, 11]) (mkF 47 [(3, (.osl 0 h 9 0 k)), (9, (.sl .any 9 (List.map Card.row l))), (10, (.int .i64 ((l.length : Nat) : Int))), (11, (.int .i64 ((i + 1 : Nat) : Int)))]) (Wk_9 h out k l i) eX FX HX) (k2 : (decide (((i : Nat) : Int) < ((l.length : Nat) : Int))) = true → (decide (((k : Nat) : Int) > 0)) = true → (Key.eqb (nth out (k - 1)).key (nth l i).key) = false → LoopTo (codeQ Try.prog (X mj_ann) (loopOf Try.f30 0)) (some [3, 9, 10, 11]) (some [3, 9, 10, 11]) (Wk_10 h k l i) (Wk_11 h out l i) eX FX HX) (k3 : (decide (((i : Nat) : Int) < ((l.length : Nat) : Int))) = true → (decide (((k : Nat) : Int) > 0)) = false → LoopTo (codeQ Try.prog (X mj_ann) (loopOf Try.f30 0)) (some [3, 9, 10, 11]) (some [3, 9, 10, 11]) (Wk_10 h k l i) (Wk_11 h out l i) eX FX HX) (k4 : (decide (((i : Nat) : Int) < ((l.length : Nat) : Int))) = false → ((.exit 0 : Ex), (Wk_12 h k l i), ([⟨h, 9, (List.map Card.row out), none⟩] : Heap)) = (eX, FX, HX)) : LoopTo (codeQ Try.prog (X mj_ann) (loopOf Try.f30 0)) (some [3, 9, 10, 11]) (some [3, 9, 10, 11]) (Wk_12 h k l i) ([⟨h, 9, (List.map Card.row out), none⟩] : Heap) eX FX HX :=
  stepO (.r (.g (.two (decide (((i : Nat) : Int) < ((l.length : Nat) : Int))) (fun h1 h1' => (.r (.h' ([⟨h, 9, (List.map Card.row out), none⟩, ⟨0, 9, [[(AV.str ⟨#[]⟩), (AV.str ⟨#[]⟩), (AV.int .i64 0), (AV.int .i64 0), (AV.int .i64 0), (AV.int .i64 0), (AV.int .i64 0), (AV.int .i64 0), (AV.bool false)]], none⟩] : Heap) (.is 0 9 9 (List.map Card.row l) ((i : Nat) : Int) (Card.row (nth l i)) (IdxSl.mk _ ow ow) (.g (.r (.g (.r (.two (decide (((k : Nat) : Int) > 0)) (fun h2 h2' => (.yes (.yes (.h' (Wk_13 h out l i) (.y 5 (.int .i64 (IntKind.i64.wrap (((k : Nat) : Int) - 1))) (AV.int .i64 ((k - 1 : Nat) : Int)) (Yes.add ow ow ow) (.yes (.io 6 0 h 9 9 0 k ((k - 1 : Nat) : Int) (k - 1) (IdxOsl.mk _ ow ow) (.yes (.yes (.t 8 (AV.agg (Key.row (nth out (k - 1)).key)) (Wk_13 h out l i) (load_row (rowAt_map (row := Card.row) (l := out) (k := 9) (room := none) kr om) kr : LoadTo tt 31 0 (Wk_13 h out l i) (rowAt (Wk_13 h out l i) 0 h (k - 1)) = some ((AV.agg (Key.row (nth out (k - 1)).key)), (Wk_13 h out l i))) (.yes (.yes (.yes (.g (.two (Key.eqb (nth out (k - 1)).key (nth l i).key) (fun h3 h3' => (.r (.y 2 (.int .i64 (IntKind.i64.wrap (((k : Nat) : Int) - 1))) (AV.int .i64 ((k - 1 : Nat) : Int)) (Yes.add ow ow ow) (.y 5 (.int .i64 (IntKind.i64.wrap (((k : Nat) : Int) - 1))) (AV.int .i64 ((k - 1 : Nat) : Int)) (Yes.add ow ow ow) (.io 6 0 h 9 9 0 k ((k - 1 : Nat) : Int) (k - 1) (IdxOsl.mk _ ow ow) (.t 7 (AV.agg (Card.row (nth out (k - 1)))) (Wk_13 h out l i) (load_row (rowAt_map (row := Card.row) (l := out) (k := 9) (room := none) kr om) kr : LoadTo tt 58 0 (Wk_13 h out l i) (rowAt (Wk_13 h out l i) 0 h (k - 1)) = some ((AV.agg (Card.row (nth out (k - 1)))), (Wk_13 h out l i))) (.c 9 (cjoin_at (nth out (k - 1)) (nth l i)  (Wk_13 h out l i)) (.io 10 0 h 9 9 0 k ((k - 1 : Nat) : Int) (k - 1) (IdxOsl.mk _ ow ow) (.st 11 0 h (k - 1) 9 0 (AV.agg (Card.row (joinC (nth out (k - 1)) (nth l i)))) ([⟨h, 9, (List.map Card.row (out.set (k - 1) (joinC (nth out (k - 1)) (nth l i)))), none⟩, ⟨0, 9, [(Card.row (nth l i))], none⟩] : Heap) (store_row (us := (Card.row (joinC (nth out (k - 1)) (nth l i)))) (rowAt_map (row := Card.row) (l := out) (k := 9) (room := none) kr om) kr (by simp [Card.row]) (by simp [setAt, fillAt, List.map_set, Card.row])) (.g (.r (.y 0 (.int .i64 (IntKind.i64.wrap (((i : Nat) : Int) + 1))) (AV.int .i64 ((i + 1 : Nat) : Int)) (Yes.add ow ow ow) (.h' (Wk_9 h out k l i) (.b 1 (.g (.l (k1 h1 h2 h3))))))))))))))))) (fun h3 h3' => (.r (.ap 3 33 (AV.osl 0 h 9 0 k) (AV.sl .clip 9 [(Card.row (nth l i))]) (AV.osl 0 (h + 1) 9 0 (k + 1)) (Wk_14 h out l i) (evAppend_one (row := Card.row) (l := out) (x := (nth l i)) (T := tt) (e := 58) (te := { d := .struct [(31, 0), (3, 2), (3, 3), (2, 4), (56, 5), (4, 8)], size := 9, bytes := 88, zero := [.str ⟨#[]⟩, .str ⟨#[]⟩, .int .i64 0, .int .i64 0, .int .i64 0, .int .i64 0, .int .i64 0, .int .i64 0, .bool false] }) (z := 1) (b := 24) (y := [.sl .nil 0 []]) kr kr rfl (by decide) (by decide) kr (by first | assumption | omega | (simp; done) | (simp; omega)) rfl rfl (by first | omega | (show _ * 88 ≤ _; omega) | (simp; omega))) (.g (.r (.y 0 (.int .i64 (IntKind.i64.wrap (((i : Nat) : Int) + 1))) (AV.int .i64 ((i + 1 : Nat) : Int)) (Yes.add ow ow ow) (.h' (Wk_11 h out l i) (.b 1 (.g (.l (k2 h1 h2 h3)))))))))))))))))))))))))) (fun h2 h2' => (.no (.no (.no (.no (.no (.no (.no (.no (.g (.no (.r (.h' (Wk_13 h out l i) (.ap 3 33 (AV.osl 0 h 9 0 k) (AV.sl .clip 9 [(Card.row (nth l i))]) (AV.osl 0 (h + 1) 9 0 (k + 1)) (Wk_14 h out l i) (evAppend_one (row := Card.row) (l := out) (x := (nth l i)) (T := tt) (e := 58) (te := { d := .struct [(31, 0), (3, 2), (3, 3), (2, 4), (56, 5), (4, 8)], size := 9, bytes := 88, zero := [.str ⟨#[]⟩, .str ⟨#[]⟩, .int .i64 0, .int .i64 0, .int .i64 0, .int .i64 0, .int .i64 0, .int .i64 0, .bool false] }) (z := 1) (b := 24) (y := [.sl .nil 0 []]) kr kr rfl (by decide) (by decide) kr (by first | assumption | omega | (simp; done) | (simp; omega)) rfl rfl (by first | omega | (show _ * 88 ≤ _; omega) | (simp; omega))) (.g (.r (.y 0 (.int .i64 (IntKind.i64.wrap (((i : Nat) : Int) + 1))) (AV.int .i64 ((i + 1 : Nat) : Int)) (Yes.add ow ow ow) (.h' (Wk_11 h out l i) (.b 1 (.g (.l (k3 h1 h2))))))))))))))))))))))))))))))) (fun h1 h1' => (.l (k4 h1))))))
def mj_f (l : List Card) (i : Nat) (s : (List Card) × Nat × Nat) : (List Card) × Nat × Nat := (if (decide (((s.2.1 : Nat) : Int) > 0)) = true then (if (Key.eqb (nth s.1 (s.2.1 - 1)).key (nth l i).key) = true then (s.1.set (s.2.1 - 1) (joinC (nth s.1 (s.2.1 - 1)) (nth l i)), s.2.1, s.2.2) else (s.1 ++ [(nth l i)], (s.2.1 + 1), (s.2.2 + 1))) else (s.1 ++ [(nth l i)], (s.2.1 + 1), (s.2.2 + 1)))
theorem mj_loop (l : List Card) (hl : l.length < 1000000)  (r_ : Nat) : ∀ (out : List Card) (k : Nat) (h : Nat) (i : Nat) (sF : (List Card) × Nat × Nat), i + r_ = l.length → k = out.length → k ≤ i → sF = iter (mj_f l) r_ i (out, k, h) →
    LoopTo (codeQ Try.prog (X mj_ann) (loopOf Try.f30 0)) (some [3, 9, 10, 11]) (some [3, 9, 10, 11]) (Wk_12 h k l i) ([⟨h, 9, (List.map Card.row out), none⟩] : Heap) (.exit 0) (mkF 47 [(3, (.osl 0 sF.2.2 9 0 sF.2.1)), (9, (.sl .any 9 (List.map Card.row l))), (10, (.int .i64 ((l.length : Nat) : Int))), (11, (.int .i64 ((l.length : Nat) : Int)))]) ([⟨sF.2.2, 9, (List.map Card.row sF.1), none⟩] : Heap) := by
  induction r_ with
  | zero =>
    intro out k h i sF hi_ hk hki  hF
    obtain rfl : l.length = i := by omega
    have e_ : sF = (out, k, h) := hF
    refine mj_step l out k h l.length hl hk hki (Nat.le_refl _) (fun h _ _ => by simp at h <;> omega) (fun h _ _ => by simp at h <;> omega) (fun h _ => by simp at h <;> omega) (fun _ => ?_)
    first | done | rfl | (rw [e_]; done) | (rw [e_]; rfl)
  | succ r_ ih =>
    intro out k h i sF hi_ hk hki  hF
    refine mj_step l out k h i hl hk hki ow (fun h1 h2 h3 => ?_) (fun h1 h2 h3 => ?_) (fun h1 h2 => ?_) (fun h => by simp at h <;> omega)
    · exact ih (out.set (k - 1) (joinC (nth out (k - 1)) (nth l i))) k h (i + 1) sF ow (by first | omega | assumption | (simp; done) | (simp; omega) | (simp [*]; done) | (simp [*]; omega)) (by first | omega | assumption | (simp; done) | (simp; omega) | (simp [*]; done) | (simp [*]; omega))  (by rw [hF] <;> simp only [iter, mj_f, h2, h3, if_true, Bool.false_eq_true, if_false])
    · exact ih (out ++ [(nth l i)]) (k + 1) (h + 1) (i + 1) sF ow (by first | omega | assumption | (simp; done) | (simp; omega) | (simp [*]; done) | (simp [*]; omega)) (by first | omega | assumption | (simp; done) | (simp; omega) | (simp [*]; done) | (simp [*]; omega))  (by rw [hF] <;> simp only [iter, mj_f, h2, h3, if_true, Bool.false_eq_true, if_false])
    · exact ih (out ++ [(nth l i)]) (k + 1) (h + 1) (i + 1) sF ow (by first | omega | assumption | (simp; done) | (simp; omega) | (simp [*]; done) | (simp [*]; omega)) (by first | omega | assumption | (simp; done) | (simp; omega) | (simp [*]; done) | (simp [*]; omega))  (by rw [hF] <;> simp only [iter, mj_f, h2, if_true, Bool.false_eq_true, if_false])
theorem mj_fS  (l : List Card) (i : Nat) (s : List Card × Nat × Nat) (h : s.2.1 = s.1.length) : (mj_f l i s).1 = joinS s.1 (nth l i) ∧ (mj_f l i s).2.1 = (mj_f l i s).1.length := by
  obtain ⟨s1, s2, s3⟩ := s
  simp only at h
  subst h
  unfold mj_f joinS
  simp only
  by_cases h0 : 0 < s1.length
  · cases hb : Key.eqb (nth s1 (s1.length - 1)).key (nth l i).key <;> simp [h0]
  · simp [h0]
theorem mj_iter (l : List Card) : ∃ h, (joinF l, (joinF l).length, h) = iter (mj_f l) l.length 0 ([], 0, 0) := by
  refine ⟨(iter (mj_f l) l.length 0 ([], 0, 0)).2.2, ?_⟩
  have h2 := iter_inv (fun i (s : (List Card × Nat × Nat) × List Card) => (mj_f l i s.1, joinS s.2 (nth l i))) (fun _ s => s.1.2.1 = s.1.1.length ∧ s.1.1 = s.2) l.length (fun i s _ hs => by
    have := mj_fS l i s.1 hs.1
    exact ⟨this.2, by rw [this.1, hs.2]⟩) l.length 0 (([], 0, 0), []) ow ⟨rfl, rfl⟩
  have h3 := iter_proj (fun i (s : (List Card × Nat × Nat) × List Card) => (mj_f l i s.1, joinS s.2 (nth l i))) (mj_f l) (fun s => s.1) (fun i s => rfl) l.length 0 (([], 0, 0), [])
  have h4 := iter_proj (fun i (s : (List Card × Nat × Nat) × List Card) => (mj_f l i s.1, joinS s.2 (nth l i))) (fun i s => joinS s (nth l i)) (fun s => s.2) (fun i s => rfl) l.length 0 (([], 0, 0), [])
  rw [iter_all (fun i s => joinS s (nth l i)) joinS l (fun i s hi => rfl)] at h4
  generalize iter (fun i (s : (List Card × Nat × Nat) × List Card) => (mj_f l i s.1, joinS s.2 (nth l i))) l.length 0 (([], 0, 0), []) = x at h2 h3 h4
  simp only at h3 h4
  rw [← h3]
  obtain ⟨⟨x1, x2, x3⟩, x4⟩ := x
  simp only at h2 h4 ⊢
  obtain ⟨q1, q2⟩ := h2
  rw [q1, q2]; unfold joinF; rw [h4]
@[simp] abbrev Wk_15 (v1_ : Nat) (v2_ : List CardL) : Fr := (mkF 47 [(3, (AV.osl 0 v1_ 9 0 (joinF (sortP (flatC v2_))).length)), (9, (AV.sl .any 9 (List.map Card.row (sortP (flatC v2_))))), (10, (AV.int .i64 (((sortP (flatC v2_)).length : Nat) : Int))), (11, (AV.int .i64 (((sortP (flatC v2_)).length : Nat) : Int)))])
@[simp] abbrev Wk_16 (v1_ : Nat) (v2_ : List CardL) : Heap := [⟨v1_, 9, (List.map Card.row (joinF (sortP (flatC v2_)))), none⟩]
set_option maxRecDepth 100000 in
theorem mj0_spec (rs : List CardL) (q : Nat) (hrs : rs.length < 1000) (hz : ∀ i, (nth rs i).l.length ≤ 100) (hf : (flatC rs).length < 1000) (hq : ((joinF (sortP (flatC rs))), ((joinF (sortP (flatC rs)))).length, q) = iter (mj_f (sortP (flatC rs))) ((sortP (flatC rs))).length 0 ([], 0, 0)) : ACalls Try.prog 30 [(.sl .any 1 (List.map CardL.row rs))] ([] : Heap) ((AV.sl .any 9 (List.map Card.row (joinF (sortP (flatC rs))))), ([] : Heap)) := by
  have hfl := flatC_len rs 100 (fun x hx => by obtain ⟨j, hj, e⟩ := List.getElem_of_mem hx; have := hz j; rw [nth_eq (by rw [List.getElem?_eq_getElem hj, e])] at this; exact this)
  have hsp := sortP_len (flatC rs)
  exact specO (fn := Try.f30) (ann := mj_ann) (Has.o Try.func30) (.r (.g (.r (.g (.r (.c 1 (conc_at rs oa oa ([⟨0, 9, (List.map Card.row []), none⟩] : Heap)) (.c 2 (sortCardX_at (flatC rs) oa ([⟨0, 9, (List.map Card.row []), none⟩] : Heap)) (.h' ([⟨0, 9, (List.map Card.row []), none⟩] : Heap) (.y 3 (.int .i64 ((List.length (List.map Card.row (sortP (flatC rs))) : Nat) : Int)) (AV.int .i64 (((sortP (flatC rs)).length : Nat) : Int)) (Yes.len _ _ _) (.g (.loop (Wk_15 q rs) (show LoopTo (codeQ Try.prog (X mj_ann) (loopOf Try.f30 0)) (some [3, 9, 10, 11]) (some [3, 9, 10, 11]) (mkF 47 [(3, (.osl 0 0 9 0 0)), (9, (.sl .any 9 (List.map Card.row (sortP (flatC rs))))), (10, (.int .i64 (((sortP (flatC rs)).length : Nat) : Int))), (11, (.int .i64 0))]) ([⟨0, 9, (List.map Card.row []), none⟩] : Heap) (.exit 0) (Wk_15 q rs) (Wk_16 q rs) from (mj_loop (sortP (flatC rs)) ow (sortP (flatC rs)).length [] 0 0 0 _ ow rfl ow hq)) (.r (.w 3 (List.map Card.row (joinF (sortP (flatC rs)))) (And.intro (rowsIn_all (room := none) kr om) (Card.rows_bdd _ _) : rowsIn (Wk_16 q rs) 9 (AV.osl 0 q 9 0 (joinF (sortP (flatC rs))).length) = some (List.map Card.row (joinF (sortP (flatC rs)))) ∧ AV.bddss 0 (List.map Card.row (joinF (sortP (flatC rs)))) = true) (.g (.h' ([] : Heap) (.f 0 (AV.sl .any 9 (List.map Card.row (joinF (sortP (flatC rs))))) (.e (AV.sl .any 9 (List.map Card.row (joinF (sortP (flatC rs))))))))))))))))))))))
theorem mjoin_spec (rs : List CardL) (hrs : rs.length < 1000) (hz : ∀ i, (nth rs i).l.length ≤ 100) (hf : (flatC rs).length < 1000) : ACalls Try.prog 30 [(.sl .any 1 (List.map CardL.row rs))] ([] : Heap) ((AV.sl .any 9 (List.map Card.row (joinK (flatC rs)))), ([] : Heap)) := by
  obtain ⟨q, hq⟩ := mj_iter (sortP (flatC rs))
  have h := mj0_spec rs q hrs hz hf hq
  rw [sortP_sortK] at h
  exact h
theorem mjoin_at (rs : List CardL) (hrs : rs.length < 1000) (hz : ∀ i, (nth rs i).l.length ≤ 100) (hf : (flatC rs).length < 1000) (H : Heap) : ACalls Try.prog 30 [(.sl .any 1 (List.map CardL.row rs))] H ((AV.sl .any 9 (List.map Card.row (joinK (flatC rs)))), H) := (mjoin_spec rs hrs hz hf).lift kr kr H
def rj_ann : Ann := { own := [19], gh := [(8, .frz 3), (16, .frz 5)], gha := [(1, .vir 3 9), (6, .cut 1), (7, .vir 5 9), (15, .cut 2)], fin := some 0, live := [(3, [0, 3, 9, 10, 11]), (9, [5, 22, 23, 24])], out := [(3, [0, 3, 9, 10, 11]), (9, [5, 22, 23, 24])] }
@[simp] abbrev Wk_17 (v1_ : List CardL) (v2_ : Nat) (v3_ : Nat) (v4_ : Nat) : Fr := (mkF 60 [(0, (AV.sl .any 1 (List.map CardL.row v1_))), (3, (AV.osl 0 v2_ 9 0 v3_)), (9, (AV.sl .any 1 (List.map CardL.row v1_))), (10, (AV.int .i64 ((v1_.length : Nat) : Int))), (11, (AV.int .i64 ((v4_ : Nat) : Int)))])
set_option maxRecDepth 100000 in
theorem rj2_step (rs : List CardL) (out : List Card) (k : Nat) (h : Nat) (i : Nat) (hrs : rs.length < 1000) (hz : ∀ i, (nth rs i).l.length ≤ 100) (hk : k = out.length) (hki : k ≤ 100 * i) (hle_ : i ≤ rs.length) {eX : Ex} {FX : Fr} {HX : Heap} (k1 : (decide (((i : Nat) : Int) < ((rs.length : Nat) : Int))) = true → LoopTo (codeQ Try.prog (X rj_ann) (loopOf Try.f67 0)) (some [0, 3, 9, 10, 11]) (some [0, 3, 9, 10, 11]) (mkF 60 [(0, (.sl .any 1 (List.map CardL.row rs))), (3, (.osl 0 (h + 1) 9 0 (k + (nth rs i).l.length))), (9, (.sl .any 1 (List.map CardL.row rs))), (10, (.int .i64 ((rs.length : Nat) : Int))), (11, (.int .i64 ((i + 1 : Nat) : Int)))]) (Wk_2 h out rs i) eX FX HX) (k2 : (decide (((i : Nat) : Int) < ((rs.length : Nat) : Int))) = false → ((.exit 0 : Ex), (Wk_17 rs h k i), ([⟨h, 9, (List.map Card.row out), none⟩] : Heap)) = (eX, FX, HX)) : LoopTo (codeQ Try.prog (X rj_ann) (loopOf Try.f67 0)) (some [0, 3, 9, 10, 11]) (some [0, 3, 9, 10, 11]) (Wk_17 rs h k i) ([⟨h, 9, (List.map Card.row out), none⟩] : Heap) eX FX HX := by
  have q := hz i
  exact stepO (.r (.g (.two (decide (((i : Nat) : Int) < ((rs.length : Nat) : Int))) (fun h1 h1' => (.r (.g (.r (.is 3 1 1 (List.map CardL.row rs) ((i : Nat) : Int) (CardL.row (nth rs i)) (IdxSl.mk _ ow ow) (.ao 5 33 (AV.osl 0 h 9 0 k) (AV.sl .any 9 (List.map Card.row (nth rs i).l)) (AV.osl 0 (h + 1) 9 0 (k + (nth rs i).l.length)) (Wk_2 h out rs i) (evAppendO_end (T := tt) (e := 58) (te := { d := .struct [(31, 0), (3, 2), (3, 3), (2, 4), (56, 5), (4, 8)], size := 9, bytes := 88, zero := [.str ⟨#[]⟩, .str ⟨#[]⟩, .int .i64 0, .int .i64 0, .int .i64 0, .int .i64 0, .int .i64 0, .int .i64 0, .bool false] }) (z := 1) (b := 24) (y := [.sl .nil 0 []]) (row := Card.row) (l := out) kr kr rfl (by decide) (by decide) kr (by first | (simp [rowsIn, List.map_take, List.map_drop, List.take_of_length_le]; done) | simp [rowsIn, rU8, rI64, rStr, rBool]) om rfl rfl (by first | omega | (show _ * 88 ≤ _; omega) | (simp; done) | (simp; omega))) (.g (.r (.y 0 (.int .i64 (IntKind.i64.wrap (((i : Nat) : Int) + 1))) (AV.int .i64 ((i + 1 : Nat) : Int)) (Yes.add ow ow ow) (.b 1 (.g (.l (k1 h1))))))))))))) (fun h1 h1' => (.l (k2 h1))))))
def rj2_f (rs : List CardL) (i : Nat) (s : (List Card) × Nat × Nat) : (List Card) × Nat × Nat := (s.1 ++ (nth rs i).l, (s.2.1 + (nth rs i).l.length), (s.2.2 + 1))
theorem rj2_loop (rs : List CardL) (hrs : rs.length < 1000) (hz : ∀ i, (nth rs i).l.length ≤ 100)  (r_ : Nat) : ∀ (out : List Card) (k : Nat) (h : Nat) (i : Nat) (sF : (List Card) × Nat × Nat), i + r_ = rs.length → k = out.length → k ≤ 100 * i → sF = iter (rj2_f rs) r_ i (out, k, h) →
    LoopTo (codeQ Try.prog (X rj_ann) (loopOf Try.f67 0)) (some [0, 3, 9, 10, 11]) (some [0, 3, 9, 10, 11]) (Wk_17 rs h k i) ([⟨h, 9, (List.map Card.row out), none⟩] : Heap) (.exit 0) (mkF 60 [(0, (.sl .any 1 (List.map CardL.row rs))), (3, (.osl 0 sF.2.2 9 0 sF.2.1)), (9, (.sl .any 1 (List.map CardL.row rs))), (10, (.int .i64 ((rs.length : Nat) : Int))), (11, (.int .i64 ((rs.length : Nat) : Int)))]) ([⟨sF.2.2, 9, (List.map Card.row sF.1), none⟩] : Heap) := by
  induction r_ with
  | zero =>
    intro out k h i sF hi_ hk hki  hF
    obtain rfl : rs.length = i := by omega
    have e_ : sF = (out, k, h) := hF
    refine rj2_step rs out k h rs.length hrs hz hk hki (Nat.le_refl _) (fun h => by simp at h <;> omega) (fun _ => ?_)
    first | done | rfl | (rw [e_]; done) | (rw [e_]; rfl)
  | succ r_ ih =>
    intro out k h i sF hi_ hk hki  hF
    refine rj2_step rs out k h i hrs hz hk hki ow (fun h1 => ?_) (fun h => by simp at h <;> omega)
    · exact ih (out ++ (nth rs i).l) (k + (nth rs i).l.length) (h + 1) (i + 1) sF ow (by have q := hz i; first | omega | assumption | (simp; done) | (simp; omega) | (simp [*]; done) | (simp [*]; omega)) (by have q := hz i; first | omega | assumption | (simp; done) | (simp; omega) | (simp [*]; done) | (simp [*]; omega))  (by rw [hF] <;> simp only [iter, rj2_f, if_true, Bool.false_eq_true, if_false])
theorem rj2_iter (rs : List CardL) (q : Nat) (hq : (flatC rs, (flatC rs).length, q) = iter (conc2_f rs) rs.length 0 ([], 0, 0)) : (flatC rs, (flatC rs).length, q) = iter (rj2_f rs) rs.length 0 ([], 0, 0) := by
  rw [hq]; rfl
@[simp] abbrev Wk_18 (v1_ : Nat) (v2_ : Nat) (v3_ : List Card) (v4_ : Nat) (v5_ : List Card) (v6_ : Nat) : Heap := [⟨v1_, 9, [], none⟩, Wk_o1 v2_ v3_ v4_ v5_ v6_]
@[simp] abbrev Wk_19 (v1_ : Nat) (v2_ : Nat) (v3_ : List Card) (v4_ : Nat) : Fr := (mkF 60 [(5, (AV.osl 1 (v1_ + 1) 9 0 (v2_ + 1))), (22, (AV.sl .any 9 (List.map Card.row v3_))), (23, (AV.int .i64 ((v3_.length : Nat) : Int))), (24, (AV.int .i64 ((v4_ + 1 : Nat) : Int)))])
@[simp] abbrev Wk_20 (v1_ : Nat) (v2_ : Nat) (v3_ : List Card) (v4_ : List Card) (v5_ : Nat) : Heap := [⟨v1_, 9, [], none⟩, Wk_o2 v2_ v3_ v4_ v5_]
@[simp] abbrev Wk_21 (v1_ : Nat) (v2_ : Nat) (v3_ : List Card) (v4_ : Nat) : Fr := (mkF 60 [(5, (AV.osl 1 v1_ 9 0 v2_)), (22, (AV.sl .any 9 (List.map Card.row v3_))), (23, (AV.int .i64 ((v3_.length : Nat) : Int))), (24, (AV.int .i64 ((v4_ : Nat) : Int)))])
@[simp] abbrev Wk_22 (v1_ : Nat) (v2_ : Nat) (v3_ : List Card) (v4_ : List Card) (v5_ : Nat) : Heap := [⟨v1_, 9, [], none⟩, ⟨v2_, 9, (List.map Card.row v3_), none⟩, ⟨0, 9, [(Card.row (nth v4_ v5_))], none⟩]
@[simp] abbrev Wk_23 (v1_ : Nat) (v2_ : Nat) (v3_ : List Card) (v4_ : List Card) (v5_ : Nat) : Heap := [⟨v1_, 9, [], none⟩, Wk_o2 v2_ v3_ v4_ v5_, ⟨0, 9, [(Card.row (nth v4_ v5_))], none⟩]
set_option maxRecDepth 100000 in
theorem rj_step (gz : Nat) (l : List Card) (out : List Card) (k : Nat) (h : Nat) (i : Nat) (hl : l.length < 1000000) (hk : k = out.length) (hki : k ≤ i) (hle_ : i ≤ l.length) {eX : Ex} {FX : Fr} {HX : Heap} (k1 : (decide (((i : Nat) : Int) < ((l.length : Nat) : Int))) = true → (decide (((k : Nat) : Int) > 0)) = true → (Key.eqb (nth out (k - 1)).key (nth l i).key) = true → LoopTo (codeQ Try.prog (X rj_ann) (loopOf Try.f67 1)) (some [5, 22, 23, 24]) (some [5, 22, 23, 24]) (mkF 60 [(5, (.osl 1 h 9 0 k)), (22, (.sl .any 9 (List.map Card.row l))), (23, (.int .i64 ((l.length : Nat) : Int))), (24, (.int .i64 ((i + 1 : Nat) : Int)))]) (Wk_18 gz h out k l i) eX FX HX) (k2 : (decide (((i : Nat) : Int) < ((l.length : Nat) : Int))) = true → (decide (((k : Nat) : Int) > 0)) = true → (Key.eqb (nth out (k - 1)).key (nth l i).key) = false → LoopTo (codeQ Try.prog (X rj_ann) (loopOf Try.f67 1)) (some [5, 22, 23, 24]) (some [5, 22, 23, 24]) (Wk_19 h k l i) (Wk_20 gz h out l i) eX FX HX) (k3 : (decide (((i : Nat) : Int) < ((l.length : Nat) : Int))) = true → (decide (((k : Nat) : Int) > 0)) = false → LoopTo (codeQ Try.prog (X rj_ann) (loopOf Try.f67 1)) (some [5, 22, 23, 24]) (some [5, 22, 23, 24]) (Wk_19 h k l i) (Wk_20 gz h out l i) eX FX HX) (k4 : (decide (((i : Nat) : Int) < ((l.length : Nat) : Int))) = false → ((.exit 2 : Ex), (Wk_21 h k l i), ([⟨gz, 9, [], none⟩, ⟨h, 9, (List.map Card.row out), none⟩] : Heap)) = (eX, FX, HX)) : LoopTo (codeQ Try.prog (X rj_ann) (loopOf Try.f67 1)) (some [5, 22, 23, 24]) (some [5, 22, 23, 24]) (Wk_21 h k l i) ([⟨gz, 9, [], none⟩, ⟨h, 9, (List.map Card.row out), none⟩] : Heap) eX FX HX :=
  stepO (.r (.g (.two (decide (((i : Nat) : Int) < ((l.length : Nat) : Int))) (fun h1 h1' => (.r (.h' ([⟨gz, 9, [], none⟩, ⟨h, 9, (List.map Card.row out), none⟩, ⟨0, 9, [[(AV.str ⟨#[]⟩), (AV.str ⟨#[]⟩), (AV.int .i64 0), (AV.int .i64 0), (AV.int .i64 0), (AV.int .i64 0), (AV.int .i64 0), (AV.int .i64 0), (AV.bool false)]], none⟩] : Heap) (.is 0 9 9 (List.map Card.row l) ((i : Nat) : Int) (Card.row (nth l i)) (IdxSl.mk _ ow ow) (.g (.r (.g (.r (.two (decide (((k : Nat) : Int) > 0)) (fun h2 h2' => (.yes (.yes (.h' (Wk_22 gz h out l i) (.y 5 (.int .i64 (IntKind.i64.wrap (((k : Nat) : Int) - 1))) (AV.int .i64 ((k - 1 : Nat) : Int)) (Yes.add ow ow ow) (.yes (.io 6 1 h 9 9 0 k ((k - 1 : Nat) : Int) (k - 1) (IdxOsl.mk _ ow ow) (.yes (.yes (.t 8 (AV.agg (Key.row (nth out (k - 1)).key)) (Wk_22 gz h out l i) (load_row (rowAt_map (row := Card.row) (l := out) (k := 9) (room := none) kr om) kr : LoadTo tt 31 0 (Wk_22 gz h out l i) (rowAt (Wk_22 gz h out l i) 1 h (k - 1)) = some ((AV.agg (Key.row (nth out (k - 1)).key)), (Wk_22 gz h out l i))) (.yes (.yes (.yes (.g (.two (Key.eqb (nth out (k - 1)).key (nth l i).key) (fun h3 h3' => (.r (.y 2 (.int .i64 (IntKind.i64.wrap (((k : Nat) : Int) - 1))) (AV.int .i64 ((k - 1 : Nat) : Int)) (Yes.add ow ow ow) (.y 5 (.int .i64 (IntKind.i64.wrap (((k : Nat) : Int) - 1))) (AV.int .i64 ((k - 1 : Nat) : Int)) (Yes.add ow ow ow) (.io 6 1 h 9 9 0 k ((k - 1 : Nat) : Int) (k - 1) (IdxOsl.mk _ ow ow) (.t 7 (AV.agg (Card.row (nth out (k - 1)))) (Wk_22 gz h out l i) (load_row (rowAt_map (row := Card.row) (l := out) (k := 9) (room := none) kr om) kr : LoadTo tt 58 0 (Wk_22 gz h out l i) (rowAt (Wk_22 gz h out l i) 1 h (k - 1)) = some ((AV.agg (Card.row (nth out (k - 1)))), (Wk_22 gz h out l i))) (.c 9 (rcjoin_at (nth out (k - 1)) (nth l i)  (Wk_22 gz h out l i)) (.io 10 1 h 9 9 0 k ((k - 1 : Nat) : Int) (k - 1) (IdxOsl.mk _ ow ow) (.st 11 1 h (k - 1) 9 0 (AV.agg (Card.row (joinC (nth out (k - 1)) (nth l i)))) ([⟨gz, 9, [], none⟩, ⟨h, 9, (List.map Card.row (out.set (k - 1) (joinC (nth out (k - 1)) (nth l i)))), none⟩, ⟨0, 9, [(Card.row (nth l i))], none⟩] : Heap) (store_row (us := (Card.row (joinC (nth out (k - 1)) (nth l i)))) (rowAt_map (row := Card.row) (l := out) (k := 9) (room := none) kr om) kr (by simp [Card.row]) (by simp [setAt, fillAt, List.map_set, Card.row])) (.g (.r (.y 0 (.int .i64 (IntKind.i64.wrap (((i : Nat) : Int) + 1))) (AV.int .i64 ((i + 1 : Nat) : Int)) (Yes.add ow ow ow) (.h' (Wk_18 gz h out k l i) (.b 2 (.g (.l (k1 h1 h2 h3))))))))))))))))) (fun h3 h3' => (.r (.ap 3 33 (AV.osl 1 h 9 0 k) (AV.sl .clip 9 [(Card.row (nth l i))]) (AV.osl 1 (h + 1) 9 0 (k + 1)) (Wk_23 gz h out l i) (evAppend_one (row := Card.row) (l := out) (x := (nth l i)) (T := tt) (e := 58) (te := { d := .struct [(31, 0), (3, 2), (3, 3), (2, 4), (56, 5), (4, 8)], size := 9, bytes := 88, zero := [.str ⟨#[]⟩, .str ⟨#[]⟩, .int .i64 0, .int .i64 0, .int .i64 0, .int .i64 0, .int .i64 0, .int .i64 0, .bool false] }) (z := 1) (b := 24) (y := [.sl .nil 0 []]) kr kr rfl (by decide) (by decide) kr (by first | assumption | omega | (simp; done) | (simp; omega)) rfl rfl (by first | omega | (show _ * 88 ≤ _; omega) | (simp; omega))) (.g (.r (.y 0 (.int .i64 (IntKind.i64.wrap (((i : Nat) : Int) + 1))) (AV.int .i64 ((i + 1 : Nat) : Int)) (Yes.add ow ow ow) (.h' (Wk_20 gz h out l i) (.b 2 (.g (.l (k2 h1 h2 h3)))))))))))))))))))))))))) (fun h2 h2' => (.no (.no (.no (.no (.no (.no (.no (.no (.g (.no (.r (.h' (Wk_22 gz h out l i) (.ap 3 33 (AV.osl 1 h 9 0 k) (AV.sl .clip 9 [(Card.row (nth l i))]) (AV.osl 1 (h + 1) 9 0 (k + 1)) (Wk_23 gz h out l i) (evAppend_one (row := Card.row) (l := out) (x := (nth l i)) (T := tt) (e := 58) (te := { d := .struct [(31, 0), (3, 2), (3, 3), (2, 4), (56, 5), (4, 8)], size := 9, bytes := 88, zero := [.str ⟨#[]⟩, .str ⟨#[]⟩, .int .i64 0, .int .i64 0, .int .i64 0, .int .i64 0, .int .i64 0, .int .i64 0, .bool false] }) (z := 1) (b := 24) (y := [.sl .nil 0 []]) kr kr rfl (by decide) (by decide) kr (by first | assumption | omega | (simp; done) | (simp; omega)) rfl rfl (by first | omega | (show _ * 88 ≤ _; omega) | (simp; omega))) (.g (.r (.y 0 (.int .i64 (IntKind.i64.wrap (((i : Nat) : Int) + 1))) (AV.int .i64 ((i + 1 : Nat) : Int)) (Yes.add ow ow ow) (.h' (Wk_20 gz h out l i) (.b 2 (.g (.l (k3 h1 h2))))))))))))))))))))))))))))))) (fun h1 h1' => (.l (k4 h1))))))
def rj_f (gz : Nat) (l : List Card) (i : Nat) (s : (List Card) × Nat × Nat) : (List Card) × Nat × Nat := (if (decide (((s.2.1 : Nat) : Int) > 0)) = true then (if (Key.eqb (nth s.1 (s.2.1 - 1)).key (nth l i).key) = true then (s.1.set (s.2.1 - 1) (joinC (nth s.1 (s.2.1 - 1)) (nth l i)), s.2.1, s.2.2) else (s.1 ++ [(nth l i)], (s.2.1 + 1), (s.2.2 + 1))) else (s.1 ++ [(nth l i)], (s.2.1 + 1), (s.2.2 + 1)))
theorem rj_loop (gz : Nat) (l : List Card) (hl : l.length < 1000000)  (r_ : Nat) : ∀ (out : List Card) (k : Nat) (h : Nat) (i : Nat) (sF : (List Card) × Nat × Nat), i + r_ = l.length → k = out.length → k ≤ i → sF = iter (rj_f gz l) r_ i (out, k, h) →
    LoopTo (codeQ Try.prog (X rj_ann) (loopOf Try.f67 1)) (some [5, 22, 23, 24]) (some [5, 22, 23, 24]) (Wk_21 h k l i) ([⟨gz, 9, [], none⟩, ⟨h, 9, (List.map Card.row out), none⟩] : Heap) (.exit 2) (mkF 60 [(5, (.osl 1 sF.2.2 9 0 sF.2.1)), (22, (.sl .any 9 (List.map Card.row l))), (23, (.int .i64 ((l.length : Nat) : Int))), (24, (.int .i64 ((l.length : Nat) : Int)))]) ([⟨gz, 9, [], none⟩, ⟨sF.2.2, 9, (List.map Card.row sF.1), none⟩] : Heap) := by
  induction r_ with
  | zero =>
    intro out k h i sF hi_ hk hki  hF
    obtain rfl : l.length = i := by omega
    have e_ : sF = (out, k, h) := hF
    refine rj_step gz l out k h l.length hl hk hki (Nat.le_refl _) (fun h _ _ => by simp at h <;> omega) (fun h _ _ => by simp at h <;> omega) (fun h _ => by simp at h <;> omega) (fun _ => ?_)
    first | done | rfl | (rw [e_]; done) | (rw [e_]; rfl)
  | succ r_ ih =>
    intro out k h i sF hi_ hk hki  hF
    refine rj_step gz l out k h i hl hk hki ow (fun h1 h2 h3 => ?_) (fun h1 h2 h3 => ?_) (fun h1 h2 => ?_) (fun h => by simp at h <;> omega)
    · exact ih (out.set (k - 1) (joinC (nth out (k - 1)) (nth l i))) k h (i + 1) sF ow (by first | omega | assumption | (simp; done) | (simp; omega) | (simp [*]; done) | (simp [*]; omega)) (by first | omega | assumption | (simp; done) | (simp; omega) | (simp [*]; done) | (simp [*]; omega))  (by rw [hF] <;> simp only [iter, rj_f, h2, h3, if_true, Bool.false_eq_true, if_false])
    · exact ih (out ++ [(nth l i)]) (k + 1) (h + 1) (i + 1) sF ow (by first | omega | assumption | (simp; done) | (simp; omega) | (simp [*]; done) | (simp [*]; omega)) (by first | omega | assumption | (simp; done) | (simp; omega) | (simp [*]; done) | (simp [*]; omega))  (by rw [hF] <;> simp only [iter, rj_f, h2, h3, if_true, Bool.false_eq_true, if_false])
    · exact ih (out ++ [(nth l i)]) (k + 1) (h + 1) (i + 1) sF ow (by first | omega | assumption | (simp; done) | (simp; omega) | (simp [*]; done) | (simp [*]; omega)) (by first | omega | assumption | (simp; done) | (simp; omega) | (simp [*]; done) | (simp [*]; omega))  (by rw [hF] <;> simp only [iter, rj_f, h2, if_true, Bool.false_eq_true, if_false])
theorem rj_fS  (gz : Nat) (l : List Card) (i : Nat) (s : List Card × Nat × Nat) (h : s.2.1 = s.1.length) : (rj_f gz l i s).1 = joinS s.1 (nth l i) ∧ (rj_f gz l i s).2.1 = (rj_f gz l i s).1.length := by
  obtain ⟨s1, s2, s3⟩ := s
  simp only at h
  subst h
  unfold rj_f joinS
  simp only
  by_cases h0 : 0 < s1.length
  · cases hb : Key.eqb (nth s1 (s1.length - 1)).key (nth l i).key <;> simp [h0]
  · simp [h0]
theorem rj_iter (gz : Nat) (l : List Card) : ∃ h, (joinF l, (joinF l).length, h) = iter (rj_f gz l) l.length 0 ([], 0, 0) := by
  refine ⟨(iter (rj_f gz l) l.length 0 ([], 0, 0)).2.2, ?_⟩
  have h2 := iter_inv (fun i (s : (List Card × Nat × Nat) × List Card) => (rj_f gz l i s.1, joinS s.2 (nth l i))) (fun _ s => s.1.2.1 = s.1.1.length ∧ s.1.1 = s.2) l.length (fun i s _ hs => by
    have := rj_fS gz l i s.1 hs.1
    exact ⟨this.2, by rw [this.1, hs.2]⟩) l.length 0 (([], 0, 0), []) ow ⟨rfl, rfl⟩
  have h3 := iter_proj (fun i (s : (List Card × Nat × Nat) × List Card) => (rj_f gz l i s.1, joinS s.2 (nth l i))) (rj_f gz l) (fun s => s.1) (fun i s => rfl) l.length 0 (([], 0, 0), [])
  have h4 := iter_proj (fun i (s : (List Card × Nat × Nat) × List Card) => (rj_f gz l i s.1, joinS s.2 (nth l i))) (fun i s => joinS s (nth l i)) (fun s => s.2) (fun i s => rfl) l.length 0 (([], 0, 0), [])
  rw [iter_all (fun i s => joinS s (nth l i)) joinS l (fun i s hi => rfl)] at h4
  generalize iter (fun i (s : (List Card × Nat × Nat) × List Card) => (rj_f gz l i s.1, joinS s.2 (nth l i))) l.length 0 (([], 0, 0), []) = x at h2 h3 h4
  simp only at h3 h4
  rw [← h3]
  obtain ⟨⟨x1, x2, x3⟩, x4⟩ := x
  simp only at h2 h4 ⊢
  obtain ⟨q1, q2⟩ := h2
  rw [q1, q2]; unfold joinF; rw [h4]
@[simp] abbrev Wk_24 (v1_ : List CardL) (v2_ : Nat) : Fr := (mkF 60 [(0, (AV.sl .any 1 (List.map CardL.row v1_))), (3, (AV.osl 0 v2_ 9 0 (flatC v1_).length)), (9, (AV.sl .any 1 (List.map CardL.row v1_))), (10, (AV.int .i64 ((v1_.length : Nat) : Int))), (11, (AV.int .i64 ((v1_.length : Nat) : Int)))])
@[simp] abbrev Wk_25 (v1_ : Nat) : Heap := [⟨(v1_ + 1), 9, [], none⟩, ⟨0, 9, (List.map Card.row []), none⟩]
@[simp] abbrev Wk_26 (v1_ : Nat) (v2_ : List CardL) : Fr := (mkF 60 [(5, (AV.osl 1 v1_ 9 0 (joinF (sortK (flatC v2_))).length)), (22, (AV.sl .any 9 (List.map Card.row (sortK (flatC v2_))))), (23, (AV.int .i64 (((sortK (flatC v2_)).length : Nat) : Int))), (24, (AV.int .i64 (((sortK (flatC v2_)).length : Nat) : Int)))])
@[simp] abbrev Wk_27 (v1_ : Nat) (v2_ : Nat) (v3_ : List CardL) : Heap := [⟨(v1_ + 1), 9, [], none⟩, ⟨v2_, 9, (List.map Card.row (joinF (sortK (flatC v3_)))), none⟩]
set_option maxRecDepth 100000 in
theorem rj0_spec (rs : List CardL) (q z : Nat) (hrs : rs.length < 1000) (hz : ∀ i, (nth rs i).l.length ≤ 100) (hf : (flatC rs).length < 1000) (hz2 : (flatC rs, (flatC rs).length, z) = iter (rj2_f rs) rs.length 0 ([], 0, 0)) (hq : ((joinF (sortK (flatC rs))), ((joinF (sortK (flatC rs)))).length, q) = iter (rj_f (z + 1) (sortK (flatC rs))) ((sortK (flatC rs))).length 0 ([], 0, 0)) : ACalls Try.prog 67 [(.sl .any 1 (List.map CardL.row rs))] ([] : Heap) ((AV.sl .any 9 (List.map Card.row (joinF (sortK (flatC rs))))), ([] : Heap)) := by
  have hfl := flatC_len rs 100 (fun x hx => by obtain ⟨j, hj, e⟩ := List.getElem_of_mem hx; have := hz j; rw [nth_eq (by rw [List.getElem?_eq_getElem hj, e])] at this; exact this)
  have hsp := sortK_len (flatC rs)
  exact specO (fn := Try.f67) (ann := rj_ann) (Has.o Try.func67) (.r (.g (.r (.g (.r (.h' ([⟨0, 9, (List.map Card.row []), none⟩] : Heap) (.y 1 (.int .i64 ((List.length (List.map CardL.row rs) : Nat) : Int)) (AV.int .i64 ((rs.length : Nat) : Int)) (Yes.len _ _ _) (.g (.loop (Wk_24 rs z) (show LoopTo (codeQ Try.prog (X rj_ann) (loopOf Try.f67 0)) (some [0, 3, 9, 10, 11]) (some [0, 3, 9, 10, 11]) (mkF 60 [(0, (.sl .any 1 (List.map CardL.row rs))), (3, (.osl 0 0 9 0 0)), (9, (.sl .any 1 (List.map CardL.row rs))), (10, (.int .i64 ((rs.length : Nat) : Int))), (11, (.int .i64 0))]) ([⟨0, 9, (List.map Card.row []), none⟩] : Heap) (.exit 0) (Wk_24 rs z) ([⟨z, 9, (List.map Card.row (flatC rs)), none⟩] : Heap) from (rj2_loop rs hrs hz rs.length [] 0 0 0 _ ow rfl ow hz2)) (.r (.g (.r (.w 3 (List.map Card.row (flatC rs)) (And.intro (rowsIn_all (room := none) kr om) (Card.rows_bdd _ _) : rowsIn ([⟨z, 9, (List.map Card.row (flatC rs)), none⟩, ⟨0, 9, (List.map Card.row []), none⟩] : Heap) 9 (AV.osl 0 z 9 0 (flatC rs).length) = some (List.map Card.row (flatC rs)) ∧ AV.bddss 0 (List.map Card.row (flatC rs)) = true) (.c 1 (rsort_at (flatC rs) oa (Wk_25 z)) (.h' (Wk_25 z) (.y 2 (.int .i64 ((List.length (List.map Card.row (sortK (flatC rs))) : Nat) : Int)) (AV.int .i64 (((sortK (flatC rs)).length : Nat) : Int)) (Yes.len _ _ _) (.g (.loop (Wk_26 q rs) (show LoopTo (codeQ Try.prog (X rj_ann) (loopOf Try.f67 1)) (some [5, 22, 23, 24]) (some [5, 22, 23, 24]) (mkF 60 [(5, (.osl 1 0 9 0 0)), (22, (.sl .any 9 (List.map Card.row (sortK (flatC rs))))), (23, (.int .i64 (((sortK (flatC rs)).length : Nat) : Int))), (24, (.int .i64 0))]) (Wk_25 z) (.exit 2) (Wk_26 q rs) (Wk_27 z q rs) from (rj_loop (z + 1) (sortK (flatC rs)) ow (sortK (flatC rs)).length [] 0 0 0 _ ow rfl ow hq)) (.r (.w 5 (List.map Card.row (joinF (sortK (flatC rs)))) (And.intro (rowsIn_all (room := none) kr om) (Card.rows_bdd _ _) : rowsIn (Wk_27 z q rs) 9 (AV.osl 1 q 9 0 (joinF (sortK (flatC rs))).length) = some (List.map Card.row (joinF (sortK (flatC rs)))) ∧ AV.bddss 0 (List.map Card.row (joinF (sortK (flatC rs)))) = true) (.g (.h' ([] : Heap) (.f 0 (AV.sl .any 9 (List.map Card.row (joinF (sortK (flatC rs))))) (.e (AV.sl .any 9 (List.map Card.row (joinF (sortK (flatC rs)))))))))))))))))))))))))))))
theorem rjoin_spec (rs : List CardL) (hrs : rs.length < 1000) (hz : ∀ i, (nth rs i).l.length ≤ 100) (hf : (flatC rs).length < 1000) : ACalls Try.prog 67 [(.sl .any 1 (List.map CardL.row rs))] ([] : Heap) ((AV.sl .any 9 (List.map Card.row (joinK (flatC rs)))), ([] : Heap)) := by
  obtain ⟨z, hz2⟩ := conc2_iter rs
  obtain ⟨q, hq⟩ := rj_iter (z + 1) (sortK (flatC rs))
  exact rj0_spec rs q z hrs hz hf (rj2_iter rs z hz2) hq
theorem rjoin_at (rs : List CardL) (hrs : rs.length < 1000) (hz : ∀ i, (nth rs i).l.length ≤ 100) (hf : (flatC rs).length < 1000) (H : Heap) : ACalls Try.prog 67 [(.sl .any 1 (List.map CardL.row rs))] H ((AV.sl .any 9 (List.map Card.row (joinK (flatC rs)))), H) := (rjoin_spec rs hrs hz hf).lift kr kr H
end Go.Proofs.Ytcmfnfkahdconaa.AM

set_option linter.unusedVariables false
set_option linter.unusedSimpArgs false
namespace Go.Proofs.Ytcmfnfkahdconaa.AM
open Go
def kE (e : Entry) : Key := e.card.key
abbrev SrtK (l : List Key) : Prop := List.Pairwise (fun a b : Key => beforeK a b = true) l
abbrev SrtE (l : List Entry) : Prop := SrtK (l.map kE)
end Go.Proofs.Ytcmfnfkahdconaa.AM

set_option linter.unusedVariables false
set_option linter.unusedSimpArgs false
namespace Go.Proofs.Ytcmfnfkahdconaa.AM
open Go
theorem apps_ok : ∀ i, i < 4 → nameB (nth apps i) = true
  | 0, _ => by kernel_rfl
  | 1, _ => by kernel_rfl
  | 2, _ => by kernel_rfl
  | 3, _ => by kernel_rfl
  | _ + 4, h => by omega
theorem ids_ok : ∀ i, i < 5 → nameB (nth idsL i) = true
  | 0, _ => by kernel_rfl
  | 1, _ => by kernel_rfl
  | 2, _ => by kernel_rfl
  | 3, _ => by kernel_rfl
  | 4, _ => by kernel_rfl
  | _ + 5, h => by omega
theorem tape_right (t : Tp) : cardR t.card = true := by
  have h1 := t.next_lt 4 (by omega)
  have h2 := (t.step 4).next_lt 5 (by omega)
  have h3 := t.keyT.next_lt 2 (by omega)
  have h4 := t.c1.next_lt 7 (by omega)
  have h5 := t.c2.next_lt 60 (by omega)
  have h6 := t.c3.next_lt 40 (by omega)
  have h7 := (t.c3.step 40).next_lt 6 (by omega)
  have h8 := ((t.c3.step 40).step 6).next_lt 9 (by omega)
  simp only [cardR, Tp.card, Tp.key, Tp.stamp, stR, apps_ok _ h1, ids_ok _ h2, Bool.and_eq_true, Bool.or_eq_true, true_and]
  refine ⟨?_, ⟨decide_eq_true (by omega), decide_eq_true (by omega)⟩, ⟨decide_eq_true (by omega), decide_eq_true (by omega)⟩, decide_eq_true (by omega), decide_eq_true (by omega), decide_eq_true (by omega), decide_eq_true (by omega)⟩
  rcases Nat.eq_zero_or_pos (t.keyT.next 2) with h | h
  · exact .inl (decide_eq_true (by omega))
  · exact .inr (decide_eq_true (by omega))
theorem cards_right {n : Nat} {t : Tp} {c : Card} (h : c ∈ t.cards n) : cardR c = true := by
  obtain ⟨t', rfl⟩ := Tp.cards_mem n t c h
  exact tape_right t'
theorem stamp_eqb_refl (a : Stamp) : Stamp.eqb a a = true := by simp [Stamp.eqb]
end Go.Proofs.Ytcmfnfkahdconaa.AM

set_option maxRecDepth 100000
set_option linter.unusedVariables false
set_option linter.unusedSimpArgs false
namespace Go.Proofs.Ytcmfnfkahdconaa.AM
open Go Go.Proofs.Ytcmfnfkahdconaa
attribute [local irreducible] ACalls funT codeT codeQ LoopTo
attribute [local irreducible] findP findB putL putE putG getE capM sortP sortK Tp.card Tp.cardT Tp.next Tp.step recL nameB stR cardR cmpSt joinC joinK flatC setA setG intoC intoG intoA intoH
def intoNil_ann : Ann := { fin := some 0 }
set_option maxRecDepth 100000 in
theorem intoNil_spec (cs : List Card) (now : Int)  : ACalls Try.prog 33 [AV.nilp, (.sl .any 9 (List.map Card.row cs)), (.int .i64 now)] ([] : Heap) ((AV.tup [(.sl .nil 0 []), (.int .i64 0)]), ([] : Heap)) :=
  specO (fn := Try.f33) (ann := intoNil_ann) (Has.o Try.func33) (.r (.g (.r (.g (.yes (.r (.g (.f 0 (AV.tup [(AV.sl .nil 0 []), (AV.int .i64 0)]) (.e (AV.tup [(AV.sl .nil 0 []), (AV.int .i64 0)]))))))))))
theorem intoNil_at (cs : List Card) (now : Int)  (H : Heap) : ACalls Try.prog 33 [AV.nilp, (.sl .any 9 (List.map Card.row cs)), (.int .i64 now)] H ((AV.tup [(.sl .nil 0 []), (.int .i64 0)]), H) := (intoNil_spec cs now ).lift kr kr H
def kA19 : Card := ⟨⟨⟨#[97]⟩, ⟨#[98]⟩⟩, 1, 0, 5, ⟨1, 0, 0⟩, false⟩
def kZ19 : Card := ⟨⟨⟨#[]⟩, ⟨#[]⟩⟩, 0, 0, 0, ⟨0, 0, 0⟩, false⟩
theorem kInto19 : intoC 7 [kA19, kZ19, kA19] [] [] = ([⟨kA19, 7⟩], [kA19.key], [kA19], 0) := by kernel_rfl
theorem kJoin19 : joinK (flatC []) = [] := by kernel_rfl
def known19_ann : Ann := { fin := some 0 }
@[simp] abbrev Wl_o1  : Ob := ⟨0, 10, (List.map Entry.row ([] : List Entry)), none⟩
@[simp] abbrev Wl_o2  : Ob := ⟨0, 3, [[(AV.int .i64 0), (AV.int .i64 0), (AV.int .i64 0)]], none⟩
@[simp] abbrev Wl_o3  : Ob := ⟨0, 2, (List.map Key.row (recL ([] : List Key))), none⟩
@[simp] abbrev Wl_o4  : Ob := ⟨0, 7, [[(AV.int .i64 0), (AV.int .i64 0), (AV.int .i64 0), (AV.int .i64 0), (AV.obj 0 0 0 0), (AV.obj 2 0 0 0), (AV.obj 3 0 0 0)]], none⟩
@[simp] abbrev Wl_1  : Heap := [⟨0, 2, [[(AV.int .i64 (capM 32)), (AV.osl 1 0 10 0 (List.length ([] : List Entry)))]], none⟩, Wl_o1, Wl_o2, ⟨0, 2, [[(AV.int .i64 (((List.length ([] : List Key)) : Nat) : Int)), (AV.osl 4 0 2 0 (List.length (recL ([] : List Key))))]], none⟩, Wl_o3, Wl_o4]
@[simp] abbrev Wl_2  : Heap := [⟨0, 2, [[(AV.int .i64 (capM 32)), (AV.osl 1 (intoG 7 [kA19, kZ19, kA19] ([] : List Entry) 0 ([] : List Key) 0) 10 0 (List.length (intoC 7 [kA19, kZ19, kA19] ([] : List Entry) ([] : List Key)).1))]], none⟩, ⟨(intoG 7 [kA19, kZ19, kA19] ([] : List Entry) 0 ([] : List Key) 0), 10, (List.map Entry.row (intoC 7 [kA19, kZ19, kA19] ([] : List Entry) ([] : List Key)).1), none⟩, Wl_o2, ⟨0, 2, [[(AV.int .i64 (((List.length (intoC 7 [kA19, kZ19, kA19] ([] : List Entry) ([] : List Key)).2.1) : Nat) : Int)), (AV.osl 4 (intoA 7 [kA19, kZ19, kA19] ([] : List Entry) 0 ([] : List Key) 0) 2 0 (List.length (recL (intoC 7 [kA19, kZ19, kA19] ([] : List Entry) ([] : List Key)).2.1)))]], none⟩, ⟨(intoA 7 [kA19, kZ19, kA19] ([] : List Entry) 0 ([] : List Key) 0), 2, (List.map Key.row (recL (intoC 7 [kA19, kZ19, kA19] ([] : List Entry) ([] : List Key)).2.1)), none⟩, Wl_o4, ⟨0, 9, [[(AV.str (ByteArray.mk #[97])), (AV.str (ByteArray.mk #[98])), (AV.int .i64 1), (AV.int .i64 0), (AV.int .i64 5), (AV.int .i64 1), (AV.int .i64 0), (AV.int .i64 0), (AV.bool false)]], none⟩]
set_option maxRecDepth 100000 in
theorem known19_spec   : ACalls Try.prog 29 [] ([] : Heap) ((AV.bool true), ([] : Heap)) :=
  specO (fn := Try.f29) (ann := known19_ann) (Has.o Try.func29) (.r (.g (.r (.ch 0 Wl_1 (ACalls.put2 [] ([] : Heap) (AV.obj 5 0 0 0) Wl_1 (dnew_spec 0 0 oa oa (by with_unfolding_all rfl)) (trivial) (⟨rfl, ⟨Ob.ren0 (Entry.rows_bdd 0 _), ⟨rfl, ⟨rfl, ⟨Ob.ren0 (Key.rows_bdd 0 _), ⟨rfl, trivial⟩⟩⟩⟩⟩⟩)) (.g (.r (.g (.r (.ch 5 Wl_2 (ACalls.pre (args' := [(AV.obj 5 0 0 0), (AV.sl .clip 9 [[(AV.str (ByteArray.mk #[97])), (AV.str (ByteArray.mk #[98])), (AV.int .i64 1), (AV.int .i64 0), (AV.int .i64 5), (AV.int .i64 1), (AV.int .i64 0), (AV.int .i64 0), (AV.bool false)], [(AV.str ⟨#[]⟩), (AV.str ⟨#[]⟩), (AV.int .i64 0), (AV.int .i64 0), (AV.int .i64 0), (AV.int .i64 0), (AV.int .i64 0), (AV.int .i64 0), (AV.bool false)], [(AV.str (ByteArray.mk #[97])), (AV.str (ByteArray.mk #[98])), (AV.int .i64 1), (AV.int .i64 0), (AV.int .i64 5), (AV.int .i64 1), (AV.int .i64 0), (AV.int .i64 0), (AV.bool false)]]), (AV.int .i64 7)]) (ACalls.put2 [0, 1, 2, 3, 4, 5] ([⟨0, 2, [[(AV.int .i64 (capM 32)), (AV.osl 1 0 10 0 (List.length ([] : List Entry)))]], none⟩, ⟨0, 10, (List.map Entry.row ([] : List Entry)), none⟩, ⟨0, 3, [[(AV.int .i64 0), (AV.int .i64 0), (AV.int .i64 0)]], none⟩, ⟨0, 2, [[(AV.int .i64 (((List.length ([] : List Key)) : Nat) : Int)), (AV.osl 4 0 2 0 (List.length (recL ([] : List Key))))]], none⟩, ⟨0, 2, (List.map Key.row (recL ([] : List Key))), none⟩, ⟨0, 7, [[(AV.int .i64 0), (AV.int .i64 0), (AV.int .i64 0), (AV.int .i64 0), (AV.obj 0 0 0 0), (AV.obj 2 0 0 0), (AV.obj 3 0 0 0)]], none⟩, ⟨0, 9, [[(AV.str (ByteArray.mk #[97])), (AV.str (ByteArray.mk #[98])), (AV.int .i64 1), (AV.int .i64 0), (AV.int .i64 5), (AV.int .i64 1), (AV.int .i64 0), (AV.int .i64 0), (AV.bool false)]], none⟩] : Heap) (AV.tup [(AV.sl .any 9 (List.map Card.row (intoC 7 [kA19, kZ19, kA19] ([] : List Entry) ([] : List Key)).2.2.1)), (AV.int .i64 (((intoC 7 [kA19, kZ19, kA19] ([] : List Entry) ([] : List Key)).2.2.2 : Nat) : Int))]) Wl_2 (into_spec [kA19, kZ19, kA19] 7 ([] : List Entry) 0 ([] : List Key) 0 0 0 0 0 0 0 0 oa oa) (⟨rfl, ⟨Ob.ren0 (Entry.rows_bdd 0 _), ⟨rfl, ⟨rfl, ⟨Ob.ren0 (Key.rows_bdd 0 _), ⟨rfl, trivial⟩⟩⟩⟩⟩⟩) (⟨rfl, ⟨Ob.ren0 (Entry.rows_bdd 0 _), ⟨rfl, ⟨rfl, ⟨Ob.ren0 (Key.rows_bdd 0 _), ⟨rfl, trivial⟩⟩⟩⟩⟩⟩)) ⟨AV.wk_refl_any _, ⟨rfl, rfl, .inl rfl⟩, AV.wk_refl_any _, trivial⟩) (.g (.r (.c 2 (ACalls.pre (args' := [AV.nilp, (AV.sl .clip 9 [[(AV.str (ByteArray.mk #[97])), (AV.str (ByteArray.mk #[98])), (AV.int .i64 1), (AV.int .i64 0), (AV.int .i64 5), (AV.int .i64 1), (AV.int .i64 0), (AV.int .i64 0), (AV.bool false)]]), (AV.int .i64 7)]) (intoNil_at ([(Card.mk (Key.mk (ByteArray.mk #[97]) (ByteArray.mk #[98])) 1 0 5 (Stamp.mk 1 0 0) false)]) 7  Wl_2) ⟨AV.wk_refl_any _, ⟨rfl, rfl, .inl rfl⟩, AV.wk_refl_any _, trivial⟩) (.g (.r (.yes (.yes (.y 4 (.int .i64 ((List.length (List.map Card.row (intoC 7 [kA19, kZ19, kA19] ([] : List Entry) ([] : List Key)).2.2.1) : Nat) : Int)) (AV.int .i64 (((intoC 7 [kA19, kZ19, kA19] ([] : List Entry) ([] : List Key)).2.2.1.length : Nat) : Int)) (Yes.len _ _ _) (.yes (.y 5 (AV.bool ((((intoC 7 [kA19, kZ19, kA19] ([] : List Entry) ([] : List Key)).2.2.1.length : Nat) : Int) == 1)) (AV.bool true) (Yes.bool (by rw [kInto19]; rfl)) (.yes (.yes (.y 9 (AV.bool ((((intoC 7 [kA19, kZ19, kA19] ([] : List Entry) ([] : List Key)).2.2.2 : Nat) : Int) == 0)) (AV.bool true) (Yes.bool (by rw [kInto19]; rfl)) (.yes (.yes (.yes (.yes (.c 17 (ACalls.pre (args' := [(AV.sl .nil 0 [])]) (mjoin_at [] oa (nth_le [] 100 (by simp)) (by rw [show flatC [] = [] from by with_unfolding_all rfl]; simp) Wl_2) ⟨⟨rfl, rfl, .inr rfl⟩, trivial⟩) (.yes (.y 18 (.int .i64 ((List.length (List.map Card.row (joinK (flatC []))) : Nat) : Int)) (AV.int .i64 (((joinK (flatC [])).length : Nat) : Int)) (Yes.len _ _ _) (.yes (.y 19 (AV.bool ((((joinK (flatC [])).length : Nat) : Int) == 0)) (AV.bool true) (Yes.bool (by rw [kJoin19]; rfl)) (.yes (.yes (.c 23 (ACalls.put2 [0, 1, 2, 3, 4, 5] Wl_2 (AV.obj 3 0 0 0) Wl_2 (drecent_spec (intoC 7 [kA19, kZ19, kA19] ([] : List Entry) ([] : List Key)).1 (intoG 7 [kA19, kZ19, kA19] ([] : List Entry) 0 ([] : List Key) 0) (intoC 7 [kA19, kZ19, kA19] ([] : List Entry) ([] : List Key)).2.1 (intoA 7 [kA19, kZ19, kA19] ([] : List Entry) 0 ([] : List Key) 0) 0 0 0 0 0 0 0 ) (⟨rfl, ⟨Ob.ren0 (Entry.rows_bdd 0 _), ⟨rfl, ⟨rfl, ⟨Ob.ren0 (Key.rows_bdd 0 _), ⟨rfl, trivial⟩⟩⟩⟩⟩⟩) (⟨rfl, ⟨Ob.ren0 (Entry.rows_bdd 0 _), ⟨rfl, ⟨rfl, ⟨Ob.ren0 (Key.rows_bdd 0 _), ⟨rfl, trivial⟩⟩⟩⟩⟩⟩)) (.yes (.c 24 (ACalls.pre (args' := [(AV.obj 3 0 0 0)]) (ACalls.put2 [3, 4] Wl_2 (AV.int .i64 (((intoC 7 [kA19, kZ19, kA19] ([] : List Entry) ([] : List Key)).2.1.length : Nat) : Int)) Wl_2 (seq_spec (intoC 7 [kA19, kZ19, kA19] ([] : List Entry) ([] : List Key)).2.1 (intoA 7 [kA19, kZ19, kA19] ([] : List Entry) 0 ([] : List Key) 0) ) (⟨rfl, ⟨Ob.ren0 (Key.rows_bdd 0 _), trivial⟩⟩) (⟨rfl, ⟨Ob.ren0 (Key.rows_bdd 0 _), trivial⟩⟩)) ⟨AV.wk_refl_any _, trivial⟩) (.yes (.y 25 (AV.bool ((((intoC 7 [kA19, kZ19, kA19] ([] : List Entry) ([] : List Key)).2.1.length : Nat) : Int) == 1)) (AV.bool true) (Yes.bool (by rw [kInto19]; rfl)) (.g (.h' ([] : Heap) (.f 0 (AV.bool true) (.e (AV.bool true)))))))))))))))))))))))))))))))))))))))))))
theorem known19_at   (H : Heap) : ACalls Try.prog 29 [] H ((AV.bool true), H) := (known19_spec  ).lift kr kr H
end Go.Proofs.Ytcmfnfkahdconaa.AM
