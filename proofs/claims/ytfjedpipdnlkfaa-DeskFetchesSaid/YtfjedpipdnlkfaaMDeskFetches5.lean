/-
  Texts of this claim, part 5 of 6: an abstract machine over the model; what functions come to; plain laws.
-/
import Derived.Test.YtfjedpipdnlkfaaMDeskFetches4
set_option maxRecDepth 100000
set_option linter.unusedVariables false
set_option linter.unusedSimpArgs false
namespace Go.Proofs.Ytfjedpipdnlkfaa.AM
open Go Go.Proofs.Ytfjedpipdnlkfaa
attribute [local irreducible] ACalls funT codeT codeQ LoopTo
attribute [local irreducible] Tp.card Tp.cardT Tp.next Tp.step Tp.key Tp.keyT sink insSort beforeK sortP cmpK
attribute [local irreducible] swapL rotS rotL bsr mgL mg mAt shU shD
@[simp] abbrev Vjc_1 (v1_:Nat) (v2_:List Card) (v3_:List Card) (v4_:Card) (v5_:List Card) (v6_:List Card):Heap:=[⟨v1_,9,(List.map Card.row (v2_++(v3_++(v4_ :: (v5_++v6_))))),none⟩]
@[simp] abbrev Vjc_2 (v1_:Nat) (v2_:Nat) (v3_:Nat) (v4_:Nat):Fr:=(mkF 220 [(0,(AV.osl 0 v1_ 9 0 v2_)),(1,(AV.int .i64 ((v3_:Nat):Int))),(10,(AV.int .i64 ((v4_:Nat):Int)))])
@[simp] abbrev Vjc_3 (v1_:Nat) (v2_:Nat) (v3_:Nat):Fr:=(mkF 220 [(0,(AV.osl 0 v1_ 9 0 v2_)),(10,(AV.int .i64 ((v3_:Nat):Int))),(13,(AV.int .i64 (((v3_ - 1):Nat):Int)))])
theorem sCA_spec (cmp : Card → Card → Int) (f : Nat) (xs : List AV) (A R1 R2 B : List Card) (x : Card) (a p b n g i : Nat) (l : List Card) (hc : ∀ (x y : Card) (H : Heap), ACalls Try.prog f ([AV.agg (Card.row x), AV.agg (Card.row y)] ++ xs) H (AV.int .i64 (cmp x y), H)) (hxs : AV.bdds 1 xs = true) (hn : n = l.length) (hnb : n < 1048576) (hl : l = A ++ (x :: (R1 ++ (R2 ++ B)))) (hA : a = A.length) (hp : p = a + 1) (hpb : p ≤ b) (hbn : b ≤ n) (hi : i = p + R1.length) (hib : i ≤ b) (hs : i = bsr (fun c => decide (cmp (nth l c) (nth l a) < 0)) (b - p) p b) : ACalls Try.prog 96 [(.osl 0 g 9 0 n), (.int .i64 ((a : Nat) : Int)), (.int .i64 ((p : Nat) : Int)), (.int .i64 ((b : Nat) : Int)), (.func f xs)] ([⟨g, 9, (List.map Card.row l), none⟩] : Heap) ((AV.tup []), (Vjc_1 g A R1 x R2 B)) := by
  have hfin : shU (i - 1 - a) a l = A ++ (R1 ++ (x :: (R2 ++ B))) := by rw [hl, show i - 1 - a = R1.length by omega]; exact shU_parts x R1 A (R2 ++ B) a hA
  exact specO (fn := Try.f96) (ann := sC_ann) (Has.o Try.func96) (.r (.y 2 (.int .i64 (IntKind.i64.wrap (((p : Nat) : Int) - ((a : Nat) : Int)))) (AV.int .i64 ((p - a : Nat) : Int)) (Yes.add ow ow ow) (.y 3 (AV.bool (((p - a : Nat) : Int) == 1)) (AV.bool true) (Yes.bool (by exact beq_iff_eq.2 ow)) (.g (.yes (.r (.g (.r (.g (.loop (Vjc_2 g n a i) (show LoopTo (codeQ Try.prog (X sC_ann) (loopOf Try.f96 0)) (some [0, 1, 4, 10, 11]) (some [0, 1, 10]) (mkF 220 [(0, (.osl 0 g 9 0 n)), (1, (.int .i64 ((a : Nat) : Int))), (4, (.func f xs)), (10, (.int .i64 ((p : Nat) : Int))), (11, (.int .i64 ((b : Nat) : Int)))]) ([⟨g, 9, (List.map Card.row l), none⟩] : Heap) (.exit 0) (Vjc_2 g n a i) ([⟨g, 9, (List.map Card.row l), none⟩] : Heap) from (by rw [hs]; exact sCa_loop cmp f xs hc a n g l hn hnb ow (b - p) p b ow ow ow)) (.r (.g (.loop (Vjc_3 g n i) (show LoopTo (codeQ Try.prog (X sC_ann) (loopOf Try.f96 1)) (some [0, 10, 13]) (some [0, 10, 13]) (mkF 220 [(0, (.osl 0 g 9 0 n)), (10, (.int .i64 ((i : Nat) : Int))), (13, (.int .i64 ((a : Nat) : Int)))]) ([⟨g, 9, (List.map Card.row l), none⟩] : Heap) (.exit 2) (Vjc_3 g n i) ([⟨g, 9, (List.map Card.row (shU (i - 1 - a) a l)), none⟩] : Heap) from (sCu_loop i n g ow ow hnb (i - 1 - a) l a _ ow hn (sCu_iter _ _ _ _ _ _))) (.f 1 (AV.tup []) (.e (AV.tup []) (by
        try delta Vjc_1
        rw [hfin]))))))))))))))))
@[simp] abbrev Vjc_4 (v1_:Nat) (v2_:Nat) (v3_:Nat) (v4_:Nat):Fr:=(mkF 220 [(0,(AV.osl 0 v1_ 9 0 v2_)),(2,(AV.int .i64 ((v3_:Nat):Int))),(14,(AV.int .i64 ((v4_:Nat):Int)))])
@[simp] abbrev Vjc_5 (v1_:Nat) (v2_:Nat) (v3_:Nat):Fr:=(mkF 220 [(0,(AV.osl 0 v1_ 9 0 v2_)),(14,(AV.int .i64 ((v3_:Nat):Int))),(17,(AV.int .i64 ((v3_:Nat):Int)))])
theorem sCB_spec (cmp : Card → Card → Int) (f : Nat) (xs : List AV) (A L1 L2 B : List Card) (y : Card) (a p b n g i : Nat) (l : List Card) (hc : ∀ (x y : Card) (H : Heap), ACalls Try.prog f ([AV.agg (Card.row x), AV.agg (Card.row y)] ++ xs) H (AV.int .i64 (cmp x y), H)) (hxs : AV.bdds 1 xs = true) (hn : n = l.length) (hnb : n < 1048576) (hl : l = A ++ (L1 ++ (L2 ++ (y :: B)))) (hA : a = A.length) (hi : i = a + L1.length) (hp : p = i + L2.length) (h1 : p ≠ a + 1) (hb : b = p + 1) (hbn : b ≤ n) (hs : i = bsr (fun c => !decide (cmp (nth l p) (nth l c) < 0)) (p - a) a p) : ACalls Try.prog 96 [(.osl 0 g 9 0 n), (.int .i64 ((a : Nat) : Int)), (.int .i64 ((p : Nat) : Int)), (.int .i64 ((b : Nat) : Int)), (.func f xs)] ([⟨g, 9, (List.map Card.row l), none⟩] : Heap) ((AV.tup []), (Vjc_1 g A L1 y L2 B)) := by
  have hfin : shD (p - i) p l = A ++ (L1 ++ (y :: (L2 ++ B))) := by rw [hl, show p - i = L2.length by omega, show A ++ (L1 ++ (L2 ++ (y :: B))) = (A ++ L1) ++ (L2 ++ (y :: B)) by simp, shD_parts y L2.length (A ++ L1) L2 B p rfl (by simp; omega)]; simp
  exact specO (fn := Try.f96) (ann := sC_ann) (Has.o Try.func96) (.r (.y 2 (.int .i64 (IntKind.i64.wrap (((p : Nat) : Int) - ((a : Nat) : Int)))) (AV.int .i64 ((p - a : Nat) : Int)) (Yes.add ow ow ow) (.y 3 (AV.bool (((p - a : Nat) : Int) == 1)) (AV.bool false) (Yes.bool (by exact beq_eq_false_iff_ne.2 ow)) (.g (.no (.r (.y 2 (.int .i64 (IntKind.i64.wrap (((b : Nat) : Int) - ((p : Nat) : Int)))) (AV.int .i64 ((b - p : Nat) : Int)) (Yes.add ow ow ow) (.y 3 (AV.bool (((b - p : Nat) : Int) == 1)) (AV.bool true) (Yes.bool (by exact beq_iff_eq.2 ow)) (.g (.yes (.r (.g (.r (.g (.loop (Vjc_4 g n p i) (show LoopTo (codeQ Try.prog (X sC_ann) (loopOf Try.f96 2)) (some [0, 2, 4, 14, 15]) (some [0, 2, 14]) (mkF 220 [(0, (.osl 0 g 9 0 n)), (2, (.int .i64 ((p : Nat) : Int))), (4, (.func f xs)), (14, (.int .i64 ((a : Nat) : Int))), (15, (.int .i64 ((p : Nat) : Int)))]) ([⟨g, 9, (List.map Card.row l), none⟩] : Heap) (.exit 4) (Vjc_4 g n p i) ([⟨g, 9, (List.map Card.row l), none⟩] : Heap) from (by rw [hs]; exact sCb_loop cmp f xs hc p n g l hn hnb ow (p - a) a p ow ow ow)) (.r (.g (.loop (Vjc_5 g n i) (show LoopTo (codeQ Try.prog (X sC_ann) (loopOf Try.f96 3)) (some [0, 14, 17]) (some [0, 14, 17]) (mkF 220 [(0, (.osl 0 g 9 0 n)), (14, (.int .i64 ((i : Nat) : Int))), (17, (.int .i64 ((p : Nat) : Int)))]) ([⟨g, 9, (List.map Card.row l), none⟩] : Heap) (.exit 6) (Vjc_5 g n i) ([⟨g, 9, (List.map Card.row (shD (p - i) p l)), none⟩] : Heap) from (sCd_loop i n g hnb (p - i) p l ow hn ow)) (.f 1 (AV.tup []) (.e (AV.tup []) (by
        try delta Vjc_1
        rw [hfin])))))))))))))))))))))
@[simp] abbrev Vjc_6 (v1_:Nat) (v2_:Nat) (v3_:Nat) (v4_:Nat) (v5_:Nat) (v6_:Nat) (v7_:List AV) (v8_:Nat) (v9_:Nat):Fr:=(mkF 220 [(0,(AV.osl 0 v1_ 9 0 v2_)),(1,(AV.int .i64 ((v3_:Nat):Int))),(2,(AV.int .i64 ((v4_:Nat):Int))),(3,(AV.int .i64 ((v5_:Nat):Int))),(4,(AV.func v6_ v7_)),(18,(AV.int .i64 ((v8_:Nat):Int))),(19,(AV.int .i64 (((v8_+v4_):Nat):Int))),(20,(AV.int .i64 ((v9_:Nat):Int)))])
@[simp] abbrev Vjc_7 (v1_:Nat) (v2_:Nat) (v3_:Nat) (v4_:Nat) (v5_:List Card):Heap:=[⟨v1_,9,(List.map Card.row (rotL v2_ v3_ ((v4_+v3_) - v2_) v5_)),none⟩]
set_option maxHeartbeats 4000000 in
theorem sCC_spec (cmp : Card → Card → Int) (f : Nat) (xs : List AV) (A L1 L2 R1 R2 B : List Card) (a p b n g i mid Nz : Nat) (l : List Card) (hc : ∀ (x y : Card) (H : Heap), ACalls Try.prog f ([AV.agg (Card.row x), AV.agg (Card.row y)] ++ xs) H (AV.int .i64 (cmp x y), H)) (hxs : AV.bdds 1 xs = true) (hn : n = l.length) (hnb : n < 1048576) (ih_at : ∀ (a p b n g : Nat) (l : List Card), n = l.length → n < 1048576 → a < p → p < b → b ≤ n → b - a < Nz → Srt (ltF cmp) ((l.drop a).take (p - a)) → Srt (ltF cmp) ((l.drop p).take (b - p)) → ∀ H : Heap, ACalls Try.prog 96 [(.osl 0 g 9 0 n), (.int .i64 ((a : Nat) : Int)), (.int .i64 ((p : Nat) : Int)), (.int .i64 ((b : Nat) : Int)), (.func f xs)] (([⟨g, 9, (List.map Card.row l), none⟩] : Heap) ++ H) (.tup [], ([⟨g, 9, (List.map Card.row (mAt (ltF cmp) a p b l)), none⟩] : Heap) ++ H)) (hl : l = A ++ (L1 ++ (L2 ++ (R1 ++ (R2 ++ B))))) (hA : a = A.length) (hi : i = a + L1.length) (hp : p = i + L2.length) (hR1 : mid = i + R1.length) (hb : b = p + R1.length + R2.length) (hbn : b ≤ n) (hap : a < p) (hpb : p < b) (h1 : p ≠ a + 1) (h2 : b ≠ p + 1) (hmid : mid = (a + b) / 2) (hNz : b - a ≤ Nz) (hgt : mid < p) (hs : i = bsr (fun c => !decide (cmp (nth l (mid + p - 1 - c)) (nth l c) < 0)) (mid - (mid + p - b)) (mid + p - b) mid) (hlo : mid + p - b ≤ i) (hhi : i ≤ mid) (q1 : Srt (ltF cmp) L1) (q2 : Srt (ltF cmp) L2) (q3 : Srt (ltF cmp) R1) (q4 : Srt (ltF cmp) R2) : ACalls Try.prog 96 [(.osl 0 g 9 0 n), (.int .i64 ((a : Nat) : Int)), (.int .i64 ((p : Nat) : Int)), (.int .i64 ((b : Nat) : Int)), (.func f xs)] ([⟨g, 9, (List.map Card.row l), none⟩] : Heap) ((AV.tup []), ([⟨g, 9, (List.map Card.row (A ++ (mg (ltF cmp) L1 R1 ++ (mg (ltF cmp) L2 R2 ++ B)))), none⟩] : Heap)) := by
  have hll : n = A.length + L1.length + L2.length + R1.length + R2.length + B.length := by rw [hn, hl]; simp; omega
  have e1 := sm1 A L1 L2 R1 R2 B hl (s := i) (m := p) (e := mid + p - i) ow hp ow
  have e2 := sm2 (ltF cmp) A L1 R1 (L2 ++ (R2 ++ B)) (a := a) (s := i) (mid := mid) hA hi hR1
  have e3 := sm3 (ltF cmp) A (mg (ltF cmp) L1 R1) L2 R2 B (mid := mid) (e := mid + p - i) (b := b) (by rw [mg_len]; omega) ow ow
  have hrot : 0 < L2.length → 0 < R1.length → _ := rot_facts (A ++ L1) L2 R1 (R2 ++ B) (l := l) (by rw [hl]; simp) (a := i) (m := p) (b := mid + p - i) (by simp; omega) hp ow
  have hlen2 : (A ++ (mg (ltF cmp) L1 R1 ++ (L2 ++ (R2 ++ B)))).length = n := by rw [hll]; simp [mg_len]; omega
  have hlen1 : (A ++ (L1 ++ (R1 ++ (L2 ++ (R2 ++ B))))).length = n := by rw [hll]; simp; omega
  exact specO (fn := Try.f96) (ann := sC_ann) (Has.o Try.func96) (.r (.y 2 (.int .i64 (IntKind.i64.wrap (((p : Nat) : Int) - ((a : Nat) : Int)))) (AV.int .i64 ((p - a : Nat) : Int)) (Yes.add ow ow ow) (.y 3 (AV.bool (((p - a : Nat) : Int) == 1)) (AV.bool false) (Yes.bool (by exact beq_eq_false_iff_ne.2 ow)) (.g (.no (.r (.y 2 (.int .i64 (IntKind.i64.wrap (((b : Nat) : Int) - ((p : Nat) : Int)))) (AV.int .i64 ((b - p : Nat) : Int)) (Yes.add ow ow ow) (.y 3 (AV.bool (((b - p : Nat) : Int) == 1)) (AV.bool false) (Yes.bool (by exact beq_eq_false_iff_ne.2 ow)) (.g (.no (.r (.y 2 (.int .i64 (IntKind.i64.wrap (((a : Nat) : Int) + ((b : Nat) : Int)))) (AV.int .i64 ((a + b : Nat) : Int)) (Yes.add ow ow ow) (.y 5 (AV.int .i64 (IntKind.i64.wrap (Int.fdiv (IntKind.u64.wrap ((a + b : Nat) : Int)) (2 ^ (min (Int.toNat 1) 64))))) (AV.int .i64 ((mid : Nat) : Int)) (Yes.int (half_nat ow ow)) (.g (.r (.y 2 (.int .i64 (IntKind.i64.wrap (((mid : Nat) : Int) + ((p : Nat) : Int)))) (AV.int .i64 ((mid + p : Nat) : Int)) (Yes.add ow ow ow) (.g (.r (.g (.r (.y 2 (AV.bool (decide (((p : Nat) : Int) > ((mid : Nat) : Int)))) (AV.bool true) (Yes.bool (by exact decide_eq_true ow)) (.g (.yes (.r (.y 2 (.int .i64 (IntKind.i64.wrap (((mid + p : Nat) : Int) - ((b : Nat) : Int)))) (AV.int .i64 ((mid + p - b : Nat) : Int)) (Yes.add ow ow ow) (.g (.r (.g (.r (.y 1 (.int .i64 (IntKind.i64.wrap (((mid + p : Nat) : Int) - 1))) (AV.int .i64 ((mid + p - 1 : Nat) : Int)) (Yes.add ow ow ow) (.g (.loop (Vjc_6 g n a p b f xs mid i) (show LoopTo (codeQ Try.prog (X sC_ann) (loopOf Try.f96 4)) (some [0, 1, 2, 3, 4, 18, 19, 20, 21, 22]) (some [0, 1, 2, 3, 4, 18, 19, 20]) (mkF 220 [(0, (.osl 0 g 9 0 n)), (1, (.int .i64 ((a : Nat) : Int))), (2, (.int .i64 ((p : Nat) : Int))), (3, (.int .i64 ((b : Nat) : Int))), (4, (.func f xs)), (18, (.int .i64 ((mid : Nat) : Int))), (19, (.int .i64 ((mid + p : Nat) : Int))), (20, (.int .i64 ((mid + p - b : Nat) : Int))), (21, (.int .i64 ((mid : Nat) : Int))), (22, (.int .i64 ((mid + p - 1 : Nat) : Int)))]) ([⟨g, 9, (List.map Card.row l), none⟩] : Heap) (.exit 8) (Vjc_6 g n a p b f xs mid i) ([⟨g, 9, (List.map Card.row l), none⟩] : Heap) from (by rw [hs]; exact sCc_loop cmp f xs hc a p b mid (mid + p) (mid + p - 1) n g l hn hnb (mid - ((mid + p - b))) (mid + p - b) mid ow ow ow)) (.r (.y 2 (.int .i64 (IntKind.i64.wrap ((((mid + p) : Nat) : Int) - ((i : Nat) : Int)))) (AV.int .i64 (((mid + p) - i : Nat) : Int)) (Yes.add ow ow ow) (.g (.r (.two (decide (((i : Nat) : Int) < ((p : Nat) : Int))) (fun h1 h1' => (.yes (.yes (.g (.two (decide (((p : Nat) : Int) < (((mid + p) - i : Nat) : Int))) (fun h2 h2' => (.r (.ch 5 (Vjc_7 g i p mid l) (mCr_at f xs i p ((mid + p) - i) n g l (by first | exact hc | exact hxs | omega | (simp; omega)) (by first | exact hc | exact hxs | omega | (simp; omega)) (by first | exact hc | exact hxs | omega | (simp; omega)) (by first | exact hc | exact hxs | omega | (simp; omega)) (by first | exact hc | exact hxs | omega | (simp; omega)) (by first | exact hc | exact hxs | omega | (simp; omega)) ((hrot ow ow).1) ((hrot ow ow).2.1) ((hrot ow ow).2.2) ([] : Heap)) (.g (.r (.two (decide (((a : Nat) : Int) < ((i : Nat) : Int))) (fun h3 h3' => (.yes (.yes (.g (.two (decide (((i : Nat) : Int) < ((mid : Nat) : Int))) (fun h4 h4' => (.r (.ch 5 ([⟨g, 9, (List.map Card.row (mAt (ltF cmp) a i mid (rotL i p ((mid + p) - i) l))), none⟩] : Heap) (ih_at a i mid n g (rotL i p ((mid + p) - i) l) (by first | (exfalso; omega) | ((first | rw [if_pos ow] at e1 | rw [if_neg ow] at e1); rw [e1]; exact hlen1.symm)) (by first | exact hc | exact hxs | omega | (simp; omega)) (by first | exact hc | exact hxs | omega | (simp; omega)) (by first | exact hc | exact hxs | omega | (simp; omega)) (by first | exact hc | exact hxs | omega | (simp; omega)) (by first | exact hc | exact hxs | omega | (simp; omega)) (by first | (exfalso; omega) | ((first | rw [if_pos ow] at e1 | rw [if_neg ow] at e1); rw [e1]; rw [piece A L1 _ hA ow]; exact q1)) (by first | (exfalso; omega) | ((first | rw [if_pos ow] at e1 | rw [if_neg ow] at e1); rw [e1]; rw [show A ++ (L1 ++ (R1 ++ (L2 ++ (R2 ++ B)))) = (A ++ L1) ++ (R1 ++ (L2 ++ (R2 ++ B))) by simp, piece (A ++ L1) R1 _ (by simp; omega) ow]; exact q3)) ([] : Heap)) (.g (.r (.two (decide (((mid : Nat) : Int) < (((mid + p) - i : Nat) : Int))) (fun h5 h5' => (.yes (.yes (.g (.two (decide ((((mid + p) - i : Nat) : Int) < ((b : Nat) : Int))) (fun h6 h6' => (.r (.ch 5 ([⟨g, 9, (List.map Card.row (mAt (ltF cmp) mid ((mid + p) - i) b (mAt (ltF cmp) a i mid (rotL i p ((mid + p) - i) l)))), none⟩] : Heap) (ih_at mid ((mid + p) - i) b n g (mAt (ltF cmp) a i mid (rotL i p ((mid + p) - i) l)) (by first | (exfalso; omega) | ((first | rw [if_pos ow] at e1 | rw [if_neg ow] at e1); (first | rw [if_pos ow] at e2 | rw [if_neg ow] at e2); rw [e1, e2]; exact hlen2.symm)) (by first | exact hc | exact hxs | omega | (simp; omega)) (by first | exact hc | exact hxs | omega | (simp; omega)) (by first | exact hc | exact hxs | omega | (simp; omega)) (by first | exact hc | exact hxs | omega | (simp; omega)) (by first | exact hc | exact hxs | omega | (simp; omega)) (by first | (exfalso; omega) | ((first | rw [if_pos ow] at e1 | rw [if_neg ow] at e1); (first | rw [if_pos ow] at e2 | rw [if_neg ow] at e2); rw [e1, e2]; rw [show A ++ (mg (ltF cmp) L1 R1 ++ (L2 ++ (R2 ++ B))) = (A ++ mg (ltF cmp) L1 R1) ++ (L2 ++ (R2 ++ B)) by simp, piece (A ++ mg (ltF cmp) L1 R1) L2 _ (by simp [mg_len]; omega) ow]; exact q2)) (by first | (exfalso; omega) | ((first | rw [if_pos ow] at e1 | rw [if_neg ow] at e1); (first | rw [if_pos ow] at e2 | rw [if_neg ow] at e2); rw [e1, e2]; rw [show A ++ (mg (ltF cmp) L1 R1 ++ (L2 ++ (R2 ++ B))) = ((A ++ mg (ltF cmp) L1 R1) ++ L2) ++ (R2 ++ B) by simp, piece ((A ++ mg (ltF cmp) L1 R1) ++ L2) R2 _ (by simp [mg_len]; omega) ow]; exact q4)) ([] : Heap)) (.g (.f 1 (AV.tup []) (.e (AV.tup []) (by
        try delta Vjc_7
        first | (exfalso; omega) | ((first | rw [if_pos ow] at e1 | rw [if_neg ow] at e1); (first | rw [if_pos ow] at e2 | rw [if_neg ow] at e2); (first | rw [if_pos ow] at e3 | rw [if_neg ow] at e3); rw [e1, e2, e3])))))))) (fun h6 h6' => (.f 1 (AV.tup []) (.e (AV.tup []) (by
        try delta Vjc_7
        first | (exfalso; omega) | ((first | rw [if_pos ow] at e1 | rw [if_neg ow] at e1); (first | rw [if_pos ow] at e2 | rw [if_neg ow] at e2); (first | rw [if_pos ow] at e3 | rw [if_neg ow] at e3); rw [e1, e2, e3])))))))))) (fun h5 h5' => (.no (.no (.g (.no (.f 1 (AV.tup []) (.e (AV.tup []) (by
        try delta Vjc_7
        first | (exfalso; omega) | ((first | rw [if_pos ow] at e1 | rw [if_neg ow] at e1); (first | rw [if_pos ow] at e2 | rw [if_neg ow] at e2); (first | rw [if_pos ow] at e3 | rw [if_neg ow] at e3); rw [e1, e2, e3]))))))))))))))) (fun h4 h4' => (.r (.two (decide (((mid : Nat) : Int) < (((mid + p) - i : Nat) : Int))) (fun h5 h5' => (.yes (.yes (.g (.two (decide ((((mid + p) - i : Nat) : Int) < ((b : Nat) : Int))) (fun h6 h6' => (.r (.ch 5 ([⟨g, 9, (List.map Card.row (mAt (ltF cmp) mid ((mid + p) - i) b (rotL i p ((mid + p) - i) l))), none⟩] : Heap) (ih_at mid ((mid + p) - i) b n g (rotL i p ((mid + p) - i) l) (by first | (exfalso; omega) | ((first | rw [if_pos ow] at e1 | rw [if_neg ow] at e1); (first | rw [if_pos ow] at e2 | rw [if_neg ow] at e2); rw [e1, e2]; exact hlen2.symm)) (by first | exact hc | exact hxs | omega | (simp; omega)) (by first | exact hc | exact hxs | omega | (simp; omega)) (by first | exact hc | exact hxs | omega | (simp; omega)) (by first | exact hc | exact hxs | omega | (simp; omega)) (by first | exact hc | exact hxs | omega | (simp; omega)) (by first | (exfalso; omega) | ((first | rw [if_pos ow] at e1 | rw [if_neg ow] at e1); (first | rw [if_pos ow] at e2 | rw [if_neg ow] at e2); rw [e1, e2]; rw [show A ++ (mg (ltF cmp) L1 R1 ++ (L2 ++ (R2 ++ B))) = (A ++ mg (ltF cmp) L1 R1) ++ (L2 ++ (R2 ++ B)) by simp, piece (A ++ mg (ltF cmp) L1 R1) L2 _ (by simp [mg_len]; omega) ow]; exact q2)) (by first | (exfalso; omega) | ((first | rw [if_pos ow] at e1 | rw [if_neg ow] at e1); (first | rw [if_pos ow] at e2 | rw [if_neg ow] at e2); rw [e1, e2]; rw [show A ++ (mg (ltF cmp) L1 R1 ++ (L2 ++ (R2 ++ B))) = ((A ++ mg (ltF cmp) L1 R1) ++ L2) ++ (R2 ++ B) by simp, piece ((A ++ mg (ltF cmp) L1 R1) ++ L2) R2 _ (by simp [mg_len]; omega) ow]; exact q4)) ([] : Heap)) (.g (.f 1 (AV.tup []) (.e (AV.tup []) (by
        try delta Vjc_7
        first | (exfalso; omega) | ((first | rw [if_pos ow] at e1 | rw [if_neg ow] at e1); (first | rw [if_pos ow] at e2 | rw [if_neg ow] at e2); (first | rw [if_pos ow] at e3 | rw [if_neg ow] at e3); rw [e1, e2, e3])))))))) (fun h6 h6' => (.f 1 (AV.tup []) (.e (AV.tup []) (by
        try delta Vjc_7
        first | (exfalso; omega) | ((first | rw [if_pos ow] at e1 | rw [if_neg ow] at e1); (first | rw [if_pos ow] at e2 | rw [if_neg ow] at e2); (first | rw [if_pos ow] at e3 | rw [if_neg ow] at e3); rw [e1, e2, e3])))))))))) (fun h5 h5' => (.no (.no (.g (.no (.f 1 (AV.tup []) (.e (AV.tup []) (by
        try delta Vjc_7
        first | (exfalso; omega) | ((first | rw [if_pos ow] at e1 | rw [if_neg ow] at e1); (first | rw [if_pos ow] at e2 | rw [if_neg ow] at e2); (first | rw [if_pos ow] at e3 | rw [if_neg ow] at e3); rw [e1, e2, e3]))))))))))))))))) (fun h3 h3' => (.no (.no (.g (.no (.r (.two (decide (((mid : Nat) : Int) < (((mid + p) - i : Nat) : Int))) (fun h4 h4' => (.yes (.yes (.g (.two (decide ((((mid + p) - i : Nat) : Int) < ((b : Nat) : Int))) (fun h5 h5' => (.r (.ch 5 ([⟨g, 9, (List.map Card.row (mAt (ltF cmp) mid ((mid + p) - i) b (rotL i p ((mid + p) - i) l))), none⟩] : Heap) (ih_at mid ((mid + p) - i) b n g (rotL i p ((mid + p) - i) l) (by first | (exfalso; omega) | ((first | rw [if_pos ow] at e1 | rw [if_neg ow] at e1); (first | rw [if_pos ow] at e2 | rw [if_neg ow] at e2); rw [e1, e2]; exact hlen2.symm)) (by first | exact hc | exact hxs | omega | (simp; omega)) (by first | exact hc | exact hxs | omega | (simp; omega)) (by first | exact hc | exact hxs | omega | (simp; omega)) (by first | exact hc | exact hxs | omega | (simp; omega)) (by first | exact hc | exact hxs | omega | (simp; omega)) (by first | (exfalso; omega) | ((first | rw [if_pos ow] at e1 | rw [if_neg ow] at e1); (first | rw [if_pos ow] at e2 | rw [if_neg ow] at e2); rw [e1, e2]; rw [show A ++ (mg (ltF cmp) L1 R1 ++ (L2 ++ (R2 ++ B))) = (A ++ mg (ltF cmp) L1 R1) ++ (L2 ++ (R2 ++ B)) by simp, piece (A ++ mg (ltF cmp) L1 R1) L2 _ (by simp [mg_len]; omega) ow]; exact q2)) (by first | (exfalso; omega) | ((first | rw [if_pos ow] at e1 | rw [if_neg ow] at e1); (first | rw [if_pos ow] at e2 | rw [if_neg ow] at e2); rw [e1, e2]; rw [show A ++ (mg (ltF cmp) L1 R1 ++ (L2 ++ (R2 ++ B))) = ((A ++ mg (ltF cmp) L1 R1) ++ L2) ++ (R2 ++ B) by simp, piece ((A ++ mg (ltF cmp) L1 R1) ++ L2) R2 _ (by simp [mg_len]; omega) ow]; exact q4)) ([] : Heap)) (.g (.f 1 (AV.tup []) (.e (AV.tup []) (by
        try delta Vjc_7
        first | (exfalso; omega) | ((first | rw [if_pos ow] at e1 | rw [if_neg ow] at e1); (first | rw [if_pos ow] at e2 | rw [if_neg ow] at e2); (first | rw [if_pos ow] at e3 | rw [if_neg ow] at e3); rw [e1, e2, e3])))))))) (fun h5 h5' => (.f 1 (AV.tup []) (.e (AV.tup []) (by
        try delta Vjc_7
        first | (exfalso; omega) | ((first | rw [if_pos ow] at e1 | rw [if_neg ow] at e1); (first | rw [if_pos ow] at e2 | rw [if_neg ow] at e2); (first | rw [if_pos ow] at e3 | rw [if_neg ow] at e3); rw [e1, e2, e3])))))))))) (fun h4 h4' => (.no (.no (.g (.no (.f 1 (AV.tup []) (.e (AV.tup []) (by
        try delta Vjc_7
        first | (exfalso; omega) | ((first | rw [if_pos ow] at e1 | rw [if_neg ow] at e1); (first | rw [if_pos ow] at e2 | rw [if_neg ow] at e2); (first | rw [if_pos ow] at e3 | rw [if_neg ow] at e3); rw [e1, e2, e3])))))))))))))))))))))) (fun h2 h2' => (.r (.two (decide (((a : Nat) : Int) < ((i : Nat) : Int))) (fun h3 h3' => (.yes (.yes (.g (.two (decide (((i : Nat) : Int) < ((mid : Nat) : Int))) (fun h4 h4' => (.r (.ch 5 ([⟨g, 9, (List.map Card.row (mAt (ltF cmp) a i mid l)), none⟩] : Heap) (ih_at a i mid n g l (by first | (exfalso; omega) | ((first | rw [if_pos ow] at e1 | rw [if_neg ow] at e1); rw [e1]; exact hlen1.symm)) (by first | exact hc | exact hxs | omega | (simp; omega)) (by first | exact hc | exact hxs | omega | (simp; omega)) (by first | exact hc | exact hxs | omega | (simp; omega)) (by first | exact hc | exact hxs | omega | (simp; omega)) (by first | exact hc | exact hxs | omega | (simp; omega)) (by first | (exfalso; omega) | ((first | rw [if_pos ow] at e1 | rw [if_neg ow] at e1); rw [e1]; rw [piece A L1 _ hA ow]; exact q1)) (by first | (exfalso; omega) | ((first | rw [if_pos ow] at e1 | rw [if_neg ow] at e1); rw [e1]; rw [show A ++ (L1 ++ (R1 ++ (L2 ++ (R2 ++ B)))) = (A ++ L1) ++ (R1 ++ (L2 ++ (R2 ++ B))) by simp, piece (A ++ L1) R1 _ (by simp; omega) ow]; exact q3)) ([] : Heap)) (.g (.r (.two (decide (((mid : Nat) : Int) < (((mid + p) - i : Nat) : Int))) (fun h5 h5' => (.yes (.yes (.g (.two (decide ((((mid + p) - i : Nat) : Int) < ((b : Nat) : Int))) (fun h6 h6' => (.r (.ch 5 ([⟨g, 9, (List.map Card.row (mAt (ltF cmp) mid ((mid + p) - i) b (mAt (ltF cmp) a i mid l))), none⟩] : Heap) (ih_at mid ((mid + p) - i) b n g (mAt (ltF cmp) a i mid l) (by first | (exfalso; omega) | ((first | rw [if_pos ow] at e1 | rw [if_neg ow] at e1); (first | rw [if_pos ow] at e2 | rw [if_neg ow] at e2); rw [e1, e2]; exact hlen2.symm)) (by first | exact hc | exact hxs | omega | (simp; omega)) (by first | exact hc | exact hxs | omega | (simp; omega)) (by first | exact hc | exact hxs | omega | (simp; omega)) (by first | exact hc | exact hxs | omega | (simp; omega)) (by first | exact hc | exact hxs | omega | (simp; omega)) (by first | (exfalso; omega) | ((first | rw [if_pos ow] at e1 | rw [if_neg ow] at e1); (first | rw [if_pos ow] at e2 | rw [if_neg ow] at e2); rw [e1, e2]; rw [show A ++ (mg (ltF cmp) L1 R1 ++ (L2 ++ (R2 ++ B))) = (A ++ mg (ltF cmp) L1 R1) ++ (L2 ++ (R2 ++ B)) by simp, piece (A ++ mg (ltF cmp) L1 R1) L2 _ (by simp [mg_len]; omega) ow]; exact q2)) (by first | (exfalso; omega) | ((first | rw [if_pos ow] at e1 | rw [if_neg ow] at e1); (first | rw [if_pos ow] at e2 | rw [if_neg ow] at e2); rw [e1, e2]; rw [show A ++ (mg (ltF cmp) L1 R1 ++ (L2 ++ (R2 ++ B))) = ((A ++ mg (ltF cmp) L1 R1) ++ L2) ++ (R2 ++ B) by simp, piece ((A ++ mg (ltF cmp) L1 R1) ++ L2) R2 _ (by simp [mg_len]; omega) ow]; exact q4)) ([] : Heap)) (.g (.f 1 (AV.tup []) (.e (AV.tup []) (by
        try delta Vjc_7
        first | (exfalso; omega) | ((first | rw [if_pos ow] at e1 | rw [if_neg ow] at e1); (first | rw [if_pos ow] at e2 | rw [if_neg ow] at e2); (first | rw [if_pos ow] at e3 | rw [if_neg ow] at e3); rw [e1, e2, e3])))))))) (fun h6 h6' => (.f 1 (AV.tup []) (.e (AV.tup []) (by
        try delta Vjc_7
        first | (exfalso; omega) | ((first | rw [if_pos ow] at e1 | rw [if_neg ow] at e1); (first | rw [if_pos ow] at e2 | rw [if_neg ow] at e2); (first | rw [if_pos ow] at e3 | rw [if_neg ow] at e3); rw [e1, e2, e3])))))))))) (fun h5 h5' => (.no (.no (.g (.no (.f 1 (AV.tup []) (.e (AV.tup []) (by
        try delta Vjc_7
        first | (exfalso; omega) | ((first | rw [if_pos ow] at e1 | rw [if_neg ow] at e1); (first | rw [if_pos ow] at e2 | rw [if_neg ow] at e2); (first | rw [if_pos ow] at e3 | rw [if_neg ow] at e3); rw [e1, e2, e3]))))))))))))))) (fun h4 h4' => (.r (.two (decide (((mid : Nat) : Int) < (((mid + p) - i : Nat) : Int))) (fun h5 h5' => (.yes (.yes (.g (.two (decide ((((mid + p) - i : Nat) : Int) < ((b : Nat) : Int))) (fun h6 h6' => (.r (.ch 5 ([⟨g, 9, (List.map Card.row (mAt (ltF cmp) mid ((mid + p) - i) b l)), none⟩] : Heap) (ih_at mid ((mid + p) - i) b n g l (by first | (exfalso; omega) | ((first | rw [if_pos ow] at e1 | rw [if_neg ow] at e1); (first | rw [if_pos ow] at e2 | rw [if_neg ow] at e2); rw [e1, e2]; exact hlen2.symm)) (by first | exact hc | exact hxs | omega | (simp; omega)) (by first | exact hc | exact hxs | omega | (simp; omega)) (by first | exact hc | exact hxs | omega | (simp; omega)) (by first | exact hc | exact hxs | omega | (simp; omega)) (by first | exact hc | exact hxs | omega | (simp; omega)) (by first | (exfalso; omega) | ((first | rw [if_pos ow] at e1 | rw [if_neg ow] at e1); (first | rw [if_pos ow] at e2 | rw [if_neg ow] at e2); rw [e1, e2]; rw [show A ++ (mg (ltF cmp) L1 R1 ++ (L2 ++ (R2 ++ B))) = (A ++ mg (ltF cmp) L1 R1) ++ (L2 ++ (R2 ++ B)) by simp, piece (A ++ mg (ltF cmp) L1 R1) L2 _ (by simp [mg_len]; omega) ow]; exact q2)) (by first | (exfalso; omega) | ((first | rw [if_pos ow] at e1 | rw [if_neg ow] at e1); (first | rw [if_pos ow] at e2 | rw [if_neg ow] at e2); rw [e1, e2]; rw [show A ++ (mg (ltF cmp) L1 R1 ++ (L2 ++ (R2 ++ B))) = ((A ++ mg (ltF cmp) L1 R1) ++ L2) ++ (R2 ++ B) by simp, piece ((A ++ mg (ltF cmp) L1 R1) ++ L2) R2 _ (by simp [mg_len]; omega) ow]; exact q4)) ([] : Heap)) (.g (.f 1 (AV.tup []) (.e (AV.tup []) (by
        try delta Vjc_7
        first | (exfalso; omega) | ((first | rw [if_pos ow] at e1 | rw [if_neg ow] at e1); (first | rw [if_pos ow] at e2 | rw [if_neg ow] at e2); (first | rw [if_pos ow] at e3 | rw [if_neg ow] at e3); rw [e1, e2, e3])))))))) (fun h6 h6' => (.f 1 (AV.tup []) (.e (AV.tup []) (by
        try delta Vjc_7
        first | (exfalso; omega) | ((first | rw [if_pos ow] at e1 | rw [if_neg ow] at e1); (first | rw [if_pos ow] at e2 | rw [if_neg ow] at e2); (first | rw [if_pos ow] at e3 | rw [if_neg ow] at e3); rw [e1, e2, e3])))))))))) (fun h5 h5' => (.no (.no (.g (.no (.f 1 (AV.tup []) (.e (AV.tup []) (by
        try delta Vjc_7
        first | (exfalso; omega) | ((first | rw [if_pos ow] at e1 | rw [if_neg ow] at e1); (first | rw [if_pos ow] at e2 | rw [if_neg ow] at e2); (first | rw [if_pos ow] at e3 | rw [if_neg ow] at e3); rw [e1, e2, e3]))))))))))))))))) (fun h3 h3' => (.no (.no (.g (.no (.r (.two (decide (((mid : Nat) : Int) < (((mid + p) - i : Nat) : Int))) (fun h4 h4' => (.yes (.yes (.g (.two (decide ((((mid + p) - i : Nat) : Int) < ((b : Nat) : Int))) (fun h5 h5' => (.r (.ch 5 ([⟨g, 9, (List.map Card.row (mAt (ltF cmp) mid ((mid + p) - i) b l)), none⟩] : Heap) (ih_at mid ((mid + p) - i) b n g l (by first | (exfalso; omega) | ((first | rw [if_pos ow] at e1 | rw [if_neg ow] at e1); (first | rw [if_pos ow] at e2 | rw [if_neg ow] at e2); rw [e1, e2]; exact hlen2.symm)) (by first | exact hc | exact hxs | omega | (simp; omega)) (by first | exact hc | exact hxs | omega | (simp; omega)) (by first | exact hc | exact hxs | omega | (simp; omega)) (by first | exact hc | exact hxs | omega | (simp; omega)) (by first | exact hc | exact hxs | omega | (simp; omega)) (by first | (exfalso; omega) | ((first | rw [if_pos ow] at e1 | rw [if_neg ow] at e1); (first | rw [if_pos ow] at e2 | rw [if_neg ow] at e2); rw [e1, e2]; rw [show A ++ (mg (ltF cmp) L1 R1 ++ (L2 ++ (R2 ++ B))) = (A ++ mg (ltF cmp) L1 R1) ++ (L2 ++ (R2 ++ B)) by simp, piece (A ++ mg (ltF cmp) L1 R1) L2 _ (by simp [mg_len]; omega) ow]; exact q2)) (by first | (exfalso; omega) | ((first | rw [if_pos ow] at e1 | rw [if_neg ow] at e1); (first | rw [if_pos ow] at e2 | rw [if_neg ow] at e2); rw [e1, e2]; rw [show A ++ (mg (ltF cmp) L1 R1 ++ (L2 ++ (R2 ++ B))) = ((A ++ mg (ltF cmp) L1 R1) ++ L2) ++ (R2 ++ B) by simp, piece ((A ++ mg (ltF cmp) L1 R1) ++ L2) R2 _ (by simp [mg_len]; omega) ow]; exact q4)) ([] : Heap)) (.g (.f 1 (AV.tup []) (.e (AV.tup []) (by
        try delta Vjc_7
        first | (exfalso; omega) | ((first | rw [if_pos ow] at e1 | rw [if_neg ow] at e1); (first | rw [if_pos ow] at e2 | rw [if_neg ow] at e2); (first | rw [if_pos ow] at e3 | rw [if_neg ow] at e3); rw [e1, e2, e3])))))))) (fun h5 h5' => (.f 1 (AV.tup []) (.e (AV.tup []) (by
        try delta Vjc_7
        first | (exfalso; omega) | ((first | rw [if_pos ow] at e1 | rw [if_neg ow] at e1); (first | rw [if_pos ow] at e2 | rw [if_neg ow] at e2); (first | rw [if_pos ow] at e3 | rw [if_neg ow] at e3); rw [e1, e2, e3])))))))))) (fun h4 h4' => (.no (.no (.g (.no (.f 1 (AV.tup []) (.e (AV.tup []) (by
        try delta Vjc_7
        first | (exfalso; omega) | ((first | rw [if_pos ow] at e1 | rw [if_neg ow] at e1); (first | rw [if_pos ow] at e2 | rw [if_neg ow] at e2); (first | rw [if_pos ow] at e3 | rw [if_neg ow] at e3); rw [e1, e2, e3])))))))))))))))))))))))) (fun h1 h1' => (.no (.no (.g (.no (.r (.two (decide (((a : Nat) : Int) < ((i : Nat) : Int))) (fun h2 h2' => (.yes (.yes (.g (.two (decide (((i : Nat) : Int) < ((mid : Nat) : Int))) (fun h3 h3' => (.r (.ch 5 ([⟨g, 9, (List.map Card.row (mAt (ltF cmp) a i mid l)), none⟩] : Heap) (ih_at a i mid n g l (by first | (exfalso; omega) | ((first | rw [if_pos ow] at e1 | rw [if_neg ow] at e1); rw [e1]; exact hlen1.symm)) (by first | exact hc | exact hxs | omega | (simp; omega)) (by first | exact hc | exact hxs | omega | (simp; omega)) (by first | exact hc | exact hxs | omega | (simp; omega)) (by first | exact hc | exact hxs | omega | (simp; omega)) (by first | exact hc | exact hxs | omega | (simp; omega)) (by first | (exfalso; omega) | ((first | rw [if_pos ow] at e1 | rw [if_neg ow] at e1); rw [e1]; rw [piece A L1 _ hA ow]; exact q1)) (by first | (exfalso; omega) | ((first | rw [if_pos ow] at e1 | rw [if_neg ow] at e1); rw [e1]; rw [show A ++ (L1 ++ (R1 ++ (L2 ++ (R2 ++ B)))) = (A ++ L1) ++ (R1 ++ (L2 ++ (R2 ++ B))) by simp, piece (A ++ L1) R1 _ (by simp; omega) ow]; exact q3)) ([] : Heap)) (.g (.r (.two (decide (((mid : Nat) : Int) < (((mid + p) - i : Nat) : Int))) (fun h4 h4' => (.yes (.yes (.g (.two (decide ((((mid + p) - i : Nat) : Int) < ((b : Nat) : Int))) (fun h5 h5' => (.r (.ch 5 ([⟨g, 9, (List.map Card.row (mAt (ltF cmp) mid ((mid + p) - i) b (mAt (ltF cmp) a i mid l))), none⟩] : Heap) (ih_at mid ((mid + p) - i) b n g (mAt (ltF cmp) a i mid l) (by first | (exfalso; omega) | ((first | rw [if_pos ow] at e1 | rw [if_neg ow] at e1); (first | rw [if_pos ow] at e2 | rw [if_neg ow] at e2); rw [e1, e2]; exact hlen2.symm)) (by first | exact hc | exact hxs | omega | (simp; omega)) (by first | exact hc | exact hxs | omega | (simp; omega)) (by first | exact hc | exact hxs | omega | (simp; omega)) (by first | exact hc | exact hxs | omega | (simp; omega)) (by first | exact hc | exact hxs | omega | (simp; omega)) (by first | (exfalso; omega) | ((first | rw [if_pos ow] at e1 | rw [if_neg ow] at e1); (first | rw [if_pos ow] at e2 | rw [if_neg ow] at e2); rw [e1, e2]; rw [show A ++ (mg (ltF cmp) L1 R1 ++ (L2 ++ (R2 ++ B))) = (A ++ mg (ltF cmp) L1 R1) ++ (L2 ++ (R2 ++ B)) by simp, piece (A ++ mg (ltF cmp) L1 R1) L2 _ (by simp [mg_len]; omega) ow]; exact q2)) (by first | (exfalso; omega) | ((first | rw [if_pos ow] at e1 | rw [if_neg ow] at e1); (first | rw [if_pos ow] at e2 | rw [if_neg ow] at e2); rw [e1, e2]; rw [show A ++ (mg (ltF cmp) L1 R1 ++ (L2 ++ (R2 ++ B))) = ((A ++ mg (ltF cmp) L1 R1) ++ L2) ++ (R2 ++ B) by simp, piece ((A ++ mg (ltF cmp) L1 R1) ++ L2) R2 _ (by simp [mg_len]; omega) ow]; exact q4)) ([] : Heap)) (.g (.f 1 (AV.tup []) (.e (AV.tup []) (by
        try delta Vjc_7
        first | (exfalso; omega) | ((first | rw [if_pos ow] at e1 | rw [if_neg ow] at e1); (first | rw [if_pos ow] at e2 | rw [if_neg ow] at e2); (first | rw [if_pos ow] at e3 | rw [if_neg ow] at e3); rw [e1, e2, e3])))))))) (fun h5 h5' => (.f 1 (AV.tup []) (.e (AV.tup []) (by
        try delta Vjc_7
        first | (exfalso; omega) | ((first | rw [if_pos ow] at e1 | rw [if_neg ow] at e1); (first | rw [if_pos ow] at e2 | rw [if_neg ow] at e2); (first | rw [if_pos ow] at e3 | rw [if_neg ow] at e3); rw [e1, e2, e3])))))))))) (fun h4 h4' => (.no (.no (.g (.no (.f 1 (AV.tup []) (.e (AV.tup []) (by
        try delta Vjc_7
        first | (exfalso; omega) | ((first | rw [if_pos ow] at e1 | rw [if_neg ow] at e1); (first | rw [if_pos ow] at e2 | rw [if_neg ow] at e2); (first | rw [if_pos ow] at e3 | rw [if_neg ow] at e3); rw [e1, e2, e3]))))))))))))))) (fun h3 h3' => (.r (.two (decide (((mid : Nat) : Int) < (((mid + p) - i : Nat) : Int))) (fun h4 h4' => (.yes (.yes (.g (.two (decide ((((mid + p) - i : Nat) : Int) < ((b : Nat) : Int))) (fun h5 h5' => (.r (.ch 5 ([⟨g, 9, (List.map Card.row (mAt (ltF cmp) mid ((mid + p) - i) b l)), none⟩] : Heap) (ih_at mid ((mid + p) - i) b n g l (by first | (exfalso; omega) | ((first | rw [if_pos ow] at e1 | rw [if_neg ow] at e1); (first | rw [if_pos ow] at e2 | rw [if_neg ow] at e2); rw [e1, e2]; exact hlen2.symm)) (by first | exact hc | exact hxs | omega | (simp; omega)) (by first | exact hc | exact hxs | omega | (simp; omega)) (by first | exact hc | exact hxs | omega | (simp; omega)) (by first | exact hc | exact hxs | omega | (simp; omega)) (by first | exact hc | exact hxs | omega | (simp; omega)) (by first | (exfalso; omega) | ((first | rw [if_pos ow] at e1 | rw [if_neg ow] at e1); (first | rw [if_pos ow] at e2 | rw [if_neg ow] at e2); rw [e1, e2]; rw [show A ++ (mg (ltF cmp) L1 R1 ++ (L2 ++ (R2 ++ B))) = (A ++ mg (ltF cmp) L1 R1) ++ (L2 ++ (R2 ++ B)) by simp, piece (A ++ mg (ltF cmp) L1 R1) L2 _ (by simp [mg_len]; omega) ow]; exact q2)) (by first | (exfalso; omega) | ((first | rw [if_pos ow] at e1 | rw [if_neg ow] at e1); (first | rw [if_pos ow] at e2 | rw [if_neg ow] at e2); rw [e1, e2]; rw [show A ++ (mg (ltF cmp) L1 R1 ++ (L2 ++ (R2 ++ B))) = ((A ++ mg (ltF cmp) L1 R1) ++ L2) ++ (R2 ++ B) by simp, piece ((A ++ mg (ltF cmp) L1 R1) ++ L2) R2 _ (by simp [mg_len]; omega) ow]; exact q4)) ([] : Heap)) (.g (.f 1 (AV.tup []) (.e (AV.tup []) (by
        try delta Vjc_7
        first | (exfalso; omega) | ((first | rw [if_pos ow] at e1 | rw [if_neg ow] at e1); (first | rw [if_pos ow] at e2 | rw [if_neg ow] at e2); (first | rw [if_pos ow] at e3 | rw [if_neg ow] at e3); rw [e1, e2, e3])))))))) (fun h5 h5' => (.f 1 (AV.tup []) (.e (AV.tup []) (by
        try delta Vjc_7
        first | (exfalso; omega) | ((first | rw [if_pos ow] at e1 | rw [if_neg ow] at e1); (first | rw [if_pos ow] at e2 | rw [if_neg ow] at e2); (first | rw [if_pos ow] at e3 | rw [if_neg ow] at e3); rw [e1, e2, e3])))))))))) (fun h4 h4' => (.no (.no (.g (.no (.f 1 (AV.tup []) (.e (AV.tup []) (by
        try delta Vjc_7
        first | (exfalso; omega) | ((first | rw [if_pos ow] at e1 | rw [if_neg ow] at e1); (first | rw [if_pos ow] at e2 | rw [if_neg ow] at e2); (first | rw [if_pos ow] at e3 | rw [if_neg ow] at e3); rw [e1, e2, e3]))))))))))))))))) (fun h2 h2' => (.no (.no (.g (.no (.r (.two (decide (((mid : Nat) : Int) < (((mid + p) - i : Nat) : Int))) (fun h3 h3' => (.yes (.yes (.g (.two (decide ((((mid + p) - i : Nat) : Int) < ((b : Nat) : Int))) (fun h4 h4' => (.r (.ch 5 ([⟨g, 9, (List.map Card.row (mAt (ltF cmp) mid ((mid + p) - i) b l)), none⟩] : Heap) (ih_at mid ((mid + p) - i) b n g l (by first | (exfalso; omega) | ((first | rw [if_pos ow] at e1 | rw [if_neg ow] at e1); (first | rw [if_pos ow] at e2 | rw [if_neg ow] at e2); rw [e1, e2]; exact hlen2.symm)) (by first | exact hc | exact hxs | omega | (simp; omega)) (by first | exact hc | exact hxs | omega | (simp; omega)) (by first | exact hc | exact hxs | omega | (simp; omega)) (by first | exact hc | exact hxs | omega | (simp; omega)) (by first | exact hc | exact hxs | omega | (simp; omega)) (by first | (exfalso; omega) | ((first | rw [if_pos ow] at e1 | rw [if_neg ow] at e1); (first | rw [if_pos ow] at e2 | rw [if_neg ow] at e2); rw [e1, e2]; rw [show A ++ (mg (ltF cmp) L1 R1 ++ (L2 ++ (R2 ++ B))) = (A ++ mg (ltF cmp) L1 R1) ++ (L2 ++ (R2 ++ B)) by simp, piece (A ++ mg (ltF cmp) L1 R1) L2 _ (by simp [mg_len]; omega) ow]; exact q2)) (by first | (exfalso; omega) | ((first | rw [if_pos ow] at e1 | rw [if_neg ow] at e1); (first | rw [if_pos ow] at e2 | rw [if_neg ow] at e2); rw [e1, e2]; rw [show A ++ (mg (ltF cmp) L1 R1 ++ (L2 ++ (R2 ++ B))) = ((A ++ mg (ltF cmp) L1 R1) ++ L2) ++ (R2 ++ B) by simp, piece ((A ++ mg (ltF cmp) L1 R1) ++ L2) R2 _ (by simp [mg_len]; omega) ow]; exact q4)) ([] : Heap)) (.g (.f 1 (AV.tup []) (.e (AV.tup []) (by
        try delta Vjc_7
        first | (exfalso; omega) | ((first | rw [if_pos ow] at e1 | rw [if_neg ow] at e1); (first | rw [if_pos ow] at e2 | rw [if_neg ow] at e2); (first | rw [if_pos ow] at e3 | rw [if_neg ow] at e3); rw [e1, e2, e3])))))))) (fun h4 h4' => (.f 1 (AV.tup []) (.e (AV.tup []) (by
        try delta Vjc_7
        first | (exfalso; omega) | ((first | rw [if_pos ow] at e1 | rw [if_neg ow] at e1); (first | rw [if_pos ow] at e2 | rw [if_neg ow] at e2); (first | rw [if_pos ow] at e3 | rw [if_neg ow] at e3); rw [e1, e2, e3])))))))))) (fun h3 h3' => (.no (.no (.g (.no (.f 1 (AV.tup []) (.e (AV.tup []) (by
        try delta Vjc_7
        first | (exfalso; omega) | ((first | rw [if_pos ow] at e1 | rw [if_neg ow] at e1); (first | rw [if_pos ow] at e2 | rw [if_neg ow] at e2); (first | rw [if_pos ow] at e3 | rw [if_neg ow] at e3); rw [e1, e2, e3]))))))))))))))))))))))))))))))))))))))))))))))))))))))))))))
set_option maxHeartbeats 4000000 in
theorem sCD_spec (cmp : Card → Card → Int) (f : Nat) (xs : List AV) (A L1 L2 R1 R2 B : List Card) (a p b n g i mid Nz : Nat) (l : List Card) (hc : ∀ (x y : Card) (H : Heap), ACalls Try.prog f ([AV.agg (Card.row x), AV.agg (Card.row y)] ++ xs) H (AV.int .i64 (cmp x y), H)) (hxs : AV.bdds 1 xs = true) (hn : n = l.length) (hnb : n < 1048576) (ih_at : ∀ (a p b n g : Nat) (l : List Card), n = l.length → n < 1048576 → a < p → p < b → b ≤ n → b - a < Nz → Srt (ltF cmp) ((l.drop a).take (p - a)) → Srt (ltF cmp) ((l.drop p).take (b - p)) → ∀ H : Heap, ACalls Try.prog 96 [(.osl 0 g 9 0 n), (.int .i64 ((a : Nat) : Int)), (.int .i64 ((p : Nat) : Int)), (.int .i64 ((b : Nat) : Int)), (.func f xs)] (([⟨g, 9, (List.map Card.row l), none⟩] : Heap) ++ H) (.tup [], ([⟨g, 9, (List.map Card.row (mAt (ltF cmp) a p b l)), none⟩] : Heap) ++ H)) (hl : l = A ++ (L1 ++ (L2 ++ (R1 ++ (R2 ++ B))))) (hA : a = A.length) (hi : i = a + L1.length) (hp : p = i + L2.length) (hR1 : mid = i + R1.length) (hb : b = p + R1.length + R2.length) (hbn : b ≤ n) (hap : a < p) (hpb : p < b) (h1 : p ≠ a + 1) (h2 : b ≠ p + 1) (hmid : mid = (a + b) / 2) (hNz : b - a ≤ Nz) (hgt : p ≤ mid) (hs : i = bsr (fun c => !decide (cmp (nth l (mid + p - 1 - c)) (nth l c) < 0)) (p - (a)) (a) p) (hlo : a ≤ i) (hhi : i ≤ p) (q1 : Srt (ltF cmp) L1) (q2 : Srt (ltF cmp) L2) (q3 : Srt (ltF cmp) R1) (q4 : Srt (ltF cmp) R2) : ACalls Try.prog 96 [(.osl 0 g 9 0 n), (.int .i64 ((a : Nat) : Int)), (.int .i64 ((p : Nat) : Int)), (.int .i64 ((b : Nat) : Int)), (.func f xs)] ([⟨g, 9, (List.map Card.row l), none⟩] : Heap) ((AV.tup []), ([⟨g, 9, (List.map Card.row (A ++ (mg (ltF cmp) L1 R1 ++ (mg (ltF cmp) L2 R2 ++ B)))), none⟩] : Heap)) := by
  have hll : n = A.length + L1.length + L2.length + R1.length + R2.length + B.length := by rw [hn, hl]; simp; omega
  have e1 := sm1 A L1 L2 R1 R2 B hl (s := i) (m := p) (e := mid + p - i) ow hp ow
  have e2 := sm2 (ltF cmp) A L1 R1 (L2 ++ (R2 ++ B)) (a := a) (s := i) (mid := mid) hA hi hR1
  have e3 := sm3 (ltF cmp) A (mg (ltF cmp) L1 R1) L2 R2 B (mid := mid) (e := mid + p - i) (b := b) (by rw [mg_len]; omega) ow ow
  have hrot : 0 < L2.length → 0 < R1.length → _ := rot_facts (A ++ L1) L2 R1 (R2 ++ B) (l := l) (by rw [hl]; simp) (a := i) (m := p) (b := mid + p - i) (by simp; omega) hp ow
  have hlen2 : (A ++ (mg (ltF cmp) L1 R1 ++ (L2 ++ (R2 ++ B)))).length = n := by rw [hll]; simp [mg_len]; omega
  have hlen1 : (A ++ (L1 ++ (R1 ++ (L2 ++ (R2 ++ B))))).length = n := by rw [hll]; simp; omega
  exact specO (fn := Try.f96) (ann := sC_ann) (Has.o Try.func96) (.r (.y 2 (.int .i64 (IntKind.i64.wrap (((p : Nat) : Int) - ((a : Nat) : Int)))) (AV.int .i64 ((p - a : Nat) : Int)) (Yes.add ow ow ow) (.y 3 (AV.bool (((p - a : Nat) : Int) == 1)) (AV.bool false) (Yes.bool (by exact beq_eq_false_iff_ne.2 ow)) (.g (.no (.r (.y 2 (.int .i64 (IntKind.i64.wrap (((b : Nat) : Int) - ((p : Nat) : Int)))) (AV.int .i64 ((b - p : Nat) : Int)) (Yes.add ow ow ow) (.y 3 (AV.bool (((b - p : Nat) : Int) == 1)) (AV.bool false) (Yes.bool (by exact beq_eq_false_iff_ne.2 ow)) (.g (.no (.r (.y 2 (.int .i64 (IntKind.i64.wrap (((a : Nat) : Int) + ((b : Nat) : Int)))) (AV.int .i64 ((a + b : Nat) : Int)) (Yes.add ow ow ow) (.y 5 (AV.int .i64 (IntKind.i64.wrap (Int.fdiv (IntKind.u64.wrap ((a + b : Nat) : Int)) (2 ^ (min (Int.toNat 1) 64))))) (AV.int .i64 ((mid : Nat) : Int)) (Yes.int (half_nat ow ow)) (.g (.r (.y 2 (.int .i64 (IntKind.i64.wrap (((mid : Nat) : Int) + ((p : Nat) : Int)))) (AV.int .i64 ((mid + p : Nat) : Int)) (Yes.add ow ow ow) (.g (.r (.g (.r (.y 2 (AV.bool (decide (((p : Nat) : Int) > ((mid : Nat) : Int)))) (AV.bool false) (Yes.bool (by exact decide_eq_false ow)) (.g (.no (.r (.g (.r (.g (.r (.y 1 (.int .i64 (IntKind.i64.wrap (((mid + p : Nat) : Int) - 1))) (AV.int .i64 ((mid + p - 1 : Nat) : Int)) (Yes.add ow ow ow) (.g (.loop (Vjc_6 g n a p b f xs mid i) (show LoopTo (codeQ Try.prog (X sC_ann) (loopOf Try.f96 4)) (some [0, 1, 2, 3, 4, 18, 19, 20, 21, 22]) (some [0, 1, 2, 3, 4, 18, 19, 20]) (mkF 220 [(0, (.osl 0 g 9 0 n)), (1, (.int .i64 ((a : Nat) : Int))), (2, (.int .i64 ((p : Nat) : Int))), (3, (.int .i64 ((b : Nat) : Int))), (4, (.func f xs)), (18, (.int .i64 ((mid : Nat) : Int))), (19, (.int .i64 ((mid + p : Nat) : Int))), (20, (.int .i64 ((a : Nat) : Int))), (21, (.int .i64 ((p : Nat) : Int))), (22, (.int .i64 ((mid + p - 1 : Nat) : Int)))]) ([⟨g, 9, (List.map Card.row l), none⟩] : Heap) (.exit 8) (Vjc_6 g n a p b f xs mid i) ([⟨g, 9, (List.map Card.row l), none⟩] : Heap) from (by rw [hs]; exact sCc_loop cmp f xs hc a p b mid (mid + p) (mid + p - 1) n g l hn hnb (p - (a)) a p ow ow ow)) (.r (.y 2 (.int .i64 (IntKind.i64.wrap ((((mid + p) : Nat) : Int) - ((i : Nat) : Int)))) (AV.int .i64 (((mid + p) - i : Nat) : Int)) (Yes.add ow ow ow) (.g (.r (.two (decide (((i : Nat) : Int) < ((p : Nat) : Int))) (fun h1 h1' => (.yes (.yes (.g (.two (decide (((p : Nat) : Int) < (((mid + p) - i : Nat) : Int))) (fun h2 h2' => (.r (.ch 5 (Vjc_7 g i p mid l) (mCr_at f xs i p ((mid + p) - i) n g l (by first | exact hc | exact hxs | omega | (simp; omega)) (by first | exact hc | exact hxs | omega | (simp; omega)) (by first | exact hc | exact hxs | omega | (simp; omega)) (by first | exact hc | exact hxs | omega | (simp; omega)) (by first | exact hc | exact hxs | omega | (simp; omega)) (by first | exact hc | exact hxs | omega | (simp; omega)) ((hrot ow ow).1) ((hrot ow ow).2.1) ((hrot ow ow).2.2) ([] : Heap)) (.g (.r (.two (decide (((a : Nat) : Int) < ((i : Nat) : Int))) (fun h3 h3' => (.yes (.yes (.g (.two (decide (((i : Nat) : Int) < ((mid : Nat) : Int))) (fun h4 h4' => (.r (.ch 5 ([⟨g, 9, (List.map Card.row (mAt (ltF cmp) a i mid (rotL i p ((mid + p) - i) l))), none⟩] : Heap) (ih_at a i mid n g (rotL i p ((mid + p) - i) l) (by first | (exfalso; omega) | ((first | rw [if_pos ow] at e1 | rw [if_neg ow] at e1); rw [e1]; exact hlen1.symm)) (by first | exact hc | exact hxs | omega | (simp; omega)) (by first | exact hc | exact hxs | omega | (simp; omega)) (by first | exact hc | exact hxs | omega | (simp; omega)) (by first | exact hc | exact hxs | omega | (simp; omega)) (by first | exact hc | exact hxs | omega | (simp; omega)) (by first | (exfalso; omega) | ((first | rw [if_pos ow] at e1 | rw [if_neg ow] at e1); rw [e1]; rw [piece A L1 _ hA ow]; exact q1)) (by first | (exfalso; omega) | ((first | rw [if_pos ow] at e1 | rw [if_neg ow] at e1); rw [e1]; rw [show A ++ (L1 ++ (R1 ++ (L2 ++ (R2 ++ B)))) = (A ++ L1) ++ (R1 ++ (L2 ++ (R2 ++ B))) by simp, piece (A ++ L1) R1 _ (by simp; omega) ow]; exact q3)) ([] : Heap)) (.g (.r (.two (decide (((mid : Nat) : Int) < (((mid + p) - i : Nat) : Int))) (fun h5 h5' => (.yes (.yes (.g (.two (decide ((((mid + p) - i : Nat) : Int) < ((b : Nat) : Int))) (fun h6 h6' => (.r (.ch 5 ([⟨g, 9, (List.map Card.row (mAt (ltF cmp) mid ((mid + p) - i) b (mAt (ltF cmp) a i mid (rotL i p ((mid + p) - i) l)))), none⟩] : Heap) (ih_at mid ((mid + p) - i) b n g (mAt (ltF cmp) a i mid (rotL i p ((mid + p) - i) l)) (by first | (exfalso; omega) | ((first | rw [if_pos ow] at e1 | rw [if_neg ow] at e1); (first | rw [if_pos ow] at e2 | rw [if_neg ow] at e2); rw [e1, e2]; exact hlen2.symm)) (by first | exact hc | exact hxs | omega | (simp; omega)) (by first | exact hc | exact hxs | omega | (simp; omega)) (by first | exact hc | exact hxs | omega | (simp; omega)) (by first | exact hc | exact hxs | omega | (simp; omega)) (by first | exact hc | exact hxs | omega | (simp; omega)) (by first | (exfalso; omega) | ((first | rw [if_pos ow] at e1 | rw [if_neg ow] at e1); (first | rw [if_pos ow] at e2 | rw [if_neg ow] at e2); rw [e1, e2]; rw [show A ++ (mg (ltF cmp) L1 R1 ++ (L2 ++ (R2 ++ B))) = (A ++ mg (ltF cmp) L1 R1) ++ (L2 ++ (R2 ++ B)) by simp, piece (A ++ mg (ltF cmp) L1 R1) L2 _ (by simp [mg_len]; omega) ow]; exact q2)) (by first | (exfalso; omega) | ((first | rw [if_pos ow] at e1 | rw [if_neg ow] at e1); (first | rw [if_pos ow] at e2 | rw [if_neg ow] at e2); rw [e1, e2]; rw [show A ++ (mg (ltF cmp) L1 R1 ++ (L2 ++ (R2 ++ B))) = ((A ++ mg (ltF cmp) L1 R1) ++ L2) ++ (R2 ++ B) by simp, piece ((A ++ mg (ltF cmp) L1 R1) ++ L2) R2 _ (by simp [mg_len]; omega) ow]; exact q4)) ([] : Heap)) (.g (.f 1 (AV.tup []) (.e (AV.tup []) (by
        try delta Vjc_7
        first | (exfalso; omega) | ((first | rw [if_pos ow] at e1 | rw [if_neg ow] at e1); (first | rw [if_pos ow] at e2 | rw [if_neg ow] at e2); (first | rw [if_pos ow] at e3 | rw [if_neg ow] at e3); rw [e1, e2, e3])))))))) (fun h6 h6' => (.f 1 (AV.tup []) (.e (AV.tup []) (by
        try delta Vjc_7
        first | (exfalso; omega) | ((first | rw [if_pos ow] at e1 | rw [if_neg ow] at e1); (first | rw [if_pos ow] at e2 | rw [if_neg ow] at e2); (first | rw [if_pos ow] at e3 | rw [if_neg ow] at e3); rw [e1, e2, e3])))))))))) (fun h5 h5' => (.no (.no (.g (.no (.f 1 (AV.tup []) (.e (AV.tup []) (by
        try delta Vjc_7
        first | (exfalso; omega) | ((first | rw [if_pos ow] at e1 | rw [if_neg ow] at e1); (first | rw [if_pos ow] at e2 | rw [if_neg ow] at e2); (first | rw [if_pos ow] at e3 | rw [if_neg ow] at e3); rw [e1, e2, e3]))))))))))))))) (fun h4 h4' => (.r (.two (decide (((mid : Nat) : Int) < (((mid + p) - i : Nat) : Int))) (fun h5 h5' => (.yes (.yes (.g (.two (decide ((((mid + p) - i : Nat) : Int) < ((b : Nat) : Int))) (fun h6 h6' => (.r (.ch 5 ([⟨g, 9, (List.map Card.row (mAt (ltF cmp) mid ((mid + p) - i) b (rotL i p ((mid + p) - i) l))), none⟩] : Heap) (ih_at mid ((mid + p) - i) b n g (rotL i p ((mid + p) - i) l) (by first | (exfalso; omega) | ((first | rw [if_pos ow] at e1 | rw [if_neg ow] at e1); (first | rw [if_pos ow] at e2 | rw [if_neg ow] at e2); rw [e1, e2]; exact hlen2.symm)) (by first | exact hc | exact hxs | omega | (simp; omega)) (by first | exact hc | exact hxs | omega | (simp; omega)) (by first | exact hc | exact hxs | omega | (simp; omega)) (by first | exact hc | exact hxs | omega | (simp; omega)) (by first | exact hc | exact hxs | omega | (simp; omega)) (by first | (exfalso; omega) | ((first | rw [if_pos ow] at e1 | rw [if_neg ow] at e1); (first | rw [if_pos ow] at e2 | rw [if_neg ow] at e2); rw [e1, e2]; rw [show A ++ (mg (ltF cmp) L1 R1 ++ (L2 ++ (R2 ++ B))) = (A ++ mg (ltF cmp) L1 R1) ++ (L2 ++ (R2 ++ B)) by simp, piece (A ++ mg (ltF cmp) L1 R1) L2 _ (by simp [mg_len]; omega) ow]; exact q2)) (by first | (exfalso; omega) | ((first | rw [if_pos ow] at e1 | rw [if_neg ow] at e1); (first | rw [if_pos ow] at e2 | rw [if_neg ow] at e2); rw [e1, e2]; rw [show A ++ (mg (ltF cmp) L1 R1 ++ (L2 ++ (R2 ++ B))) = ((A ++ mg (ltF cmp) L1 R1) ++ L2) ++ (R2 ++ B) by simp, piece ((A ++ mg (ltF cmp) L1 R1) ++ L2) R2 _ (by simp [mg_len]; omega) ow]; exact q4)) ([] : Heap)) (.g (.f 1 (AV.tup []) (.e (AV.tup []) (by
        try delta Vjc_7
        first | (exfalso; omega) | ((first | rw [if_pos ow] at e1 | rw [if_neg ow] at e1); (first | rw [if_pos ow] at e2 | rw [if_neg ow] at e2); (first | rw [if_pos ow] at e3 | rw [if_neg ow] at e3); rw [e1, e2, e3])))))))) (fun h6 h6' => (.f 1 (AV.tup []) (.e (AV.tup []) (by
        try delta Vjc_7
        first | (exfalso; omega) | ((first | rw [if_pos ow] at e1 | rw [if_neg ow] at e1); (first | rw [if_pos ow] at e2 | rw [if_neg ow] at e2); (first | rw [if_pos ow] at e3 | rw [if_neg ow] at e3); rw [e1, e2, e3])))))))))) (fun h5 h5' => (.no (.no (.g (.no (.f 1 (AV.tup []) (.e (AV.tup []) (by
        try delta Vjc_7
        first | (exfalso; omega) | ((first | rw [if_pos ow] at e1 | rw [if_neg ow] at e1); (first | rw [if_pos ow] at e2 | rw [if_neg ow] at e2); (first | rw [if_pos ow] at e3 | rw [if_neg ow] at e3); rw [e1, e2, e3]))))))))))))))))) (fun h3 h3' => (.no (.no (.g (.no (.r (.two (decide (((mid : Nat) : Int) < (((mid + p) - i : Nat) : Int))) (fun h4 h4' => (.yes (.yes (.g (.two (decide ((((mid + p) - i : Nat) : Int) < ((b : Nat) : Int))) (fun h5 h5' => (.r (.ch 5 ([⟨g, 9, (List.map Card.row (mAt (ltF cmp) mid ((mid + p) - i) b (rotL i p ((mid + p) - i) l))), none⟩] : Heap) (ih_at mid ((mid + p) - i) b n g (rotL i p ((mid + p) - i) l) (by first | (exfalso; omega) | ((first | rw [if_pos ow] at e1 | rw [if_neg ow] at e1); (first | rw [if_pos ow] at e2 | rw [if_neg ow] at e2); rw [e1, e2]; exact hlen2.symm)) (by first | exact hc | exact hxs | omega | (simp; omega)) (by first | exact hc | exact hxs | omega | (simp; omega)) (by first | exact hc | exact hxs | omega | (simp; omega)) (by first | exact hc | exact hxs | omega | (simp; omega)) (by first | exact hc | exact hxs | omega | (simp; omega)) (by first | (exfalso; omega) | ((first | rw [if_pos ow] at e1 | rw [if_neg ow] at e1); (first | rw [if_pos ow] at e2 | rw [if_neg ow] at e2); rw [e1, e2]; rw [show A ++ (mg (ltF cmp) L1 R1 ++ (L2 ++ (R2 ++ B))) = (A ++ mg (ltF cmp) L1 R1) ++ (L2 ++ (R2 ++ B)) by simp, piece (A ++ mg (ltF cmp) L1 R1) L2 _ (by simp [mg_len]; omega) ow]; exact q2)) (by first | (exfalso; omega) | ((first | rw [if_pos ow] at e1 | rw [if_neg ow] at e1); (first | rw [if_pos ow] at e2 | rw [if_neg ow] at e2); rw [e1, e2]; rw [show A ++ (mg (ltF cmp) L1 R1 ++ (L2 ++ (R2 ++ B))) = ((A ++ mg (ltF cmp) L1 R1) ++ L2) ++ (R2 ++ B) by simp, piece ((A ++ mg (ltF cmp) L1 R1) ++ L2) R2 _ (by simp [mg_len]; omega) ow]; exact q4)) ([] : Heap)) (.g (.f 1 (AV.tup []) (.e (AV.tup []) (by
        try delta Vjc_7
        first | (exfalso; omega) | ((first | rw [if_pos ow] at e1 | rw [if_neg ow] at e1); (first | rw [if_pos ow] at e2 | rw [if_neg ow] at e2); (first | rw [if_pos ow] at e3 | rw [if_neg ow] at e3); rw [e1, e2, e3])))))))) (fun h5 h5' => (.f 1 (AV.tup []) (.e (AV.tup []) (by
        try delta Vjc_7
        first | (exfalso; omega) | ((first | rw [if_pos ow] at e1 | rw [if_neg ow] at e1); (first | rw [if_pos ow] at e2 | rw [if_neg ow] at e2); (first | rw [if_pos ow] at e3 | rw [if_neg ow] at e3); rw [e1, e2, e3])))))))))) (fun h4 h4' => (.no (.no (.g (.no (.f 1 (AV.tup []) (.e (AV.tup []) (by
        try delta Vjc_7
        first | (exfalso; omega) | ((first | rw [if_pos ow] at e1 | rw [if_neg ow] at e1); (first | rw [if_pos ow] at e2 | rw [if_neg ow] at e2); (first | rw [if_pos ow] at e3 | rw [if_neg ow] at e3); rw [e1, e2, e3])))))))))))))))))))))) (fun h2 h2' => (.r (.two (decide (((a : Nat) : Int) < ((i : Nat) : Int))) (fun h3 h3' => (.yes (.yes (.g (.two (decide (((i : Nat) : Int) < ((mid : Nat) : Int))) (fun h4 h4' => (.r (.ch 5 ([⟨g, 9, (List.map Card.row (mAt (ltF cmp) a i mid l)), none⟩] : Heap) (ih_at a i mid n g l (by first | (exfalso; omega) | ((first | rw [if_pos ow] at e1 | rw [if_neg ow] at e1); rw [e1]; exact hlen1.symm)) (by first | exact hc | exact hxs | omega | (simp; omega)) (by first | exact hc | exact hxs | omega | (simp; omega)) (by first | exact hc | exact hxs | omega | (simp; omega)) (by first | exact hc | exact hxs | omega | (simp; omega)) (by first | exact hc | exact hxs | omega | (simp; omega)) (by first | (exfalso; omega) | ((first | rw [if_pos ow] at e1 | rw [if_neg ow] at e1); rw [e1]; rw [piece A L1 _ hA ow]; exact q1)) (by first | (exfalso; omega) | ((first | rw [if_pos ow] at e1 | rw [if_neg ow] at e1); rw [e1]; rw [show A ++ (L1 ++ (R1 ++ (L2 ++ (R2 ++ B)))) = (A ++ L1) ++ (R1 ++ (L2 ++ (R2 ++ B))) by simp, piece (A ++ L1) R1 _ (by simp; omega) ow]; exact q3)) ([] : Heap)) (.g (.r (.two (decide (((mid : Nat) : Int) < (((mid + p) - i : Nat) : Int))) (fun h5 h5' => (.yes (.yes (.g (.two (decide ((((mid + p) - i : Nat) : Int) < ((b : Nat) : Int))) (fun h6 h6' => (.r (.ch 5 ([⟨g, 9, (List.map Card.row (mAt (ltF cmp) mid ((mid + p) - i) b (mAt (ltF cmp) a i mid l))), none⟩] : Heap) (ih_at mid ((mid + p) - i) b n g (mAt (ltF cmp) a i mid l) (by first | (exfalso; omega) | ((first | rw [if_pos ow] at e1 | rw [if_neg ow] at e1); (first | rw [if_pos ow] at e2 | rw [if_neg ow] at e2); rw [e1, e2]; exact hlen2.symm)) (by first | exact hc | exact hxs | omega | (simp; omega)) (by first | exact hc | exact hxs | omega | (simp; omega)) (by first | exact hc | exact hxs | omega | (simp; omega)) (by first | exact hc | exact hxs | omega | (simp; omega)) (by first | exact hc | exact hxs | omega | (simp; omega)) (by first | (exfalso; omega) | ((first | rw [if_pos ow] at e1 | rw [if_neg ow] at e1); (first | rw [if_pos ow] at e2 | rw [if_neg ow] at e2); rw [e1, e2]; rw [show A ++ (mg (ltF cmp) L1 R1 ++ (L2 ++ (R2 ++ B))) = (A ++ mg (ltF cmp) L1 R1) ++ (L2 ++ (R2 ++ B)) by simp, piece (A ++ mg (ltF cmp) L1 R1) L2 _ (by simp [mg_len]; omega) ow]; exact q2)) (by first | (exfalso; omega) | ((first | rw [if_pos ow] at e1 | rw [if_neg ow] at e1); (first | rw [if_pos ow] at e2 | rw [if_neg ow] at e2); rw [e1, e2]; rw [show A ++ (mg (ltF cmp) L1 R1 ++ (L2 ++ (R2 ++ B))) = ((A ++ mg (ltF cmp) L1 R1) ++ L2) ++ (R2 ++ B) by simp, piece ((A ++ mg (ltF cmp) L1 R1) ++ L2) R2 _ (by simp [mg_len]; omega) ow]; exact q4)) ([] : Heap)) (.g (.f 1 (AV.tup []) (.e (AV.tup []) (by
        try delta Vjc_7
        first | (exfalso; omega) | ((first | rw [if_pos ow] at e1 | rw [if_neg ow] at e1); (first | rw [if_pos ow] at e2 | rw [if_neg ow] at e2); (first | rw [if_pos ow] at e3 | rw [if_neg ow] at e3); rw [e1, e2, e3])))))))) (fun h6 h6' => (.f 1 (AV.tup []) (.e (AV.tup []) (by
        try delta Vjc_7
        first | (exfalso; omega) | ((first | rw [if_pos ow] at e1 | rw [if_neg ow] at e1); (first | rw [if_pos ow] at e2 | rw [if_neg ow] at e2); (first | rw [if_pos ow] at e3 | rw [if_neg ow] at e3); rw [e1, e2, e3])))))))))) (fun h5 h5' => (.no (.no (.g (.no (.f 1 (AV.tup []) (.e (AV.tup []) (by
        try delta Vjc_7
        first | (exfalso; omega) | ((first | rw [if_pos ow] at e1 | rw [if_neg ow] at e1); (first | rw [if_pos ow] at e2 | rw [if_neg ow] at e2); (first | rw [if_pos ow] at e3 | rw [if_neg ow] at e3); rw [e1, e2, e3]))))))))))))))) (fun h4 h4' => (.r (.two (decide (((mid : Nat) : Int) < (((mid + p) - i : Nat) : Int))) (fun h5 h5' => (.yes (.yes (.g (.two (decide ((((mid + p) - i : Nat) : Int) < ((b : Nat) : Int))) (fun h6 h6' => (.r (.ch 5 ([⟨g, 9, (List.map Card.row (mAt (ltF cmp) mid ((mid + p) - i) b l)), none⟩] : Heap) (ih_at mid ((mid + p) - i) b n g l (by first | (exfalso; omega) | ((first | rw [if_pos ow] at e1 | rw [if_neg ow] at e1); (first | rw [if_pos ow] at e2 | rw [if_neg ow] at e2); rw [e1, e2]; exact hlen2.symm)) (by first | exact hc | exact hxs | omega | (simp; omega)) (by first | exact hc | exact hxs | omega | (simp; omega)) (by first | exact hc | exact hxs | omega | (simp; omega)) (by first | exact hc | exact hxs | omega | (simp; omega)) (by first | exact hc | exact hxs | omega | (simp; omega)) (by first | (exfalso; omega) | ((first | rw [if_pos ow] at e1 | rw [if_neg ow] at e1); (first | rw [if_pos ow] at e2 | rw [if_neg ow] at e2); rw [e1, e2]; rw [show A ++ (mg (ltF cmp) L1 R1 ++ (L2 ++ (R2 ++ B))) = (A ++ mg (ltF cmp) L1 R1) ++ (L2 ++ (R2 ++ B)) by simp, piece (A ++ mg (ltF cmp) L1 R1) L2 _ (by simp [mg_len]; omega) ow]; exact q2)) (by first | (exfalso; omega) | ((first | rw [if_pos ow] at e1 | rw [if_neg ow] at e1); (first | rw [if_pos ow] at e2 | rw [if_neg ow] at e2); rw [e1, e2]; rw [show A ++ (mg (ltF cmp) L1 R1 ++ (L2 ++ (R2 ++ B))) = ((A ++ mg (ltF cmp) L1 R1) ++ L2) ++ (R2 ++ B) by simp, piece ((A ++ mg (ltF cmp) L1 R1) ++ L2) R2 _ (by simp [mg_len]; omega) ow]; exact q4)) ([] : Heap)) (.g (.f 1 (AV.tup []) (.e (AV.tup []) (by
        try delta Vjc_7
        first | (exfalso; omega) | ((first | rw [if_pos ow] at e1 | rw [if_neg ow] at e1); (first | rw [if_pos ow] at e2 | rw [if_neg ow] at e2); (first | rw [if_pos ow] at e3 | rw [if_neg ow] at e3); rw [e1, e2, e3])))))))) (fun h6 h6' => (.f 1 (AV.tup []) (.e (AV.tup []) (by
        try delta Vjc_7
        first | (exfalso; omega) | ((first | rw [if_pos ow] at e1 | rw [if_neg ow] at e1); (first | rw [if_pos ow] at e2 | rw [if_neg ow] at e2); (first | rw [if_pos ow] at e3 | rw [if_neg ow] at e3); rw [e1, e2, e3])))))))))) (fun h5 h5' => (.no (.no (.g (.no (.f 1 (AV.tup []) (.e (AV.tup []) (by
        try delta Vjc_7
        first | (exfalso; omega) | ((first | rw [if_pos ow] at e1 | rw [if_neg ow] at e1); (first | rw [if_pos ow] at e2 | rw [if_neg ow] at e2); (first | rw [if_pos ow] at e3 | rw [if_neg ow] at e3); rw [e1, e2, e3]))))))))))))))))) (fun h3 h3' => (.no (.no (.g (.no (.r (.two (decide (((mid : Nat) : Int) < (((mid + p) - i : Nat) : Int))) (fun h4 h4' => (.yes (.yes (.g (.two (decide ((((mid + p) - i : Nat) : Int) < ((b : Nat) : Int))) (fun h5 h5' => (.r (.ch 5 ([⟨g, 9, (List.map Card.row (mAt (ltF cmp) mid ((mid + p) - i) b l)), none⟩] : Heap) (ih_at mid ((mid + p) - i) b n g l (by first | (exfalso; omega) | ((first | rw [if_pos ow] at e1 | rw [if_neg ow] at e1); (first | rw [if_pos ow] at e2 | rw [if_neg ow] at e2); rw [e1, e2]; exact hlen2.symm)) (by first | exact hc | exact hxs | omega | (simp; omega)) (by first | exact hc | exact hxs | omega | (simp; omega)) (by first | exact hc | exact hxs | omega | (simp; omega)) (by first | exact hc | exact hxs | omega | (simp; omega)) (by first | exact hc | exact hxs | omega | (simp; omega)) (by first | (exfalso; omega) | ((first | rw [if_pos ow] at e1 | rw [if_neg ow] at e1); (first | rw [if_pos ow] at e2 | rw [if_neg ow] at e2); rw [e1, e2]; rw [show A ++ (mg (ltF cmp) L1 R1 ++ (L2 ++ (R2 ++ B))) = (A ++ mg (ltF cmp) L1 R1) ++ (L2 ++ (R2 ++ B)) by simp, piece (A ++ mg (ltF cmp) L1 R1) L2 _ (by simp [mg_len]; omega) ow]; exact q2)) (by first | (exfalso; omega) | ((first | rw [if_pos ow] at e1 | rw [if_neg ow] at e1); (first | rw [if_pos ow] at e2 | rw [if_neg ow] at e2); rw [e1, e2]; rw [show A ++ (mg (ltF cmp) L1 R1 ++ (L2 ++ (R2 ++ B))) = ((A ++ mg (ltF cmp) L1 R1) ++ L2) ++ (R2 ++ B) by simp, piece ((A ++ mg (ltF cmp) L1 R1) ++ L2) R2 _ (by simp [mg_len]; omega) ow]; exact q4)) ([] : Heap)) (.g (.f 1 (AV.tup []) (.e (AV.tup []) (by
        try delta Vjc_7
        first | (exfalso; omega) | ((first | rw [if_pos ow] at e1 | rw [if_neg ow] at e1); (first | rw [if_pos ow] at e2 | rw [if_neg ow] at e2); (first | rw [if_pos ow] at e3 | rw [if_neg ow] at e3); rw [e1, e2, e3])))))))) (fun h5 h5' => (.f 1 (AV.tup []) (.e (AV.tup []) (by
        try delta Vjc_7
        first | (exfalso; omega) | ((first | rw [if_pos ow] at e1 | rw [if_neg ow] at e1); (first | rw [if_pos ow] at e2 | rw [if_neg ow] at e2); (first | rw [if_pos ow] at e3 | rw [if_neg ow] at e3); rw [e1, e2, e3])))))))))) (fun h4 h4' => (.no (.no (.g (.no (.f 1 (AV.tup []) (.e (AV.tup []) (by
        try delta Vjc_7
        first | (exfalso; omega) | ((first | rw [if_pos ow] at e1 | rw [if_neg ow] at e1); (first | rw [if_pos ow] at e2 | rw [if_neg ow] at e2); (first | rw [if_pos ow] at e3 | rw [if_neg ow] at e3); rw [e1, e2, e3])))))))))))))))))))))))) (fun h1 h1' => (.no (.no (.g (.no (.r (.two (decide (((a : Nat) : Int) < ((i : Nat) : Int))) (fun h2 h2' => (.yes (.yes (.g (.two (decide (((i : Nat) : Int) < ((mid : Nat) : Int))) (fun h3 h3' => (.r (.ch 5 ([⟨g, 9, (List.map Card.row (mAt (ltF cmp) a i mid l)), none⟩] : Heap) (ih_at a i mid n g l (by first | (exfalso; omega) | ((first | rw [if_pos ow] at e1 | rw [if_neg ow] at e1); rw [e1]; exact hlen1.symm)) (by first | exact hc | exact hxs | omega | (simp; omega)) (by first | exact hc | exact hxs | omega | (simp; omega)) (by first | exact hc | exact hxs | omega | (simp; omega)) (by first | exact hc | exact hxs | omega | (simp; omega)) (by first | exact hc | exact hxs | omega | (simp; omega)) (by first | (exfalso; omega) | ((first | rw [if_pos ow] at e1 | rw [if_neg ow] at e1); rw [e1]; rw [piece A L1 _ hA ow]; exact q1)) (by first | (exfalso; omega) | ((first | rw [if_pos ow] at e1 | rw [if_neg ow] at e1); rw [e1]; rw [show A ++ (L1 ++ (R1 ++ (L2 ++ (R2 ++ B)))) = (A ++ L1) ++ (R1 ++ (L2 ++ (R2 ++ B))) by simp, piece (A ++ L1) R1 _ (by simp; omega) ow]; exact q3)) ([] : Heap)) (.g (.r (.two (decide (((mid : Nat) : Int) < (((mid + p) - i : Nat) : Int))) (fun h4 h4' => (.yes (.yes (.g (.two (decide ((((mid + p) - i : Nat) : Int) < ((b : Nat) : Int))) (fun h5 h5' => (.r (.ch 5 ([⟨g, 9, (List.map Card.row (mAt (ltF cmp) mid ((mid + p) - i) b (mAt (ltF cmp) a i mid l))), none⟩] : Heap) (ih_at mid ((mid + p) - i) b n g (mAt (ltF cmp) a i mid l) (by first | (exfalso; omega) | ((first | rw [if_pos ow] at e1 | rw [if_neg ow] at e1); (first | rw [if_pos ow] at e2 | rw [if_neg ow] at e2); rw [e1, e2]; exact hlen2.symm)) (by first | exact hc | exact hxs | omega | (simp; omega)) (by first | exact hc | exact hxs | omega | (simp; omega)) (by first | exact hc | exact hxs | omega | (simp; omega)) (by first | exact hc | exact hxs | omega | (simp; omega)) (by first | exact hc | exact hxs | omega | (simp; omega)) (by first | (exfalso; omega) | ((first | rw [if_pos ow] at e1 | rw [if_neg ow] at e1); (first | rw [if_pos ow] at e2 | rw [if_neg ow] at e2); rw [e1, e2]; rw [show A ++ (mg (ltF cmp) L1 R1 ++ (L2 ++ (R2 ++ B))) = (A ++ mg (ltF cmp) L1 R1) ++ (L2 ++ (R2 ++ B)) by simp, piece (A ++ mg (ltF cmp) L1 R1) L2 _ (by simp [mg_len]; omega) ow]; exact q2)) (by first | (exfalso; omega) | ((first | rw [if_pos ow] at e1 | rw [if_neg ow] at e1); (first | rw [if_pos ow] at e2 | rw [if_neg ow] at e2); rw [e1, e2]; rw [show A ++ (mg (ltF cmp) L1 R1 ++ (L2 ++ (R2 ++ B))) = ((A ++ mg (ltF cmp) L1 R1) ++ L2) ++ (R2 ++ B) by simp, piece ((A ++ mg (ltF cmp) L1 R1) ++ L2) R2 _ (by simp [mg_len]; omega) ow]; exact q4)) ([] : Heap)) (.g (.f 1 (AV.tup []) (.e (AV.tup []) (by
        try delta Vjc_7
        first | (exfalso; omega) | ((first | rw [if_pos ow] at e1 | rw [if_neg ow] at e1); (first | rw [if_pos ow] at e2 | rw [if_neg ow] at e2); (first | rw [if_pos ow] at e3 | rw [if_neg ow] at e3); rw [e1, e2, e3])))))))) (fun h5 h5' => (.f 1 (AV.tup []) (.e (AV.tup []) (by
        try delta Vjc_7
        first | (exfalso; omega) | ((first | rw [if_pos ow] at e1 | rw [if_neg ow] at e1); (first | rw [if_pos ow] at e2 | rw [if_neg ow] at e2); (first | rw [if_pos ow] at e3 | rw [if_neg ow] at e3); rw [e1, e2, e3])))))))))) (fun h4 h4' => (.no (.no (.g (.no (.f 1 (AV.tup []) (.e (AV.tup []) (by
        try delta Vjc_7
        first | (exfalso; omega) | ((first | rw [if_pos ow] at e1 | rw [if_neg ow] at e1); (first | rw [if_pos ow] at e2 | rw [if_neg ow] at e2); (first | rw [if_pos ow] at e3 | rw [if_neg ow] at e3); rw [e1, e2, e3]))))))))))))))) (fun h3 h3' => (.r (.two (decide (((mid : Nat) : Int) < (((mid + p) - i : Nat) : Int))) (fun h4 h4' => (.yes (.yes (.g (.two (decide ((((mid + p) - i : Nat) : Int) < ((b : Nat) : Int))) (fun h5 h5' => (.r (.ch 5 ([⟨g, 9, (List.map Card.row (mAt (ltF cmp) mid ((mid + p) - i) b l)), none⟩] : Heap) (ih_at mid ((mid + p) - i) b n g l (by first | (exfalso; omega) | ((first | rw [if_pos ow] at e1 | rw [if_neg ow] at e1); (first | rw [if_pos ow] at e2 | rw [if_neg ow] at e2); rw [e1, e2]; exact hlen2.symm)) (by first | exact hc | exact hxs | omega | (simp; omega)) (by first | exact hc | exact hxs | omega | (simp; omega)) (by first | exact hc | exact hxs | omega | (simp; omega)) (by first | exact hc | exact hxs | omega | (simp; omega)) (by first | exact hc | exact hxs | omega | (simp; omega)) (by first | (exfalso; omega) | ((first | rw [if_pos ow] at e1 | rw [if_neg ow] at e1); (first | rw [if_pos ow] at e2 | rw [if_neg ow] at e2); rw [e1, e2]; rw [show A ++ (mg (ltF cmp) L1 R1 ++ (L2 ++ (R2 ++ B))) = (A ++ mg (ltF cmp) L1 R1) ++ (L2 ++ (R2 ++ B)) by simp, piece (A ++ mg (ltF cmp) L1 R1) L2 _ (by simp [mg_len]; omega) ow]; exact q2)) (by first | (exfalso; omega) | ((first | rw [if_pos ow] at e1 | rw [if_neg ow] at e1); (first | rw [if_pos ow] at e2 | rw [if_neg ow] at e2); rw [e1, e2]; rw [show A ++ (mg (ltF cmp) L1 R1 ++ (L2 ++ (R2 ++ B))) = ((A ++ mg (ltF cmp) L1 R1) ++ L2) ++ (R2 ++ B) by simp, piece ((A ++ mg (ltF cmp) L1 R1) ++ L2) R2 _ (by simp [mg_len]; omega) ow]; exact q4)) ([] : Heap)) (.g (.f 1 (AV.tup []) (.e (AV.tup []) (by
        try delta Vjc_7
        first | (exfalso; omega) | ((first | rw [if_pos ow] at e1 | rw [if_neg ow] at e1); (first | rw [if_pos ow] at e2 | rw [if_neg ow] at e2); (first | rw [if_pos ow] at e3 | rw [if_neg ow] at e3); rw [e1, e2, e3])))))))) (fun h5 h5' => (.f 1 (AV.tup []) (.e (AV.tup []) (by
        try delta Vjc_7
        first | (exfalso; omega) | ((first | rw [if_pos ow] at e1 | rw [if_neg ow] at e1); (first | rw [if_pos ow] at e2 | rw [if_neg ow] at e2); (first | rw [if_pos ow] at e3 | rw [if_neg ow] at e3); rw [e1, e2, e3])))))))))) (fun h4 h4' => (.no (.no (.g (.no (.f 1 (AV.tup []) (.e (AV.tup []) (by
        try delta Vjc_7
        first | (exfalso; omega) | ((first | rw [if_pos ow] at e1 | rw [if_neg ow] at e1); (first | rw [if_pos ow] at e2 | rw [if_neg ow] at e2); (first | rw [if_pos ow] at e3 | rw [if_neg ow] at e3); rw [e1, e2, e3]))))))))))))))))) (fun h2 h2' => (.no (.no (.g (.no (.r (.two (decide (((mid : Nat) : Int) < (((mid + p) - i : Nat) : Int))) (fun h3 h3' => (.yes (.yes (.g (.two (decide ((((mid + p) - i : Nat) : Int) < ((b : Nat) : Int))) (fun h4 h4' => (.r (.ch 5 ([⟨g, 9, (List.map Card.row (mAt (ltF cmp) mid ((mid + p) - i) b l)), none⟩] : Heap) (ih_at mid ((mid + p) - i) b n g l (by first | (exfalso; omega) | ((first | rw [if_pos ow] at e1 | rw [if_neg ow] at e1); (first | rw [if_pos ow] at e2 | rw [if_neg ow] at e2); rw [e1, e2]; exact hlen2.symm)) (by first | exact hc | exact hxs | omega | (simp; omega)) (by first | exact hc | exact hxs | omega | (simp; omega)) (by first | exact hc | exact hxs | omega | (simp; omega)) (by first | exact hc | exact hxs | omega | (simp; omega)) (by first | exact hc | exact hxs | omega | (simp; omega)) (by first | (exfalso; omega) | ((first | rw [if_pos ow] at e1 | rw [if_neg ow] at e1); (first | rw [if_pos ow] at e2 | rw [if_neg ow] at e2); rw [e1, e2]; rw [show A ++ (mg (ltF cmp) L1 R1 ++ (L2 ++ (R2 ++ B))) = (A ++ mg (ltF cmp) L1 R1) ++ (L2 ++ (R2 ++ B)) by simp, piece (A ++ mg (ltF cmp) L1 R1) L2 _ (by simp [mg_len]; omega) ow]; exact q2)) (by first | (exfalso; omega) | ((first | rw [if_pos ow] at e1 | rw [if_neg ow] at e1); (first | rw [if_pos ow] at e2 | rw [if_neg ow] at e2); rw [e1, e2]; rw [show A ++ (mg (ltF cmp) L1 R1 ++ (L2 ++ (R2 ++ B))) = ((A ++ mg (ltF cmp) L1 R1) ++ L2) ++ (R2 ++ B) by simp, piece ((A ++ mg (ltF cmp) L1 R1) ++ L2) R2 _ (by simp [mg_len]; omega) ow]; exact q4)) ([] : Heap)) (.g (.f 1 (AV.tup []) (.e (AV.tup []) (by
        try delta Vjc_7
        first | (exfalso; omega) | ((first | rw [if_pos ow] at e1 | rw [if_neg ow] at e1); (first | rw [if_pos ow] at e2 | rw [if_neg ow] at e2); (first | rw [if_pos ow] at e3 | rw [if_neg ow] at e3); rw [e1, e2, e3])))))))) (fun h4 h4' => (.f 1 (AV.tup []) (.e (AV.tup []) (by
        try delta Vjc_7
        first | (exfalso; omega) | ((first | rw [if_pos ow] at e1 | rw [if_neg ow] at e1); (first | rw [if_pos ow] at e2 | rw [if_neg ow] at e2); (first | rw [if_pos ow] at e3 | rw [if_neg ow] at e3); rw [e1, e2, e3])))))))))) (fun h3 h3' => (.no (.no (.g (.no (.f 1 (AV.tup []) (.e (AV.tup []) (by
        try delta Vjc_7
        first | (exfalso; omega) | ((first | rw [if_pos ow] at e1 | rw [if_neg ow] at e1); (first | rw [if_pos ow] at e2 | rw [if_neg ow] at e2); (first | rw [if_pos ow] at e3 | rw [if_neg ow] at e3); rw [e1, e2, e3])))))))))))))))))))))))))))))))))))))))))))))))))))))))))))
end Go.Proofs.Ytfjedpipdnlkfaa.AM

set_option linter.unusedVariables false
set_option linter.unusedSimpArgs false
set_option linter.unusedSectionVars false
namespace Go.Proofs.Ytfjedpipdnlkfaa.AM
open Go
section
variable {α:Type} [Inhabited α] {lt:α→α→Bool}
theorem Weak.irr (W:Weak lt) (a:α):lt a a=false:=by
 cases h:lt a a with
 | false=>rfl
 | true=>have:=W.asymm a a h; rw [h] at this; exact this
theorem four {l:List α} {a m b:Nat} (ham:a≤m) (hmb:m≤b):l=l.take a++((l.drop a).take (m - a)++((l.drop m).take (b - m)++l.drop b)):=by
 have h1:(l.drop m).take (b - m)++l.drop b=l.drop m:=by
  have:=List.take_append_drop (b - m) (l.drop m)
  rw [List.drop_drop,show m+(b - m)=b by omega] at this
  exact this
 have h2:(l.drop a).take (m - a)++l.drop m=l.drop a:=by
  have:=List.take_append_drop (m - a) (l.drop a)
  rw [List.drop_drop,show a+(m - a)=m by omega] at this
  exact this
 rw [h1,h2,List.take_append_drop]
theorem part_nth {l:List α} {a k i:Nat} (hi:i < k):nth ((l.drop a).take k) i=nth l (a+i):=by rw [nth_take hi,nth_drop]
theorem part_len {l:List α} {a k:Nat} (h:a+k≤l.length):((l.drop a).take k).length=k:=by simp; omega
theorem part_mem {l:List α} {a k:Nat} {x:α} (h:a+k≤l.length) (hx:x∈(l.drop a).take k):∃ i,a≤i∧i < a+k∧nth l i=x:=by
 obtain ⟨i,hi,rfl⟩:=mem_nth hx
 rw [part_len h] at hi
 exact ⟨a+i,by omega,by omega,(part_nth hi).symm⟩
theorem srt_at {l:List α} {a k:Nat} (W:Weak lt) (h:a+k≤l.length) (hs:Srt lt ((l.drop a).take k)) {i j:Nat} (h1:a≤i) (h2:i≤j) (h3:j < a+k):lt (nth l j) (nth l i)=false:=by
 rcases Nat.lt_or_ge i j with h4 | h4
 · have:=pw_nth.1 hs (i - a) (j - a) (by omega) (by rw [part_len h]; omega)
   rw [part_nth (by omega),part_nth (by omega)] at this
   rwa [show a+(i - a)=i by omega,show a+(j - a)=j by omega] at this
 · obtain rfl:i=j:=by omega
   exact W.irr _
theorem part_cut {l:List α} {a k s:Nat} (hs:s≤k):(l.drop a).take k=(l.drop a).take s++(l.drop (a+s)).take (k - s):=by
 have:=List.take_append_drop s ((l.drop a).take k)
 rw [List.take_take,Nat.min_eq_left hs,List.drop_take,List.drop_drop] at this
 exact this.symm
theorem srt_cut {l:List α} {a k s:Nat} (hs:s≤k) (h:Srt lt ((l.drop a).take k)):Srt lt ((l.drop a).take s)∧Srt lt ((l.drop (a+s)).take (k - s)):=by
 rw [part_cut hs] at h
 have:=List.pairwise_append.1 h
 exact ⟨this.1,this.2.1⟩
theorem le_lt_le (W:Weak lt) {x y u v:α} (h1:lt u y=false) (h2:lt u v=true) (h3:lt x v=false):lt y x=true:=by
 cases h:lt y x with
 | true=>rfl
 | false =>
  have h4:=W.trans v x y h3 h
  have h5:=W.trans v y u h4 h1
  rw [h2] at h5; simp at h5
theorem part_law (W:Weak lt) {l:List α} {a p b s e:Nat} (ham:a≤p) (hpb:p≤b) (hbl:b≤l.length) (h7:Srt lt ((l.drop a).take (p - a))) (h8:Srt lt ((l.drop p).take (b - p))) (has:a≤s) (hsp:s≤p) (hpe:p≤e) (heb:e≤b)
 (k1:s < p→p < e→lt (nth l (e - 1)) (nth l s)=true) (k2:a < s→e < b→lt (nth l e) (nth l (s - 1))=false) :
 mAt lt a p b l=l.take a++(mg lt ((l.drop a).take (s - a)) ((l.drop p).take (e - p))++(mg lt ((l.drop s).take (p - s)) ((l.drop e).take (b - e))++l.drop b)):=by
 unfold mAt
 have c1:=part_cut (l:=l) (a:=a) (k:=p - a) (s:=s - a) (by omega)
 have c2:=part_cut (l:=l) (a:=p) (k:=b - p) (s:=e - p) (by omega)
 rw [show a+(s - a)=s by omega,show p - a - (s - a)=p - s by omega] at c1
 rw [show p+(e - p)=e by omega,show b - p - (e - p)=b - e by omega] at c2
 rw [c1,c2,mg_split lt _ _ _ (Nat.le_refl _) (fun x hx y hy=>?_) (fun x hx y hy=>?_),List.append_assoc]
 · obtain ⟨i,i1,i2,rfl⟩:=part_mem (by omega) hx
   obtain ⟨j,j1,j2,rfl⟩:=part_mem (by omega) hy
   exact le_lt_le W (srt_at W (by omega) h8 (i:=j) (j:=e - 1) (by omega) (by omega) (by omega)) (k1 (by omega) (by omega)) (srt_at W (by omega) h7 (i:=s) (j:=i) (by omega) (by omega) (by omega))
 · obtain ⟨i,i1,i2,rfl⟩:=part_mem (by omega) hx
   obtain ⟨j,j1,j2,rfl⟩:=part_mem (by omega) hy
   have q1:=srt_at W (by omega) h7 (i:=i) (j:=s - 1) (by omega) (by omega) (by omega)
   have q2:=srt_at W (by omega) h8 (i:=e) (j:=j) (by omega) (by omega) (by omega)
   exact W.trans _ _ _ (W.trans _ _ _ q1 (k2 (by omega) (by omega))) q2
theorem mg_one_l {x:α} {R:List α} (h:∀ y,R.head?=some y→lt y x=false):mg lt [x] R=x :: R:=by
 cases R with
 | nil=>rw [mg_nil_r]
 | cons y R=>rw [mg_cons,if_neg (by rw [h y rfl]; simp),mg_nil_l]
theorem mg_one_r {y:α} {L:List α} (h:∀ x,L.head?=some x→lt y x=true):mg lt L [y]=y :: L:=by
 cases L with
 | nil=>rw [mg_nil_l]
 | cons x L=>rw [mg_cons,if_pos (h x rfl),mg_nil_r]
theorem one_part {l:List α} {a:Nat} (h:a < l.length):(l.drop a).take 1=[nth l a]:=by rw [drop_nth h]; rfl
theorem head_part {l:List α} {a k:Nat} {x:α} (h:((l.drop a).take k).head?=some x) (hl:a+k≤l.length):0 < k∧x=nth l a:=by
 cases k with
 | zero=>simp at h
 | succ k =>
  rw [drop_nth (by omega)] at h
  simp at h
  exact ⟨by omega,h.symm⟩
theorem mg_insG (W:Weak lt) {S T:List α} (hS:Srt lt S) (hT:Srt lt T) (y:α):mg lt S (insG lt T y)=insG lt (mg lt S T) y:=by
 have fS:S=S.filter (fun z=>!lt y z)++S.filter (fun z=>lt y z):=by
  clear hT
  induction S with
  | nil=>rfl
  | cons z S ih =>
   have h:=List.pairwise_cons.1 hS
   have ih':=ih h.2
   by_cases c:lt y z=true
   · have hall:∀ w∈S,lt y w=true:=fun w hw=>le_lt_le W (W.irr y) c (h.1 w hw)
     have e1:S.filter (fun z=>!lt y z)=[]:=List.filter_eq_nil_iff.2 fun w hw=>by simp [hall w hw]
     have e2:S.filter (fun z=>lt y z)=S:=List.filter_eq_self.2 fun w hw=>hall w hw
     simp [List.filter_cons,c,e1,e2]
   · simp only [Bool.not_eq_true] at c
     conv=>lhs; rw [ih']
     simp [List.filter_cons,c]
 have fT:T=T.filter (fun z=>!lt y z)++T.filter (fun z=>lt y z):=by
  clear hS fS
  induction T with
  | nil=>rfl
  | cons z T ih =>
   have h:=List.pairwise_cons.1 hT
   have ih':=ih h.2
   by_cases c:lt y z=true
   · have hall:∀ w∈T,lt y w=true:=fun w hw=>le_lt_le W (W.irr y) c (h.1 w hw)
     have e1:T.filter (fun z=>!lt y z)=[]:=List.filter_eq_nil_iff.2 fun w hw=>by simp [hall w hw]
     have e2:T.filter (fun z=>lt y z)=T:=List.filter_eq_self.2 fun w hw=>hall w hw
     simp [List.filter_cons,c,e1,e2]
   · simp only [Bool.not_eq_true] at c
     conv=>lhs; rw [ih']
     simp [List.filter_cons,c]
 have m1:∀ z∈S.filter (fun z=>!lt y z),lt y z=false:=fun z hz=>by simpa using (List.mem_filter.1 hz).2
 have m2:∀ z∈S.filter (fun z=>lt y z),lt y z=true:=fun z hz=>(List.mem_filter.1 hz).2
 have m3:∀ z∈T.filter (fun z=>!lt y z),lt y z=false:=fun z hz=>by simpa using (List.mem_filter.1 hz).2
 have m4:∀ z∈T.filter (fun z=>lt y z),lt y z=true:=fun z hz=>(List.mem_filter.1 hz).2
 rw [insG_split W hT y]
 generalize hS1:S.filter (fun z=>!lt y z)=S1 at fS m1
 generalize hS2:S.filter (fun z=>lt y z)=S2 at fS m2
 generalize hT1:T.filter (fun z=>!lt y z)=T1 at fT m3
 generalize hT2:T.filter (fun z=>lt y z)=T2 at fT m4
 have cross:∀ x∈S2,∀ z∈T1,lt z x=true:=fun x hx z hz=>by
  cases h:lt z x with
  | true=>rfl
  | false=>have:=W.trans x z y h (m3 z hz); rw [m2 x hx] at this; simp at this
 have cross2:∀ x∈S1,∀ z∈T2,lt z x=false:=fun x hx z hz=>by
  have h1:=W.asymm _ _ (m4 z hz)
  exact W.trans x y z (m1 x hx) h1
 have e1:mg lt S T=mg lt S1 T1++mg lt S2 T2:=by
  rw [fS,fT]; exact mg_split lt _ _ _ (Nat.le_refl _) cross cross2
 have e2:mg lt S (T1++y :: T2)=mg lt S1 T1++mg lt S2 (y :: T2):=by
  rw [fS]; exact mg_split lt _ _ _ (Nat.le_refl _) cross fun x hx z hz=>by
   rcases List.mem_cons.1 hz with rfl | hz
   · exact m1 x hx
   · exact cross2 x hx z hz
 have e3:mg lt S2 (y :: T2)=y :: mg lt S2 T2:=by
  cases S2 with
  | nil=>rw [mg_nil_l,mg_nil_l]
  | cons x S2=>rw [mg_cons,if_pos (m2 x (by simp))]
 have p1:∀ z∈mg lt S1 T1,lt y z=false:=fun z hz=>by
  have:=(mg_perm lt _ S1 T1 (Nat.le_refl _)).mem_iff.1 hz
  rcases List.mem_append.1 this with h | h
  · exact m1 z h
  · exact m3 z h
 have p2:∀ z∈mg lt S2 T2,lt y z=true:=fun z hz=>by
  have:=(mg_perm lt _ S2 T2 (Nat.le_refl _)).mem_iff.1 hz
  rcases List.mem_append.1 this with h | h
  · exact m2 z h
  · exact m4 z h
 have ins:∀ (P Q:List α),(∀ z∈P,lt y z=false)→(∀ z∈Q,lt y z=true)→insG lt (P++Q) y=P++y :: Q:=fun P Q hP hQ=>by
  have hpos:posG lt y (P++Q) (P++Q).length=P.length:=by
   obtain ⟨s1,s2⟩:=posG_spec lt y (P++Q) (P++Q).length
   have s3:=posG_le lt y (P++Q) (P++Q).length
   have hlen:(P++Q).length=P.length+Q.length:=List.length_append
   rcases Nat.lt_trichotomy (posG lt y (P++Q) (P++Q).length) P.length with h | h | h
   · have:=s1 _ (Nat.le_refl _) (by omega)
     rw [nth_appM,if_pos h] at this
     rw [hP _ (nth_mem h)] at this; simp at this
   · exact h
   · have:=s2 (by omega)
     rw [nth_appM,if_neg (by omega)] at this
     rw [hQ _ (nth_mem (by omega))] at this; simp at this
  unfold insG
  rw [hpos]
  simp
 rw [e2,e3,e1,ins _ _ p1 p2]
theorem sortG_app (W:Weak lt) (Y:List α):∀ (X:List α),sortG lt (X++Y)=mg lt (sortG lt X) (sortG lt Y):=by
 intro X
 have key:∀ (Z T:List α),Srt lt T→mg lt (sortG lt X) (Z.foldl (insG lt) T)=Z.foldl (insG lt) (mg lt (sortG lt X) T):=by
  intro Z
  induction Z with
  | nil=>intro T _; rfl
  | cons z Z ih =>
   intro T hT
   simp only [List.foldl_cons]
   rw [ih _ (insG_sorted W hT z),mg_insG W (sortG_sorted W X) hT]
 have:=key Y [] List.Pairwise.nil
 rw [mg_nil_r] at this
 have e:sortG lt (X++Y)=Y.foldl (insG lt) (sortG lt X):=by unfold sortG; rw [List.foldl_append]
 rw [e,← this]
 rfl
end
end Go.Proofs.Ytfjedpipdnlkfaa.AM

set_option maxRecDepth 100000
set_option linter.unusedVariables false
set_option linter.unusedSimpArgs false
namespace Go.Proofs.Ytfjedpipdnlkfaa.AM
open Go Go.Proofs.Ytfjedpipdnlkfaa
attribute [local irreducible] ACalls funT codeT codeQ LoopTo
attribute [local irreducible] Tp.card Tp.cardT Tp.next Tp.step Tp.key Tp.keyT sink insSort beforeK sortP cmpK
attribute [local irreducible] swapL rotS rotL bsr mgL mg shU shD
theorem sC_all (cmp:Card→Card→Int) (f:Nat) (xs:List AV) (hc:∀ (x y:Card) (H:Heap),ACalls Try.prog f ([AV.agg (Card.row x),AV.agg (Card.row y)]++xs) H (AV.int .i64 (cmp x y),H)) (hxs:AV.bdds 1 xs=true) (W:Weak (ltF cmp)) (Nz:Nat):∀ (a p b n g:Nat) (l:List Card),n=l.length→n < 1048576→a < p→p < b→b≤n→b - a < Nz →
 Srt (ltF cmp) ((l.drop a).take (p - a))→Srt (ltF cmp) ((l.drop p).take (b - p))→ACalls Try.prog 96 [(AV.osl 0 g 9 0 n),(AV.int .i64 ((a:Nat):Int)),(AV.int .i64 ((p:Nat):Int)),(AV.int .i64 ((b:Nat):Int)),(AV.func f xs)] ([⟨g,9,(List.map Card.row l),none⟩]:Heap) (.tup [],([⟨g,9,(List.map Card.row (mAt (ltF cmp) a p b l)),none⟩]:Heap)):=by
 induction Nz with
 | zero=>intro a p b n g l _ _ _ _ _ h; omega
 | succ Nz ih =>
  intro a p b n g l hn hnb hap hpb hbn hN h7 h8
  by_cases c1:p=a+1
  · obtain ⟨s1,s2,s3,s4⟩:=bsr_spec (fun c=>decide (cmp (nth l c) (nth l a) < 0)) (b - p) p b (Nat.le_refl _) ow
    generalize hs:bsr (fun c=>decide (cmp (nth l c) (nth l a) < 0)) (b - p) p b=s at s1 s2 s3 s4
    have hlaw:=part_law W (l:=l) (a:=a) (p:=p) (b:=b) (s:=a) (e:=s) ow ow ow h7 h8 ow ow s1 s2 (fun _ h=>s3 h) (fun h=>by omega)
    have hx:(l.drop a).take (p - a)=[nth l a]:=by rw [show p - a=1 by omega]; exact one_part ow
    rw [Nat.sub_self,List.take_zero,mg_nil_l,hx,mg_one_l (fun y hy=>by
     obtain ⟨q1,q2⟩:=head_part hy ow
     rw [q2]; exact s4 ow)] at hlaw
    rw [hlaw]
    have hl:=four (l:=l) (a:=a) (m:=p) (b:=b) ow ow
    rw [hx,part_cut (l:=l) (a:=p) (k:=b - p) (s:=s - p) ow,show p+(s - p)=s by omega,show b - p - (s - p)=b - s by omega,List.append_assoc] at hl
    exact sCA_spec cmp f xs (l.take a) ((l.drop p).take (s - p)) ((l.drop s).take (b - s)) (l.drop b) (nth l a) a p b n g s l hc hxs hn hnb hl (by simp; omega) c1 ow hbn (by rw [part_len ow]; omega) s2 hs.symm
  by_cases c2:b=p+1
  · obtain ⟨s1,s2,s3,s4⟩:=bsr_spec (fun c=>!decide (cmp (nth l p) (nth l c) < 0)) (p - a) a p (Nat.le_refl _) ow
    generalize hs:bsr (fun c=>!decide (cmp (nth l p) (nth l c) < 0)) (p - a) a p=s at s1 s2 s3 s4
    have hlaw:=part_law W (l:=l) (a:=a) (p:=p) (b:=b) (s:=s) (e:=p) ow ow ow h7 h8 s1 s2 ow ow (fun _ h=>by omega) (fun h _=>by have:=s3 h; simp only [Bool.not_eq_true'] at this; exact this)
    have hx:(l.drop p).take (b - p)=[nth l p]:=by rw [show b - p=1 by omega]; exact one_part ow
    rw [Nat.sub_self,List.take_zero,mg_nil_r,hx,mg_one_r (fun y hy=>by
     obtain ⟨q1,q2⟩:=head_part hy ow
     rw [q2]; simpa [ltF] using s4 ow)] at hlaw
    rw [hlaw]
    have hl:=four (l:=l) (a:=a) (m:=p) (b:=b) ow ow
    rw [hx,part_cut (l:=l) (a:=a) (k:=p - a) (s:=s - a) ow,show a+(s - a)=s by omega,show p - a - (s - a)=p - s by omega,List.append_assoc] at hl
    exact sCB_spec cmp f xs (l.take a) ((l.drop a).take (s - a)) ((l.drop s).take (p - s)) (l.drop b) (nth l p) a p b n g s l hc hxs hn hnb hl (by simp; omega) (by rw [part_len ow]; omega) (by rw [part_len ow]; omega) c1 c2 hbn hs.symm
  have ih_at:∀ (a p b n g:Nat) (l:List Card),n=l.length→n < 1048576→a < p→p < b→b≤n→b - a < Nz→Srt (ltF cmp) ((l.drop a).take (p - a))→Srt (ltF cmp) ((l.drop p).take (b - p))→∀ H:Heap,ACalls Try.prog 96 [(AV.osl 0 g 9 0 n),(AV.int .i64 ((a:Nat):Int)),(AV.int .i64 ((p:Nat):Int)),(AV.int .i64 ((b:Nat):Int)),(AV.func f xs)] (([⟨g,9,(List.map Card.row l),none⟩]:Heap)++H) (.tup [],([⟨g,9,(List.map Card.row (mAt (ltF cmp) a p b l)),none⟩]:Heap)++H) :=
   fun a p b n g l q1 q2 q3 q4 q5 q6 q7 q8 H=>(ih a p b n g l q1 q2 q3 q4 q5 q6 q7 q8).ext (by simp [AV.bdds,AV.bdd,hxs]) kr ob ob kr H
  obtain ⟨mid,hmid⟩:∃ mid,mid=(a+b) / 2:=⟨_,rfl⟩
  have go:∀ lo hi,lo≤hi→(∀ s,lo≤s→s≤hi→a≤s∧s≤p∧p≤mid+p - s∧mid+p - s≤b∧(s < p→p < mid+p - s→s < hi)∧(a < s→mid+p - s < b→lo < s)) →
   (∀ s,s=bsr (fun c=>!decide (cmp (nth l (mid+p - 1 - c)) (nth l c) < 0)) (hi - lo) lo hi→lo≤s→s≤hi→∀ (L1 L2 R1 R2:List Card),l=l.take a++(L1++(L2++(R1++(R2++l.drop b))))→s=a+L1.length→p=s+L2.length→mid=s+R1.length→b=p+R1.length+R2.length→Srt (ltF cmp) L1→Srt (ltF cmp) L2→Srt (ltF cmp) R1→Srt (ltF cmp) R2 →
    ACalls Try.prog 96 [(AV.osl 0 g 9 0 n),(AV.int .i64 ((a:Nat):Int)),(AV.int .i64 ((p:Nat):Int)),(AV.int .i64 ((b:Nat):Int)),(AV.func f xs)] ([⟨g,9,(List.map Card.row l),none⟩]:Heap) (.tup [],([⟨g,9,(List.map Card.row (l.take a++(mg (ltF cmp) L1 R1++(mg (ltF cmp) L2 R2++l.drop b)))),none⟩]:Heap))) →
   ACalls Try.prog 96 [(AV.osl 0 g 9 0 n),(AV.int .i64 ((a:Nat):Int)),(AV.int .i64 ((p:Nat):Int)),(AV.int .i64 ((b:Nat):Int)),(AV.func f xs)] ([⟨g,9,(List.map Card.row l),none⟩]:Heap) (.tup [],([⟨g,9,(List.map Card.row (mAt (ltF cmp) a p b l)),none⟩]:Heap)):=by
   intro lo hi hlh hb walk
   obtain ⟨s1,s2,s3,s4⟩:=bsr_spec (fun c=>!decide (cmp (nth l (mid+p - 1 - c)) (nth l c) < 0)) (hi - lo) lo hi (Nat.le_refl _) hlh
   generalize hs:bsr (fun c=>!decide (cmp (nth l (mid+p - 1 - c)) (nth l c) < 0)) (hi - lo) lo hi=s at s1 s2 s3 s4
   obtain ⟨b1,b2,b3,b4,b5,b6⟩:=hb s s1 s2
   have hlaw:=part_law W (l:=l) (a:=a) (p:=p) (b:=b) (s:=s) (e:=mid+p - s) ow ow ow h7 h8 b1 b2 b3 b4 (fun h1 h2=>by
    have:=s4 (b5 h1 h2)
    simp only [Bool.not_eq_false'] at this
    rwa [show mid+p - 1 - s=mid+p - s - 1 by omega] at this) (fun h1 h2=>by
    have:=s3 (b6 h1 h2)
    simp only [Bool.not_eq_true'] at this
    rwa [show mid+p - 1 - (s - 1)=mid+p - s by omega] at this)
   rw [hlaw]
   have hl:=four (l:=l) (a:=a) (m:=p) (b:=b) ow ow
   rw [part_cut (l:=l) (a:=a) (k:=p - a) (s:=s - a) ow,show a+(s - a)=s by omega,show p - a - (s - a)=p - s by omega,
    part_cut (l:=l) (a:=p) (k:=b - p) (s:=mid+p - s - p) ow,show p+(mid+p - s - p)=mid+p - s by omega,show b - p - (mid+p - s - p)=b - (mid+p - s) by omega,List.append_assoc,List.append_assoc] at hl
   have q1:=srt_cut (l:=l) (a:=a) (k:=p - a) (s:=s - a) ow h7
   have q2:=srt_cut (l:=l) (a:=p) (k:=b - p) (s:=mid+p - s - p) ow h8
   rw [show a+(s - a)=s by omega,show p - a - (s - a)=p - s by omega] at q1
   rw [show p+(mid+p - s - p)=mid+p - s by omega,show b - p - (mid+p - s - p)=b - (mid+p - s) by omega] at q2
   exact walk s hs.symm s1 s2 _ _ _ _ hl (by rw [part_len ow]; omega) (by rw [part_len ow]; omega) (by rw [part_len ow]; omega) (by rw [part_len ow,part_len ow]; omega) q1.1 q1.2 q2.1 q2.2
  have hA:a=(l.take a).length:=by simp; omega
  by_cases hgt:mid < p
  · refine go (mid+p - b) mid ow (fun s h1 h2=>⟨by omega,by omega,by omega,by omega,fun _ _=>by omega,fun _ _=>by omega⟩) fun s hs h1 h2 L1 L2 R1 R2 hl e1 e2 e3 e4 q1 q2 q3 q4=>?_
    exact sCC_spec cmp f xs (l.take a) L1 L2 R1 R2 (l.drop b) a p b n g s mid Nz l hc hxs hn hnb ih_at hl hA e1 e2 e3 e4 hbn hap hpb c1 c2 hmid ow hgt hs h1 h2 q1 q2 q3 q4
  · refine go a p ow (fun s h1 h2=>⟨by omega,by omega,by omega,by omega,fun _ _=>by omega,fun _ _=>by omega⟩) fun s hs h1 h2 L1 L2 R1 R2 hl e1 e2 e3 e4 q1 q2 q3 q4=>?_
    exact sCD_spec cmp f xs (l.take a) L1 L2 R1 R2 (l.drop b) a p b n g s mid Nz l hc hxs hn hnb ih_at hl hA e1 e2 e3 e4 hbn hap hpb c1 c2 hmid ow ow hs h1 h2 q1 q2 q3 q4
end Go.Proofs.Ytfjedpipdnlkfaa.AM

set_option linter.unusedVariables false
set_option linter.unusedSimpArgs false
set_option linter.unusedSectionVars false
namespace Go.Proofs.Ytfjedpipdnlkfaa.AM
open Go
section
variable {α:Type} [Inhabited α]
theorem sink_shift (cmp:α→α→Int) (X:List α) (j:Nat):∀ (l:List α),j < l.length→sink cmp X.length (X.length+j) (X++l)=X++sink cmp 0 j l:=by
 induction j with
 | zero =>
  intro l hl
  have h1:sink cmp X.length X.length (X++l)=X++l:=by
   cases h:X.length with
   | zero=>simp only [sink]
   | succ q=>simp only [sink]; rw [if_neg]; simp
  simpa [sink] using h1
 | succ j ih =>
  intro l hl
  have e1:nth (X++l) (X.length+j+1)=nth l (j+1):=by rw [nth_appM,if_neg (by omega)]; congr 1; omega
  have e2:nth (X++l) (X.length+j)=nth l j:=by rw [nth_appM,if_neg (by omega)]; congr 1; omega
  have L:sink cmp X.length (X.length+(j+1)) (X++l)=if decide (cmp (nth (X++l) (X.length+j+1)) (nth (X++l) (X.length+j)) < 0)=true then sink cmp X.length (X.length+j) (((X++l).set (X.length+j+1) (nth (X++l) (X.length+j))).set (X.length+j) (nth (X++l) (X.length+j+1))) else X++l:=by
   rw [← Nat.add_assoc]; simp only [sink]; rw [if_pos (by simp; omega)]
  have R:sink cmp 0 (j+1) l=if decide (cmp (nth l (j+1)) (nth l j) < 0)=true then sink cmp 0 j ((l.set (j+1) (nth l j)).set j (nth l (j+1))) else l:=by
   simp only [sink]; rw [if_pos (by simp)]
  rw [L,R,e1,e2]
  split
  · have e3:((X++l).set (X.length+j+1) (nth l j)).set (X.length+j) (nth l (j+1))=X++(l.set (j+1) (nth l j)).set j (nth l (j+1)):=by
     rw [List.set_append_right _ _ (by omega),List.set_append_right _ _ (by omega)]
     congr 2
     · congr 1; omega
     · omega
    rw [e3]
    exact ih _ (by simpa using (by omega:j < l.length))
  · rfl
theorem insSort_shift (cmp:α→α→Int) (X:List α) (k:Nat):∀ (i:Nat) (l:List α),i+k≤l.length→insSort cmp X.length k (X.length+i) (X++l)=X++insSort cmp 0 k i l:=by
 induction k with
 | zero=>intro i l _; simp only [insSort]
 | succ k ih =>
  intro i l h
  simp only [insSort]
  rw [sink_shift cmp X i l (by omega)]
  exact ih (i+1) _ (by rw [sink_len]; omega)
theorem insSort_mid (cmp:α→α→Int) (Y:List α) (rest:List α):∀ (S:List α),insSort cmp 0 rest.length S.length (S++(rest++Y))=rest.foldl (insG fun a b=>decide (cmp a b < 0)) S++Y:=by
 induction rest with
 | nil=>intro S; simp only [List.length_nil,insSort,List.nil_append,List.foldl_nil]
 | cons x rest ih =>
  intro S
  simp only [List.length_cons,insSort,List.foldl_cons]
  have h1:=sink_ins cmp S.length (S++(x :: rest++Y)) (by simp)
  have e1:(S++(x :: rest++Y)).take S.length=S:=by rw [List.take_append_of_le_length (Nat.le_refl _),List.take_length]
  have e2:nth (S++(x :: rest++Y)) S.length=x:=by rw [nth_appM,if_neg (by omega),Nat.sub_self]; rfl
  have e3:(S++(x :: rest++Y)).drop (S.length+1)=rest++Y:=by
   rw [← List.drop_drop,List.drop_append_of_le_length (Nat.le_refl _),List.drop_length]; rfl
  rw [e1,e2,e3] at h1
  rw [h1]
  have:=ih (insG (fun a b=>decide (cmp a b < 0)) S x)
  rw [insG_len] at this
  exact this
theorem insSort_part (cmp:α→α→Int) (X M Y:List α) {a b:Nat} (ha:a=X.length) (hb:b=a+M.length):insSort cmp a (b - (a+1)) (a+1) (X++(M++Y))=X++(sortG (fun a b=>decide (cmp a b < 0)) M++Y):=by
 subst ha hb
 cases M with
 | nil=>rw [show X.length+([]:List α).length - (X.length+1)=0 by simp]; simp only [insSort]; rfl
 | cons x M =>
  rw [show X.length+(x :: M).length - (X.length+1)=M.length by simp; omega,insSort_shift cmp X M.length 1 (x :: M++Y) (by simp; omega)]
  have:=insSort_mid cmp Y M [x]
  simp only [List.length_singleton,List.singleton_append] at this
  rw [show x :: M++Y=x :: (M++Y) from rfl,this]
  have e:sortG (fun a b=>decide (cmp a b < 0)) (x :: M)=M.foldl (insG fun a b=>decide (cmp a b < 0)) [x]:=by
   unfold sortG
   rw [List.foldl_cons]
   congr 1
  rw [e]
def blk (lt:α→α→Bool) (bs:Nat):Nat→List α→List α
 | 0,l=>l
 | K+1,l=>sortG lt (l.take bs)++blk lt bs K (l.drop bs)
theorem sortG_len (lt:α→α→Bool) (l:List α):(sortG lt l).length=l.length:=(sortG_perm lt l).length_eq
theorem blk_nil (lt:α→α→Bool) (bs K:Nat):blk lt bs K ([]:List α)=[]:=by
 induction K with
 | zero=>rfl
 | succ K ih=>simp only [blk,List.take_nil,List.drop_nil]; rw [ih]; rfl
theorem blk_len (lt:α→α→Bool) (bs K:Nat):∀ (l:List α),(blk lt bs K l).length=l.length:=by
 induction K with
 | zero=>intro l; rfl
 | succ K ih=>intro l; simp only [blk,List.length_append]; rw [sortG_len,ih,List.length_take,List.length_drop]; omega
theorem blk_next (lt:α→α→Bool) (bs K:Nat):∀ (l:List α),K * bs≤l.length→∃ X,X.length=K * bs∧blk lt bs K l=X++l.drop (K * bs)∧∀ (D:Nat),blk lt bs (K+D) l=X++blk lt bs D (l.drop (K * bs)):=by
 induction K with
 | zero=>intro l h; exact ⟨[],by simp,by simp [blk],fun D=>by simp⟩
 | succ K ih =>
  intro l h
  rw [Nat.succ_mul] at h
  obtain ⟨X,h1,h2,h3⟩:=ih (l.drop bs) (by simp; omega)
  refine ⟨sortG lt (l.take bs)++X,by rw [List.length_append,sortG_len,h1,Nat.succ_mul]; simp; omega,?_,fun D=>?_⟩
  · simp only [blk]
    rw [h2,List.drop_drop,List.append_assoc,Nat.succ_mul,Nat.add_comm bs]
  · rw [show K+1+D=(K+D)+1 by omega]
    simp only [blk]
    rw [h3,List.drop_drop,List.append_assoc,Nat.succ_mul,Nat.add_comm bs]
theorem blk_more (lt:α→α→Bool) (bs D:Nat) (K:Nat):∀ (l:List α),l.length≤K * bs→blk lt bs (K+D) l=blk lt bs K l:=by
 induction K with
 | zero=>intro l h; obtain rfl:l=[]:=List.eq_nil_of_length_eq_zero (by omega); rw [blk_nil,blk_nil]
 | succ K ih =>
  intro l h
  rw [Nat.succ_mul] at h
  rw [show K+1+D=(K+D)+1 by omega]
  simp only [blk]
  rw [ih _ (by simp; omega)]
def allB (lt:α→α→Bool) (bs:Nat) (l:List α):List α:=blk lt bs (l.length+1) l
theorem allB_of (lt:α→α→Bool) {bs K:Nat} (hb:0 < bs) {l:List α} (h:l.length≤K * bs):blk lt bs K l=allB lt bs l:=by
 unfold allB
 have h2:l.length≤(l.length+1) * bs:=Nat.le_trans (Nat.le_succ _) (Nat.le_mul_of_pos_right _ hb)
 rcases Nat.le_total K (l.length+1) with h1 | h1
 · obtain ⟨D,hD⟩:=Nat.le.dest h1
   rw [← hD,blk_more lt bs D K l h]
 · obtain ⟨D,hD⟩:=Nat.le.dest h1
   rw [← hD,blk_more lt bs D _ l h2]
theorem allB_one (lt:α→α→Bool) {bs:Nat} {l:List α} (h:l.length≤bs) (hb:0 < bs):allB lt bs l=sortG lt l:=by
 rw [← allB_of lt (K:=1) hb (by omega)]
 simp only [blk]
 rw [List.take_of_length_le h,List.drop_of_length_le h,List.append_nil]
theorem allB_step (lt:α→α→Bool) {bs:Nat} (hb:0 < bs) (l:List α):allB lt bs l=sortG lt (l.take bs)++allB lt bs (l.drop bs):=by
 have h2:∀ q:Nat,q≤(q+1) * bs:=fun q=>Nat.le_trans (Nat.le_succ _) (Nat.le_mul_of_pos_right _ hb)
 rw [← allB_of lt (K:=(l.length+1)+1) hb (Nat.le_trans (h2 _) (Nat.mul_le_mul_right _ (Nat.le_succ _)))]
 have e:blk lt bs (l.length+1+1) l=sortG lt (l.take bs)++blk lt bs (l.length+1) (l.drop bs):=rfl
 rw [e,allB_of lt hb (Nat.le_trans (by simp) (h2 l.length))]
theorem allB_len (lt:α→α→Bool) (bs:Nat) (l:List α):(allB lt bs l).length=l.length:=blk_len lt bs _ l
def mix (lt:α→α→Bool) (bs:Nat):Nat→List α→List α
 | 0,l=>allB lt bs l
 | J+1,l=>sortG lt (l.take (2 * bs))++mix lt bs J (l.drop (2 * bs))
theorem mix_next (lt:α→α→Bool) {bs:Nat} (hb:0 < bs) (J:Nat):∀ (l:List α),J * (2 * bs)≤l.length→∃ X,X.length=J * (2 * bs)∧mix lt bs J l=X++allB lt bs (l.drop (J * (2 * bs)))∧mix lt bs (J+1) l=X++(sortG lt ((l.drop (J * (2 * bs))).take (2 * bs))++allB lt bs ((l.drop (J * (2 * bs))).drop (2 * bs)))∧∀ D,blk lt (2 * bs) (J+D) l=X++blk lt (2 * bs) D (l.drop (J * (2 * bs))):=by
 induction J with
 | zero=>intro l h; exact ⟨[],by simp,by simp [mix],by simp [mix],fun D=>by simp⟩
 | succ J ih =>
  intro l h
  rw [Nat.succ_mul] at h
  obtain ⟨X,h1,h2,h3,h4⟩:=ih (l.drop (2 * bs)) (by simp; omega)
  have hmul:(J+1) * (2 * bs)=J * (2 * bs)+2 * bs:=Nat.succ_mul _ _
  have hd0:(l.drop (2 * bs)).drop (J * (2 * bs))=l.drop ((J+1) * (2 * bs)):=by rw [List.drop_drop,hmul,Nat.add_comm]
  refine ⟨sortG lt (l.take (2 * bs))++X,by rw [List.length_append,sortG_len,h1,hmul,List.length_take]; omega,?_,?_,fun D=>?_⟩
  · rw [mix,h2,hd0,List.append_assoc]
  · rw [mix,h3,hd0,List.append_assoc]
  · rw [show J+1+D=(J+D)+1 by omega]
    simp only [blk]
    rw [h4,hd0,List.append_assoc]
theorem mix_len (lt:α→α→Bool) (bs J:Nat):∀ (l:List α),(mix lt bs J l).length=l.length:=by
 induction J with
 | zero=>intro l; exact allB_len lt bs l
 | succ J ih=>intro l; simp only [mix,List.length_append]; rw [sortG_len,ih,List.length_take,List.length_drop]; omega
variable {lt:α→α→Bool}
theorem mix_merge (W:Weak lt) {bs J:Nat} (hb:0 < bs) {l:List α} {a b:Nat} (ha:a=J * (2 * bs)) (hbe:b=a+2 * bs) (hn:b≤l.length) :
 mAt lt a (a+bs) b (mix lt bs J l)=mix lt bs (J+1) l∧Srt lt (((mix lt bs J l).drop a).take (a+bs - a))∧Srt lt (((mix lt bs J l).drop (a+bs)).take (b - (a+bs))):=by
 obtain ⟨X,h1,h2,h3,_⟩:=mix_next lt hb J l (by omega)
 rw [← ha] at h1 h2 h3
 rw [h2,h3,allB_step lt hb,allB_step lt hb ((l.drop a).drop bs)]
 have l1:(sortG lt ((l.drop a).take bs)).length=bs:=by rw [sortG_len]; simp; omega
 have l2:(sortG lt (((l.drop a).drop bs).take bs)).length=bs:=by rw [sortG_len]; simp; omega
 refine ⟨?_,?_,?_⟩
 · rw [mAt_parts lt X _ _ _ h1.symm (by omega) (by omega),← sortG_app W]
   have e:(l.drop a).take bs++((l.drop a).drop bs).take bs=(l.drop a).take (2 * bs):=by
    rw [show 2 * bs=bs+bs by omega,List.take_add]
   rw [e,List.drop_drop,show bs+bs=2 * bs by omega]
 · rw [piece X _ _ h1.symm (by omega)]; exact sortG_sorted W _
 · have:=piece (X++sortG lt ((l.drop a).take bs)) (sortG lt (((l.drop a).drop bs).take bs)) (allB lt bs (((l.drop a).drop bs).drop bs)) (a:=a+bs) (k:=b - (a+bs)) (by simp [l1,h1]) (by omega)
   rw [List.append_assoc] at this
   rw [this]; exact sortG_sorted W _
theorem mix_last (W:Weak lt) {bs J:Nat} (hb:0 < bs) {l:List α} {a n:Nat} (ha:a=J * (2 * bs)) (hn:n=l.length) (han:a≤n) (hlt:n < a+2 * bs) :
 (a+bs < n→mAt lt a (a+bs) n (mix lt bs J l)=allB lt (2 * bs) l∧Srt lt (((mix lt bs J l).drop a).take (a+bs - a))∧Srt lt (((mix lt bs J l).drop (a+bs)).take (n - (a+bs))))∧(n≤a+bs→mix lt bs J l=allB lt (2 * bs) l):=by
 obtain ⟨X,h1,h2,_,h4⟩:=mix_next lt hb J l (by omega)
 rw [← ha] at h1 h2
 have h5:=h4 1
 rw [allB_of lt (by omega) (by rw [Nat.succ_mul]; omega),← ha] at h5
 simp only [blk] at h5
 rw [List.take_of_length_le (by simp; omega),List.drop_of_length_le (i:=2 * bs) (by simp; omega),List.append_nil] at h5
 rw [h2,h5]
 refine ⟨fun h=>?_,fun h=>?_⟩
 · rw [allB_step lt hb,allB_one lt (l:=(l.drop a).drop bs) (by simp; omega) hb]
   have l1:(sortG lt ((l.drop a).take bs)).length=bs:=by rw [sortG_len]; simp; omega
   have l2:(sortG lt ((l.drop a).drop bs)).length=n - (a+bs):=by rw [sortG_len]; simp; omega
   refine ⟨?_,?_,?_⟩
   · have:=mAt_parts lt X (sortG lt ((l.drop a).take bs)) (sortG lt ((l.drop a).drop bs)) [] (a:=a) (m:=a+bs) (b:=n) h1.symm (by omega) (by omega)
     rw [List.append_nil,List.append_nil] at this
     rw [this,← sortG_app W,List.take_append_drop]
   · rw [piece X _ _ h1.symm (by omega)]; exact sortG_sorted W _
   · have:=piece (X++sortG lt ((l.drop a).take bs)) (sortG lt ((l.drop a).drop bs)) [] (a:=a+bs) (k:=n - (a+bs)) (by simp [l1,h1]) (by omega)
     rw [List.append_assoc,List.append_nil] at this
     rw [this]; exact sortG_sorted W _
 · rw [allB_one lt (by simp; omega) hb]
end
end Go.Proofs.Ytfjedpipdnlkfaa.AM

set_option linter.unusedVariables false
set_option linter.unusedSimpArgs false
set_option linter.unusedSectionVars false
namespace Go.Proofs.Ytfjedpipdnlkfaa.AM
open Go
section
variable {α:Type} [Inhabited α]
theorem st_block (cmp:α→α→Int) {l:List α} {j a b:Nat} (ha:a=j * 20) (hb:b=a+20) (hn:b≤l.length):insSort cmp a (b - (a+1)) (a+1) (blk (ltF cmp) 20 j l)=blk (ltF cmp) 20 (j+1) l:=by
 obtain ⟨X,h1,h2,h3⟩:=blk_next (ltF cmp) 20 j l (by omega)
 have h4:blk (ltF cmp) 20 1 (l.drop (j * 20))=sortG (ltF cmp) ((l.drop (j * 20)).take 20)++(l.drop (j * 20)).drop 20:=by simp only [blk]
 rw [h2,h3 1,h4,← ha]
 have:=insSort_part cmp X ((l.drop a).take 20) ((l.drop a).drop 20) (a:=a) (b:=b) (by omega) (by simp; omega)
 rw [List.take_append_drop] at this
 exact this
theorem st_tail (cmp:α→α→Int) {l:List α} {j a n:Nat} (ha:a=j * 20) (hn:n=l.length) (han:a≤n) (hlt:n < a+20):insSort cmp a (n - (a+1)) (a+1) (blk (ltF cmp) 20 j l)=allB (ltF cmp) 20 l:=by
 obtain ⟨X,h1,h2,h3⟩:=blk_next (ltF cmp) 20 j l (by omega)
 have h4:blk (ltF cmp) 20 1 (l.drop (j * 20))=sortG (ltF cmp) ((l.drop (j * 20)).take 20)++(l.drop (j * 20)).drop 20:=by simp only [blk]
 rw [← allB_of (ltF cmp) (bs:=20) (K:=j+1) (by omega) (by omega),h2,h3 1,h4,← ha]
 have:=insSort_part cmp X (l.drop a) [] (a:=a) (b:=n) (by omega) (by simp; omega)
 rw [List.append_nil,List.append_nil] at this
 rw [this,List.take_of_length_le (by simp; omega),List.drop_of_length_le (i:=20) (by simp; omega),List.append_nil]
 rfl
end
end Go.Proofs.Ytfjedpipdnlkfaa.AM

set_option maxRecDepth 100000
set_option linter.unusedVariables false
set_option linter.unusedSimpArgs false
namespace Go.Proofs.Ytfjedpipdnlkfaa.AM
open Go Go.Proofs.Ytfjedpipdnlkfaa
attribute [local irreducible] ACalls funT codeT codeQ LoopTo
attribute [local irreducible] Tp.card Tp.cardT Tp.next Tp.step Tp.key Tp.keyT sink insSort beforeK sortP cmpK
attribute [local irreducible] mgL mg mAt blk allB mix sortG
theorem sCm_spec (cmp:Card→Card→Int) (f:Nat) (xs:List AV) (a p b n g:Nat) (l:List Card) (hc:∀ (x y:Card) (H:Heap),ACalls Try.prog f ([AV.agg (Card.row x),AV.agg (Card.row y)]++xs) H (AV.int .i64 (cmp x y),H)) (hxs:AV.bdds 1 xs=true) (W:Weak (ltF cmp)) (h1:n=l.length) (h2:n < 1048576) (h3:a < p) (h4:p < b) (h5:b≤n) (h7:Srt (ltF cmp) ((l.drop a).take (p - a))) (h8:Srt (ltF cmp) ((l.drop p).take (b - p))):ACalls Try.prog 96 [(.osl 0 g 9 0 n),(.int .i64 ((a:Nat):Int)),(.int .i64 ((p:Nat):Int)),(.int .i64 ((b:Nat):Int)),(.func f xs)] ([⟨g,9,(List.map Card.row l),none⟩]:Heap) ((AV.tup []),([⟨g,9,(List.map Card.row (mAt (ltF cmp) a p b l)),none⟩]:Heap)):=sC_all cmp f xs hc hxs W (b - a+1) a p b n g l h1 h2 h3 h4 h5 ow h7 h8
theorem sCm_at (cmp:Card→Card→Int) (f:Nat) (xs:List AV) (a p b n g:Nat) (l:List Card) (hc:∀ (x y:Card) (H:Heap),ACalls Try.prog f ([AV.agg (Card.row x),AV.agg (Card.row y)]++xs) H (AV.int .i64 (cmp x y),H)) (hxs:AV.bdds 1 xs=true) (W:Weak (ltF cmp)) (h1:n=l.length) (h2:n < 1048576) (h3:a < p) (h4:p < b) (h5:b≤n) (h7:Srt (ltF cmp) ((l.drop a).take (p - a))) (h8:Srt (ltF cmp) ((l.drop p).take (b - p))) (H:Heap):ACalls Try.prog 96 [(.osl 0 g 9 0 n),(.int .i64 ((a:Nat):Int)),(.int .i64 ((p:Nat):Int)),(.int .i64 ((b:Nat):Int)),(.func f xs)] (([⟨g,9,(List.map Card.row l),none⟩]:Heap)++H) ((AV.tup []),([⟨g,9,(List.map Card.row (mAt (ltF cmp) a p b l)),none⟩]:Heap)++H):=(sCm_spec cmp f xs a p b n g l hc hxs W h1 h2 h3 h4 h5 h7 h8).ext (by simp [AV.bdds,AV.bdd, *]) kr ob ob kr H
def sCst_ann:Ann:={ base:=1,fin:=some 1,live:=[(2,[0,1,2,6,7,8]),(7,[0,1,2,6]),(9,[0,1,2,6,7,8])],out:=[(2,[0,1,2,6,7]),(7,[]),(9,[0,1,2,6,7])] }
theorem sCstb_step (cmp:Card→Card→Int) (f:Nat) (xs:List AV) (a b n g:Nat) (l:List Card) (hc:∀ (x y:Card) (H:Heap),ACalls Try.prog f ([AV.agg (Card.row x),AV.agg (Card.row y)]++xs) H (AV.int .i64 (cmp x y),H)) (hxs:AV.bdds 1 xs=true) (W:Weak (ltF cmp)) (hn:n=l.length) (hnb:n < 524288) (hb:b=a+20) (han:a≤n) {eX:Ex} {FX:Fr} {HX:Heap} (k1:(decide (((b:Nat):Int)≤((n:Nat):Int)))=true→LoopTo (codeQ Try.prog (X sCst_ann) (loopOf Try.f88 0)) (some [0,1,2,6,7,8]) (some [0,1,2,6,7]) (mkF 63 [(0,(.osl 0 g 9 0 n)),(1,(.int .i64 ((n:Nat):Int))),(2,(.func f xs)),(6,(.int .i64 20)),(7,(.int .i64 ((b:Nat):Int))),(8,(.int .i64 ((b+20:Nat):Int)))]) ([⟨g,9,(List.map Card.row (insSort cmp a (b - (a+1)) (a+1) l)),none⟩]:Heap) eX FX HX) (k2:(decide (((b:Nat):Int)≤((n:Nat):Int)))=false→((.exit 0:Ex),(mkF 63 [(0,(.osl 0 g 9 0 n)),(1,(.int .i64 ((n:Nat):Int))),(2,(.func f xs)),(6,(.int .i64 20)),(7,(.int .i64 ((a:Nat):Int)))]),([⟨g,9,(List.map Card.row l),none⟩]:Heap))=(eX,FX,HX)):LoopTo (codeQ Try.prog (X sCst_ann) (loopOf Try.f88 0)) (some [0,1,2,6,7,8]) (some [0,1,2,6,7]) (mkF 63 [(0,(.osl 0 g 9 0 n)),(1,(.int .i64 ((n:Nat):Int))),(2,(.func f xs)),(6,(.int .i64 20)),(7,(.int .i64 ((a:Nat):Int))),(8,(.int .i64 ((b:Nat):Int)))]) ([⟨g,9,(List.map Card.row l),none⟩]:Heap) eX FX HX :=
 stepO (.r (.g (.two (decide (((b:Nat):Int)≤((n:Nat):Int))) (fun h1 h1'=>(.r (.t 4 (AV.tup []) ([⟨g,9,(List.map Card.row (insSort cmp a (b - (a+1)) (a+1) l)),none⟩]:Heap) (insC_at _ f xs a b n g l (by first | exact hc | exact hxs | exact W | omega | (simp; omega)) (by first | exact hc | exact hxs | exact W | omega | (simp; omega)) (by first | exact hc | exact hxs | exact W | omega | (simp; omega)) (by first | exact hc | exact hxs | exact W | omega | (simp; omega)) (by first | exact hc | exact hxs | exact W | omega | (simp; omega)) (by first | exact hc | exact hxs | exact W | omega | (simp; omega)) ([]:Heap):ACalls Try.prog 95 [(.osl 0 g 9 0 n),(.int .i64 ((a:Nat):Int)),(.int .i64 ((b:Nat):Int)),(.func f xs)] ([⟨g,9,(List.map Card.row l),none⟩]:Heap) ((AV.tup []),([⟨g,9,(List.map Card.row (insSort cmp a (b - (a+1)) (a+1) l)),none⟩]:Heap))) (.g (.r (.g (.r (.h' ([⟨g,9,(List.map Card.row (insSort cmp a (b - (a+1)) (a+1) l)),none⟩]:Heap) (.y 2 (.int .i64 (IntKind.i64.wrap (((b:Nat):Int)+20))) (AV.int .i64 ((b+20:Nat):Int)) (Yes.add ow ow ow) (.g (.l (k1 h1)))))))))))) (fun h1 h1'=>(.l (k2 h1))))))
theorem sCstb_loop (cmp:Card→Card→Int) (f:Nat) (xs:List AV) (hc:∀ (x y:Card) (H:Heap),ACalls Try.prog f ([AV.agg (Card.row x),AV.agg (Card.row y)]++xs) H (AV.int .i64 (cmp x y),H)) (hxs:AV.bdds 1 xs=true) (W:Weak (ltF cmp)) (n g:Nat) (l0:List Card) (hn:n=l0.length) (hnb:n < 524288) (r:Nat):∀ (j a b:Nat) (l:List Card),j+r=n / 20→a=j * 20→b=a+20→l=blk (ltF cmp) 20 j l0 →
 LoopTo (codeQ Try.prog (X sCst_ann) (loopOf Try.f88 0)) (some [0,1,2,6,7,8]) (some [0,1,2,6,7]) (mkF 63 [(0,(.osl 0 g 9 0 n)),(1,(.int .i64 ((n:Nat):Int))),(2,(.func f xs)),(6,(.int .i64 20)),(7,(.int .i64 ((a:Nat):Int))),(8,(.int .i64 ((b:Nat):Int)))]) ([⟨g,9,(List.map Card.row l),none⟩]:Heap) (.exit 0) (mkF 63 [(0,(.osl 0 g 9 0 n)),(1,(.int .i64 ((n:Nat):Int))),(2,(.func f xs)),(6,(.int .i64 20)),(7,(.int .i64 (((n / 20 * 20):Nat):Int)))]) ([⟨g,9,(List.map Card.row (blk (ltF cmp) 20 (n / 20) l0)),none⟩]:Heap):=by
 induction r with
 | zero =>
  intro j a b l hj ha hb hl
  subst hl
  refine sCstb_step cmp f xs a b n g _ hc hxs W (by rw [blk_len]; exact hn) hnb hb ow (fun h=>by simp at h; omega) (fun _=>?_)
  rw [show n / 20=j by omega,← ha]
 | succ r ih =>
  intro j a b l hj ha hb hl
  subst hl
  refine sCstb_step cmp f xs a b n g _ hc hxs W (by rw [blk_len]; exact hn) hnb hb ow (fun h=>?_) (fun h=>by simp at h; omega)
  rw [st_block cmp ha hb ow]
  exact ih (j+1) b (b+20) _ ow ow rfl rfl
theorem sCstm_step (cmp:Card→Card→Int) (f:Nat) (xs:List AV) (bs a b n g:Nat) (l:List Card) (hc:∀ (x y:Card) (H:Heap),ACalls Try.prog f ([AV.agg (Card.row x),AV.agg (Card.row y)]++xs) H (AV.int .i64 (cmp x y),H)) (hxs:AV.bdds 1 xs=true) (W:Weak (ltF cmp)) (hn:n=l.length) (hnb:n < 524288) (hb:b=a+2 * bs) (hbs:0 < bs) (hbn:bs < 524288) (han:a≤n) (hs7:b≤n→Srt (ltF cmp) ((l.drop a).take (a+bs - a))) (hs8:b≤n→Srt (ltF cmp) ((l.drop (a+bs)).take (b - (a+bs)))) {eX:Ex} {FX:Fr} {HX:Heap} (k1:(decide (((b:Nat):Int)≤((n:Nat):Int)))=true→LoopTo (codeQ Try.prog (X sCst_ann) (loopOf Try.f88 2)) (some [0,1,2,6,7,8]) (some [0,1,2,6,7]) (mkF 63 [(0,(.osl 0 g 9 0 n)),(1,(.int .i64 ((n:Nat):Int))),(2,(.func f xs)),(6,(.int .i64 ((bs:Nat):Int))),(7,(.int .i64 ((b:Nat):Int))),(8,(.int .i64 ((b+(2 * bs):Nat):Int)))]) ([⟨g,9,(List.map Card.row (mAt (ltF cmp) a (a+bs) b l)),none⟩]:Heap) eX FX HX) (k2:(decide (((b:Nat):Int)≤((n:Nat):Int)))=false→((.exit 4:Ex),(mkF 63 [(0,(.osl 0 g 9 0 n)),(1,(.int .i64 ((n:Nat):Int))),(2,(.func f xs)),(6,(.int .i64 ((bs:Nat):Int))),(7,(.int .i64 ((a:Nat):Int)))]),([⟨g,9,(List.map Card.row l),none⟩]:Heap))=(eX,FX,HX)):LoopTo (codeQ Try.prog (X sCst_ann) (loopOf Try.f88 2)) (some [0,1,2,6,7,8]) (some [0,1,2,6,7]) (mkF 63 [(0,(.osl 0 g 9 0 n)),(1,(.int .i64 ((n:Nat):Int))),(2,(.func f xs)),(6,(.int .i64 ((bs:Nat):Int))),(7,(.int .i64 ((a:Nat):Int))),(8,(.int .i64 ((b:Nat):Int)))]) ([⟨g,9,(List.map Card.row l),none⟩]:Heap) eX FX HX :=
 stepO (.r (.g (.two (decide (((b:Nat):Int)≤((n:Nat):Int))) (fun h1 h1'=>(.r (.y 4 (.int .i64 (IntKind.i64.wrap (((a:Nat):Int)+((bs:Nat):Int)))) (AV.int .i64 ((a+bs:Nat):Int)) (Yes.add ow ow ow) (.t 7 (AV.tup []) ([⟨g,9,(List.map Card.row (mAt (ltF cmp) a (a+bs) b l)),none⟩]:Heap) (sCm_at _ f xs a (a+bs) b n g l (by first | exact hc | exact hxs | exact W | omega | (simp; omega)) (by first | exact hc | exact hxs | exact W | omega | (simp; omega)) (by first | exact hc | exact hxs | exact W | omega | (simp; omega)) (by first | exact hc | exact hxs | exact W | omega | (simp; omega)) (by first | exact hc | exact hxs | exact W | omega | (simp; omega)) (by first | exact hc | exact hxs | exact W | omega | (simp; omega)) (by first | exact hc | exact hxs | exact W | omega | (simp; omega)) (by first | exact hc | exact hxs | exact W | omega | (simp; omega)) (hs7 (by have:=of_decide_eq_true h1; omega)) (hs8 (by have:=of_decide_eq_true h1; omega)) ([]:Heap):ACalls Try.prog 96 [(.osl 0 g 9 0 n),(.int .i64 ((a:Nat):Int)),(.int .i64 ((a+bs:Nat):Int)),(.int .i64 ((b:Nat):Int)),(.func f xs)] ([⟨g,9,(List.map Card.row l),none⟩]:Heap) ((AV.tup []),([⟨g,9,(List.map Card.row (mAt (ltF cmp) a (a+bs) b l)),none⟩]:Heap))) (.g (.r (.g (.r (.h' ([⟨g,9,(List.map Card.row (mAt (ltF cmp) a (a+bs) b l)),none⟩]:Heap) (.y 2 (.int .i64 (IntKind.i64.wrap (2 * ((bs:Nat):Int)))) (AV.int .i64 ((2 * bs:Nat):Int)) (Yes.add ow ow ow) (.y 3 (.int .i64 (IntKind.i64.wrap (((b:Nat):Int)+((2 * bs:Nat):Int)))) (AV.int .i64 ((b+(2 * bs):Nat):Int)) (Yes.add ow ow ow) (.g (.l (k1 h1)))))))))))))) (fun h1 h1'=>(.l (k2 h1))))))
theorem sCstm_loop (cmp:Card→Card→Int) (f:Nat) (xs:List AV) (hc:∀ (x y:Card) (H:Heap),ACalls Try.prog f ([AV.agg (Card.row x),AV.agg (Card.row y)]++xs) H (AV.int .i64 (cmp x y),H)) (hxs:AV.bdds 1 xs=true) (W:Weak (ltF cmp)) (bs n g:Nat) (l0:List Card) (hn:n=l0.length) (hnb:n < 524288) (hbs:0 < bs) (hbn:bs < 524288) (J:Nat) (hJ:J=n / (2 * bs)) (r:Nat):∀ (j a b:Nat) (l:List Card),j+r=J→a=j * (2 * bs)→b=a+2 * bs→l=mix (ltF cmp) bs j l0 →
 LoopTo (codeQ Try.prog (X sCst_ann) (loopOf Try.f88 2)) (some [0,1,2,6,7,8]) (some [0,1,2,6,7]) (mkF 63 [(0,(.osl 0 g 9 0 n)),(1,(.int .i64 ((n:Nat):Int))),(2,(.func f xs)),(6,(.int .i64 ((bs:Nat):Int))),(7,(.int .i64 ((a:Nat):Int))),(8,(.int .i64 ((b:Nat):Int)))]) ([⟨g,9,(List.map Card.row l),none⟩]:Heap) (.exit 4) (mkF 63 [(0,(.osl 0 g 9 0 n)),(1,(.int .i64 ((n:Nat):Int))),(2,(.func f xs)),(6,(.int .i64 ((bs:Nat):Int))),(7,(.int .i64 (((J * (2 * bs)):Nat):Int)))]) ([⟨g,9,(List.map Card.row (mix (ltF cmp) bs J l0)),none⟩]:Heap):=by
 have hdm:=Nat.div_mul_le_self n (2 * bs)
 have hlt:=Nat.lt_div_mul_add (a:=n) (b:=2 * bs) ow
 rw [← hJ] at hdm hlt
 induction r with
 | zero =>
  intro j a b l hj ha hb hl
  subst hl
  obtain rfl:j=J:=by omega
  refine sCstm_step cmp f xs bs a b n g _ hc hxs W (by rw [mix_len]; exact hn) hnb hb hbs hbn ow (fun h=>by omega) (fun h=>by omega) (fun h=>by simp at h; omega) (fun _=>?_)
  rw [← ha]
 | succ r ih =>
  intro j a b l hj ha hb hl
  subst hl
  have hmul:(j+1) * (2 * bs)=j * (2 * bs)+2 * bs:=Nat.succ_mul _ _
  have hle:(j+1) * (2 * bs)≤J * (2 * bs):=Nat.mul_le_mul_right _ ow
  obtain ⟨q1,q2,q3⟩:=mix_merge W hbs (l:=l0) ha hb ow
  refine sCstm_step cmp f xs bs a b n g _ hc hxs W (by rw [mix_len]; exact hn) hnb hb hbs hbn ow (fun _=>q2) (fun _=>q3) (fun h=>?_) (fun h=>by simp at h; omega)
  rw [q1]
  exact ih (j+1) b (b+2 * bs) _ ow ow rfl rfl
@[simp] abbrev Vlc_1 (v1_:Nat) (v2_:Nat) (v3_:Nat) (v4_:List AV) (v5_:Nat):Fr:=(mkF 63 [(0,(AV.osl 0 v1_ 9 0 v2_)),(1,(AV.int .i64 ((v2_:Nat):Int))),(2,(AV.func v3_ v4_)),(6,(AV.int .i64 ((v5_ * 2:Nat):Int)))])
@[simp] abbrev Vlc_2 (v1_:Nat) (v2_:Nat) (v3_:Nat) (v4_:List AV) (v5_:Nat) (v6_:Nat):Fr:=(mkF 63 [(0,(AV.osl 0 v1_ 9 0 v2_)),(1,(AV.int .i64 ((v2_:Nat):Int))),(2,(AV.func v3_ v4_)),(6,(AV.int .i64 ((v5_:Nat):Int))),(7,(AV.int .i64 (((v6_ * (2 * v5_)):Nat):Int)))])
theorem sCsto_step (cmp:Card→Card→Int) (f:Nat) (xs:List AV) (bs J n g:Nat) (l l0:List Card) (hc:∀ (x y:Card) (H:Heap),ACalls Try.prog f ([AV.agg (Card.row x),AV.agg (Card.row y)]++xs) H (AV.int .i64 (cmp x y),H)) (hxs:AV.bdds 1 xs=true) (W:Weak (ltF cmp)) (hn:n=l0.length) (hnb:n < 524288) (hbs:0 < bs) (hbn:bs < 1048576) (hl:l=allB (ltF cmp) bs l0) (hJ:J=n / (2 * bs)) (hJn:J * (2 * bs)≤n) (hs7:J * (2 * bs)+bs < n→Srt (ltF cmp) (((mix (ltF cmp) bs J l0).drop (J * (2 * bs))).take (J * (2 * bs)+bs - J * (2 * bs)))) (hs8:J * (2 * bs)+bs < n→Srt (ltF cmp) (((mix (ltF cmp) bs J l0).drop (J * (2 * bs)+bs)).take (n - (J * (2 * bs)+bs)))) {eX:Ex} {FX:Fr} {HX:Heap} (k1:(decide (((bs:Nat):Int) < ((n:Nat):Int)))=true→(decide ((((J * (2 * bs))+bs:Nat):Int) < ((n:Nat):Int)))=true→LoopTo (codeQ Try.prog (X sCst_ann) (loopOf Try.f88 1)) (some [0,1,2,6]) (some []) (Vlc_1 g n f xs bs) ([⟨g,9,(List.map Card.row (mAt (ltF cmp) (J * (2 * bs)) ((J * (2 * bs))+bs) n (mix (ltF cmp) bs J l0))),none⟩]:Heap) eX FX HX) (k2:(decide (((bs:Nat):Int) < ((n:Nat):Int)))=true→(decide ((((J * (2 * bs))+bs:Nat):Int) < ((n:Nat):Int)))=false→LoopTo (codeQ Try.prog (X sCst_ann) (loopOf Try.f88 1)) (some [0,1,2,6]) (some []) (Vlc_1 g n f xs bs) ([⟨g,9,(List.map Card.row (mix (ltF cmp) bs J l0)),none⟩]:Heap) eX FX HX) (k3:(decide (((bs:Nat):Int) < ((n:Nat):Int)))=false→((.exit 2:Ex),(mkF 63 []),([⟨g,9,(List.map Card.row l),none⟩]:Heap))=(eX,FX,HX)):LoopTo (codeQ Try.prog (X sCst_ann) (loopOf Try.f88 1)) (some [0,1,2,6]) (some []) (mkF 63 [(0,(.osl 0 g 9 0 n)),(1,(.int .i64 ((n:Nat):Int))),(2,(.func f xs)),(6,(.int .i64 ((bs:Nat):Int)))]) ([⟨g,9,(List.map Card.row l),none⟩]:Heap) eX FX HX :=
 stepO (.r (.g (.two (decide (((bs:Nat):Int) < ((n:Nat):Int))) (fun h1 h1'=>(.r (.y 1 (.int .i64 (IntKind.i64.wrap (2 * ((bs:Nat):Int)))) (AV.int .i64 ((2 * bs:Nat):Int)) (Yes.add ow ow ow) (.g (.loop (Vlc_2 g n f xs bs J) (show LoopTo (codeQ Try.prog (X sCst_ann) (loopOf Try.f88 2)) (some [0,1,2,6,7,8]) (some [0,1,2,6,7]) (mkF 63 [(0,(.osl 0 g 9 0 n)),(1,(.int .i64 ((n:Nat):Int))),(2,(.func f xs)),(6,(.int .i64 ((bs:Nat):Int))),(7,(.int .i64 0)),(8,(.int .i64 ((2 * bs:Nat):Int)))]) ([⟨g,9,(List.map Card.row l),none⟩]:Heap) (.exit 4) (Vlc_2 g n f xs bs J) ([⟨g,9,(List.map Card.row (mix (ltF cmp) bs J l0)),none⟩]:Heap) from (sCstm_loop cmp f xs hc hxs W bs n g l0 hn hnb hbs ow J hJ J 0 0 (2 * bs) l ow ow ow (by rw [hl]; simp only [mix]))) (.r (.y 2 (.int .i64 (IntKind.i64.wrap ((((J * (2 * bs)):Nat):Int)+((bs:Nat):Int)))) (AV.int .i64 (((J * (2 * bs))+bs:Nat):Int)) (Yes.add ow ow ow) (.g (.r (.g (.two (decide ((((J * (2 * bs))+bs:Nat):Int) < ((n:Nat):Int))) (fun h2 h2'=>(.r (.t 5 (AV.tup []) ([⟨g,9,(List.map Card.row (mAt (ltF cmp) (J * (2 * bs)) ((J * (2 * bs))+bs) n (mix (ltF cmp) bs J l0))),none⟩]:Heap) (sCm_at _ f xs (J * (2 * bs)) ((J * (2 * bs))+bs) n n g (mix (ltF cmp) bs J l0) (by first | exact hc | exact hxs | exact W | omega | (rw [mix_len]; exact hn) | (simp; omega)) (by first | exact hc | exact hxs | exact W | omega | (rw [mix_len]; exact hn) | (simp; omega)) (by first | exact hc | exact hxs | exact W | omega | (rw [mix_len]; exact hn) | (simp; omega)) (by first | exact hc | exact hxs | exact W | omega | (rw [mix_len]; exact hn) | (simp; omega)) (by first | exact hc | exact hxs | exact W | omega | (rw [mix_len]; exact hn) | (simp; omega)) (by first | exact hc | exact hxs | exact W | omega | (rw [mix_len]; exact hn) | (simp; omega)) (by have:=of_decide_eq_true h2; omega) ow (hs7 (by have:=of_decide_eq_true h2; omega)) (hs8 (by have:=of_decide_eq_true h2; omega)) ([]:Heap):ACalls Try.prog 96 [(.osl 0 g 9 0 n),(.int .i64 (((J * (2 * bs)):Nat):Int)),(.int .i64 (((J * (2 * bs))+bs:Nat):Int)),(.int .i64 ((n:Nat):Int)),(.func f xs)] ([⟨g,9,(List.map Card.row (mix (ltF cmp) bs J l0)),none⟩]:Heap) ((AV.tup []),([⟨g,9,(List.map Card.row (mAt (ltF cmp) (J * (2 * bs)) ((J * (2 * bs))+bs) n (mix (ltF cmp) bs J l0))),none⟩]:Heap))) (.g (.r (.h' ([⟨g,9,(List.map Card.row (mAt (ltF cmp) (J * (2 * bs)) ((J * (2 * bs))+bs) n (mix (ltF cmp) bs J l0))),none⟩]:Heap) (.y 1 (.int .i64 (IntKind.i64.wrap (((bs:Nat):Int) * 2))) (AV.int .i64 ((bs * 2:Nat):Int)) (Yes.add ow ow ow) (.g (.l (k1 h1 h2)))))))))) (fun h2 h2'=>(.r (.y 1 (.int .i64 (IntKind.i64.wrap (((bs:Nat):Int) * 2))) (AV.int .i64 ((bs * 2:Nat):Int)) (Yes.add ow ow ow) (.g (.l (k2 h1 h2))))))))))))))))) (fun h1 h1'=>(.l (k3 h1))))))
theorem sCsto_loop (cmp:Card→Card→Int) (f:Nat) (xs:List AV) (hc:∀ (x y:Card) (H:Heap),ACalls Try.prog f ([AV.agg (Card.row x),AV.agg (Card.row y)]++xs) H (AV.int .i64 (cmp x y),H)) (hxs:AV.bdds 1 xs=true) (W:Weak (ltF cmp)) (n g:Nat) (l0:List Card) (hn:n=l0.length) (hnb:n < 524288) (r:Nat):∀ (bs:Nat) (l:List Card),n - bs≤r→0 < bs→bs < 1048576→l=allB (ltF cmp) bs l0 →
 LoopTo (codeQ Try.prog (X sCst_ann) (loopOf Try.f88 1)) (some [0,1,2,6]) (some []) (mkF 63 [(0,(.osl 0 g 9 0 n)),(1,(.int .i64 ((n:Nat):Int))),(2,(.func f xs)),(6,(.int .i64 ((bs:Nat):Int)))]) ([⟨g,9,(List.map Card.row l),none⟩]:Heap) (.exit 2) (mkF 63 []) ([⟨g,9,(List.map Card.row (sortG (ltF cmp) l0)),none⟩]:Heap):=by
 have key:∀ bs,0 < bs→(n / (2 * bs) * (2 * bs)≤n∧n < n / (2 * bs) * (2 * bs)+2 * bs):=fun bs hbs=>⟨Nat.div_mul_le_self n (2 * bs),Nat.lt_div_mul_add (a:=n) (b:=2 * bs) ow⟩
 induction r with
 | zero =>
  intro bs l h1 hbs hbn hl
  obtain ⟨k1,k2⟩:=key bs hbs
  obtain ⟨q1,q2⟩:=mix_last W hbs (l:=l0) (J:=n / (2 * bs)) rfl hn k1 k2
  refine sCsto_step cmp f xs bs (n / (2 * bs)) n g l l0 hc hxs W hn hnb hbs hbn hl rfl k1 (fun h=>(q1 h).2.1) (fun h=>(q1 h).2.2) (fun h=>by simp at h; omega) (fun h=>by simp at h; omega) (fun _=>?_)
  rw [hl,allB_one (ltF cmp) ow hbs]
 | succ r ih =>
  intro bs l h1 hbs hbn hl
  obtain ⟨k1,k2⟩:=key bs hbs
  obtain ⟨q1,q2⟩:=mix_last W hbs (l:=l0) (J:=n / (2 * bs)) rfl hn k1 k2
  refine sCsto_step cmp f xs bs (n / (2 * bs)) n g l l0 hc hxs W hn hnb hbs hbn hl rfl k1 (fun h=>(q1 h).2.1) (fun h=>(q1 h).2.2) (fun h h2=>?_) (fun h h2=>?_) (fun h=>?_)
  · rw [(q1 (by have:=of_decide_eq_true h2; omega)).1]
    exact ih (bs * 2) _ (by simp at h; omega) ow (by simp at h; omega) (by rw [Nat.mul_comm])
  · rw [q2 (by have:=of_decide_eq_false h2; omega)]
    exact ih (bs * 2) _ (by simp at h; omega) ow (by simp at h; omega) (by rw [Nat.mul_comm])
  · rw [hl,allB_one (ltF cmp) (by simp at h; omega) hbs]
@[simp] abbrev Vlc_3 (v1_:Nat) (v2_:Nat) (v3_:Nat) (v4_:List AV):Fr:=(mkF 63 [(0,(AV.osl 0 v1_ 9 0 v2_)),(1,(AV.int .i64 ((v2_:Nat):Int))),(2,(AV.func v3_ v4_)),(6,(AV.int .i64 20)),(7,(AV.int .i64 (((v2_ / 20 * 20):Nat):Int)))])
theorem sCst_spec (cmp : Card → Card → Int) (f : Nat) (xs : List AV) (n g : Nat) (l : List Card) (hc : ∀ (x y : Card) (H : Heap), ACalls Try.prog f ([AV.agg (Card.row x), AV.agg (Card.row y)] ++ xs) H (AV.int .i64 (cmp x y), H)) (hxs : AV.bdds 1 xs = true) (W : Weak (ltF cmp)) (hn : n = l.length) (hb : n < 524288) : ACalls Try.prog 88 [(.osl 0 g 9 0 n), (.int .i64 ((n : Nat) : Int)), (.func f xs)] ([⟨g, 9, (List.map Card.row l), none⟩] : Heap) ((AV.tup []), ([⟨g, 9, (List.map Card.row (insSort cmp 0 (n - 1) 1 l)), none⟩] : Heap)) := by
  have hq : (blk (ltF cmp) 20 (n / 20) l).length = n := by rw [blk_len]; exact hn.symm
  have ht := st_tail cmp (l := l) (j := n / 20) (a := n / 20 * 20) rfl hn ow ow
  have hfin : sortG (ltF cmp) l = insSort cmp 0 (n - 1) 1 l := by subst hn; exact (insSort_sortG cmp l).symm
  exact specO (fn := Try.f88) (ann := sCst_ann) (Has.o Try.func88) (.r (.g (.r (.g (.loop (Vlc_3 g n f xs) (show LoopTo (codeQ Try.prog (X sCst_ann) (loopOf Try.f88 0)) (some [0, 1, 2, 6, 7, 8]) (some [0, 1, 2, 6, 7]) (mkF 63 [(0, (.osl 0 g 9 0 n)), (1, (.int .i64 ((n : Nat) : Int))), (2, (.func f xs)), (6, (.int .i64 20)), (7, (.int .i64 0)), (8, (.int .i64 20))]) ([⟨g, 9, (List.map Card.row l), none⟩] : Heap) (.exit 0) (Vlc_3 g n f xs) ([⟨g, 9, (List.map Card.row (blk (ltF cmp) 20 (n / 20) l)), none⟩] : Heap) from (sCstb_loop cmp f xs hc hxs W n g l hn hb (n / 20) 0 0 20 l ow rfl ow (by simp only [blk]))) (.r (.t 4 (AV.tup []) ([⟨g, 9, (List.map Card.row (insSort cmp (n / 20 * 20) (n - ((n / 20 * 20) + 1)) ((n / 20 * 20) + 1) (blk (ltF cmp) 20 (n / 20) l))), none⟩] : Heap) (insC_at _ f xs (n / 20 * 20) n n g (blk (ltF cmp) 20 (n / 20) l) (by first | exact hc | exact hxs | omega | (rw [blk_len]; omega) | (simp; omega)) (by first | exact hc | exact hxs | omega | (rw [blk_len]; omega) | (simp; omega)) (by first | exact hc | exact hxs | omega | (rw [blk_len]; omega) | (simp; omega)) (by first | exact hc | exact hxs | omega | (rw [blk_len]; omega) | (simp; omega)) (by first | exact hc | exact hxs | omega | (rw [blk_len]; omega) | (simp; omega)) (by first | exact hc | exact hxs | omega | (rw [blk_len]; omega) | (simp; omega)) ([] : Heap) : ACalls Try.prog 95 [(.osl 0 g 9 0 n), (.int .i64 (((n / 20 * 20) : Nat) : Int)), (.int .i64 ((n : Nat) : Int)), (.func f xs)] ([⟨g, 9, (List.map Card.row (blk (ltF cmp) 20 (n / 20) l)), none⟩] : Heap) ((AV.tup []), ([⟨g, 9, (List.map Card.row (insSort cmp (n / 20 * 20) (n - ((n / 20 * 20) + 1)) ((n / 20 * 20) + 1) (blk (ltF cmp) 20 (n / 20) l))), none⟩] : Heap))) (.g (.loop (mkF 63 []) (show LoopTo (codeQ Try.prog (X sCst_ann) (loopOf Try.f88 1)) (some [0, 1, 2, 6]) (some []) (mkF 63 [(0, (.osl 0 g 9 0 n)), (1, (.int .i64 ((n : Nat) : Int))), (2, (.func f xs)), (6, (.int .i64 20))]) ([⟨g, 9, (List.map Card.row (insSort cmp (n / 20 * 20) (n - ((n / 20 * 20) + 1)) ((n / 20 * 20) + 1) (blk (ltF cmp) 20 (n / 20) l))), none⟩] : Heap) (.exit 2) (mkF 63 []) ([⟨g, 9, (List.map Card.row (sortG (ltF cmp) l)), none⟩] : Heap) from (sCsto_loop cmp f xs hc hxs W n g l hn hb n 20 (insSort cmp (n / 20 * 20) (n - ((n / 20 * 20) + 1)) ((n / 20 * 20) + 1) (blk (ltF cmp) 20 (n / 20) l)) ow ow ow ht)) (.f 1 (AV.tup []) (.e (AV.tup []) (by
        rw [hfin]))))))))))))
theorem sCst_at (cmp:Card→Card→Int) (f:Nat) (xs:List AV) (n g:Nat) (l:List Card) (hc:∀ (x y:Card) (H:Heap),ACalls Try.prog f ([AV.agg (Card.row x),AV.agg (Card.row y)]++xs) H (AV.int .i64 (cmp x y),H)) (hxs:AV.bdds 1 xs=true) (W:Weak (ltF cmp)) (hn:n=l.length) (hb:n < 524288) (H:Heap):ACalls Try.prog 88 [(.osl 0 g 9 0 n),(.int .i64 ((n:Nat):Int)),(.func f xs)] (([⟨g,9,(List.map Card.row l),none⟩]:Heap)++H) ((AV.tup []),([⟨g,9,(List.map Card.row (insSort cmp 0 (n - 1) 1 l)),none⟩]:Heap)++H):=(sCst_spec cmp f xs n g l hc hxs W hn hb).ext (by simp [AV.bdds,AV.bdd, *]) kr ob ob kr H
def sortCW_ann:Ann:={ base:=1,fin:=some 1 }
theorem sortCW_spec (cmp:Card→Card→Int) (f:Nat) (xs:List AV) (n g:Nat) (l:List Card) (hc:∀ (x y:Card) (H:Heap),ACalls Try.prog f ([AV.agg (Card.row x),AV.agg (Card.row y)]++xs) H (AV.int .i64 (cmp x y),H)) (hxs:AV.bdds 1 xs=true) (W:Weak (ltF cmp)) (hn:n=l.length) (hb:n < 524288):ACalls Try.prog 74 [(.osl 0 g 9 0 n),(.func f xs)] ([⟨g,9,(List.map Card.row l),none⟩]:Heap) ((AV.tup []),([⟨g,9,(List.map Card.row (insSort cmp 0 (n - 1) 1 l)),none⟩]:Heap)) :=
 specO (fn:=Try.f74) (ann:=sortCW_ann) (Has.o Try.func74) (.r (.t 4 (AV.tup []) ([⟨g,9,(List.map Card.row (insSort cmp 0 (n - 1) 1 l)),none⟩]:Heap) (sCst_at _ f xs n g l (by first | exact hc | exact hxs | exact W | omega) (by first | exact hc | exact hxs | exact W | omega) (by first | exact hc | exact hxs | exact W | omega) (by first | exact hc | exact hxs | exact W | omega) (by first | exact hc | exact hxs | exact W | omega) ([]:Heap):ACalls Try.prog 88 [(.osl 0 g 9 0 n),(.int .i64 ((n:Nat):Int)),(.func f xs)] ([⟨g,9,(List.map Card.row l),none⟩]:Heap) ((AV.tup []),([⟨g,9,(List.map Card.row (insSort cmp 0 (n - 1) 1 l)),none⟩]:Heap))) (.g (.h' ([⟨g,9,(List.map Card.row (insSort cmp 0 (n - 1) 1 l)),none⟩]:Heap) (.f 1 (AV.tup []) (.e (AV.tup [])))))))
theorem sortCW_at (cmp:Card→Card→Int) (f:Nat) (xs:List AV) (n g:Nat) (l:List Card) (hc:∀ (x y:Card) (H:Heap),ACalls Try.prog f ([AV.agg (Card.row x),AV.agg (Card.row y)]++xs) H (AV.int .i64 (cmp x y),H)) (hxs:AV.bdds 1 xs=true) (W:Weak (ltF cmp)) (hn:n=l.length) (hb:n < 524288) (H:Heap):ACalls Try.prog 74 [(.osl 0 g 9 0 n),(.func f xs)] (([⟨g,9,(List.map Card.row l),none⟩]:Heap)++H) ((AV.tup []),([⟨g,9,(List.map Card.row (insSort cmp 0 (n - 1) 1 l)),none⟩]:Heap)++H):=(sortCW_spec cmp f xs n g l hc hxs W hn hb).ext (by simp [AV.bdds,AV.bdd, *]) kr ob ob kr H
end Go.Proofs.Ytfjedpipdnlkfaa.AM

set_option maxRecDepth 100000
set_option linter.unusedVariables false
set_option linter.unusedSimpArgs false
namespace Go.Proofs.Ytfjedpipdnlkfaa.AM
open Go Go.Proofs.Ytfjedpipdnlkfaa
attribute [local irreducible] ACalls funT codeT codeQ LoopTo
structure CardL where
 l:List Card
 deriving Inhabited
def CardL.row (x:CardL):List AV:=[(AV.sl .any 9 (List.map Card.row x.l))]
@[simp] theorem CardL.row_bdd (n:Nat) (x:CardL):AV.bdds n x.row=true:=by simp [CardL.row,AV.bdds,AV.bdd]
@[simp] theorem CardL.rows_bdd (n:Nat) (l:List CardL):AV.bddss n (l.map CardL.row)=true:=by induction l with | nil=>rfl | cons x l ih=>simp [AV.bddss,CardL.row_bdd,ih]
theorem weakX:Weak (ltF fun a b:Card=>cmpK a.key b.key):=weakE
theorem sortCardX0_spec (l : List Card) (hl : l.length < 1000) : ACalls Try.prog 64 [(.sl .any 9 (List.map Card.row l))] ([] : Heap) ((AV.sl .cn 9 (List.map Card.row (sortP l))), ([] : Heap)) := by
  have hpl := sortP_len l
  exact specO (fn := Try.f64) (ann := sortCard0_ann) (Has.o Try.func64) (.r (.g (.r (.ch 1 ([⟨0, 9, (List.map Card.row l), none⟩] : Heap) (cloneC_at l oa ([] : Heap)) (.g (.r (.ch 1 ([⟨0, 9, (List.map Card.row (insSort (fun a b => cmpK a.key b.key) 0 (l.length - 1) 1 l)), none⟩] : Heap) (sortCW_at (fun a b => cmpK a.key b.key) 75 [] l.length 0 l (fun x y H => sortcmp_at x y H) (rfl) (weakX) oa oa ([] : Heap)) (.w' 3 (List.map Card.row (insSort (fun a b => cmpK a.key b.key) 0 (l.length - 1) 1 l)) (And.intro (rowsIn_all (room := none) kr (by first | omega | (simp [insSort_len]; done) | (simp [insSort_len]; omega))) (Card.rows_bdd _ _) : rowsIn ([⟨0, 9, (List.map Card.row (insSort (fun a b => cmpK a.key b.key) 0 (l.length - 1) 1 l)), none⟩] : Heap) 9 (AV.osl 0 0 9 0 l.length) = some (List.map Card.row (insSort (fun a b => cmpK a.key b.key) 0 (l.length - 1) 1 l)) ∧ AV.bddss 0 (List.map Card.row (insSort (fun a b => cmpK a.key b.key) 0 (l.length - 1) 1 l)) = true) (.g (.r (.c 1 (clipC_at (insSort (fun a b => cmpK a.key b.key) 0 (l.length - 1) 1 l) (by rw [insSort_len]; omega) ([⟨1, 9, [], none⟩] : Heap)) (.g (.h' ([] : Heap) (.f 0 (AV.sl .cn 9 (List.map Card.row (insSort (fun a b => cmpK a.key b.key) 0 (l.length - 1) 1 l))) (.e (AV.sl .cn 9 (List.map Card.row (insSort (fun a b => cmpK a.key b.key) 0 (l.length - 1) 1 l))) (by
        with_unfolding_all rfl))))))))))))))))
theorem sortCardX_spec (l:List Card) (hl:l.length < 1000):ACalls Try.prog 64 [(.sl .any 9 (List.map Card.row l))] ([]:Heap) ((AV.sl .any 9 (List.map Card.row (sortP l))),([]:Heap)):=(sortCardX0_spec l hl).post ⟨rfl,rfl,.inl rfl⟩
theorem sortCardX_at (l:List Card) (hl:l.length < 1000) (H:Heap):ACalls Try.prog 64 [(.sl .any 9 (List.map Card.row l))] H ((AV.sl .any 9 (List.map Card.row (sortP l))),H):=(sortCardX_spec l hl).lift kr kr H
attribute [local irreducible] sortP
end Go.Proofs.Ytfjedpipdnlkfaa.AM

set_option maxRecDepth 100000
set_option linter.unusedVariables false
set_option linter.unusedSimpArgs false
namespace Go.Proofs.Ytfjedpipdnlkfaa.AM
open Go Go.Proofs.Ytfjedpipdnlkfaa
attribute [local irreducible] ACalls funT codeT codeQ LoopTo
attribute [local irreducible] Tp.card Tp.cardT Tp.next Tp.step Tp.key Tp.keyT sink insSort beforeK sortP cmpK byteB cutS textB byteAt intB showsC hereL seenK cardB sealB sumStep sumB ofB strL
@[simp] abbrev Vsx_1 (v1_:List Card):Fr:=(mkF 22 [(3,(AV.osl 0 (hereL v1_).length 9 0 (hereL v1_).length)),(6,(AV.sl .any 9 (List.map Card.row v1_))),(7,(AV.int .i64 ((v1_.length:Nat):Int))),(8,(AV.int .i64 ((v1_.length:Nat):Int)))])
theorem seenX_spec (l : List Card) (hl : l.length < 1000) : ACalls Try.prog 52 [(.sl .any 9 (List.map Card.row l))] ([] : Heap) ((AV.sl .any 9 (List.map Card.row (seenK l))), ([] : Heap)) := by
  have hk := hereL_len l
  exact specO (fn := Try.f52) (ann := seen_ann) (Has.o Try.func52) (.r (.g (.r (.g (.r (.h' ([⟨0, 9, (List.map Card.row []), none⟩] : Heap) (.y 1 (.int .i64 ((List.length (List.map Card.row l) : Nat) : Int)) (AV.int .i64 ((l.length : Nat) : Int)) (Yes.len _ _ _) (.g (.loop (Vsx_1 l) (show LoopTo (codeQ Try.prog (X seen_ann) (loopOf Try.f52 0)) (some [3, 6, 7, 8]) (some [3, 6, 7, 8]) (mkF 22 [(3, (.osl 0 0 9 0 0)), (6, (.sl .any 9 (List.map Card.row l))), (7, (.int .i64 ((l.length : Nat) : Int))), (8, (.int .i64 0))]) ([⟨0, 9, (List.map Card.row []), none⟩] : Heap) (.exit 0) (Vsx_1 l) ([⟨(hereL l).length, 9, (List.map Card.row (hereL l)), none⟩] : Heap) from (seen_loop l ow (List.length l) [] 0 0 0 (hereL l, (hereL l).length, (hereL l).length) ow rfl ow (seen_iter _))) (.r (.w 3 (List.map Card.row (hereL l)) (And.intro (rowsIn_all (room := none) kr om) (Card.rows_bdd _ _) : rowsIn ([⟨(hereL l).length, 9, (List.map Card.row (hereL l)), none⟩] : Heap) 9 (AV.osl 0 (hereL l).length 9 0 (hereL l).length) = some (List.map Card.row (hereL l)) ∧ AV.bddss 0 (List.map Card.row (hereL l)) = true) (.c 1 (sortCardX_at (hereL l) oa ([⟨((hereL l).length + 1), 9, [], none⟩] : Heap)) (.g (.h' ([] : Heap) (.f 0 (AV.sl .any 9 (List.map Card.row (sortP (hereL l)))) (.e (AV.sl .any 9 (List.map Card.row (sortP (hereL l)))) (by
        with_unfolding_all rfl)))))))))))))))))
theorem seenX_at (l:List Card) (hl:l.length < 1000) (H:Heap):ACalls Try.prog 52 [(.sl .any 9 (List.map Card.row l))] H ((AV.sl .any 9 (List.map Card.row (seenK l))),H):=(seenX_spec l hl).lift kr kr H
@[simp] abbrev Vsx_2 (v1_:List Card):Fr:=(mkF 31 [(3,(AV.sl .any 1 (List.map rU8 (List.foldl cardB [] (seenK v1_))))),(7,(AV.sl .any 9 (List.map Card.row (seenK v1_)))),(8,(AV.int .i64 (((seenK v1_).length:Nat):Int))),(9,(AV.int .i64 (((seenK v1_).length:Nat):Int)))])
theorem sealBX_spec (l : List Card) (hl : l.length < 1000) : ACalls Try.prog 72 [(.sl .any 9 (List.map Card.row l))] ([] : Heap) ((AV.sl .any 1 (List.map rU8 (sealB l))), ([] : Heap)) := by
  have h1 := seenK_len l
  exact specO (fn := Try.f72) (ann := sealB_ann) (Has.o Try.func72) (.r (.g (.r (.g (.r (.c 1 (seenX_at l oa ([] : Heap)) (.y 2 (.int .i64 ((List.length (List.map Card.row (seenK l)) : Nat) : Int)) (AV.int .i64 (((seenK l).length : Nat) : Int)) (Yes.len _ _ _) (.g (.loop (Vsx_2 l) (show LoopTo (codeQ Try.prog (X sealB_ann) (loopOf Try.f72 0)) (some [3, 7, 8, 9]) (some [3, 7, 8, 9]) (mkF 31 [(3, (.sl .any 1 [])), (7, (.sl .any 9 (List.map Card.row (seenK l)))), (8, (.int .i64 (((seenK l).length : Nat) : Int))), (9, (.int .i64 0))]) ([] : Heap) (.exit 0) (Vsx_2 l) ([] : Heap) from (sealB_loop (seenK l) ow (List.length (seenK l)) [] 0 (List.foldl cardB [] (seenK l)) ow (by simp) (sealB_iter _))) (.r (.g (.f 0 (AV.sl .any 1 (List.map rU8 (List.foldl cardB [] (seenK l)))) (.e (AV.sl .any 1 (List.map rU8 (List.foldl cardB [] (seenK l)))) (by
        with_unfolding_all rfl))))))))))))))
theorem sealBX_at (l:List Card) (hl:l.length < 1000) (H:Heap):ACalls Try.prog 72 [(.sl .any 9 (List.map Card.row l))] H ((AV.sl .any 1 (List.map rU8 (sealB l))),H):=(sealBX_spec l hl).lift kr kr H
def sealOfX_ann:Ann:={ fin:=some 0 }
theorem sealOfX_spec (l : List Card) (hl : l.length < 1000) : ACalls Try.prog 63 [(.sl .any 9 (List.map Card.row l))] ([] : Heap) ((AV.int .u32 (ofB l)), ([] : Heap)) := by
  have h1 := sealB_len l
  exact specO (fn := Try.f63) (ann := sealOfX_ann) (Has.o Try.func63) (.r (.g (.r (.c 1 (sealBX_at l oa ([] : Heap)) (.c 2 (sum_at (sealB l) oa ([] : Heap)) (.g (.f 0 (AV.int .u32 (sumB (sealB l))) (.e (AV.int .u32 (sumB (sealB l))) (by
        with_unfolding_all rfl)))))))))
theorem sealOfX_at (l:List Card) (hl:l.length < 1000) (H:Heap):ACalls Try.prog 63 [(.sl .any 9 (List.map Card.row l))] H ((AV.int .u32 (ofB l)),H):=(sealOfX_spec l hl).lift kr kr H
end Go.Proofs.Ytfjedpipdnlkfaa.AM

set_option maxRecDepth 100000
set_option linter.unusedVariables false
set_option linter.unusedSimpArgs false
namespace Go.Proofs.Ytfjedpipdnlkfaa.AM
open Go Go.Proofs.Ytfjedpipdnlkfaa
attribute [local irreducible] ACalls funT codeT codeQ LoopTo
attribute [local irreducible] nameB stR cardR cmpSt sortP
structure Msg where
 kind:Int
 op:Int
 status:Int
 code:Int
 tag:Int
 n:Int
 seq:Int
 key:Key
 full:Bool
 sum:Int
 cards:List Card
 keys:List Key
 deriving Inhabited
def Msg.row (x:Msg):List AV:=[(AV.int .i64 x.kind),(AV.int .i64 x.op),(AV.int .i64 x.status),(AV.int .i64 x.code),(AV.int .i64 x.tag),(AV.int .i64 x.n),(AV.int .i64 x.seq),(AV.str x.key.app),(AV.str x.key.id),(AV.bool x.full),(AV.int .u32 x.sum),(AV.sl .any 9 (List.map Card.row x.cards)),(AV.sl .any 2 (List.map Key.row x.keys))]
@[simp] theorem Msg.row_bdd (n:Nat) (x:Msg):AV.bdds n x.row=true:=by simp [Msg.row,AV.bdds,AV.bdd]
@[simp] theorem Msg.rows_bdd (n:Nat) (l:List Msg):AV.bddss n (l.map Msg.row)=true:=by induction l with | nil=>rfl | cons x l ih=>simp [AV.bddss,Msg.row_bdd,ih]
def eqC0N_ann:Ann:={ fin:=some 0 }
theorem eqC0N_spec (l : List Card) (h : ¬ l.length = 0) : ACalls Try.prog 61 [(.sl .any 9 (List.map Card.row l)), (.sl .nil 0 [])] ([] : Heap) ((AV.bool (decide (l.length = 0))), ([] : Heap)) :=
  specO (fn := Try.f61) (ann := eqC0N_ann) (Has.o Try.func61) (.r (.g (.r (.y 1 (.int .i64 ((List.length (List.map Card.row l) : Nat) : Int)) (AV.int .i64 ((l.length : Nat) : Int)) (Yes.len _ _ _) (.y 4 (AV.bool (((l.length : Nat) : Int) != 0)) (AV.bool true) (Yes.bool (by simp; intro q; subst q; exact h rfl)) (.g (.yes (.r (.g (.f 0 (AV.bool false) (.e (AV.bool false) (by
        simp [h]))))))))))))
def eqC0Y_ann:Ann:={ fin:=some 0 }
theorem eqC0Y_spec  :ACalls Try.prog 61 [(.sl .any 9 []),(.sl .nil 0 [])] ([]:Heap) ((AV.bool true),([]:Heap)) :=
 specO (fn:=Try.f61) (ann:=eqC0Y_ann) (Has.o Try.func61) (.r (.g (.r (.g (.no (.r (.g (.roll 1 (.r (.g (.no (.r (.g (.f 0 (AV.bool true) (.e (AV.bool true))))))))))))))))
theorem eqC0_spec (l:List Card) :ACalls Try.prog 61 [(.sl .any 9 (List.map Card.row l)),(.sl .nil 0 [])] ([]:Heap) ((AV.bool (decide (l.length=0))),([]:Heap)):=by
 by_cases h:l.length=0
 · obtain rfl:l=[]:=List.eq_nil_of_length_eq_zero h
   exact eqC0Y_spec
 · exact eqC0N_spec l h
theorem eqC0_at (l:List Card)  (H:Heap):ACalls Try.prog 61 [(.sl .any 9 (List.map Card.row l)),(.sl .nil 0 [])] H ((AV.bool (decide (l.length=0))),H):=(eqC0_spec l ).lift kr kr H
def eqK0N_ann:Ann:={ fin:=some 0 }
theorem eqK0N_spec (l : List Key) (h : ¬ l.length = 0) : ACalls Try.prog 62 [(.sl .any 2 (List.map Key.row l)), (.sl .nil 0 [])] ([] : Heap) ((AV.bool (decide (l.length = 0))), ([] : Heap)) :=
  specO (fn := Try.f62) (ann := eqK0N_ann) (Has.o Try.func62) (.r (.g (.r (.y 1 (.int .i64 ((List.length (List.map Key.row l) : Nat) : Int)) (AV.int .i64 ((l.length : Nat) : Int)) (Yes.len _ _ _) (.y 4 (AV.bool (((l.length : Nat) : Int) != 0)) (AV.bool true) (Yes.bool (by simp; intro q; subst q; exact h rfl)) (.g (.yes (.r (.g (.f 0 (AV.bool false) (.e (AV.bool false) (by
        simp [h]))))))))))))
def eqK0Y_ann:Ann:={ fin:=some 0 }
theorem eqK0Y_spec  :ACalls Try.prog 62 [(.sl .any 2 []),(.sl .nil 0 [])] ([]:Heap) ((AV.bool true),([]:Heap)) :=
 specO (fn:=Try.f62) (ann:=eqK0Y_ann) (Has.o Try.func62) (.r (.g (.r (.g (.no (.r (.g (.roll 1 (.r (.g (.no (.r (.g (.f 0 (AV.bool true) (.e (AV.bool true))))))))))))))))
theorem eqK0_spec (l:List Key) :ACalls Try.prog 62 [(.sl .any 2 (List.map Key.row l)),(.sl .nil 0 [])] ([]:Heap) ((AV.bool (decide (l.length=0))),([]:Heap)):=by
 by_cases h:l.length=0
 · obtain rfl:l=[]:=List.eq_nil_of_length_eq_zero h
   exact eqK0Y_spec
 · exact eqK0N_spec l h
theorem eqK0_at (l:List Key)  (H:Heap):ACalls Try.prog 62 [(.sl .any 2 (List.map Key.row l)),(.sl .nil 0 [])] H ((AV.bool (decide (l.length=0))),H):=(eqK0_spec l ).lift kr kr H
def mbadC_ann:Ann:={ refs:=[1],fin:=some 0 }
theorem mbadC_spec (c:Card) :ACalls Try.prog 29 [(.agg (Card.row c))] ([]:Heap) ((AV.bool (!(cardR c))),([]:Heap)) :=
 specO (fn:=Try.f29) (ann:=mbadC_ann) (Has.o Try.func29) (.r (.g (.r (.c 1 (cright_at c  ([]:Heap)) (.g (.f 0 (AV.bool (!(cardR c))) (.e (AV.bool (!(cardR c))))))))))
theorem mbadC_at (c:Card)  (H:Heap):ACalls Try.prog 29 [(.agg (Card.row c))] H ((AV.bool (!(cardR c))),H):=(mbadC_spec c ).lift kr kr H
def mix_ann:Ann:={ fin:=some 0,live:=[(2,[0,1,7,8])],out:=[(2,[0,1,7,8])] }
@[simp] abbrev Wo_1 (v1_:List Card) (v2_:Nat):Fr:=(mkF 19 [(0,(AV.sl .any 9 (List.map Card.row v1_))),(1,(AV.func 29 [])),(7,(AV.int .i64 ((v1_.length:Nat):Int))),(8,(AV.int .i64 ((v2_:Nat):Int)))])
theorem mix_step (l:List Card)  (i:Nat) (hl:l.length < 1099511627776) (hle_:i≤l.length) {eX:Ex} {FX:Fr} {HX:Heap} (k1:(decide (((i:Nat):Int) < ((l.length:Nat):Int)))=true→(!(cardR (nth l i)))=true→((.ret:Ex),(Wo_1 l i),([]:Heap))=(eX,FX,HX)) (k2:(decide (((i:Nat):Int) < ((l.length:Nat):Int)))=true→(!(cardR (nth l i)))=false→LoopTo (codeQ Try.prog (X mix_ann) (loopOf Try.f47 0)) (some [0,1,7,8]) (some [0,1,7,8]) (mkF 19 [(0,(.sl .any 9 (List.map Card.row l))),(1,(.func 29 [])),(7,(.int .i64 ((l.length:Nat):Int))),(8,(.int .i64 ((i+1:Nat):Int)))]) ([]:Heap) eX FX HX) (k3:(decide (((i:Nat):Int) < ((l.length:Nat):Int)))=false→((.exit 0:Ex),(Wo_1 l i),([]:Heap))=(eX,FX,HX)):LoopTo (codeQ Try.prog (X mix_ann) (loopOf Try.f47 0)) (some [0,1,7,8]) (some [0,1,7,8]) (Wo_1 l i) ([]:Heap) eX FX HX :=
 stepO (.r (.g (.two (decide (((i:Nat):Int) < ((l.length:Nat):Int))) (fun h1 h1'=>(.r (.g (.r (.is 3 9 9 (List.map Card.row l) ((i:Nat):Int) (Card.row (nth l i)) (IdxSl.mk _ ow ow) (.c 5 (mbadC_at (nth l i)  ([]:Heap)) (.g (.two (!(cardR (nth l i))) (fun h2 h2'=>(.r (.g (.l (k1 h1 h2))))) (fun h2 h2'=>(.r (.y 0 (.int .i64 (IntKind.i64.wrap (((i:Nat):Int)+1))) (AV.int .i64 ((i+1:Nat):Int)) (Yes.add ow ow ow) (.g (.l (k2 h1 h2)))))))))))))) (fun h1 h1'=>(.l (k3 h1))))))
def mix_f (l:List Card) (i:Nat) (s:Unit):Unit:=()
def mix_bad (l:List Card)  (i:Nat):Prop:=(((decide (((i:Nat):Int) < ((l.length:Nat):Int)))=true)∧((!(cardR (nth l i)))=true))
@[simp] abbrev Wo_2 (v1_:List Card):Fr:=(mkF 19 [(0,(AV.sl .any 9 (List.map Card.row v1_))),(1,(AV.func 29 [])),(7,(AV.int .i64 ((v1_.length:Nat):Int))),(8,(AV.int .i64 ((v1_.length:Nat):Int)))])
theorem mix_loop (l:List Card) (hl:l.length < 1099511627776)  (hbad:∀ (i:Nat),i < l.length→¬ mix_bad l  i) (r_:Nat):∀  (i:Nat) (sF:Unit),i+r_=l.length→()=(iter (mix_f l) i 0 ())→sF=iter (mix_f l) r_ i () →
 LoopTo (codeQ Try.prog (X mix_ann) (loopOf Try.f47 0)) (some [0,1,7,8]) (some [0,1,7,8]) (Wo_1 l i) ([]:Heap) (.exit 0) (Wo_2 l) ([]:Heap):=by
 induction r_ with
 | zero =>
  intro  i sF hi_  hs_ hF
  obtain rfl:l.length=i:=by omega
  have e_:sF=():=hF
  refine mix_step l  l.length hl (Nat.le_refl _) (fun h _=>by simp at h <;> omega) (fun h _=>by simp at h <;> omega) (fun _=>?_)
  first | done | rfl | (rw [e_]; done) | (rw [e_]; rfl)
 | succ r_ ih =>
  intro  i sF hi_  hs_ hF
  refine mix_step l  i hl ow (fun h1 h2=>?_) (fun h1 h2=>?_) (fun h=>by simp at h <;> omega)
  · exact False.elim (by
     have hb_:=hbad i ow
     try rw [← hs_] at hb_
     exact hb_ (⟨h1,h2⟩))
  · exact ih  (i+1) sF ow  (by rw [iter_succ,← hs_] <;> simp only [mix_f,h2,if_true,Bool.false_eq_true,if_false]) (by rw [hF] <;> simp only [iter,mix_f,h2,if_true,Bool.false_eq_true,if_false])
theorem mix_spec (l:List Card) (hl:l.length < 1099511627776) (hr:∀ c∈l,cardR c=true):ACalls Try.prog 47 [(.sl .any 9 (List.map Card.row l)),(.func 29 [])] ([]:Heap) ((AV.int .i64 (-1)),([]:Heap)) :=
 specO (fn:=Try.f47) (ann:=mix_ann) (Has.o Try.func47) (.r (.g (.r (.y 1 (.int .i64 ((List.length (List.map Card.row l):Nat):Int)) (AV.int .i64 ((l.length:Nat):Int)) (Yes.len _ _ _) (.g (.loop (Wo_2 l) (show LoopTo (codeQ Try.prog (X mix_ann) (loopOf Try.f47 0)) (some [0,1,7,8]) (some [0,1,7,8]) (mkF 19 [(0,(.sl .any 9 (List.map Card.row l))),(1,(.func 29 [])),(7,(.int .i64 ((l.length:Nat):Int))),(8,(.int .i64 0))]) ([]:Heap) (.exit 0) (Wo_2 l) ([]:Heap) from (mix_loop l hl (fun i hi=>by simp only [mix_bad]; rw [hr _ (nth_mem hi)]; simp) l.length 0 () ow rfl rfl)) (.r (.g (.f 0 (AV.int .i64 (-1)) (.e (AV.int .i64 (-1))))))))))))
theorem mix_at (l:List Card) (hl:l.length < 1099511627776) (hr:∀ c∈l,cardR c=true) (H:Heap):ACalls Try.prog 47 [(.sl .any 9 (List.map Card.row l)),(.func 29 [])] H ((AV.int .i64 (-1)),H):=(mix_spec l hl hr).lift kr kr H
def mcont_ann:Ann:={ fin:=some 0 }
theorem mcont_spec (l:List Card) (hl:l.length < 1099511627776) (hr:∀ c∈l,cardR c=true):ACalls Try.prog 28 [(.sl .any 9 (List.map Card.row l)),(.func 29 [])] ([]:Heap) ((AV.bool false),([]:Heap)) :=
 specO (fn:=Try.f28) (ann:=mcont_ann) (Has.o Try.func28) (.r (.g (.r (.c 2 (mix_at l oa oa ([]:Heap)) (.g (.f 0 (AV.bool false) (.e (AV.bool false))))))))
theorem mcont_at (l:List Card) (hl:l.length < 1099511627776) (hr:∀ c∈l,cardR c=true) (H:Heap):ACalls Try.prog 28 [(.sl .any 9 (List.map Card.row l)),(.func 29 [])] H ((AV.bool false),H):=(mcont_spec l hl hr).lift kr kr H
attribute [local irreducible] ofB
end Go.Proofs.Ytfjedpipdnlkfaa.AM

set_option maxRecDepth 100000
set_option linter.unusedVariables false
set_option linter.unusedSimpArgs false
namespace Go.Proofs.Ytfjedpipdnlkfaa.AM
open Go Go.Proofs.Ytfjedpipdnlkfaa
attribute [local irreducible] ACalls funT codeT codeQ LoopTo
attribute [local irreducible] nameB stR cardR cmpSt
def sameZ (x:Msg):Bool:=decide (x.cards.length=0)&&(decide (x.keys.length=0)&&((x.kind == 0)&&((x.op == 0)&&((x.status == 0)&&((x.code == 0)&&((x.tag == 0)&&((x.n == 0)&&((x.seq == 0)&&(Key.eqb x.key ⟨⟨#[]⟩,⟨#[]⟩⟩&&((x.full == false)&&(x.sum == 0)))))))))))
def zeroM (x:Msg):Bool :=
 if x.kind=1 then sameZ ⟨0,0,0,x.code,0,0,0,⟨⟨#[]⟩,⟨#[]⟩⟩,x.full,x.sum,x.cards,x.keys⟩
 else if x.kind=2 then sameZ ⟨0,0,x.status,0,0,x.n,0,⟨⟨#[]⟩,⟨#[]⟩⟩,false,0,[],x.keys⟩
 else if x.kind=3∨x.kind=4 then sameZ ⟨0,x.op,x.status,x.code,x.tag,x.n,x.seq,x.key,x.full,x.sum,[],x.keys⟩
 else if x.kind=5 then sameZ ⟨0,x.op,x.status,x.code,x.tag,x.n,x.seq,x.key,x.full,x.sum,x.cards,[]⟩
 else sameZ ⟨0,x.op,x.status,x.code,x.tag,x.n,x.seq,x.key,x.full,x.sum,x.cards,x.keys⟩
def namesK (k:Key):Bool:=nameB k.app&&nameB k.id
def opM (x:Msg):Bool:=if x.kind=1∨x.kind=2 then (if x.op=5 then Key.eqb x.key ⟨⟨#[]⟩,⟨#[]⟩⟩ else decide (1≤x.op)&&(decide (x.op < 5)&&namesK x.key)) else true
def withB (n:Int):Bool:=decide (0≤n)&&decide (n≤255)
def msgR (x:Msg):Bool:=(decide (1≤x.kind)&&decide (x.kind≤5))&&(zeroM x&&(opM x&&((withB x.code&&(withB x.status&&decide (-1≤x.seq)))&&((decide (x.cards.length≤64)&&decide (x.keys.length≤64))&&(x.cards.all cardR&&x.keys.all namesK)))))
def msameG_ann:Ann:={ refs:=[2,3],fin:=some 0 }
theorem msameG_spec (x : Msg)  : ACalls Try.prog 45 [(.agg (Msg.row x)), (.agg [(.int .i64 0), (.int .i64 0), (.int .i64 0), (.int .i64 0), (.int .i64 0), (.int .i64 0), (.int .i64 0), (.str ⟨#[]⟩), (.str ⟨#[]⟩), (.bool false), (.int .u32 0), (.sl .nil 0 []), (.sl .nil 0 [])])] ([] : Heap) ((AV.bool (sameZ x)), ([] : Heap)) :=
  specO (fn := Try.f45) (ann := msameG_ann) (Has.o Try.func45) (.r (.g (.r (.c 4 (eqC0_at x.cards  ([] : Heap)) (.two (!(decide (x.cards.length = 0))) (fun h1 h1' => (.yes (.yes (.yes (.yes (.yes (.g (.yes (.r (.g (.f 0 (AV.bool false) (.e (AV.bool false) (by
        simp only [sameZ]
        simp_all))))))))))))) (fun h1 h1' => (.no (.no (.no (.no (.c 11 (eqK0_at x.keys  ([] : Heap)) (.no (.g (.two (!(decide (x.keys.length = 0))) (fun h2 h2' => (.r (.g (.f 0 (AV.bool false) (.e (AV.bool false) (by
        simp only [sameZ]
        simp_all)))))) (fun h2 h2' => (.r (.two (x.kind == 0) (fun h3 h3' => (.yes (.yes (.yes (.yes (.two (x.op == 0) (fun h4 h4' => (.yes (.yes (.yes (.yes (.two (x.status == 0) (fun h5 h5' => (.yes (.yes (.yes (.yes (.two (x.code == 0) (fun h6 h6' => (.yes (.yes (.yes (.yes (.two (x.tag == 0) (fun h7 h7' => (.yes (.yes (.yes (.yes (.two (x.n == 0) (fun h8 h8' => (.yes (.yes (.yes (.yes (.two (x.seq == 0) (fun h9 h9' => (.yes (.yes (.yes (.yes (.two (Key.eqb x.key (Key.mk (ByteArray.mk #[]) (ByteArray.mk #[]))) (fun h10 h10' => (.yes (.yes (.yes (.yes (.two (x.full == false) (fun h11 h11' => (.yes (.yes (.yes (.yes (.g (.f 0 (AV.bool (x.sum == 0)) (.e (AV.bool (x.sum == 0)) (by
        simp only [sameZ]
        simp_all))))))))) (fun h11 h11' => (.no (.no (.no (.no (.g (.f 0 (AV.bool false) (.e (AV.bool false) (by
        simp only [sameZ]
        simp_all))))))))))))))) (fun h10 h10' => (.no (.no (.no (.no (.no (.no (.no (.no (.no (.g (.f 0 (AV.bool false) (.e (AV.bool false) (by
        simp only [sameZ]
        simp_all)))))))))))))))))))) (fun h9 h9' => (.no (.no (.no (.no (.no (.no (.no (.no (.no (.no (.no (.no (.no (.no (.g (.f 0 (AV.bool false) (.e (AV.bool false) (by
        simp only [sameZ]
        simp_all))))))))))))))))))))))))) (fun h8 h8' => (.no (.no (.no (.no (.no (.no (.no (.no (.no (.no (.no (.no (.no (.no (.no (.no (.no (.no (.no (.g (.f 0 (AV.bool false) (.e (AV.bool false) (by
        simp only [sameZ]
        simp_all)))))))))))))))))))))))))))))) (fun h7 h7' => (.no (.no (.no (.no (.no (.no (.no (.no (.no (.no (.no (.no (.no (.no (.no (.no (.no (.no (.no (.no (.no (.no (.no (.no (.g (.f 0 (AV.bool false) (.e (AV.bool false) (by
        simp only [sameZ]
        simp_all))))))))))))))))))))))))))))))))))) (fun h6 h6' => (.no (.no (.no (.no (.no (.no (.no (.no (.no (.no (.no (.no (.no (.no (.no (.no (.no (.no (.no (.no (.no (.no (.no (.no (.no (.no (.no (.no (.no (.g (.f 0 (AV.bool false) (.e (AV.bool false) (by
        simp only [sameZ]
        simp_all)))))))))))))))))))))))))))))))))))))))) (fun h5 h5' => (.no (.no (.no (.no (.no (.no (.no (.no (.no (.no (.no (.no (.no (.no (.no (.no (.no (.no (.no (.no (.no (.no (.no (.no (.no (.no (.no (.no (.no (.no (.no (.no (.no (.no (.g (.f 0 (AV.bool false) (.e (AV.bool false) (by
        simp only [sameZ]
        simp_all))))))))))))))))))))))))))))))))))))))))))))) (fun h4 h4' => (.no (.no (.no (.no (.no (.no (.no (.no (.no (.no (.no (.no (.no (.no (.no (.no (.no (.no (.no (.no (.no (.no (.no (.no (.no (.no (.no (.no (.no (.no (.no (.no (.no (.no (.no (.no (.no (.no (.no (.g (.f 0 (AV.bool false) (.e (AV.bool false) (by
        simp only [sameZ]
        simp_all)))))))))))))))))))))))))))))))))))))))))))))))))) (fun h3 h3' => (.no (.no (.no (.no (.no (.no (.no (.no (.no (.no (.no (.no (.no (.no (.no (.no (.no (.no (.no (.no (.no (.no (.no (.no (.no (.no (.no (.no (.no (.no (.no (.no (.no (.no (.no (.no (.no (.no (.no (.no (.no (.no (.no (.no (.g (.f 0 (AV.bool false) (.e (AV.bool false) (by
        simp only [sameZ]
        simp_all))))))))))))))))))))))))))))))))))))))))))))))))))))))))))))))))))
theorem msameG_at (x:Msg)  (H:Heap):ACalls Try.prog 45 [(.agg (Msg.row x)),(.agg [(.int .i64 0),(.int .i64 0),(.int .i64 0),(.int .i64 0),(.int .i64 0),(.int .i64 0),(.int .i64 0),(.str ⟨#[]⟩),(.str ⟨#[]⟩),(.bool false),(.int .u32 0),(.sl .nil 0 []),(.sl .nil 0 [])])] H ((AV.bool (sameZ x)),H):=(msameG_spec x ).lift kr kr H
attribute [local irreducible] sameZ
def mzero_ann:Ann:={ fin:=some 0 }
@[simp] abbrev Wr_1 (v1_:Msg):Heap:=[⟨0,13,[[(AV.int .i64 0),(AV.int .i64 v1_.op),(AV.int .i64 v1_.status),(AV.int .i64 v1_.code),(AV.int .i64 v1_.tag),(AV.int .i64 v1_.n),(AV.int .i64 v1_.seq),(AV.str v1_.key.app),(AV.str v1_.key.id),(AV.bool v1_.full),(AV.int .u32 v1_.sum),(AV.sl .nil 0 []),(AV.sl .any 2 (List.map Key.row v1_.keys))]],none⟩]
@[simp] abbrev Wr_2 (v1_:Msg):Heap:=[⟨0,13,[[(AV.int .i64 0),(AV.int .i64 v1_.op),(AV.int .i64 v1_.status),(AV.int .i64 v1_.code),(AV.int .i64 v1_.tag),(AV.int .i64 v1_.n),(AV.int .i64 v1_.seq),(AV.str v1_.key.app),(AV.str v1_.key.id),(AV.bool v1_.full),(AV.int .u32 v1_.sum),(AV.sl .any 9 (List.map Card.row v1_.cards)),(AV.sl .nil 0 [])]],none⟩]
@[simp] abbrev Wr_3 (v1_:Msg):Heap:=[⟨0,13,[[(AV.int .i64 0),(AV.int .i64 v1_.op),(AV.int .i64 v1_.status),(AV.int .i64 v1_.code),(AV.int .i64 v1_.tag),(AV.int .i64 v1_.n),(AV.int .i64 v1_.seq),(AV.str v1_.key.app),(AV.str v1_.key.id),(AV.bool v1_.full),(AV.int .u32 v1_.sum),(AV.sl .any 9 (List.map Card.row v1_.cards)),(AV.sl .any 2 (List.map Key.row v1_.keys))]],none⟩]
theorem mzero_spec (x : Msg)  : ACalls Try.prog 25 [(.agg (Msg.row x))] ([] : Heap) ((AV.bool (zeroM x)), ([] : Heap)) :=
  specO (fn := Try.f25) (ann := mzero_ann) (Has.o Try.func25) (.r (.g (.r (.g (.r (.g (.two (x.kind == 1) (fun h1 h1' => (.r (.g (.r (.g (.r (.c 2 (ACalls.pre (args := [(AV.agg (Msg.row (Msg.mk 0 0 0 x.code 0 0 0 (Key.mk (ByteArray.mk #[]) (ByteArray.mk #[])) x.full x.sum x.cards x.keys))), (AV.agg [(AV.int .i64 0), (AV.int .i64 0), (AV.int .i64 0), (AV.int .i64 0), (AV.int .i64 0), (AV.int .i64 0), (AV.int .i64 0), (AV.str ⟨#[]⟩), (AV.str ⟨#[]⟩), (AV.bool false), (AV.int .u32 0), (AV.sl .nil 0 []), (AV.sl .nil 0 [])])]) (args' := [(AV.agg [(AV.int .i64 0), (AV.int .i64 0), (AV.int .i64 0), (AV.int .i64 x.code), (AV.int .i64 0), (AV.int .i64 0), (AV.int .i64 0), (AV.str ⟨#[]⟩), (AV.str ⟨#[]⟩), (AV.bool x.full), (AV.int .u32 x.sum), (AV.sl .any 9 (List.map Card.row x.cards)), (AV.sl .any 2 (List.map Key.row x.keys))]), (AV.agg [(AV.int .i64 0), (AV.int .i64 0), (AV.int .i64 0), (AV.int .i64 0), (AV.int .i64 0), (AV.int .i64 0), (AV.int .i64 0), (AV.str ⟨#[]⟩), (AV.str ⟨#[]⟩), (AV.bool false), (AV.int .u32 0), (AV.sl .nil 0 []), (AV.sl .nil 0 [])])]) (msameG_at (Msg.mk 0 0 0 x.code 0 0 0 (Key.mk (ByteArray.mk #[]) (ByteArray.mk #[])) x.full x.sum x.cards x.keys)  ([⟨0, 13, [[(AV.int .i64 0), (AV.int .i64 0), (AV.int .i64 0), (AV.int .i64 x.code), (AV.int .i64 0), (AV.int .i64 0), (AV.int .i64 0), (AV.str ⟨#[]⟩), (AV.str ⟨#[]⟩), (AV.bool x.full), (AV.int .u32 x.sum), (AV.sl .any 9 (List.map Card.row x.cards)), (AV.sl .any 2 (List.map Key.row x.keys))]], none⟩] : Heap)) ⟨⟨AV.wk_refl_any _, AV.wk_refl_any _, AV.wk_refl_any _, AV.wk_refl_any _, AV.wk_refl_any _, AV.wk_refl_any _, AV.wk_refl_any _, AV.wk_refl_any _, AV.wk_refl_any _, AV.wk_refl_any _, AV.wk_refl_any _, ⟨rfl, rfl, .inl rfl⟩, ⟨rfl, rfl, .inl rfl⟩, trivial⟩, ⟨AV.wk_refl_any _, AV.wk_refl_any _, AV.wk_refl_any _, AV.wk_refl_any _, AV.wk_refl_any _, AV.wk_refl_any _, AV.wk_refl_any _, AV.wk_refl_any _, AV.wk_refl_any _, AV.wk_refl_any _, AV.wk_refl_any _, ⟨rfl, rfl, .inl rfl⟩, ⟨rfl, rfl, .inl rfl⟩, trivial⟩, trivial⟩) (.g (.f 0 (AV.bool (sameZ (Msg.mk 0 0 0 x.code 0 0 0 (Key.mk (ByteArray.mk #[]) (ByteArray.mk #[])) x.full x.sum x.cards x.keys))) (.e (AV.bool (sameZ (Msg.mk 0 0 0 x.code 0 0 0 (Key.mk (ByteArray.mk #[]) (ByteArray.mk #[])) x.full x.sum x.cards x.keys))) (by
        try delta Wr_1 Wr_2 Wr_3
        simp only [zeroM]
        simp_all))))))))))) (fun h1 h1' => (.r (.g (.two (x.kind == 2) (fun h2 h2' => (.r (.g (.r (.g (.r (.c 2 (ACalls.pre (args := [(AV.agg (Msg.row (Msg.mk 0 0 x.status 0 0 x.n 0 (Key.mk (ByteArray.mk #[]) (ByteArray.mk #[])) false 0 [] x.keys))), (AV.agg [(AV.int .i64 0), (AV.int .i64 0), (AV.int .i64 0), (AV.int .i64 0), (AV.int .i64 0), (AV.int .i64 0), (AV.int .i64 0), (AV.str ⟨#[]⟩), (AV.str ⟨#[]⟩), (AV.bool false), (AV.int .u32 0), (AV.sl .nil 0 []), (AV.sl .nil 0 [])])]) (args' := [(AV.agg [(AV.int .i64 0), (AV.int .i64 0), (AV.int .i64 x.status), (AV.int .i64 0), (AV.int .i64 0), (AV.int .i64 x.n), (AV.int .i64 0), (AV.str ⟨#[]⟩), (AV.str ⟨#[]⟩), (AV.bool false), (AV.int .u32 0), (AV.sl .nil 0 []), (AV.sl .any 2 (List.map Key.row x.keys))]), (AV.agg [(AV.int .i64 0), (AV.int .i64 0), (AV.int .i64 0), (AV.int .i64 0), (AV.int .i64 0), (AV.int .i64 0), (AV.int .i64 0), (AV.str ⟨#[]⟩), (AV.str ⟨#[]⟩), (AV.bool false), (AV.int .u32 0), (AV.sl .nil 0 []), (AV.sl .nil 0 [])])]) (msameG_at (Msg.mk 0 0 x.status 0 0 x.n 0 (Key.mk (ByteArray.mk #[]) (ByteArray.mk #[])) false 0 [] x.keys)  ([⟨0, 13, [[(AV.int .i64 0), (AV.int .i64 0), (AV.int .i64 x.status), (AV.int .i64 0), (AV.int .i64 0), (AV.int .i64 x.n), (AV.int .i64 0), (AV.str ⟨#[]⟩), (AV.str ⟨#[]⟩), (AV.bool false), (AV.int .u32 0), (AV.sl .nil 0 []), (AV.sl .any 2 (List.map Key.row x.keys))]], none⟩] : Heap)) ⟨⟨AV.wk_refl_any _, AV.wk_refl_any _, AV.wk_refl_any _, AV.wk_refl_any _, AV.wk_refl_any _, AV.wk_refl_any _, AV.wk_refl_any _, AV.wk_refl_any _, AV.wk_refl_any _, AV.wk_refl_any _, AV.wk_refl_any _, ⟨rfl, rfl, .inr rfl⟩, ⟨rfl, rfl, .inl rfl⟩, trivial⟩, ⟨AV.wk_refl_any _, AV.wk_refl_any _, AV.wk_refl_any _, AV.wk_refl_any _, AV.wk_refl_any _, AV.wk_refl_any _, AV.wk_refl_any _, AV.wk_refl_any _, AV.wk_refl_any _, AV.wk_refl_any _, AV.wk_refl_any _, ⟨rfl, rfl, .inl rfl⟩, ⟨rfl, rfl, .inl rfl⟩, trivial⟩, trivial⟩) (.g (.f 0 (AV.bool (sameZ (Msg.mk 0 0 x.status 0 0 x.n 0 (Key.mk (ByteArray.mk #[]) (ByteArray.mk #[])) false 0 [] x.keys))) (.e (AV.bool (sameZ (Msg.mk 0 0 x.status 0 0 x.n 0 (Key.mk (ByteArray.mk #[]) (ByteArray.mk #[])) false 0 [] x.keys))) (by
        try delta Wr_1 Wr_2 Wr_3
        simp only [zeroM]
        simp_all))))))))))) (fun h2 h2' => (.r (.g (.two (x.kind == 3) (fun h3 h3' => (.two (x.kind == 3) (fun h4 h4' => (.r (.g (.r (.g (.r (.c 2 (ACalls.pre (args := [(AV.agg (Msg.row (Msg.mk 0 x.op x.status x.code x.tag x.n x.seq x.key x.full x.sum [] x.keys))), (AV.agg [(AV.int .i64 0), (AV.int .i64 0), (AV.int .i64 0), (AV.int .i64 0), (AV.int .i64 0), (AV.int .i64 0), (AV.int .i64 0), (AV.str ⟨#[]⟩), (AV.str ⟨#[]⟩), (AV.bool false), (AV.int .u32 0), (AV.sl .nil 0 []), (AV.sl .nil 0 [])])]) (args' := [(AV.agg [(AV.int .i64 0), (AV.int .i64 x.op), (AV.int .i64 x.status), (AV.int .i64 x.code), (AV.int .i64 x.tag), (AV.int .i64 x.n), (AV.int .i64 x.seq), (AV.str x.key.app), (AV.str x.key.id), (AV.bool x.full), (AV.int .u32 x.sum), (AV.sl .nil 0 []), (AV.sl .any 2 (List.map Key.row x.keys))]), (AV.agg [(AV.int .i64 0), (AV.int .i64 0), (AV.int .i64 0), (AV.int .i64 0), (AV.int .i64 0), (AV.int .i64 0), (AV.int .i64 0), (AV.str ⟨#[]⟩), (AV.str ⟨#[]⟩), (AV.bool false), (AV.int .u32 0), (AV.sl .nil 0 []), (AV.sl .nil 0 [])])]) (msameG_at (Msg.mk 0 x.op x.status x.code x.tag x.n x.seq x.key x.full x.sum [] x.keys)  (Wr_1 x)) ⟨⟨AV.wk_refl_any _, AV.wk_refl_any _, AV.wk_refl_any _, AV.wk_refl_any _, AV.wk_refl_any _, AV.wk_refl_any _, AV.wk_refl_any _, AV.wk_refl_any _, AV.wk_refl_any _, AV.wk_refl_any _, AV.wk_refl_any _, ⟨rfl, rfl, .inr rfl⟩, ⟨rfl, rfl, .inl rfl⟩, trivial⟩, ⟨AV.wk_refl_any _, AV.wk_refl_any _, AV.wk_refl_any _, AV.wk_refl_any _, AV.wk_refl_any _, AV.wk_refl_any _, AV.wk_refl_any _, AV.wk_refl_any _, AV.wk_refl_any _, AV.wk_refl_any _, AV.wk_refl_any _, ⟨rfl, rfl, .inl rfl⟩, ⟨rfl, rfl, .inl rfl⟩, trivial⟩, trivial⟩) (.g (.f 0 (AV.bool (sameZ (Msg.mk 0 x.op x.status x.code x.tag x.n x.seq x.key x.full x.sum [] x.keys))) (.e (AV.bool (sameZ (Msg.mk 0 x.op x.status x.code x.tag x.n x.seq x.key x.full x.sum [] x.keys))) (by
        try delta Wr_1 Wr_2 Wr_3
        simp only [zeroM]
        simp_all))))))))))) (fun h4 h4' => (.r (.g (.two (x.kind == 5) (fun h5 h5' => (.r (.g (.r (.g (.r (.c 2 (ACalls.pre (args := [(AV.agg (Msg.row (Msg.mk 0 x.op x.status x.code x.tag x.n x.seq x.key x.full x.sum x.cards []))), (AV.agg [(AV.int .i64 0), (AV.int .i64 0), (AV.int .i64 0), (AV.int .i64 0), (AV.int .i64 0), (AV.int .i64 0), (AV.int .i64 0), (AV.str ⟨#[]⟩), (AV.str ⟨#[]⟩), (AV.bool false), (AV.int .u32 0), (AV.sl .nil 0 []), (AV.sl .nil 0 [])])]) (args' := [(AV.agg [(AV.int .i64 0), (AV.int .i64 x.op), (AV.int .i64 x.status), (AV.int .i64 x.code), (AV.int .i64 x.tag), (AV.int .i64 x.n), (AV.int .i64 x.seq), (AV.str x.key.app), (AV.str x.key.id), (AV.bool x.full), (AV.int .u32 x.sum), (AV.sl .any 9 (List.map Card.row x.cards)), (AV.sl .nil 0 [])]), (AV.agg [(AV.int .i64 0), (AV.int .i64 0), (AV.int .i64 0), (AV.int .i64 0), (AV.int .i64 0), (AV.int .i64 0), (AV.int .i64 0), (AV.str ⟨#[]⟩), (AV.str ⟨#[]⟩), (AV.bool false), (AV.int .u32 0), (AV.sl .nil 0 []), (AV.sl .nil 0 [])])]) (msameG_at (Msg.mk 0 x.op x.status x.code x.tag x.n x.seq x.key x.full x.sum x.cards [])  (Wr_2 x)) ⟨⟨AV.wk_refl_any _, AV.wk_refl_any _, AV.wk_refl_any _, AV.wk_refl_any _, AV.wk_refl_any _, AV.wk_refl_any _, AV.wk_refl_any _, AV.wk_refl_any _, AV.wk_refl_any _, AV.wk_refl_any _, AV.wk_refl_any _, ⟨rfl, rfl, .inl rfl⟩, ⟨rfl, rfl, .inr rfl⟩, trivial⟩, ⟨AV.wk_refl_any _, AV.wk_refl_any _, AV.wk_refl_any _, AV.wk_refl_any _, AV.wk_refl_any _, AV.wk_refl_any _, AV.wk_refl_any _, AV.wk_refl_any _, AV.wk_refl_any _, AV.wk_refl_any _, AV.wk_refl_any _, ⟨rfl, rfl, .inl rfl⟩, ⟨rfl, rfl, .inl rfl⟩, trivial⟩, trivial⟩) (.g (.f 0 (AV.bool (sameZ (Msg.mk 0 x.op x.status x.code x.tag x.n x.seq x.key x.full x.sum x.cards []))) (.e (AV.bool (sameZ (Msg.mk 0 x.op x.status x.code x.tag x.n x.seq x.key x.full x.sum x.cards []))) (by
        try delta Wr_1 Wr_2 Wr_3
        simp only [zeroM]
        simp_all))))))))))) (fun h5 h5' => (.r (.g (.r (.c 2 (ACalls.pre (args := [(AV.agg (Msg.row (Msg.mk 0 x.op x.status x.code x.tag x.n x.seq x.key x.full x.sum x.cards x.keys))), (AV.agg [(AV.int .i64 0), (AV.int .i64 0), (AV.int .i64 0), (AV.int .i64 0), (AV.int .i64 0), (AV.int .i64 0), (AV.int .i64 0), (AV.str ⟨#[]⟩), (AV.str ⟨#[]⟩), (AV.bool false), (AV.int .u32 0), (AV.sl .nil 0 []), (AV.sl .nil 0 [])])]) (args' := [(AV.agg [(AV.int .i64 0), (AV.int .i64 x.op), (AV.int .i64 x.status), (AV.int .i64 x.code), (AV.int .i64 x.tag), (AV.int .i64 x.n), (AV.int .i64 x.seq), (AV.str x.key.app), (AV.str x.key.id), (AV.bool x.full), (AV.int .u32 x.sum), (AV.sl .any 9 (List.map Card.row x.cards)), (AV.sl .any 2 (List.map Key.row x.keys))]), (AV.agg [(AV.int .i64 0), (AV.int .i64 0), (AV.int .i64 0), (AV.int .i64 0), (AV.int .i64 0), (AV.int .i64 0), (AV.int .i64 0), (AV.str ⟨#[]⟩), (AV.str ⟨#[]⟩), (AV.bool false), (AV.int .u32 0), (AV.sl .nil 0 []), (AV.sl .nil 0 [])])]) (msameG_at (Msg.mk 0 x.op x.status x.code x.tag x.n x.seq x.key x.full x.sum x.cards x.keys)  (Wr_3 x)) ⟨⟨AV.wk_refl_any _, AV.wk_refl_any _, AV.wk_refl_any _, AV.wk_refl_any _, AV.wk_refl_any _, AV.wk_refl_any _, AV.wk_refl_any _, AV.wk_refl_any _, AV.wk_refl_any _, AV.wk_refl_any _, AV.wk_refl_any _, ⟨rfl, rfl, .inl rfl⟩, ⟨rfl, rfl, .inl rfl⟩, trivial⟩, ⟨AV.wk_refl_any _, AV.wk_refl_any _, AV.wk_refl_any _, AV.wk_refl_any _, AV.wk_refl_any _, AV.wk_refl_any _, AV.wk_refl_any _, AV.wk_refl_any _, AV.wk_refl_any _, AV.wk_refl_any _, AV.wk_refl_any _, ⟨rfl, rfl, .inl rfl⟩, ⟨rfl, rfl, .inl rfl⟩, trivial⟩, trivial⟩) (.g (.f 0 (AV.bool (sameZ (Msg.mk 0 x.op x.status x.code x.tag x.n x.seq x.key x.full x.sum x.cards x.keys))) (.e (AV.bool (sameZ (Msg.mk 0 x.op x.status x.code x.tag x.n x.seq x.key x.full x.sum x.cards x.keys))) (by
        try delta Wr_1 Wr_2 Wr_3
        simp only [zeroM]
        simp_all))))))))))))))) (fun h3 h3' => (.r (.g (.two (x.kind == 4) (fun h4 h4' => (.r (.g (.r (.g (.r (.c 2 (ACalls.pre (args := [(AV.agg (Msg.row (Msg.mk 0 x.op x.status x.code x.tag x.n x.seq x.key x.full x.sum [] x.keys))), (AV.agg [(AV.int .i64 0), (AV.int .i64 0), (AV.int .i64 0), (AV.int .i64 0), (AV.int .i64 0), (AV.int .i64 0), (AV.int .i64 0), (AV.str ⟨#[]⟩), (AV.str ⟨#[]⟩), (AV.bool false), (AV.int .u32 0), (AV.sl .nil 0 []), (AV.sl .nil 0 [])])]) (args' := [(AV.agg [(AV.int .i64 0), (AV.int .i64 x.op), (AV.int .i64 x.status), (AV.int .i64 x.code), (AV.int .i64 x.tag), (AV.int .i64 x.n), (AV.int .i64 x.seq), (AV.str x.key.app), (AV.str x.key.id), (AV.bool x.full), (AV.int .u32 x.sum), (AV.sl .nil 0 []), (AV.sl .any 2 (List.map Key.row x.keys))]), (AV.agg [(AV.int .i64 0), (AV.int .i64 0), (AV.int .i64 0), (AV.int .i64 0), (AV.int .i64 0), (AV.int .i64 0), (AV.int .i64 0), (AV.str ⟨#[]⟩), (AV.str ⟨#[]⟩), (AV.bool false), (AV.int .u32 0), (AV.sl .nil 0 []), (AV.sl .nil 0 [])])]) (msameG_at (Msg.mk 0 x.op x.status x.code x.tag x.n x.seq x.key x.full x.sum [] x.keys)  (Wr_1 x)) ⟨⟨AV.wk_refl_any _, AV.wk_refl_any _, AV.wk_refl_any _, AV.wk_refl_any _, AV.wk_refl_any _, AV.wk_refl_any _, AV.wk_refl_any _, AV.wk_refl_any _, AV.wk_refl_any _, AV.wk_refl_any _, AV.wk_refl_any _, ⟨rfl, rfl, .inr rfl⟩, ⟨rfl, rfl, .inl rfl⟩, trivial⟩, ⟨AV.wk_refl_any _, AV.wk_refl_any _, AV.wk_refl_any _, AV.wk_refl_any _, AV.wk_refl_any _, AV.wk_refl_any _, AV.wk_refl_any _, AV.wk_refl_any _, AV.wk_refl_any _, AV.wk_refl_any _, AV.wk_refl_any _, ⟨rfl, rfl, .inl rfl⟩, ⟨rfl, rfl, .inl rfl⟩, trivial⟩, trivial⟩) (.g (.f 0 (AV.bool (sameZ (Msg.mk 0 x.op x.status x.code x.tag x.n x.seq x.key x.full x.sum [] x.keys))) (.e (AV.bool (sameZ (Msg.mk 0 x.op x.status x.code x.tag x.n x.seq x.key x.full x.sum [] x.keys))) (by
        try delta Wr_1 Wr_2 Wr_3
        simp only [zeroM]
        simp_all))))))))))) (fun h4 h4' => (.r (.g (.two (x.kind == 5) (fun h5 h5' => (.r (.g (.r (.g (.r (.c 2 (ACalls.pre (args := [(AV.agg (Msg.row (Msg.mk 0 x.op x.status x.code x.tag x.n x.seq x.key x.full x.sum x.cards []))), (AV.agg [(AV.int .i64 0), (AV.int .i64 0), (AV.int .i64 0), (AV.int .i64 0), (AV.int .i64 0), (AV.int .i64 0), (AV.int .i64 0), (AV.str ⟨#[]⟩), (AV.str ⟨#[]⟩), (AV.bool false), (AV.int .u32 0), (AV.sl .nil 0 []), (AV.sl .nil 0 [])])]) (args' := [(AV.agg [(AV.int .i64 0), (AV.int .i64 x.op), (AV.int .i64 x.status), (AV.int .i64 x.code), (AV.int .i64 x.tag), (AV.int .i64 x.n), (AV.int .i64 x.seq), (AV.str x.key.app), (AV.str x.key.id), (AV.bool x.full), (AV.int .u32 x.sum), (AV.sl .any 9 (List.map Card.row x.cards)), (AV.sl .nil 0 [])]), (AV.agg [(AV.int .i64 0), (AV.int .i64 0), (AV.int .i64 0), (AV.int .i64 0), (AV.int .i64 0), (AV.int .i64 0), (AV.int .i64 0), (AV.str ⟨#[]⟩), (AV.str ⟨#[]⟩), (AV.bool false), (AV.int .u32 0), (AV.sl .nil 0 []), (AV.sl .nil 0 [])])]) (msameG_at (Msg.mk 0 x.op x.status x.code x.tag x.n x.seq x.key x.full x.sum x.cards [])  (Wr_2 x)) ⟨⟨AV.wk_refl_any _, AV.wk_refl_any _, AV.wk_refl_any _, AV.wk_refl_any _, AV.wk_refl_any _, AV.wk_refl_any _, AV.wk_refl_any _, AV.wk_refl_any _, AV.wk_refl_any _, AV.wk_refl_any _, AV.wk_refl_any _, ⟨rfl, rfl, .inl rfl⟩, ⟨rfl, rfl, .inr rfl⟩, trivial⟩, ⟨AV.wk_refl_any _, AV.wk_refl_any _, AV.wk_refl_any _, AV.wk_refl_any _, AV.wk_refl_any _, AV.wk_refl_any _, AV.wk_refl_any _, AV.wk_refl_any _, AV.wk_refl_any _, AV.wk_refl_any _, AV.wk_refl_any _, ⟨rfl, rfl, .inl rfl⟩, ⟨rfl, rfl, .inl rfl⟩, trivial⟩, trivial⟩) (.g (.f 0 (AV.bool (sameZ (Msg.mk 0 x.op x.status x.code x.tag x.n x.seq x.key x.full x.sum x.cards []))) (.e (AV.bool (sameZ (Msg.mk 0 x.op x.status x.code x.tag x.n x.seq x.key x.full x.sum x.cards []))) (by
        try delta Wr_1 Wr_2 Wr_3
        simp only [zeroM]
        simp_all))))))))))) (fun h5 h5' => (.r (.g (.r (.c 2 (ACalls.pre (args := [(AV.agg (Msg.row (Msg.mk 0 x.op x.status x.code x.tag x.n x.seq x.key x.full x.sum x.cards x.keys))), (AV.agg [(AV.int .i64 0), (AV.int .i64 0), (AV.int .i64 0), (AV.int .i64 0), (AV.int .i64 0), (AV.int .i64 0), (AV.int .i64 0), (AV.str ⟨#[]⟩), (AV.str ⟨#[]⟩), (AV.bool false), (AV.int .u32 0), (AV.sl .nil 0 []), (AV.sl .nil 0 [])])]) (args' := [(AV.agg [(AV.int .i64 0), (AV.int .i64 x.op), (AV.int .i64 x.status), (AV.int .i64 x.code), (AV.int .i64 x.tag), (AV.int .i64 x.n), (AV.int .i64 x.seq), (AV.str x.key.app), (AV.str x.key.id), (AV.bool x.full), (AV.int .u32 x.sum), (AV.sl .any 9 (List.map Card.row x.cards)), (AV.sl .any 2 (List.map Key.row x.keys))]), (AV.agg [(AV.int .i64 0), (AV.int .i64 0), (AV.int .i64 0), (AV.int .i64 0), (AV.int .i64 0), (AV.int .i64 0), (AV.int .i64 0), (AV.str ⟨#[]⟩), (AV.str ⟨#[]⟩), (AV.bool false), (AV.int .u32 0), (AV.sl .nil 0 []), (AV.sl .nil 0 [])])]) (msameG_at (Msg.mk 0 x.op x.status x.code x.tag x.n x.seq x.key x.full x.sum x.cards x.keys)  (Wr_3 x)) ⟨⟨AV.wk_refl_any _, AV.wk_refl_any _, AV.wk_refl_any _, AV.wk_refl_any _, AV.wk_refl_any _, AV.wk_refl_any _, AV.wk_refl_any _, AV.wk_refl_any _, AV.wk_refl_any _, AV.wk_refl_any _, AV.wk_refl_any _, ⟨rfl, rfl, .inl rfl⟩, ⟨rfl, rfl, .inl rfl⟩, trivial⟩, ⟨AV.wk_refl_any _, AV.wk_refl_any _, AV.wk_refl_any _, AV.wk_refl_any _, AV.wk_refl_any _, AV.wk_refl_any _, AV.wk_refl_any _, AV.wk_refl_any _, AV.wk_refl_any _, AV.wk_refl_any _, AV.wk_refl_any _, ⟨rfl, rfl, .inl rfl⟩, ⟨rfl, rfl, .inl rfl⟩, trivial⟩, trivial⟩) (.g (.f 0 (AV.bool (sameZ (Msg.mk 0 x.op x.status x.code x.tag x.n x.seq x.key x.full x.sum x.cards x.keys))) (.e (AV.bool (sameZ (Msg.mk 0 x.op x.status x.code x.tag x.n x.seq x.key x.full x.sum x.cards x.keys))) (by
        try delta Wr_1 Wr_2 Wr_3
        simp only [zeroM]
        simp_all))))))))))))))))))))))))))))))))
theorem mzero_at (x:Msg)  (H:Heap):ACalls Try.prog 25 [(.agg (Msg.row x))] H ((AV.bool (zeroM x)),H):=(mzero_spec x ).lift kr kr H
def masked_ann:Ann:={ refs:=[1],fin:=some 0 }
theorem masked_spec (x : Msg)  : ACalls Try.prog 46 [(.agg (Msg.row x))] ([] : Heap) ((AV.bool (decide (x.kind = 1 ∨ x.kind = 2))), ([] : Heap)) :=
  specO (fn := Try.f46) (ann := masked_ann) (Has.o Try.func46) (.r (.g (.r (.two (x.kind == 1) (fun h1 h1' => (.yes (.yes (.g (.f 0 (AV.bool true) (.e (AV.bool true) (by
        simp_all
        all_goals first | done | rfl | (intros; omega)))))))) (fun h1 h1' => (.no (.no (.g (.f 0 (AV.bool (x.kind == 2)) (.e (AV.bool (x.kind == 2)) (by
        simp_all
        all_goals first | done | rfl | (intros; omega))))))))))))
theorem masked_at (x:Msg)  (H:Heap):ACalls Try.prog 46 [(.agg (Msg.row x))] H ((AV.bool (decide (x.kind=1∨x.kind=2))),H):=(masked_spec x ).lift kr kr H
def mnames_ann:Ann:={ refs:=[1],fin:=some 0 }
theorem mnames_spec (k : Key)  : ACalls Try.prog 33 [(.agg (Key.row k))] ([] : Heap) ((AV.bool (namesK k)), ([] : Heap)) :=
  specO (fn := Try.f33) (ann := mnames_ann) (Has.o Try.func33) (.r (.g (.r (.c 2 (name_at k.app  ([] : Heap)) (.two (nameB k.app) (fun h1 h1' => (.yes (.yes (.c 6 (name_at k.id  ([] : Heap)) (.g (.f 0 (AV.bool (nameB k.id)) (.e (AV.bool (nameB k.id)) (by
        simp only [namesK]
        simp_all)))))))) (fun h1 h1' => (.no (.no (.g (.f 0 (AV.bool false) (.e (AV.bool false) (by
        simp only [namesK]
        simp_all))))))))))))
theorem mnames_at (k:Key)  (H:Heap):ACalls Try.prog 33 [(.agg (Key.row k))] H ((AV.bool (namesK k)),H):=(mnames_spec k ).lift kr kr H
def mop_ann:Ann:={ refs:=[1],fin:=some 0 }
theorem mop_spec (x : Msg)  : ACalls Try.prog 26 [(.agg (Msg.row x))] ([] : Heap) ((AV.bool (opM x)), ([] : Heap)) :=
  specO (fn := Try.f26) (ann := mop_ann) (Has.o Try.func26) (.r (.g (.r (.c 1 (masked_at x  ([] : Heap)) (.g (.two (!(decide (x.kind = 1 ∨ x.kind = 2))) (fun h1 h1' => (.r (.g (.f 0 (AV.bool true) (.e (AV.bool true) (by
        simp only [opM]
        simp_all
        all_goals first | done | rfl | (intros; omega))))))) (fun h1 h1' => (.r (.g (.two (x.op == 5) (fun h2 h2' => (.r (.g (.f 0 (AV.bool (Key.eqb x.key (Key.mk (ByteArray.mk #[]) (ByteArray.mk #[])))) (.e (AV.bool (Key.eqb x.key (Key.mk (ByteArray.mk #[]) (ByteArray.mk #[])))) (by
        simp only [opM]
        simp_all
        all_goals first | done | rfl | (intros; omega))))))) (fun h2 h2' => (.r (.two (decide (x.op ≥ 1)) (fun h3 h3' => (.yes (.yes (.two (decide (x.op < 5)) (fun h4 h4' => (.yes (.yes (.c 11 (mnames_at x.key  ([] : Heap)) (.g (.f 0 (AV.bool (namesK x.key)) (.e (AV.bool (namesK x.key)) (by
        simp only [opM]
        simp_all
        all_goals first | done | rfl | (intros; omega))))))))) (fun h4 h4' => (.no (.no (.g (.f 0 (AV.bool false) (.e (AV.bool false) (by
        simp only [opM]
        simp_all
        all_goals first | done | rfl | (intros; omega)))))))))))) (fun h3 h3' => (.no (.no (.no (.no (.no (.g (.f 0 (AV.bool false) (.e (AV.bool false) (by
        simp only [opM]
        simp_all
        all_goals first | done | rfl | (intros; omega))))))))))))))))))))))))
theorem mop_at (x:Msg)  (H:Heap):ACalls Try.prog 26 [(.agg (Msg.row x))] H ((AV.bool (opM x)),H):=(mop_spec x ).lift kr kr H
def mwithin_ann:Ann:={ fin:=some 0 }
theorem mwithin_spec (n : Int)  : ACalls Try.prog 27 [(.int .i64 n)] ([] : Heap) ((AV.bool (withB n)), ([] : Heap)) :=
  specO (fn := Try.f27) (ann := mwithin_ann) (Has.o Try.func27) (.r (.g (.r (.two (decide (n ≥ 0)) (fun h1 h1' => (.yes (.g (.f 0 (AV.bool (decide (n ≤ 255))) (.e (AV.bool (decide (n ≤ 255))) (by
        simp only [withB]
        simp_all
        all_goals first | done | rfl | (intros; omega))))))) (fun h1 h1' => (.no (.g (.f 0 (AV.bool false) (.e (AV.bool false) (by
        simp only [withB]
        simp_all
        all_goals first | done | rfl | (intros; omega)))))))))))
theorem mwithin_at (n:Int)  (H:Heap):ACalls Try.prog 27 [(.int .i64 n)] H ((AV.bool (withB n)),H):=(mwithin_spec n ).lift kr kr H
attribute [local irreducible] zeroM opM withB namesK
def mbadK_ann:Ann:={ refs:=[1],fin:=some 0 }
theorem mbadK_spec (k:Key) :ACalls Try.prog 32 [(.agg (Key.row k))] ([]:Heap) ((AV.bool (!(namesK k))),([]:Heap)) :=
 specO (fn:=Try.f32) (ann:=mbadK_ann) (Has.o Try.func32) (.r (.g (.r (.c 1 (mnames_at k  ([]:Heap)) (.g (.f 0 (AV.bool (!(namesK k))) (.e (AV.bool (!(namesK k))))))))))
theorem mbadK_at (k:Key)  (H:Heap):ACalls Try.prog 32 [(.agg (Key.row k))] H ((AV.bool (!(namesK k))),H):=(mbadK_spec k ).lift kr kr H
def mixK_ann:Ann:={ fin:=some 0,live:=[(2,[0,1,7,8])],out:=[(2,[0,1,7,8])] }
@[simp] abbrev Wr_4 (v1_:List Key) (v2_:Nat):Fr:=(mkF 19 [(0,(AV.sl .any 2 (List.map Key.row v1_))),(1,(AV.func 32 [])),(7,(AV.int .i64 ((v1_.length:Nat):Int))),(8,(AV.int .i64 ((v2_:Nat):Int)))])
theorem mixK_step (l:List Key)  (i:Nat) (hl:l.length < 1099511627776) (hle_:i≤l.length) {eX:Ex} {FX:Fr} {HX:Heap} (k1:(decide (((i:Nat):Int) < ((l.length:Nat):Int)))=true→(!(namesK (nth l i)))=true→((.ret:Ex),(Wr_4 l i),([]:Heap))=(eX,FX,HX)) (k2:(decide (((i:Nat):Int) < ((l.length:Nat):Int)))=true→(!(namesK (nth l i)))=false→LoopTo (codeQ Try.prog (X mixK_ann) (loopOf Try.f50 0)) (some [0,1,7,8]) (some [0,1,7,8]) (mkF 19 [(0,(.sl .any 2 (List.map Key.row l))),(1,(.func 32 [])),(7,(.int .i64 ((l.length:Nat):Int))),(8,(.int .i64 ((i+1:Nat):Int)))]) ([]:Heap) eX FX HX) (k3:(decide (((i:Nat):Int) < ((l.length:Nat):Int)))=false→((.exit 0:Ex),(Wr_4 l i),([]:Heap))=(eX,FX,HX)):LoopTo (codeQ Try.prog (X mixK_ann) (loopOf Try.f50 0)) (some [0,1,7,8]) (some [0,1,7,8]) (Wr_4 l i) ([]:Heap) eX FX HX :=
 stepO (.r (.g (.two (decide (((i:Nat):Int) < ((l.length:Nat):Int))) (fun h1 h1'=>(.r (.g (.r (.is 3 2 2 (List.map Key.row l) ((i:Nat):Int) (Key.row (nth l i)) (IdxSl.mk _ ow ow) (.c 5 (mbadK_at (nth l i)  ([]:Heap)) (.g (.two (!(namesK (nth l i))) (fun h2 h2'=>(.r (.g (.l (k1 h1 h2))))) (fun h2 h2'=>(.r (.y 0 (.int .i64 (IntKind.i64.wrap (((i:Nat):Int)+1))) (AV.int .i64 ((i+1:Nat):Int)) (Yes.add ow ow ow) (.g (.l (k2 h1 h2)))))))))))))) (fun h1 h1'=>(.l (k3 h1))))))
def mixK_f (l:List Key) (i:Nat) (s:Unit):Unit:=()
def mixK_bad (l:List Key)  (i:Nat):Prop:=(((decide (((i:Nat):Int) < ((l.length:Nat):Int)))=true)∧((!(namesK (nth l i)))=true))
@[simp] abbrev Wr_5 (v1_:List Key):Fr:=(mkF 19 [(0,(AV.sl .any 2 (List.map Key.row v1_))),(1,(AV.func 32 [])),(7,(AV.int .i64 ((v1_.length:Nat):Int))),(8,(AV.int .i64 ((v1_.length:Nat):Int)))])
theorem mixK_loop (l:List Key) (hl:l.length < 1099511627776)  (hbad:∀ (i:Nat),i < l.length→¬ mixK_bad l  i) (r_:Nat):∀  (i:Nat) (sF:Unit),i+r_=l.length→()=(iter (mixK_f l) i 0 ())→sF=iter (mixK_f l) r_ i () →
 LoopTo (codeQ Try.prog (X mixK_ann) (loopOf Try.f50 0)) (some [0,1,7,8]) (some [0,1,7,8]) (Wr_4 l i) ([]:Heap) (.exit 0) (Wr_5 l) ([]:Heap):=by
 induction r_ with
 | zero =>
  intro  i sF hi_  hs_ hF
  obtain rfl:l.length=i:=by omega
  have e_:sF=():=hF
  refine mixK_step l  l.length hl (Nat.le_refl _) (fun h _=>by simp at h <;> omega) (fun h _=>by simp at h <;> omega) (fun _=>?_)
  first | done | rfl | (rw [e_]; done) | (rw [e_]; rfl)
 | succ r_ ih =>
  intro  i sF hi_  hs_ hF
  refine mixK_step l  i hl ow (fun h1 h2=>?_) (fun h1 h2=>?_) (fun h=>by simp at h <;> omega)
  · exact False.elim (by
     have hb_:=hbad i ow
     try rw [← hs_] at hb_
     exact hb_ (⟨h1,h2⟩))
  · exact ih  (i+1) sF ow  (by rw [iter_succ,← hs_] <;> simp only [mixK_f,h2,if_true,Bool.false_eq_true,if_false]) (by rw [hF] <;> simp only [iter,mixK_f,h2,if_true,Bool.false_eq_true,if_false])
theorem mixK_spec (l:List Key) (hl:l.length < 1099511627776) (hr:∀ k∈l,namesK k=true):ACalls Try.prog 50 [(.sl .any 2 (List.map Key.row l)),(.func 32 [])] ([]:Heap) ((AV.int .i64 (-1)),([]:Heap)) :=
 specO (fn:=Try.f50) (ann:=mixK_ann) (Has.o Try.func50) (.r (.g (.r (.y 1 (.int .i64 ((List.length (List.map Key.row l):Nat):Int)) (AV.int .i64 ((l.length:Nat):Int)) (Yes.len _ _ _) (.g (.loop (Wr_5 l) (show LoopTo (codeQ Try.prog (X mixK_ann) (loopOf Try.f50 0)) (some [0,1,7,8]) (some [0,1,7,8]) (mkF 19 [(0,(.sl .any 2 (List.map Key.row l))),(1,(.func 32 [])),(7,(.int .i64 ((l.length:Nat):Int))),(8,(.int .i64 0))]) ([]:Heap) (.exit 0) (Wr_5 l) ([]:Heap) from (mixK_loop l hl (fun i hi=>by simp only [mixK_bad]; rw [hr _ (nth_mem hi)]; simp) l.length 0 () ow rfl rfl)) (.r (.g (.f 0 (AV.int .i64 (-1)) (.e (AV.int .i64 (-1))))))))))))
theorem mixK_at (l:List Key) (hl:l.length < 1099511627776) (hr:∀ k∈l,namesK k=true) (H:Heap):ACalls Try.prog 50 [(.sl .any 2 (List.map Key.row l)),(.func 32 [])] H ((AV.int .i64 (-1)),H):=(mixK_spec l hl hr).lift kr kr H
def mcontK_ann:Ann:={ fin:=some 0 }
theorem mcontK_spec (l:List Key) (hl:l.length < 1099511627776) (hr:∀ k∈l,namesK k=true):ACalls Try.prog 31 [(.sl .any 2 (List.map Key.row l)),(.func 32 [])] ([]:Heap) ((AV.bool false),([]:Heap)) :=
 specO (fn:=Try.f31) (ann:=mcontK_ann) (Has.o Try.func31) (.r (.g (.r (.c 2 (mixK_at l oa oa ([]:Heap)) (.g (.f 0 (AV.bool false) (.e (AV.bool false))))))))
theorem mcontK_at (l:List Key) (hl:l.length < 1099511627776) (hr:∀ k∈l,namesK k=true) (H:Heap):ACalls Try.prog 31 [(.sl .any 2 (List.map Key.row l)),(.func 32 [])] H ((AV.bool false),H):=(mcontK_spec l hl hr).lift kr kr H
theorem msgR_all {x:Msg} (h:msgR x=true):(1≤x.kind∧x.kind≤5)∧zeroM x=true∧opM x=true∧withB x.code=true∧withB x.status=true∧-1≤x.seq∧x.cards.length≤64∧x.keys.length≤64∧(∀ c∈x.cards,cardR c=true)∧∀ k∈x.keys,namesK k=true:=by
 simp only [msgR,Bool.and_eq_true,decide_eq_true_eq,List.all_eq_true] at h
 obtain ⟨⟨a1,a2⟩,a3,a4,⟨a5,a6,a7⟩,⟨a8,a9⟩,a10,a11⟩:=h
 exact ⟨⟨a1,a2⟩,a3,a4,a5,a6,a7,a8,a9,a10,a11⟩
def mrightG_ann:Ann:={ refs:=[1],fin:=some 0 }
theorem mrightG_spec (x:Msg) (h:msgR x=true):ACalls Try.prog 16 [(.agg (Msg.row x))] ([]:Heap) (AV.nili,([]:Heap)):=by
 obtain ⟨⟨a1,a2⟩,a3,a4,a5,a6,a7,a8,a9,a10,a11⟩:=msgR_all h
 exact specO (fn:=Try.f16) (ann:=mrightG_ann) (Has.o Try.func16) (.r (.g (.r (.y 2 (AV.bool (decide (x.kind < 1))) (AV.bool false) (Yes.bool (by simp; omega)) (.no (.no (.no (.y 6 (AV.bool (decide (x.kind > 5))) (AV.bool false) (Yes.bool (by simp; omega)) (.g (.no (.r (.c 1 (mzero_at x  ([]:Heap)) (.y 2 (AV.bool (!(zeroM x))) (AV.bool false) (Yes.bool (by rw [a3]; rfl)) (.g (.no (.r (.c 1 (mop_at x  ([]:Heap)) (.y 2 (AV.bool (!(opM x))) (AV.bool false) (Yes.bool (by rw [a4]; rfl)) (.g (.no (.r (.c 2 (mwithin_at x.code  ([]:Heap)) (.y 3 (AV.bool (!(withB x.code))) (AV.bool false) (Yes.bool (by rw [a5]; rfl)) (.no (.no (.no (.c 7 (mwithin_at x.status  ([]:Heap)) (.no (.y 8 (AV.bool (!(withB x.status))) (AV.bool false) (Yes.bool (by rw [a6]; rfl)) (.no (.no (.no (.y 13 (AV.bool (decide (x.seq < (-1)))) (AV.bool false) (Yes.bool (by simp; omega)) (.g (.no (.r (.y 2 (.int .i64 ((List.length (List.map Card.row x.cards):Nat):Int)) (AV.int .i64 ((x.cards.length:Nat):Int)) (Yes.len _ _ _) (.y 3 (AV.bool (decide (((x.cards.length:Nat):Int) > 64))) (AV.bool false) (Yes.bool (by simp; omega)) (.no (.no (.no (.y 7 (.int .i64 ((List.length (List.map Key.row x.keys):Nat):Int)) (AV.int .i64 ((x.keys.length:Nat):Int)) (Yes.len _ _ _) (.no (.y 8 (AV.bool (decide (((x.keys.length:Nat):Int) > 64))) (AV.bool false) (Yes.bool (by simp; omega)) (.g (.no (.r (.c 2 (mcont_at x.cards oa oa ([]:Heap)) (.g (.r (.no (.no (.no (.c 4 (mcontK_at x.keys oa oa ([]:Heap)) (.g (.no (.r (.g (.f 0 AV.nili (.e AV.nili))))))))))))))))))))))))))))))))))))))))))))))))))))))))))))
theorem mrightG_at (x:Msg) (h:msgR x=true) (H:Heap):ACalls Try.prog 16 [(.agg (Msg.row x))] H (AV.nili,H):=(mrightG_spec x h).lift kr kr H
end Go.Proofs.Ytfjedpipdnlkfaa.AM

set_option maxRecDepth 100000
set_option linter.unusedVariables false
set_option linter.unusedSimpArgs false
namespace Go.Proofs.Ytfjedpipdnlkfaa.AM
open Go Go.Proofs.Ytfjedpipdnlkfaa
attribute [local irreducible] ACalls funT codeT codeQ LoopTo
attribute [local irreducible] cmpSt
def renewE (x:Entry) (now:Int):Entry:=⟨x.card,max x.seen now⟩
def cancelE (x:Entry) (s:Stamp) (now:Int):Entry:=⟨{ x.card with gone:=true,stamp:=s },now⟩
def overE (x:Entry) (o:Int) (s:Stamp):Entry:=⟨{ x.card with over:=o,stamp:=s },x.seen⟩
def regE (old:Entry) (inn:Bool) (c:Card) (now:Int):Entry:=⟨{ c with over:=if inn=true∧old.card.gone=false then old.card.over else 0,gone:=false },now⟩
def maxS (a b:Stamp):Stamp:=if cmpSt b a < 0 then a else b
def nextS (a:Stamp) (now nd:Int):Stamp:=⟨max a.t now,nd,if a.n < 9223372036854775807 then IntKind.i64.wrap (a.n+1) else a.n⟩
def lrenew_ann:Ann:={ fin:=some 0 }
@[simp] abbrev Ya_1 (v1_:Entry):Heap:=[⟨0,10,[[(AV.str ⟨#[]⟩),(AV.str ⟨#[]⟩),(AV.int .i64 0),(AV.int .i64 0),(AV.int .i64 0),(AV.int .i64 0),(AV.int .i64 0),(AV.int .i64 0),(AV.bool false),(AV.int .i64 0)]],none⟩,⟨0,10,[(Entry.row v1_)],none⟩]
theorem lrenew_spec (x : Entry) (now : Int) (hg : x.card.gone = false) : ACalls Try.prog 38 [(.agg (Entry.row x)), (.int .i64 now)] ([] : Heap) ((AV.tup [(.agg (Entry.row (renewE x now))), (.bool true)]), ([] : Heap)) :=
  specO (fn := Try.f38) (ann := lrenew_ann) (Has.o Try.func38) (.r (.g (.r (.h' (Ya_1 x) (.y 2 (AV.bool x.card.gone) (AV.bool false) (Yes.bool (hg)) (.g (.no (.r (.y 3 (.int .i64 (if now > x.seen then now else x.seen)) (AV.int .i64 (max x.seen now)) (Yes.int (by split <;> omega)) (.g (.r (.g (.h' ([] : Heap) (.f 0 (AV.tup [(AV.agg [(AV.str x.card.key.app), (AV.str x.card.key.id), (AV.int .i64 x.card.status), (AV.int .i64 x.card.over), (AV.int .i64 x.card.lease), (AV.int .i64 x.card.stamp.t), (AV.int .i64 x.card.stamp.node), (AV.int .i64 x.card.stamp.n), (AV.bool x.card.gone), (AV.int .i64 (max x.seen now))]), (AV.bool true)]) (.e (AV.tup [(AV.agg [(AV.str x.card.key.app), (AV.str x.card.key.id), (AV.int .i64 x.card.status), (AV.int .i64 x.card.over), (AV.int .i64 x.card.lease), (AV.int .i64 x.card.stamp.t), (AV.int .i64 x.card.stamp.node), (AV.int .i64 x.card.stamp.n), (AV.bool x.card.gone), (AV.int .i64 (max x.seen now))]), (AV.bool true)]) (by
        try delta Ya_1
        unfold renewE
        rfl))))))))))))))))
theorem lrenew_at (x:Entry) (now:Int) (hg:x.card.gone=false) (H:Heap):ACalls Try.prog 38 [(.agg (Entry.row x)),(.int .i64 now)] H ((AV.tup [(.agg (Entry.row (renewE x now))),(.bool true)]),H):=(lrenew_spec x now hg).lift kr kr H
def lcancel_ann:Ann:={ refs:=[4],fin:=some 0 }
theorem lcancel_spec (x:Entry) (s:Stamp) (now:Int) (hg:x.card.gone=false):ACalls Try.prog 41 [(.agg (Entry.row x)),(.agg (Stamp.row s)),(.int .i64 now)] ([]:Heap) ((AV.tup [(.agg (Entry.row (cancelE x s now))),(.bool true)]),([]:Heap)) :=
 specO (fn:=Try.f41) (ann:=lcancel_ann) (Has.o Try.func41) (.r (.g (.r (.h' (Ya_1 x) (.y 2 (AV.bool x.card.gone) (AV.bool false) (Yes.bool (hg)) (.g (.no (.r (.g (.r (.g (.h' ([]:Heap) (.f 0 (AV.tup [(AV.agg [(AV.str x.card.key.app),(AV.str x.card.key.id),(AV.int .i64 x.card.status),(AV.int .i64 x.card.over),(AV.int .i64 x.card.lease),(AV.int .i64 s.t),(AV.int .i64 s.node),(AV.int .i64 s.n),(AV.bool true),(AV.int .i64 now)]),(AV.bool true)]) (.e (AV.tup [(AV.agg [(AV.str x.card.key.app),(AV.str x.card.key.id),(AV.int .i64 x.card.status),(AV.int .i64 x.card.over),(AV.int .i64 x.card.lease),(AV.int .i64 s.t),(AV.int .i64 s.node),(AV.int .i64 s.n),(AV.bool true),(AV.int .i64 now)]),(AV.bool true)])))))))))))))))
theorem lcancel_at (x:Entry) (s:Stamp) (now:Int) (hg:x.card.gone=false) (H:Heap):ACalls Try.prog 41 [(.agg (Entry.row x)),(.agg (Stamp.row s)),(.int .i64 now)] H ((AV.tup [(.agg (Entry.row (cancelE x s now))),(.bool true)]),H):=(lcancel_spec x s now hg).lift kr kr H
def lover_ann:Ann:={ refs:=[5],fin:=some 0 }
theorem lover_spec (x : Entry) (o : Int) (s : Stamp) (hg : x.card.gone = false) (h0 : 0 ≤ o) (h3 : o ≤ 3) : ACalls Try.prog 43 [(.agg (Entry.row x)), (.int .i64 o), (.agg (Stamp.row s))] ([] : Heap) ((AV.tup [(.agg (Entry.row (overE x o s))), (.bool true)]), ([] : Heap)) :=
  specO (fn := Try.f43) (ann := lover_ann) (Has.o Try.func43) (.r (.g (.r (.two x.card.gone (fun h1 h1' => (.yes (.yes (.yes (.g (.yes (.r (.g (.f 0 (AV.tup [(AV.agg [(AV.str ⟨#[]⟩), (AV.str ⟨#[]⟩), (AV.int .i64 0), (AV.int .i64 0), (AV.int .i64 0), (AV.int .i64 0), (AV.int .i64 0), (AV.int .i64 0), (AV.bool false), (AV.int .i64 0)]), (AV.bool false)]) (.e (AV.tup [(AV.agg [(AV.str ⟨#[]⟩), (AV.str ⟨#[]⟩), (AV.int .i64 0), (AV.int .i64 0), (AV.int .i64 0), (AV.int .i64 0), (AV.int .i64 0), (AV.int .i64 0), (AV.bool false), (AV.int .i64 0)]), (AV.bool false)]) (by
        first | rfl | (exfalso; simp only [hg, decide_eq_true_eq, Bool.false_eq_true] at * <;> omega)))))))))))) (fun h1 h1' => (.no (.two (decide (o < 0)) (fun h2 h2' => (.yes (.g (.yes (.r (.g (.f 0 (AV.tup [(AV.agg [(AV.str ⟨#[]⟩), (AV.str ⟨#[]⟩), (AV.int .i64 0), (AV.int .i64 0), (AV.int .i64 0), (AV.int .i64 0), (AV.int .i64 0), (AV.int .i64 0), (AV.bool false), (AV.int .i64 0)]), (AV.bool false)]) (.e (AV.tup [(AV.agg [(AV.str ⟨#[]⟩), (AV.str ⟨#[]⟩), (AV.int .i64 0), (AV.int .i64 0), (AV.int .i64 0), (AV.int .i64 0), (AV.int .i64 0), (AV.int .i64 0), (AV.bool false), (AV.int .i64 0)]), (AV.bool false)]) (by
        first | rfl | (exfalso; simp only [hg, decide_eq_true_eq, Bool.false_eq_true] at * <;> omega)))))))))) (fun h2 h2' => (.no (.g (.two (decide (o > 3)) (fun h3 h3' => (.r (.g (.f 0 (AV.tup [(AV.agg [(AV.str ⟨#[]⟩), (AV.str ⟨#[]⟩), (AV.int .i64 0), (AV.int .i64 0), (AV.int .i64 0), (AV.int .i64 0), (AV.int .i64 0), (AV.int .i64 0), (AV.bool false), (AV.int .i64 0)]), (AV.bool false)]) (.e (AV.tup [(AV.agg [(AV.str ⟨#[]⟩), (AV.str ⟨#[]⟩), (AV.int .i64 0), (AV.int .i64 0), (AV.int .i64 0), (AV.int .i64 0), (AV.int .i64 0), (AV.int .i64 0), (AV.bool false), (AV.int .i64 0)]), (AV.bool false)]) (by
        first | rfl | (exfalso; simp only [hg, decide_eq_true_eq, Bool.false_eq_true] at * <;> omega))))))) (fun h3 h3' => (.r (.g (.r (.g (.f 0 (AV.tup [(AV.agg [(AV.str x.card.key.app), (AV.str x.card.key.id), (AV.int .i64 x.card.status), (AV.int .i64 o), (AV.int .i64 x.card.lease), (AV.int .i64 s.t), (AV.int .i64 s.node), (AV.int .i64 s.n), (AV.bool x.card.gone), (AV.int .i64 x.seen)]), (AV.bool true)]) (.e (AV.tup [(AV.agg [(AV.str x.card.key.app), (AV.str x.card.key.id), (AV.int .i64 x.card.status), (AV.int .i64 o), (AV.int .i64 x.card.lease), (AV.int .i64 s.t), (AV.int .i64 s.node), (AV.int .i64 s.n), (AV.bool x.card.gone), (AV.int .i64 x.seen)]), (AV.bool true)]) (by
        first | rfl | (exfalso; simp only [hg, decide_eq_true_eq, Bool.false_eq_true] at * <;> omega))))))))))))))))))))
theorem lover_at (x:Entry) (o:Int) (s:Stamp) (hg:x.card.gone=false) (h0:0≤o) (h3:o≤3) (H:Heap):ACalls Try.prog 43 [(.agg (Entry.row x)),(.int .i64 o),(.agg (Stamp.row s))] H ((AV.tup [(.agg (Entry.row (overE x o s))),(.bool true)]),H):=(lover_spec x o s hg h0 h3).lift kr kr H
def lreg_ann:Ann:={ refs:=[4],fin:=some 0 }
theorem lreg_spec (old : Entry) (inn : Bool) (c : Card) (now : Int)  : ACalls Try.prog 56 [(.agg (Entry.row old)), (.bool inn), (.agg (Card.row c)), (.int .i64 now)] ([] : Heap) ((AV.agg (Entry.row (regE old inn c now))), ([] : Heap)) :=
  specO (fn := Try.f56) (ann := lreg_ann) (Has.o Try.func56) (.r (.g (.r (.g (.r (.two inn (fun h1 h1' => (.yes (.yes (.yes (.g (.two (!old.card.gone) (fun h2 h2' => (.r (.g (.r (.g (.f 0 (AV.agg [(AV.str c.key.app), (AV.str c.key.id), (AV.int .i64 c.status), (AV.int .i64 old.card.over), (AV.int .i64 c.lease), (AV.int .i64 c.stamp.t), (AV.int .i64 c.stamp.node), (AV.int .i64 c.stamp.n), (AV.bool false), (AV.int .i64 now)]) (.e (AV.agg [(AV.str c.key.app), (AV.str c.key.id), (AV.int .i64 c.status), (AV.int .i64 old.card.over), (AV.int .i64 c.lease), (AV.int .i64 c.stamp.t), (AV.int .i64 c.stamp.node), (AV.int .i64 c.stamp.n), (AV.bool false), (AV.int .i64 now)]) (by
        unfold regE
        rw [if_pos ⟨h1, by simpa using h2⟩]
        rfl)))))))) (fun h2 h2' => (.r (.g (.f 0 (AV.agg [(AV.str c.key.app), (AV.str c.key.id), (AV.int .i64 c.status), (AV.int .i64 0), (AV.int .i64 c.lease), (AV.int .i64 c.stamp.t), (AV.int .i64 c.stamp.node), (AV.int .i64 c.stamp.n), (AV.bool false), (AV.int .i64 now)]) (.e (AV.agg [(AV.str c.key.app), (AV.str c.key.id), (AV.int .i64 c.status), (AV.int .i64 0), (AV.int .i64 c.lease), (AV.int .i64 c.stamp.t), (AV.int .i64 c.stamp.node), (AV.int .i64 c.stamp.n), (AV.bool false), (AV.int .i64 now)]) (by
        unfold regE
        rw [if_neg (fun q => by rw [q.2] at h2; simp at h2)]
        rfl)))))))))))) (fun h1 h1' => (.no (.no (.no (.g (.no (.r (.g (.f 0 (AV.agg [(AV.str c.key.app), (AV.str c.key.id), (AV.int .i64 c.status), (AV.int .i64 0), (AV.int .i64 c.lease), (AV.int .i64 c.stamp.t), (AV.int .i64 c.stamp.node), (AV.int .i64 c.stamp.n), (AV.bool false), (AV.int .i64 now)]) (.e (AV.agg [(AV.str c.key.app), (AV.str c.key.id), (AV.int .i64 c.status), (AV.int .i64 0), (AV.int .i64 c.lease), (AV.int .i64 c.stamp.t), (AV.int .i64 c.stamp.node), (AV.int .i64 c.stamp.n), (AV.bool false), (AV.int .i64 now)]) (by
        unfold regE
        rw [if_neg (fun q => by rw [q.1] at h1; simp at h1)]
        rfl)))))))))))))))))
theorem lreg_at (old:Entry) (inn:Bool) (c:Card) (now:Int)  (H:Heap):ACalls Try.prog 56 [(.agg (Entry.row old)),(.bool inn),(.agg (Card.row c)),(.int .i64 now)] H ((AV.agg (Entry.row (regE old inn c now))),H):=(lreg_spec old inn c now ).lift kr kr H
def snext_ann:Ann:={ refs:=[3],fin:=some 0 }
@[simp] abbrev Ya_2 :Heap:=[⟨0,3,[[(AV.int .i64 0),(AV.int .i64 0),(AV.int .i64 0)]],none⟩]
theorem snext_spec (a : Stamp) (now nd : Int)  : ACalls Try.prog 58 [(.agg (Stamp.row a)), (.int .i64 now), (.int .i64 nd)] ([] : Heap) ((AV.agg (Stamp.row (nextS a now nd))), ([] : Heap)) :=
  specO (fn := Try.f58) (ann := snext_ann) (Has.o Try.func58) (.r (.g (.r (.g (.r (.g (.two (decide (a.n < 9223372036854775807)) (fun h1 h1' => (.r (.g (.r (.h' Ya_2 (.y 3 (.int .i64 (if now > a.t then now else a.t)) (AV.int .i64 (max a.t now)) (Yes.int (by split <;> omega)) (.g (.h' ([] : Heap) (.f 0 (AV.agg [(AV.int .i64 (max a.t now)), (AV.int .i64 nd), (AV.int .i64 (IntKind.i64.wrap (a.n + 1)))]) (.e (AV.agg [(AV.int .i64 (max a.t now)), (AV.int .i64 nd), (AV.int .i64 (IntKind.i64.wrap (a.n + 1)))]) (by
        try delta Ya_2
        unfold nextS
        rw [if_pos (of_decide_eq_true h1)]
        first | done | rfl))))))))))) (fun h1 h1' => (.r (.h' Ya_2 (.y 3 (.int .i64 (if now > a.t then now else a.t)) (AV.int .i64 (max a.t now)) (Yes.int (by split <;> omega)) (.g (.h' ([] : Heap) (.f 0 (AV.agg [(AV.int .i64 (max a.t now)), (AV.int .i64 nd), (AV.int .i64 a.n)]) (.e (AV.agg [(AV.int .i64 (max a.t now)), (AV.int .i64 nd), (AV.int .i64 a.n)]) (by
        try delta Ya_2
        unfold nextS
        rw [if_neg (of_decide_eq_false h1)]
        first | done | rfl))))))))))))))))
theorem snext_at (a:Stamp) (now nd:Int)  (H:Heap):ACalls Try.prog 58 [(.agg (Stamp.row a)),(.int .i64 now),(.int .i64 nd)] H ((AV.agg (Stamp.row (nextS a now nd))),H):=(snext_spec a now nd ).lift kr kr H
theorem stamp_eq_of_eqb {a b:Stamp} (h:Stamp.eqb a b=true):a=b:=by
 cases a; cases b
 simp [Stamp.eqb] at h
 simp [h]
def smax_ann:Ann:={ refs:=[2,3],fin:=some 0 }
theorem smax_spec (a b : Stamp)  : ACalls Try.prog 59 [(.agg (Stamp.row a)), (.agg (Stamp.row b))] ([] : Heap) ((AV.agg (Stamp.row (maxS a b))), ([] : Heap)) :=
  specO (fn := Try.f59) (ann := smax_ann) (Has.o Try.func59) (.r (.g (.r (.c 2 (stLess_at b a  Ya_2) (.g (.two (decide (cmpSt b a < 0)) (fun h1 h1' => (.r (.g (.f 0 (AV.agg (Stamp.row a)) (.e (AV.agg (Stamp.row a)) (by
        try delta Ya_2
        unfold maxS
        rw [if_pos (of_decide_eq_true h1)])))))) (fun h1 h1' => (.r (.g (.two (Stamp.eqb a b) (fun h2 h2' => (.r (.g (.f 0 (AV.agg (Stamp.row a)) (.e (AV.agg (Stamp.row a)) (by
        try delta Ya_2
        unfold maxS
        rw [if_neg (of_decide_eq_false h1)]
        obtain rfl := stamp_eq_of_eqb h2
        first | done | rfl)))))) (fun h2 h2' => (.r (.g (.f 0 (AV.agg (Stamp.row b)) (.e (AV.agg (Stamp.row b)) (by
        try delta Ya_2
        unfold maxS
        rw [if_neg (of_decide_eq_false h1)]
        first | done | rfl))))))))))))))))
theorem smax_at (a b:Stamp)  (H:Heap):ACalls Try.prog 59 [(.agg (Stamp.row a)),(.agg (Stamp.row b))] H ((AV.agg (Stamp.row (maxS a b))),H):=(smax_spec a b ).lift kr kr H
def grenew_ann:Ann:={ base:=1,fin:=some 1 }
@[simp] abbrev Ya_3 (v1_:Int) (v2_:Int) (v3_:Int):Heap:=[⟨0,3,[[(AV.int .i64 v1_),(AV.int .i64 v2_),(AV.int .i64 v3_)]],none⟩]
@[simp] abbrev Ya_4 (v1_:Int) (v2_:Int) (v3_:Int):Heap:=[⟨0,3,[[(AV.int .i64 v1_),(AV.int .i64 v2_),(AV.int .i64 (min (v3_+1) 1048576))]],none⟩]
theorem grenew_spec (a b c : Int) (h1 : 0 ≤ c) (h2 : c < 4611686018427387904) : ACalls Try.prog 39 [(.obj 0 0 0 0)] (Ya_3 a b c) ((AV.tup []), (Ya_4 a b c)) :=
  specO (fn := Try.f39) (ann := grenew_ann) (Has.o Try.func39) (.r (.y 5 (.int .i64 (IntKind.i64.wrap (c + 1))) (AV.int .i64 (c + 1)) (Yes.add ow ow rfl) (.y 6 (.int .i64 (if 1048576 < (c + 1) then 1048576 else (c + 1))) (AV.int .i64 (min (c + 1) 1048576)) (Yes.int (by split <;> omega)) (.g (.h' (Ya_4 a b c) (.f 1 (AV.tup []) (.e (AV.tup []) (by
        try delta Ya_3 Ya_4
        first | rfl | (simp [Int.min_comm]; done)))))))))
end Go.Proofs.Ytfjedpipdnlkfaa.AM

set_option maxRecDepth 100000
set_option linter.unusedVariables false
set_option linter.unusedSimpArgs false
namespace Go.Proofs.Ytfjedpipdnlkfaa.AM
open Go Go.Proofs.Ytfjedpipdnlkfaa
attribute [local irreducible] ACalls funT codeT codeQ LoopTo
attribute [local irreducible] cmpSt maxS nextS setA setG putE putL putG
def dnext_ann:Ann:={ refs:=[4],base:=6,fin:=some 6 }
@[simp] abbrev Yb_o1 (v1_:Nat) (v2_:List Entry):Ob:=⟨0,2,[[(AV.int .i64 (capM 32)),(AV.osl 1 v1_ 10 0 (List.length v2_))]],none⟩
@[simp] abbrev Yb_o2 (v1_:Int) (v2_:Int) (v3_:Int):Ob:=⟨0,3,[[(AV.int .i64 v1_),(AV.int .i64 v2_),(AV.int .i64 v3_)]],none⟩
@[simp] abbrev Yb_o3 (v1_:List Key) (v2_:Nat):Ob:=⟨0,2,[[(AV.int .i64 (((List.length v1_):Nat):Int)),(AV.osl 4 v2_ 2 0 (List.length (recL v1_)))]],none⟩
@[simp] abbrev Yb_o4 (v1_:Int) (v2_:Stamp):Ob:=⟨0,7,[[(AV.int .i64 v1_),(AV.int .i64 v2_.t),(AV.int .i64 v2_.node),(AV.int .i64 v2_.n),(AV.obj 0 0 0 0),(AV.obj 2 0 0 0),(AV.obj 3 0 0 0)]],none⟩
@[simp] abbrev Yb_1 (v1_:Nat) (v2_:List Entry) (v3_:Int) (v4_:Int) (v5_:Int) (v6_:List Key) (v7_:Nat) (v8_:Int) (v9_:Stamp):Heap:=[Yb_o1 v1_ v2_,⟨v1_,10,(List.map Entry.row v2_),none⟩,Yb_o2 v3_ v4_ v5_,Yb_o3 v6_ v7_,⟨v7_,2,(List.map Key.row (recL v6_)),none⟩,Yb_o4 v8_ v9_]
@[simp] abbrev Yb_2 (v1_:Nat) (v2_:List Entry) (v3_:Int) (v4_:Int) (v5_:Int) (v6_:List Key) (v7_:Nat) (v8_:Int) (v9_:Stamp):Heap:=[Yb_o1 v1_ v2_,⟨v1_,10,(List.map Entry.row v2_),none⟩,Yb_o2 v3_ v4_ v5_,Yb_o3 v6_ v7_,⟨v7_,2,(List.map Key.row (recL v6_)),none⟩,Yb_o4 v8_ v9_,⟨0,3,[[(AV.int .i64 0),(AV.int .i64 0),(AV.int .i64 0)]],none⟩]
theorem dnext_spec (l:List Entry) (g:Nat) (al:List Key) (ga:Nat) (gf gl gt nd:Int) (st:Stamp) (c:Card) (now:Int) :ACalls Try.prog 42 [(.obj 5 0 0 0),(.agg (Card.row c)),(.int .i64 now)] (Yb_1 g l gf gl gt al ga nd st) ((AV.agg (Stamp.row (nextS (maxS st c.stamp) now nd))),(Yb_1 g l gf gl gt al ga nd st)) :=
 specO (fn:=Try.f42) (ann:=dnext_ann) (Has.o Try.func42) (.r (.g (.r (.c 6 (ACalls.pre (args:=[(AV.agg (Stamp.row st)),(AV.agg (Stamp.row c.stamp))]) (args':=[(AV.agg [(AV.int .i64 st.t),(AV.int .i64 st.node),(AV.int .i64 st.n)]),(AV.agg (Stamp.row c.stamp))]) (smax_at st c.stamp  (Yb_2 g l gf gl gt al ga nd st)) ⟨AV.wk_refl_any _,AV.wk_refl_any _,trivial⟩) (.c 12 (snext_at (maxS st c.stamp) now nd  (Yb_2 g l gf gl gt al ga nd st)) (.rd (AV.int .i64 nd) (Yb_2 g l gf gl gt al ga nd st) (.g (.f 6 (AV.agg (Stamp.row (nextS (maxS st c.stamp) now nd))) (.e (AV.agg (Stamp.row (nextS (maxS st c.stamp) now nd))))))))))))
def givC (l:List Entry) (x:Entry):List Card:=if (putE (capM 32) l x == 0)=true then [x.card] else []
def givS (l:List Entry) (x:Entry) (st:Stamp):Stamp:=if (putE (capM 32) l x == 0)=true then x.card.stamp else st
def dgiveY_ann:Ann:={ refs:=[3],gha:=[(3,.any 4 9),(5,.any 4 9)],base:=6,fin:=some 6 }
@[simp] abbrev Yb_o5 (v1_:List Entry) (v2_:Entry) (v3_:Nat):Ob:=⟨0,2,[[(AV.int .i64 (capM 32)),(AV.osl 1 (putG (capM 32) v1_ v2_ v3_) 10 0 (List.length (putL (capM 32) v1_ v2_)))]],none⟩
@[simp] abbrev Yb_o6 (v1_:List Entry) (v2_:Entry) (v3_:Nat):Ob:=⟨(putG (capM 32) v1_ v2_ v3_),10,(List.map Entry.row (putL (capM 32) v1_ v2_)),none⟩
@[simp] abbrev Yb_o7 (v1_:List Entry) (v2_:Entry) (v3_:List Key) (v4_:Nat):Ob:=⟨0,2,[[(AV.int .i64 (((List.length (setA v1_ v2_ v3_)):Nat):Int)),(AV.osl 4 (setG v1_ v2_ v4_) 2 0 (List.length (recL (setA v1_ v2_ v3_))))]],none⟩
@[simp] abbrev Yb_o8 (v1_:List Entry) (v2_:Entry) (v3_:Nat) (v4_:List Key):Ob:=⟨(setG v1_ v2_ v3_),2,(List.map Key.row (recL (setA v1_ v2_ v4_))),none⟩
@[simp] abbrev Yb_3 (v1_:List Entry) (v2_:Entry) (v3_:Nat) (v4_:Int) (v5_:Int) (v6_:Int) (v7_:List Key) (v8_:Nat) (v9_:Int):Heap:=[Yb_o5 v1_ v2_ v3_,Yb_o6 v1_ v2_ v3_,Yb_o2 v4_ v5_ v6_,Yb_o7 v1_ v2_ v7_ v8_,Yb_o8 v1_ v2_ v8_ v7_,⟨0,7,[[(AV.int .i64 v9_),(AV.int .i64 v2_.card.stamp.t),(AV.int .i64 v2_.card.stamp.node),(AV.int .i64 v2_.card.stamp.n),(AV.obj 0 0 0 0),(AV.obj 2 0 0 0),(AV.obj 3 0 0 0)]],none⟩]
@[simp] abbrev Yb_4 (v1_:List Entry) (v2_:Entry) (v3_:Nat) (v4_:Int) (v5_:Int) (v6_:Int) (v7_:List Key) (v8_:Nat) (v9_:Int) (v10_:Stamp):Heap:=[Yb_o5 v1_ v2_ v3_,Yb_o6 v1_ v2_ v3_,Yb_o2 v4_ v5_ v6_,Yb_o7 v1_ v2_ v7_ v8_,Yb_o8 v1_ v2_ v8_ v7_,Yb_o4 v9_ v10_]
theorem dgiveY_spec (l:List Entry) (g:Nat) (al:List Key) (ga:Nat) (gf gl gt nd:Int) (st:Stamp) (x:Entry) (hl:l.length < 1000) (ha:al.length < 100000) (h:((putE (capM 32) l x) == 0)=true):ACalls Try.prog 44 [(.obj 5 0 0 0),(.agg (Entry.row x))] (Yb_1 g l gf gl gt al ga nd st) ((AV.tup [(.sl .any 9 (List.map Card.row [x.card])),(.int .i64 0)]),(Yb_3 l x g gf gl gt al ga nd)) :=
 specO (fn:=Try.f44) (ann:=dgiveY_ann) (Has.o Try.func44) (.r (.g (.r (.ch 2 (Yb_4 l x g gf gl gt al ga nd st) (dset_at l g al ga gf gl gt nd st.t st.node st.n x oa oa ([]:Heap)) (.g (.r (.y 1 (AV.bool ((putE (capM 32) l x) != 0)) (AV.bool false) (Yes.bool (by have q:=eq_of_beq h; rw [q]; rfl)) (.g (.no (.r (.g (.r (.g (.h' (Yb_3 l x g gf gl gt al ga nd) (.f 6 (AV.tup [(AV.sl .any 9 [(Card.row x.card)]),(AV.int .i64 0)]) (.e (AV.tup [(AV.sl .any 9 [(Card.row x.card)]),(AV.int .i64 0)])))))))))))))))))
def dgiveN_ann:Ann:={ refs:=[3],gha:=[(3,.any 4 9),(5,.any 4 9)],base:=6,fin:=some 6 }
theorem dgiveN_spec (l:List Entry) (g:Nat) (al:List Key) (ga:Nat) (gf gl gt nd:Int) (st:Stamp) (x:Entry) (hl:l.length < 1000) (ha:al.length < 100000) (h:((putE (capM 32) l x) == 0)=false):ACalls Try.prog 44 [(.obj 5 0 0 0),(.agg (Entry.row x))] (Yb_1 g l gf gl gt al ga nd st) ((AV.tup [(.sl .any 9 (List.map Card.row ([]:List Card))),(.int .i64 (putE (capM 32) l x))]),(Yb_4 l x g gf gl gt al ga nd st)) :=
 specO (fn:=Try.f44) (ann:=dgiveN_ann) (Has.o Try.func44) (.r (.g (.r (.ch 2 (Yb_4 l x g gf gl gt al ga nd st) (dset_at l g al ga gf gl gt nd st.t st.node st.n x oa oa ([]:Heap)) (.g (.r (.y 1 (AV.bool ((putE (capM 32) l x) != 0)) (AV.bool true) (Yes.bool (by rw [bne,h]; rfl)) (.g (.yes (.r (.g (.f 6 (AV.tup [(AV.sl .any 9 []),(AV.int .i64 (putE (capM 32) l x))]) (.e (AV.tup [(AV.sl .any 9 []),(AV.int .i64 (putE (capM 32) l x))]))))))))))))))
theorem dgive_spec (l:List Entry) (g:Nat) (al:List Key) (ga:Nat) (gf gl gt nd:Int) (st:Stamp) (x:Entry) (hl:l.length < 1000) (ha:al.length < 100000):ACalls Try.prog 44 [(.obj 5 0 0 0),(.agg (Entry.row x))] ([⟨0,2,[[(.int .i64 (capM 32)),(.osl 1 g 10 0 (List.length l))]],none⟩,⟨g,10,(List.map Entry.row l),none⟩,⟨0,3,[[(.int .i64 gf),(.int .i64 gl),(.int .i64 gt)]],none⟩,⟨0,2,[[(.int .i64 (((List.length al):Nat):Int)),(.osl 4 ga 2 0 (List.length (recL al)))]],none⟩,⟨ga,2,(List.map Key.row (recL al)),none⟩,⟨0,7,[[(.int .i64 nd),(.int .i64 st.t),(.int .i64 st.node),(.int .i64 st.n),(.obj 0 0 0 0),(.obj 2 0 0 0),(.obj 3 0 0 0)]],none⟩]:Heap) ((AV.tup [(.sl .any 9 (List.map Card.row (givC l x))),(.int .i64 (putE (capM 32) l x))]),([⟨0,2,[[(.int .i64 (capM 32)),(.osl 1 (putG (capM 32) l x g) 10 0 (List.length (putL (capM 32) l x)))]],none⟩,⟨(putG (capM 32) l x g),10,(List.map Entry.row (putL (capM 32) l x)),none⟩,⟨0,3,[[(.int .i64 gf),(.int .i64 gl),(.int .i64 gt)]],none⟩,⟨0,2,[[(.int .i64 (((List.length (setA l x al)):Nat):Int)),(.osl 4 (setG l x ga) 2 0 (List.length (recL (setA l x al))))]],none⟩,⟨(setG l x ga),2,(List.map Key.row (recL (setA l x al))),none⟩,⟨0,7,[[(.int .i64 nd),(.int .i64 (givS l x st).t),(.int .i64 (givS l x st).node),(.int .i64 (givS l x st).n),(.obj 0 0 0 0),(.obj 2 0 0 0),(.obj 3 0 0 0)]],none⟩]:Heap)):=by
 unfold givC givS
 cases h:(putE (capM 32) l x == 0) with
 | true=>rw [if_pos rfl,if_pos rfl,eq_of_beq h]; exact dgiveY_spec l g al ga gf gl gt nd st x hl ha h
 | false=>rw [if_neg (by simp),if_neg (by simp)]; exact dgiveN_spec l g al ga gf gl gt nd st x hl ha h
theorem dgive_at (l:List Entry) (g:Nat) (al:List Key) (ga:Nat) (gf gl gt nd:Int) (st:Stamp) (x:Entry) (hl:l.length < 1000) (ha:al.length < 100000) (H:Heap):ACalls Try.prog 44 [(.obj 5 0 0 0),(.agg (Entry.row x))] ((Yb_1 g l gf gl gt al ga nd st)++H) ((AV.tup [(.sl .any 9 (List.map Card.row (givC l x))),(.int .i64 (putE (capM 32) l x))]),([⟨0,2,[[(.int .i64 (capM 32)),(.osl 1 (putG (capM 32) l x g) 10 0 (List.length (putL (capM 32) l x)))]],none⟩,⟨(putG (capM 32) l x g),10,(List.map Entry.row (putL (capM 32) l x)),none⟩,⟨0,3,[[(.int .i64 gf),(.int .i64 gl),(.int .i64 gt)]],none⟩,⟨0,2,[[(.int .i64 (((List.length (setA l x al)):Nat):Int)),(.osl 4 (setG l x ga) 2 0 (List.length (recL (setA l x al))))]],none⟩,⟨(setG l x ga),2,(List.map Key.row (recL (setA l x al))),none⟩,⟨0,7,[[(.int .i64 nd),(.int .i64 (givS l x st).t),(.int .i64 (givS l x st).node),(.int .i64 (givS l x st).n),(.obj 0 0 0 0),(.obj 2 0 0 0),(.obj 3 0 0 0)]],none⟩]:Heap)++H):=(dgive_spec l g al ga gf gl gt nd st x hl ha).ext kr kr ob ob kr H
def regX (q:Msg) (old:Entry) (inn:Bool) (st:Stamp) (now nd:Int):Entry:=regE old inn ⟨q.key,q.status,0,q.n,nextS (maxS st old.card.stamp) now nd,false⟩ now
def regQ (q:Msg):Prop:=1≤q.n∧q.n≤1048576∧(q.status=1∨q.status=2)
instance (q:Msg):Decidable (regQ q):=by unfold regQ; infer_instance
def dregN_ann:Ann:={ refs:=[6,7],gha:=[(2,.any 10 9)],base:=6,fin:=some 6 }
theorem dregN_spec (l:List Entry) (g:Nat) (al:List Key) (ga:Nat) (gf gl gt nd:Int) (st:Stamp) (q:Msg) (old:Entry) (inn:Bool) (now:Int) (r:¬ regQ q):ACalls Try.prog 37 [(.obj 5 0 0 0),(.agg (Msg.row q)),(.agg (Entry.row old)),(.bool inn),(.int .i64 now)] (Yb_1 g l gf gl gt al ga nd st) ((AV.tup [(.sl .any 9 (List.map Card.row ([]:List Card))),(.int .i64 1)]),(Yb_1 g l gf gl gt al ga nd st)) :=
 specO (fn:=Try.f37) (ann:=dregN_ann) (Has.o Try.func37) (.r (.g (.r (.two (decide (q.n < 1)) (fun h1 h1'=>(.yes (.yes (.yes (.yes (.yes (.yes (.yes (.g (.yes (.r (.g (.f 6 (AV.tup [(AV.sl .any 9 []),(AV.int .i64 1)]) (.e (AV.tup [(AV.sl .any 9 []),(AV.int .i64 1)]))))))))))))))) (fun h1 h1'=>(.no (.no (.two (decide (q.n > 1048576)) (fun h2 h2'=>(.yes (.yes (.yes (.yes (.g (.yes (.r (.g (.f 6 (AV.tup [(AV.sl .any 9 []),(AV.int .i64 1)]) (.e (AV.tup [(AV.sl .any 9 []),(AV.int .i64 1)])))))))))))) (fun h2 h2'=>(.no (.no (.y 11 (AV.bool (q.status != 1)) (AV.bool true) (Yes.bool (bne_iff_ne.2 (fun z=>r ⟨by have a:=of_decide_eq_false h1; omega,by have a:=of_decide_eq_false h2; omega,.inl z⟩))) (.no (.yes (.yes (.yes (.y 15 (AV.bool (q.status != 2)) (AV.bool true) (Yes.bool (bne_iff_ne.2 (fun z=>r ⟨by have a:=of_decide_eq_false h1; omega,by have a:=of_decide_eq_false h2; omega,.inr z⟩))) (.no (.g (.yes (.r (.g (.f 6 (AV.tup [(AV.sl .any 9 []),(AV.int .i64 1)]) (.e (AV.tup [(AV.sl .any 9 []),(AV.int .i64 1)])))))))))))))))))))))))))
def dregY_ann:Ann:={ refs:=[6,7],base:=6,fin:=some 6 }
@[simp] abbrev Yb_5 (v1_:Nat) (v2_:List Entry) (v3_:Int) (v4_:Int) (v5_:Int) (v6_:List Key) (v7_:Nat) (v8_:Int) (v9_:Stamp):Heap:=[Yb_o1 v1_ v2_,⟨v1_,10,(List.map Entry.row v2_),none⟩,Yb_o2 v3_ v4_ v5_,Yb_o3 v6_ v7_,⟨v7_,2,(List.map Key.row (recL v6_)),none⟩,Yb_o4 v8_ v9_,⟨0,9,[[(AV.str ⟨#[]⟩),(AV.str ⟨#[]⟩),(AV.int .i64 0),(AV.int .i64 0),(AV.int .i64 0),(AV.int .i64 0),(AV.int .i64 0),(AV.int .i64 0),(AV.bool false)]],none⟩]
@[simp] abbrev Yb_o9 (v1_:Msg) (v2_:Stamp) (v3_:Entry) (v4_:Int) (v5_:Int):Ob:=⟨0,9,[[(AV.str v1_.key.app),(AV.str v1_.key.id),(AV.int .i64 v1_.status),(AV.int .i64 0),(AV.int .i64 v1_.n),(AV.int .i64 (nextS (maxS v2_ v3_.card.stamp) v4_ v5_).t),(AV.int .i64 (nextS (maxS v2_ v3_.card.stamp) v4_ v5_).node),(AV.int .i64 (nextS (maxS v2_ v3_.card.stamp) v4_ v5_).n),(AV.bool false)]],none⟩
@[simp] abbrev Yb_6 (v1_:Nat) (v2_:List Entry) (v3_:Int) (v4_:Int) (v5_:Int) (v6_:List Key) (v7_:Nat) (v8_:Int) (v9_:Stamp) (v10_:Msg) (v11_:Entry) (v12_:Int):Heap:=[Yb_o1 v1_ v2_,⟨v1_,10,(List.map Entry.row v2_),none⟩,Yb_o2 v3_ v4_ v5_,Yb_o3 v6_ v7_,⟨v7_,2,(List.map Key.row (recL v6_)),none⟩,Yb_o4 v8_ v9_,Yb_o9 v10_ v9_ v11_ v12_ v8_]
@[simp] abbrev Yb_o10 (v1_:List Entry) (v2_:Entry) (v3_:Bool) (v4_:Msg) (v5_:Stamp) (v6_:Int) (v7_:Int) (v8_:Nat):Ob:=⟨0,2,[[(AV.int .i64 (capM 32)),(AV.osl 1 (putG (capM 32) v1_ (regE v2_ v3_ (Card.mk v4_.key v4_.status 0 v4_.n (nextS (maxS v5_ v2_.card.stamp) v6_ v7_) false) v6_) v8_) 10 0 (List.length (putL (capM 32) v1_ (regE v2_ v3_ (Card.mk v4_.key v4_.status 0 v4_.n (nextS (maxS v5_ v2_.card.stamp) v6_ v7_) false) v6_))))]],none⟩
@[simp] abbrev Yb_o11 (v1_:List Entry) (v2_:Entry) (v3_:Bool) (v4_:Msg) (v5_:Stamp) (v6_:Int) (v7_:Int) (v8_:Nat):Ob:=⟨(putG (capM 32) v1_ (regE v2_ v3_ (Card.mk v4_.key v4_.status 0 v4_.n (nextS (maxS v5_ v2_.card.stamp) v6_ v7_) false) v6_) v8_),10,(List.map Entry.row (putL (capM 32) v1_ (regE v2_ v3_ (Card.mk v4_.key v4_.status 0 v4_.n (nextS (maxS v5_ v2_.card.stamp) v6_ v7_) false) v6_))),none⟩
@[simp] abbrev Yb_o12 (v1_:List Entry) (v2_:Entry) (v3_:Bool) (v4_:Msg) (v5_:Stamp) (v6_:Int) (v7_:Int) (v8_:List Key) (v9_:Nat):Ob:=⟨0,2,[[(AV.int .i64 (((List.length (setA v1_ (regE v2_ v3_ (Card.mk v4_.key v4_.status 0 v4_.n (nextS (maxS v5_ v2_.card.stamp) v6_ v7_) false) v6_) v8_)):Nat):Int)),(AV.osl 4 (setG v1_ (regE v2_ v3_ (Card.mk v4_.key v4_.status 0 v4_.n (nextS (maxS v5_ v2_.card.stamp) v6_ v7_) false) v6_) v9_) 2 0 (List.length (recL (setA v1_ (regE v2_ v3_ (Card.mk v4_.key v4_.status 0 v4_.n (nextS (maxS v5_ v2_.card.stamp) v6_ v7_) false) v6_) v8_))))]],none⟩
@[simp] abbrev Yb_o13 (v1_:List Entry) (v2_:Entry) (v3_:Bool) (v4_:Msg) (v5_:Stamp) (v6_:Int) (v7_:Int) (v8_:Nat) (v9_:List Key):Ob:=⟨(setG v1_ (regE v2_ v3_ (Card.mk v4_.key v4_.status 0 v4_.n (nextS (maxS v5_ v2_.card.stamp) v6_ v7_) false) v6_) v8_),2,(List.map Key.row (recL (setA v1_ (regE v2_ v3_ (Card.mk v4_.key v4_.status 0 v4_.n (nextS (maxS v5_ v2_.card.stamp) v6_ v7_) false) v6_) v9_))),none⟩
@[simp] abbrev Yb_o14 (v1_:Int) (v2_:List Entry) (v3_:Entry) (v4_:Bool) (v5_:Msg) (v6_:Stamp) (v7_:Int):Ob:=⟨0,7,[[(AV.int .i64 v1_),(AV.int .i64 (givS v2_ (regE v3_ v4_ (Card.mk v5_.key v5_.status 0 v5_.n (nextS (maxS v6_ v3_.card.stamp) v7_ v1_) false) v7_) v6_).t),(AV.int .i64 (givS v2_ (regE v3_ v4_ (Card.mk v5_.key v5_.status 0 v5_.n (nextS (maxS v6_ v3_.card.stamp) v7_ v1_) false) v7_) v6_).node),(AV.int .i64 (givS v2_ (regE v3_ v4_ (Card.mk v5_.key v5_.status 0 v5_.n (nextS (maxS v6_ v3_.card.stamp) v7_ v1_) false) v7_) v6_).n),(AV.obj 0 0 0 0),(AV.obj 2 0 0 0),(AV.obj 3 0 0 0)]],none⟩
@[simp] abbrev Yb_7 (v1_:List Entry) (v2_:Entry) (v3_:Bool) (v4_:Msg) (v5_:Stamp) (v6_:Int) (v7_:Int) (v8_:Nat) (v9_:Int) (v10_:Int) (v11_:Int) (v12_:List Key) (v13_:Nat):Heap:=[Yb_o10 v1_ v2_ v3_ v4_ v5_ v6_ v7_ v8_,Yb_o11 v1_ v2_ v3_ v4_ v5_ v6_ v7_ v8_,Yb_o2 v9_ v10_ v11_,Yb_o12 v1_ v2_ v3_ v4_ v5_ v6_ v7_ v12_ v13_,Yb_o13 v1_ v2_ v3_ v4_ v5_ v6_ v7_ v13_ v12_,Yb_o14 v7_ v1_ v2_ v3_ v4_ v5_ v6_,Yb_o9 v4_ v5_ v2_ v6_ v7_]
@[simp] abbrev Yb_8 (v1_:Msg) (v2_:Stamp) (v3_:Entry) (v4_:Int) (v5_:Int):Heap:=[Yb_o9 v1_ v2_ v3_ v4_ v5_]
@[simp] abbrev Yb_9 (v1_:List Entry) (v2_:Entry) (v3_:Bool) (v4_:Msg) (v5_:Stamp) (v6_:Int) (v7_:Int) (v8_:Nat) (v9_:Int) (v10_:Int) (v11_:Int) (v12_:List Key) (v13_:Nat):Heap:=[Yb_o10 v1_ v2_ v3_ v4_ v5_ v6_ v7_ v8_,Yb_o11 v1_ v2_ v3_ v4_ v5_ v6_ v7_ v8_,Yb_o2 v9_ v10_ v11_,Yb_o12 v1_ v2_ v3_ v4_ v5_ v6_ v7_ v12_ v13_,Yb_o13 v1_ v2_ v3_ v4_ v5_ v6_ v7_ v13_ v12_,Yb_o14 v7_ v1_ v2_ v3_ v4_ v5_ v6_]
theorem dregY_spec (l:List Entry) (g:Nat) (al:List Key) (ga:Nat) (gf gl gt nd:Int) (st:Stamp) (q:Msg) (old:Entry) (inn:Bool) (now:Int) (hl:l.length < 1000) (ha:al.length < 100000) (r:regQ q):ACalls Try.prog 37 [(.obj 5 0 0 0),(.agg (Msg.row q)),(.agg (Entry.row old)),(.bool inn),(.int .i64 now)] (Yb_1 g l gf gl gt al ga nd st) ((AV.tup [(.sl .any 9 (List.map Card.row (givC l (regX q old inn st now nd)))),(.int .i64 (putE (capM 32) l (regX q old inn st now nd)))]),([⟨0,2,[[(.int .i64 (capM 32)),(.osl 1 (putG (capM 32) l (regX q old inn st now nd) g) 10 0 (List.length (putL (capM 32) l (regX q old inn st now nd))))]],none⟩,⟨(putG (capM 32) l (regX q old inn st now nd) g),10,(List.map Entry.row (putL (capM 32) l (regX q old inn st now nd))),none⟩,⟨0,3,[[(.int .i64 gf),(.int .i64 gl),(.int .i64 gt)]],none⟩,⟨0,2,[[(.int .i64 (((List.length (setA l (regX q old inn st now nd) al)):Nat):Int)),(.osl 4 (setG l (regX q old inn st now nd) ga) 2 0 (List.length (recL (setA l (regX q old inn st now nd) al))))]],none⟩,⟨(setG l (regX q old inn st now nd) ga),2,(List.map Key.row (recL (setA l (regX q old inn st now nd) al))),none⟩,⟨0,7,[[(.int .i64 nd),(.int .i64 (givS l (regX q old inn st now nd) st).t),(.int .i64 (givS l (regX q old inn st now nd) st).node),(.int .i64 (givS l (regX q old inn st now nd) st).n),(.obj 0 0 0 0),(.obj 2 0 0 0),(.obj 3 0 0 0)]],none⟩]:Heap)):=by
 obtain ⟨r1,r2,r3⟩:=r
 exact specO (fn:=Try.f37) (ann:=dregY_ann) (Has.o Try.func37) (.r (.g (.r (.y 2 (AV.bool (decide (q.n < 1))) (AV.bool false) (Yes.bool (decide_eq_false ow)) (.no (.no (.no (.y 6 (AV.bool (decide (q.n > 1048576))) (AV.bool false) (Yes.bool (decide_eq_false ow)) (.no (.no (.no (.no (.two (q.status != 1) (fun h1 h1'=>(.yes (.yes (.y 15 (AV.bool (q.status != 2)) (AV.bool false) (Yes.bool (by rcases r3 with r | r; (rw [r] at h1; simp at h1); (rw [r]; rfl))) (.no (.g (.no (.r (.c 10 (ACalls.put2 [0,1,2,3,4,5] (Yb_5 g l gf gl gt al ga nd st) (AV.agg (Stamp.row (nextS (maxS st old.card.stamp) now nd))) (Yb_5 g l gf gl gt al ga nd st) (dnext_spec l g al ga gf gl gt nd st old.card now ) (⟨rfl,⟨Ob.ren0 (Entry.rows_bdd 0 _),⟨rfl,⟨rfl,⟨Ob.ren0 (Key.rows_bdd 0 _),⟨rfl,trivial⟩⟩⟩⟩⟩⟩) (⟨rfl,⟨Ob.ren0 (Entry.rows_bdd 0 _),⟨rfl,⟨rfl,⟨Ob.ren0 (Key.rows_bdd 0 _),⟨rfl,trivial⟩⟩⟩⟩⟩⟩)) (.g (.r (.c 5 (ACalls.pre (args:=[(AV.agg (Entry.row old)),(AV.bool inn),(AV.agg (Card.row (Card.mk q.key q.status 0 q.n (nextS (maxS st old.card.stamp) now nd) false))),(AV.int .i64 now)]) (args':=[(AV.agg (Entry.row old)),(AV.bool inn),(AV.agg [(AV.str q.key.app),(AV.str q.key.id),(AV.int .i64 q.status),(AV.int .i64 0),(AV.int .i64 q.n),(AV.int .i64 (nextS (maxS st old.card.stamp) now nd).t),(AV.int .i64 (nextS (maxS st old.card.stamp) now nd).node),(AV.int .i64 (nextS (maxS st old.card.stamp) now nd).n),(AV.bool false)]),(AV.int .i64 now)]) (lreg_at old inn (Card.mk q.key q.status 0 q.n (nextS (maxS st old.card.stamp) now nd) false) now  (Yb_6 g l gf gl gt al ga nd st q old now)) ⟨AV.wk_refl_any _,AV.wk_refl_any _,AV.wk_refl_any _,AV.wk_refl_any _,trivial⟩) (.ch 6 (Yb_7 l old inn q st now nd g gf gl gt al ga) (dgive_at l g al ga gf gl gt nd st (regE old inn (Card.mk q.key q.status 0 q.n (nextS (maxS st old.card.stamp) now nd) false) now) oa oa (Yb_8 q st old now nd)) (.g (.h' (Yb_9 l old inn q st now nd g gf gl gt al ga) (.f 6 (AV.tup [(AV.sl .any 9 (List.map Card.row (givC l (regE old inn (Card.mk q.key q.status 0 q.n (nextS (maxS st old.card.stamp) now nd) false) now)))),(AV.int .i64 (putE (capM 32) l (regE old inn (Card.mk q.key q.status 0 q.n (nextS (maxS st old.card.stamp) now nd) false) now)))]) (.e (AV.tup [(AV.sl .any 9 (List.map Card.row (givC l (regE old inn (Card.mk q.key q.status 0 q.n (nextS (maxS st old.card.stamp) now nd) false) now)))),(AV.int .i64 (putE (capM 32) l (regE old inn (Card.mk q.key q.status 0 q.n (nextS (maxS st old.card.stamp) now nd) false) now)))])))))))))))))))))) (fun h1 h1'=>(.no (.no (.no (.g (.no (.r (.c 10 (ACalls.put2 [0,1,2,3,4,5] (Yb_5 g l gf gl gt al ga nd st) (AV.agg (Stamp.row (nextS (maxS st old.card.stamp) now nd))) (Yb_5 g l gf gl gt al ga nd st) (dnext_spec l g al ga gf gl gt nd st old.card now ) (⟨rfl,⟨Ob.ren0 (Entry.rows_bdd 0 _),⟨rfl,⟨rfl,⟨Ob.ren0 (Key.rows_bdd 0 _),⟨rfl,trivial⟩⟩⟩⟩⟩⟩) (⟨rfl,⟨Ob.ren0 (Entry.rows_bdd 0 _),⟨rfl,⟨rfl,⟨Ob.ren0 (Key.rows_bdd 0 _),⟨rfl,trivial⟩⟩⟩⟩⟩⟩)) (.g (.r (.c 5 (ACalls.pre (args:=[(AV.agg (Entry.row old)),(AV.bool inn),(AV.agg (Card.row (Card.mk q.key q.status 0 q.n (nextS (maxS st old.card.stamp) now nd) false))),(AV.int .i64 now)]) (args':=[(AV.agg (Entry.row old)),(AV.bool inn),(AV.agg [(AV.str q.key.app),(AV.str q.key.id),(AV.int .i64 q.status),(AV.int .i64 0),(AV.int .i64 q.n),(AV.int .i64 (nextS (maxS st old.card.stamp) now nd).t),(AV.int .i64 (nextS (maxS st old.card.stamp) now nd).node),(AV.int .i64 (nextS (maxS st old.card.stamp) now nd).n),(AV.bool false)]),(AV.int .i64 now)]) (lreg_at old inn (Card.mk q.key q.status 0 q.n (nextS (maxS st old.card.stamp) now nd) false) now  (Yb_6 g l gf gl gt al ga nd st q old now)) ⟨AV.wk_refl_any _,AV.wk_refl_any _,AV.wk_refl_any _,AV.wk_refl_any _,trivial⟩) (.ch 6 (Yb_7 l old inn q st now nd g gf gl gt al ga) (dgive_at l g al ga gf gl gt nd st (regE old inn (Card.mk q.key q.status 0 q.n (nextS (maxS st old.card.stamp) now nd) false) now) oa oa (Yb_8 q st old now nd)) (.g (.h' (Yb_9 l old inn q st now nd g gf gl gt al ga) (.f 6 (AV.tup [(AV.sl .any 9 (List.map Card.row (givC l (regE old inn (Card.mk q.key q.status 0 q.n (nextS (maxS st old.card.stamp) now nd) false) now)))),(AV.int .i64 (putE (capM 32) l (regE old inn (Card.mk q.key q.status 0 q.n (nextS (maxS st old.card.stamp) now nd) false) now)))]) (.e (AV.tup [(AV.sl .any 9 (List.map Card.row (givC l (regE old inn (Card.mk q.key q.status 0 q.n (nextS (maxS st old.card.stamp) now nd) false) now)))),(AV.int .i64 (putE (capM 32) l (regE old inn (Card.mk q.key q.status 0 q.n (nextS (maxS st old.card.stamp) now nd) false) now)))]))))))))))))))))))))))))))))))
def regC (l:List Entry) (q:Msg) (x:Entry):List Card:=if regQ q then givC l x else []
def regR (l:List Entry) (q:Msg) (x:Entry):Int:=if regQ q then putE (capM 32) l x else 1
def regL (l:List Entry) (q:Msg) (x:Entry):List Entry:=if regQ q then putL (capM 32) l x else l
def regG (l:List Entry) (q:Msg) (x:Entry) (g:Nat):Nat:=if regQ q then putG (capM 32) l x g else g
def regA (l:List Entry) (q:Msg) (x:Entry) (al:List Key):List Key:=if regQ q then setA l x al else al
def regGa (l:List Entry) (q:Msg) (x:Entry) (ga:Nat):Nat:=if regQ q then setG l x ga else ga
def regS (l:List Entry) (q:Msg) (x:Entry) (st:Stamp):Stamp:=if regQ q then givS l x st else st
theorem dreg_spec (l:List Entry) (g:Nat) (al:List Key) (ga:Nat) (gf gl gt nd:Int) (st:Stamp) (q:Msg) (old:Entry) (inn:Bool) (now:Int) (hl:l.length < 1000) (ha:al.length < 100000):ACalls Try.prog 37 [(.obj 5 0 0 0),(.agg (Msg.row q)),(.agg (Entry.row old)),(.bool inn),(.int .i64 now)] ([⟨0,2,[[(.int .i64 (capM 32)),(.osl 1 g 10 0 (List.length l))]],none⟩,⟨g,10,(List.map Entry.row l),none⟩,⟨0,3,[[(.int .i64 gf),(.int .i64 gl),(.int .i64 gt)]],none⟩,⟨0,2,[[(.int .i64 (((List.length al):Nat):Int)),(.osl 4 ga 2 0 (List.length (recL al)))]],none⟩,⟨ga,2,(List.map Key.row (recL al)),none⟩,⟨0,7,[[(.int .i64 nd),(.int .i64 st.t),(.int .i64 st.node),(.int .i64 st.n),(.obj 0 0 0 0),(.obj 2 0 0 0),(.obj 3 0 0 0)]],none⟩]:Heap) ((AV.tup [(.sl .any 9 (List.map Card.row (regC l q (regX q old inn st now nd)))),(.int .i64 (regR l q (regX q old inn st now nd)))]),([⟨0,2,[[(.int .i64 (capM 32)),(.osl 1 (regG l q (regX q old inn st now nd) g) 10 0 (List.length (regL l q (regX q old inn st now nd))))]],none⟩,⟨(regG l q (regX q old inn st now nd) g),10,(List.map Entry.row (regL l q (regX q old inn st now nd))),none⟩,⟨0,3,[[(.int .i64 gf),(.int .i64 gl),(.int .i64 gt)]],none⟩,⟨0,2,[[(.int .i64 (((List.length (regA l q (regX q old inn st now nd) al)):Nat):Int)),(.osl 4 (regGa l q (regX q old inn st now nd) ga) 2 0 (List.length (recL (regA l q (regX q old inn st now nd) al))))]],none⟩,⟨(regGa l q (regX q old inn st now nd) ga),2,(List.map Key.row (recL (regA l q (regX q old inn st now nd) al))),none⟩,⟨0,7,[[(.int .i64 nd),(.int .i64 (regS l q (regX q old inn st now nd) st).t),(.int .i64 (regS l q (regX q old inn st now nd) st).node),(.int .i64 (regS l q (regX q old inn st now nd) st).n),(.obj 0 0 0 0),(.obj 2 0 0 0),(.obj 3 0 0 0)]],none⟩]:Heap)):=by
 unfold regC regR regL regG regA regGa regS
 by_cases r:regQ q
 · rw [if_pos r,if_pos r,if_pos r,if_pos r,if_pos r,if_pos r,if_pos r]
   exact dregY_spec l g al ga gf gl gt nd st q old inn now hl ha r
 · rw [if_neg r,if_neg r,if_neg r,if_neg r,if_neg r,if_neg r,if_neg r]
   exact dregN_spec l g al ga gf gl gt nd st q old inn now r
theorem dreg_at (l:List Entry) (g:Nat) (al:List Key) (ga:Nat) (gf gl gt nd:Int) (st:Stamp) (q:Msg) (old:Entry) (inn:Bool) (now:Int) (hl:l.length < 1000) (ha:al.length < 100000) (H:Heap):ACalls Try.prog 37 [(.obj 5 0 0 0),(.agg (Msg.row q)),(.agg (Entry.row old)),(.bool inn),(.int .i64 now)] ((Yb_1 g l gf gl gt al ga nd st)++H) ((AV.tup [(.sl .any 9 (List.map Card.row (regC l q (regX q old inn st now nd)))),(.int .i64 (regR l q (regX q old inn st now nd)))]),([⟨0,2,[[(.int .i64 (capM 32)),(.osl 1 (regG l q (regX q old inn st now nd) g) 10 0 (List.length (regL l q (regX q old inn st now nd))))]],none⟩,⟨(regG l q (regX q old inn st now nd) g),10,(List.map Entry.row (regL l q (regX q old inn st now nd))),none⟩,⟨0,3,[[(.int .i64 gf),(.int .i64 gl),(.int .i64 gt)]],none⟩,⟨0,2,[[(.int .i64 (((List.length (regA l q (regX q old inn st now nd) al)):Nat):Int)),(.osl 4 (regGa l q (regX q old inn st now nd) ga) 2 0 (List.length (recL (regA l q (regX q old inn st now nd) al))))]],none⟩,⟨(regGa l q (regX q old inn st now nd) ga),2,(List.map Key.row (recL (regA l q (regX q old inn st now nd) al))),none⟩,⟨0,7,[[(.int .i64 nd),(.int .i64 (regS l q (regX q old inn st now nd) st).t),(.int .i64 (regS l q (regX q old inn st now nd) st).node),(.int .i64 (regS l q (regX q old inn st now nd) st).n),(.obj 0 0 0 0),(.obj 2 0 0 0),(.obj 3 0 0 0)]],none⟩]:Heap)++H):=(dreg_spec l g al ga gf gl gt nd st q old inn now hl ha).ext kr kr ob ob kr H
end Go.Proofs.Ytfjedpipdnlkfaa.AM
