/-
  Texts of this claim, part 5 of 7: an abstract machine over the model; what functions come to; plain laws.
-/
import Derived.Test.YtpkgpldgoajphaaMSweepTells4
set_option maxRecDepth 100000
set_option linter.unusedVariables false
set_option linter.unusedSimpArgs false
namespace Go.Proofs.Ytpkgpldgoajphaa.AM
open Go Go.Proofs.Ytpkgpldgoajphaa
attribute [local irreducible] ACalls funT codeT codeQ LoopTo
attribute [local irreducible] Tp.card Tp.cardT Tp.next Tp.step Tp.cards Tp.cardsT Tp.key Tp.keyT sink insSort pickS pickL pickN pickK mostN cmpL lateE orderK sortK insK posK beforeK onceStep onceS onceK sortP lastS lastK cmpK
attribute [local irreducible] swapL rotS rotL bsr mgL mg mAt shU shD
set_option maxRecDepth 100000 in
theorem sEA_spec (cmp : Entry → Entry → Int) (f : Nat) (xs : List AV) (A R1 R2 B : List Entry) (x : Entry) (a p b n g i : Nat) (l : List Entry) (hc : ∀ (x y : Entry) (H : Heap), ACalls Try.prog f ([AV.agg (Entry.row x), AV.agg (Entry.row y)] ++ xs) H (AV.int .i64 (cmp x y), H)) (hxs : AV.bdds 1 xs = true) (hn : n = l.length) (hnb : n < 1048576) (hl : l = A ++ (x :: (R1 ++ (R2 ++ B)))) (hA : a = A.length) (hp : p = a + 1) (hpb : p ≤ b) (hbn : b ≤ n) (hi : i = p + R1.length) (hib : i ≤ b) (hs : i = bsr (fun c => decide (cmp (nth l c) (nth l a) < 0)) (b - p) p b) : ACalls Try.prog 133 [(AV.osl 0 g 10 0 n), (AV.int .i64 ((a : Nat) : Int)), (AV.int .i64 ((p : Nat) : Int)), (AV.int .i64 ((b : Nat) : Int)), (AV.func f xs)] ([⟨g, 10, (List.map Entry.row l), none⟩] : Heap) ((AV.tup []), ([⟨g, 10, (List.map Entry.row (A ++ (R1 ++ (x :: (R2 ++ B))))), none⟩] : Heap)) := by
  have hfin : shU (i - 1 - a) a l = A ++ (R1 ++ (x :: (R2 ++ B))) := by rw [hl, show i - 1 - a = R1.length by omega]; exact shU_parts x R1 A (R2 ++ B) a hA
  refine spec (fn := Try.f133) (ann := sE_ann) (t := (.reg [(2, ((AV.int .i64 ((p - a : Nat) : Int)), ([⟨g, 10, (List.map Entry.row l), none⟩] : Heap))), (3, ((AV.bool true), ([⟨g, 10, (List.map Entry.row l), none⟩] : Heap)))] [] [] (.two (.reg [] [] [] (.reg [] [] [] (.loop (.exit 0) (mkF 220 [(0, (AV.osl 0 g 10 0 n)), (1, (AV.int .i64 ((a : Nat) : Int))), (10, (AV.int .i64 ((i : Nat) : Int)))]) ([⟨g, 10, (List.map Entry.row l), none⟩] : Heap) (.reg [] [] [] (.loop (.exit 2) (mkF 220 [(0, (AV.osl 0 g 10 0 n)), (10, (AV.int .i64 ((i : Nat) : Int))), (13, (AV.int .i64 (((i - 1) : Nat) : Int)))]) ([⟨g, 10, (List.map Entry.row (shU (i - 1 - a) a l)), none⟩] : Heap) .nil))))) .nil))) (Nat.le_of_ble_eq_true (by kernel_rfl)) ⟨Try.func133, by kernel_rfl, by kernel_rfl, by kernel_rfl⟩ ?_
  refine Eq.mp (by kernel_rfl : ((Yes (.int .i64 (IntKind.i64.wrap (((p : Nat) : Int) - ((a : Nat) : Int)))) ([⟨g, 10, (List.map Entry.row l), none⟩] : Heap) (AV.int .i64 ((p - a : Nat) : Int))) ∧ (Yes (AV.bool (((p - a : Nat) : Int) == 1)) ([⟨g, 10, (List.map Entry.row l), none⟩] : Heap) (AV.bool true)) ∧ (LoopTo (codeQ Try.prog (X sE_ann) (loopOf Try.f133 0)) (some [0, 1, 4, 10, 11]) (some [0, 1, 10]) (mkF 220 [(0, (AV.osl 0 g 10 0 n)), (1, (AV.int .i64 ((a : Nat) : Int))), (4, (AV.func f xs)), (10, (AV.int .i64 ((p : Nat) : Int))), (11, (AV.int .i64 ((b : Nat) : Int)))]) ([⟨g, 10, (List.map Entry.row l), none⟩] : Heap) (.exit 0) (mkF 220 [(0, (AV.osl 0 g 10 0 n)), (1, (AV.int .i64 ((a : Nat) : Int))), (10, (AV.int .i64 ((i : Nat) : Int)))]) ([⟨g, 10, (List.map Entry.row l), none⟩] : Heap)) ∧ (LoopTo (codeQ Try.prog (X sE_ann) (loopOf Try.f133 1)) (some [0, 10, 13]) (some [0, 10, 13]) (mkF 220 [(0, (AV.osl 0 g 10 0 n)), (10, (AV.int .i64 ((i : Nat) : Int))), (13, (AV.int .i64 ((a : Nat) : Int)))]) ([⟨g, 10, (List.map Entry.row l), none⟩] : Heap) (.exit 2) (mkF 220 [(0, (AV.osl 0 g 10 0 n)), (10, (AV.int .i64 ((i : Nat) : Int))), (13, (AV.int .i64 (((i - 1) : Nat) : Int)))]) ([⟨g, 10, (List.map Entry.row (shU (i - 1 - a) a l)), none⟩] : Heap)) ∧ (AV.bdd 1 (AV.tup []) = true ∧ obsB 1 ([⟨g, 10, (List.map Entry.row (shU (i - 1 - a) a l)), none⟩] : Heap) = true) ∧ ((AV.tup []), ([⟨g, 10, (List.map Entry.row (shU (i - 1 - a) a l)), none⟩] : Heap)) = ((AV.tup []), ([⟨g, 10, (List.map Entry.row (A ++ (R1 ++ (x :: (R2 ++ B))))), none⟩] : Heap))) = _) ?_
  refine And.intro (Yes.add (by omega) (by omega) (by omega)) ?_
  refine And.intro (Yes.bool (by exact beq_iff_eq.2 (by omega))) ?_
  refine And.intro ((by rw [hs]; exact sEa_loop cmp f xs hc a n g l hn hnb (by omega) (b - p) p b (by omega) (by omega) (by omega))) ?_
  refine And.intro ((sEu_loop i n g (by omega) (by omega) hnb (i - 1 - a) l a _ (by omega) hn (sEu_iter _ _ _ _ _ _))) ?_
  refine And.intro (by first | (simp [obsB, AV.bddss, AV.bdds, AV.bdd]; done) | (simp [obsB, AV.bddss, AV.bdds, AV.bdd, -List.map_append]; done) | simp [obsB, AV.bddss, AV.bdds, AV.bdd, -List.map_append, -List.map_set, -List.map_take, -List.map_drop, -List.map_cons, -List.map_map]) ?_
  rw [hfin]
set_option maxRecDepth 100000 in
theorem sEB_spec (cmp : Entry → Entry → Int) (f : Nat) (xs : List AV) (A L1 L2 B : List Entry) (y : Entry) (a p b n g i : Nat) (l : List Entry) (hc : ∀ (x y : Entry) (H : Heap), ACalls Try.prog f ([AV.agg (Entry.row x), AV.agg (Entry.row y)] ++ xs) H (AV.int .i64 (cmp x y), H)) (hxs : AV.bdds 1 xs = true) (hn : n = l.length) (hnb : n < 1048576) (hl : l = A ++ (L1 ++ (L2 ++ (y :: B)))) (hA : a = A.length) (hi : i = a + L1.length) (hp : p = i + L2.length) (h1 : p ≠ a + 1) (hb : b = p + 1) (hbn : b ≤ n) (hs : i = bsr (fun c => !decide (cmp (nth l p) (nth l c) < 0)) (p - a) a p) : ACalls Try.prog 133 [(AV.osl 0 g 10 0 n), (AV.int .i64 ((a : Nat) : Int)), (AV.int .i64 ((p : Nat) : Int)), (AV.int .i64 ((b : Nat) : Int)), (AV.func f xs)] ([⟨g, 10, (List.map Entry.row l), none⟩] : Heap) ((AV.tup []), ([⟨g, 10, (List.map Entry.row (A ++ (L1 ++ (y :: (L2 ++ B))))), none⟩] : Heap)) := by
  have hfin : shD (p - i) p l = A ++ (L1 ++ (y :: (L2 ++ B))) := by rw [hl, show p - i = L2.length by omega, show A ++ (L1 ++ (L2 ++ (y :: B))) = (A ++ L1) ++ (L2 ++ (y :: B)) by simp, shD_parts y L2.length (A ++ L1) L2 B p rfl (by simp; omega)]; simp
  refine spec (fn := Try.f133) (ann := sE_ann) (t := (.reg [(2, ((AV.int .i64 ((p - a : Nat) : Int)), ([⟨g, 10, (List.map Entry.row l), none⟩] : Heap))), (3, ((AV.bool false), ([⟨g, 10, (List.map Entry.row l), none⟩] : Heap)))] [] [] (.two .nil (.reg [(2, ((AV.int .i64 ((b - p : Nat) : Int)), ([⟨g, 10, (List.map Entry.row l), none⟩] : Heap))), (3, ((AV.bool true), ([⟨g, 10, (List.map Entry.row l), none⟩] : Heap)))] [] [] (.two (.reg [] [] [] (.reg [] [] [] (.loop (.exit 4) (mkF 220 [(0, (AV.osl 0 g 10 0 n)), (2, (AV.int .i64 ((p : Nat) : Int))), (14, (AV.int .i64 ((i : Nat) : Int)))]) ([⟨g, 10, (List.map Entry.row l), none⟩] : Heap) (.reg [] [] [] (.loop (.exit 6) (mkF 220 [(0, (AV.osl 0 g 10 0 n)), (14, (AV.int .i64 ((i : Nat) : Int))), (17, (AV.int .i64 ((i : Nat) : Int)))]) ([⟨g, 10, (List.map Entry.row (shD (p - i) p l)), none⟩] : Heap) .nil))))) .nil))))) (Nat.le_of_ble_eq_true (by kernel_rfl)) ⟨Try.func133, by kernel_rfl, by kernel_rfl, by kernel_rfl⟩ ?_
  refine Eq.mp (by kernel_rfl : ((Yes (.int .i64 (IntKind.i64.wrap (((p : Nat) : Int) - ((a : Nat) : Int)))) ([⟨g, 10, (List.map Entry.row l), none⟩] : Heap) (AV.int .i64 ((p - a : Nat) : Int))) ∧ (Yes (AV.bool (((p - a : Nat) : Int) == 1)) ([⟨g, 10, (List.map Entry.row l), none⟩] : Heap) (AV.bool false)) ∧ (Yes (.int .i64 (IntKind.i64.wrap (((b : Nat) : Int) - ((p : Nat) : Int)))) ([⟨g, 10, (List.map Entry.row l), none⟩] : Heap) (AV.int .i64 ((b - p : Nat) : Int))) ∧ (Yes (AV.bool (((b - p : Nat) : Int) == 1)) ([⟨g, 10, (List.map Entry.row l), none⟩] : Heap) (AV.bool true)) ∧ (LoopTo (codeQ Try.prog (X sE_ann) (loopOf Try.f133 2)) (some [0, 2, 4, 14, 15]) (some [0, 2, 14]) (mkF 220 [(0, (AV.osl 0 g 10 0 n)), (2, (AV.int .i64 ((p : Nat) : Int))), (4, (AV.func f xs)), (14, (AV.int .i64 ((a : Nat) : Int))), (15, (AV.int .i64 ((p : Nat) : Int)))]) ([⟨g, 10, (List.map Entry.row l), none⟩] : Heap) (.exit 4) (mkF 220 [(0, (AV.osl 0 g 10 0 n)), (2, (AV.int .i64 ((p : Nat) : Int))), (14, (AV.int .i64 ((i : Nat) : Int)))]) ([⟨g, 10, (List.map Entry.row l), none⟩] : Heap)) ∧ (LoopTo (codeQ Try.prog (X sE_ann) (loopOf Try.f133 3)) (some [0, 14, 17]) (some [0, 14, 17]) (mkF 220 [(0, (AV.osl 0 g 10 0 n)), (14, (AV.int .i64 ((i : Nat) : Int))), (17, (AV.int .i64 ((p : Nat) : Int)))]) ([⟨g, 10, (List.map Entry.row l), none⟩] : Heap) (.exit 6) (mkF 220 [(0, (AV.osl 0 g 10 0 n)), (14, (AV.int .i64 ((i : Nat) : Int))), (17, (AV.int .i64 ((i : Nat) : Int)))]) ([⟨g, 10, (List.map Entry.row (shD (p - i) p l)), none⟩] : Heap)) ∧ (AV.bdd 1 (AV.tup []) = true ∧ obsB 1 ([⟨g, 10, (List.map Entry.row (shD (p - i) p l)), none⟩] : Heap) = true) ∧ ((AV.tup []), ([⟨g, 10, (List.map Entry.row (shD (p - i) p l)), none⟩] : Heap)) = ((AV.tup []), ([⟨g, 10, (List.map Entry.row (A ++ (L1 ++ (y :: (L2 ++ B))))), none⟩] : Heap))) = _) ?_
  refine And.intro (Yes.add (by omega) (by omega) (by omega)) ?_
  refine And.intro (Yes.bool (by exact beq_eq_false_iff_ne.2 (by omega))) ?_
  refine And.intro (Yes.add (by omega) (by omega) (by omega)) ?_
  refine And.intro (Yes.bool (by exact beq_iff_eq.2 (by omega))) ?_
  refine And.intro ((by rw [hs]; exact sEb_loop cmp f xs hc p n g l hn hnb (by omega) (p - a) a p (by omega) (by omega) (by omega))) ?_
  refine And.intro ((sEd_loop i n g hnb (p - i) p l (by omega) hn (by omega))) ?_
  refine And.intro (by first | (simp [obsB, AV.bddss, AV.bdds, AV.bdd]; done) | (simp [obsB, AV.bddss, AV.bdds, AV.bdd, -List.map_append]; done) | simp [obsB, AV.bddss, AV.bdds, AV.bdd, -List.map_append, -List.map_set, -List.map_take, -List.map_drop, -List.map_cons, -List.map_map]) ?_
  rw [hfin]
set_option maxHeartbeats 4000000 in
set_option maxRecDepth 100000 in
theorem sEC_spec (cmp : Entry → Entry → Int) (f : Nat) (xs : List AV) (A L1 L2 R1 R2 B : List Entry) (a p b n g i mid Nz : Nat) (l : List Entry) (hc : ∀ (x y : Entry) (H : Heap), ACalls Try.prog f ([AV.agg (Entry.row x), AV.agg (Entry.row y)] ++ xs) H (AV.int .i64 (cmp x y), H)) (hxs : AV.bdds 1 xs = true) (hn : n = l.length) (hnb : n < 1048576) (ih_at : ∀ (a p b n g : Nat) (l : List Entry), n = l.length → n < 1048576 → a < p → p < b → b ≤ n → b - a < Nz → Srt (ltF cmp) ((l.drop a).take (p - a)) → Srt (ltF cmp) ((l.drop p).take (b - p)) → ∀ H : Heap, ACalls Try.prog 133 [(AV.osl 0 g 10 0 n), (AV.int .i64 ((a : Nat) : Int)), (AV.int .i64 ((p : Nat) : Int)), (AV.int .i64 ((b : Nat) : Int)), (AV.func f xs)] (([⟨g, 10, (List.map Entry.row l), none⟩] : Heap) ++ H) (.tup [], ([⟨g, 10, (List.map Entry.row (mAt (ltF cmp) a p b l)), none⟩] : Heap) ++ H)) (hl : l = A ++ (L1 ++ (L2 ++ (R1 ++ (R2 ++ B))))) (hA : a = A.length) (hi : i = a + L1.length) (hp : p = i + L2.length) (hR1 : mid = i + R1.length) (hb : b = p + R1.length + R2.length) (hbn : b ≤ n) (hap : a < p) (hpb : p < b) (h1 : p ≠ a + 1) (h2 : b ≠ p + 1) (hmid : mid = (a + b) / 2) (hNz : b - a ≤ Nz) (hgt : mid < p) (hs : i = bsr (fun c => !decide (cmp (nth l (mid + p - 1 - c)) (nth l c) < 0)) (mid - (mid + p - b)) (mid + p - b) mid) (hlo : mid + p - b ≤ i) (hhi : i ≤ mid) (q1 : Srt (ltF cmp) L1) (q2 : Srt (ltF cmp) L2) (q3 : Srt (ltF cmp) R1) (q4 : Srt (ltF cmp) R2) : ACalls Try.prog 133 [(AV.osl 0 g 10 0 n), (AV.int .i64 ((a : Nat) : Int)), (AV.int .i64 ((p : Nat) : Int)), (AV.int .i64 ((b : Nat) : Int)), (AV.func f xs)] ([⟨g, 10, (List.map Entry.row l), none⟩] : Heap) ((AV.tup []), ([⟨g, 10, (List.map Entry.row (A ++ (mg (ltF cmp) L1 R1 ++ (mg (ltF cmp) L2 R2 ++ B)))), none⟩] : Heap)) := by
  have hll : n = A.length + L1.length + L2.length + R1.length + R2.length + B.length := by rw [hn, hl]; simp; omega
  have e1 := sm1 A L1 L2 R1 R2 B hl (s := i) (m := p) (e := mid + p - i) (by omega) hp (by omega)
  have e2 := sm2 (ltF cmp) A L1 R1 (L2 ++ (R2 ++ B)) (a := a) (s := i) (mid := mid) hA hi hR1
  have e3 := sm3 (ltF cmp) A (mg (ltF cmp) L1 R1) L2 R2 B (mid := mid) (e := mid + p - i) (b := b) (by rw [mg_len]; omega) (by omega) (by omega)
  have hrot : 0 < L2.length → 0 < R1.length → _ := rot_facts (A ++ L1) L2 R1 (R2 ++ B) (l := l) (by rw [hl]; simp) (a := i) (m := p) (b := mid + p - i) (by simp; omega) hp (by omega)
  have hlen2 : (A ++ (mg (ltF cmp) L1 R1 ++ (L2 ++ (R2 ++ B)))).length = n := by rw [hll]; simp [mg_len]; omega
  have hlen1 : (A ++ (L1 ++ (R1 ++ (L2 ++ (R2 ++ B))))).length = n := by rw [hll]; simp; omega
  refine spec (fn := Try.f133) (ann := sE_ann) (t := (.reg [(2, ((AV.int .i64 ((p - a : Nat) : Int)), ([⟨g, 10, (List.map Entry.row l), none⟩] : Heap))), (3, ((AV.bool false), ([⟨g, 10, (List.map Entry.row l), none⟩] : Heap)))] [] [] (.two .nil (.reg [(2, ((AV.int .i64 ((b - p : Nat) : Int)), ([⟨g, 10, (List.map Entry.row l), none⟩] : Heap))), (3, ((AV.bool false), ([⟨g, 10, (List.map Entry.row l), none⟩] : Heap)))] [] [] (.two .nil (.reg [(2, ((AV.int .i64 ((a + b : Nat) : Int)), ([⟨g, 10, (List.map Entry.row l), none⟩] : Heap))), (5, ((AV.int .i64 ((mid : Nat) : Int)), ([⟨g, 10, (List.map Entry.row l), none⟩] : Heap)))] [] [] (.reg [(2, ((AV.int .i64 ((mid + p : Nat) : Int)), ([⟨g, 10, (List.map Entry.row l), none⟩] : Heap)))] [] [] (.reg [] [] [] (.reg [(2, ((AV.bool true), ([⟨g, 10, (List.map Entry.row l), none⟩] : Heap)))] [] [] (.two (.reg [(2, ((AV.int .i64 ((mid + p - b : Nat) : Int)), ([⟨g, 10, (List.map Entry.row l), none⟩] : Heap)))] [] [] (.reg [] [] [] (.reg [(1, ((AV.int .i64 ((mid + p - 1 : Nat) : Int)), ([⟨g, 10, (List.map Entry.row l), none⟩] : Heap)))] [] [] (.loop (.exit 8) (mkF 220 [(0, (AV.osl 0 g 10 0 n)), (1, (AV.int .i64 ((a : Nat) : Int))), (2, (AV.int .i64 ((p : Nat) : Int))), (3, (AV.int .i64 ((b : Nat) : Int))), (4, (AV.func f xs)), (18, (AV.int .i64 ((mid : Nat) : Int))), (19, (AV.int .i64 (((mid + p) : Nat) : Int))), (20, (AV.int .i64 ((i : Nat) : Int)))]) ([⟨g, 10, (List.map Entry.row l), none⟩] : Heap) (.reg [(2, ((AV.int .i64 (((mid + p) - i : Nat) : Int)), ([⟨g, 10, (List.map Entry.row l), none⟩] : Heap)))] [] [] (.reg [] [] [] (.two (.two (.two (.two (.reg [(5, ((AV.tup []), ([⟨g, 10, (List.map Entry.row (rotL i p ((mid + p) - i) l)), none⟩] : Heap)))] [] [] (.reg [] [] [] (.two (.two (.two (.two (.reg [(5, ((AV.tup []), ([⟨g, 10, (List.map Entry.row (mAt (ltF cmp) a i mid (rotL i p ((mid + p) - i) l))), none⟩] : Heap)))] [] [] (.reg [] [] [] (.two (.two (.two (.two (.reg [(5, ((AV.tup []), ([⟨g, 10, (List.map Entry.row (mAt (ltF cmp) mid ((mid + p) - i) b (mAt (ltF cmp) a i mid (rotL i p ((mid + p) - i) l)))), none⟩] : Heap)))] [] [] .nil) .nil) .nil) .nil) (.two .nil (.two .nil (.two .nil .nil)))))) (.reg [] [] [] (.two (.two (.two (.two (.reg [(5, ((AV.tup []), ([⟨g, 10, (List.map Entry.row (mAt (ltF cmp) mid ((mid + p) - i) b (rotL i p ((mid + p) - i) l))), none⟩] : Heap)))] [] [] .nil) .nil) .nil) .nil) (.two .nil (.two .nil (.two .nil .nil)))))) .nil) .nil) (.two .nil (.two .nil (.two .nil (.reg [] [] [] (.two (.two (.two (.two (.reg [(5, ((AV.tup []), ([⟨g, 10, (List.map Entry.row (mAt (ltF cmp) mid ((mid + p) - i) b (rotL i p ((mid + p) - i) l))), none⟩] : Heap)))] [] [] .nil) .nil) .nil) .nil) (.two .nil (.two .nil (.two .nil .nil))))))))))) (.reg [] [] [] (.two (.two (.two (.two (.reg [(5, ((AV.tup []), ([⟨g, 10, (List.map Entry.row (mAt (ltF cmp) a i mid l)), none⟩] : Heap)))] [] [] (.reg [] [] [] (.two (.two (.two (.two (.reg [(5, ((AV.tup []), ([⟨g, 10, (List.map Entry.row (mAt (ltF cmp) mid ((mid + p) - i) b (mAt (ltF cmp) a i mid l))), none⟩] : Heap)))] [] [] .nil) .nil) .nil) .nil) (.two .nil (.two .nil (.two .nil .nil)))))) (.reg [] [] [] (.two (.two (.two (.two (.reg [(5, ((AV.tup []), ([⟨g, 10, (List.map Entry.row (mAt (ltF cmp) mid ((mid + p) - i) b l)), none⟩] : Heap)))] [] [] .nil) .nil) .nil) .nil) (.two .nil (.two .nil (.two .nil .nil)))))) .nil) .nil) (.two .nil (.two .nil (.two .nil (.reg [] [] [] (.two (.two (.two (.two (.reg [(5, ((AV.tup []), ([⟨g, 10, (List.map Entry.row (mAt (ltF cmp) mid ((mid + p) - i) b l)), none⟩] : Heap)))] [] [] .nil) .nil) .nil) .nil) (.two .nil (.two .nil (.two .nil .nil))))))))))) .nil) .nil) (.two .nil (.two .nil (.two .nil (.reg [] [] [] (.two (.two (.two (.two (.reg [(5, ((AV.tup []), ([⟨g, 10, (List.map Entry.row (mAt (ltF cmp) a i mid l)), none⟩] : Heap)))] [] [] (.reg [] [] [] (.two (.two (.two (.two (.reg [(5, ((AV.tup []), ([⟨g, 10, (List.map Entry.row (mAt (ltF cmp) mid ((mid + p) - i) b (mAt (ltF cmp) a i mid l))), none⟩] : Heap)))] [] [] .nil) .nil) .nil) .nil) (.two .nil (.two .nil (.two .nil .nil)))))) (.reg [] [] [] (.two (.two (.two (.two (.reg [(5, ((AV.tup []), ([⟨g, 10, (List.map Entry.row (mAt (ltF cmp) mid ((mid + p) - i) b l)), none⟩] : Heap)))] [] [] .nil) .nil) .nil) .nil) (.two .nil (.two .nil (.two .nil .nil)))))) .nil) .nil) (.two .nil (.two .nil (.two .nil (.reg [] [] [] (.two (.two (.two (.two (.reg [(5, ((AV.tup []), ([⟨g, 10, (List.map Entry.row (mAt (ltF cmp) mid ((mid + p) - i) b l)), none⟩] : Heap)))] [] [] .nil) .nil) .nil) .nil) (.two .nil (.two .nil (.two .nil .nil)))))))))))))))))))) .nil)))))))))) (Nat.le_of_ble_eq_true (by kernel_rfl)) ⟨Try.func133, by kernel_rfl, by kernel_rfl, by kernel_rfl⟩ ?_
  refine Eq.mp (by kernel_rfl : ((Yes (.int .i64 (IntKind.i64.wrap (((p : Nat) : Int) - ((a : Nat) : Int)))) ([⟨g, 10, (List.map Entry.row l), none⟩] : Heap) (AV.int .i64 ((p - a : Nat) : Int))) ∧ (Yes (AV.bool (((p - a : Nat) : Int) == 1)) ([⟨g, 10, (List.map Entry.row l), none⟩] : Heap) (AV.bool false)) ∧ (Yes (.int .i64 (IntKind.i64.wrap (((b : Nat) : Int) - ((p : Nat) : Int)))) ([⟨g, 10, (List.map Entry.row l), none⟩] : Heap) (AV.int .i64 ((b - p : Nat) : Int))) ∧ (Yes (AV.bool (((b - p : Nat) : Int) == 1)) ([⟨g, 10, (List.map Entry.row l), none⟩] : Heap) (AV.bool false)) ∧ (Yes (.int .i64 (IntKind.i64.wrap (((a : Nat) : Int) + ((b : Nat) : Int)))) ([⟨g, 10, (List.map Entry.row l), none⟩] : Heap) (AV.int .i64 ((a + b : Nat) : Int))) ∧ (Yes (AV.int .i64 (IntKind.i64.wrap (Int.fdiv (IntKind.u64.wrap ((a + b : Nat) : Int)) (2 ^ (min (Int.toNat 1) 64))))) ([⟨g, 10, (List.map Entry.row l), none⟩] : Heap) (AV.int .i64 ((mid : Nat) : Int))) ∧ (Yes (.int .i64 (IntKind.i64.wrap (((mid : Nat) : Int) + ((p : Nat) : Int)))) ([⟨g, 10, (List.map Entry.row l), none⟩] : Heap) (AV.int .i64 ((mid + p : Nat) : Int))) ∧ (Yes (AV.bool (decide (((p : Nat) : Int) > ((mid : Nat) : Int)))) ([⟨g, 10, (List.map Entry.row l), none⟩] : Heap) (AV.bool true)) ∧ (Yes (.int .i64 (IntKind.i64.wrap (((mid + p : Nat) : Int) - ((b : Nat) : Int)))) ([⟨g, 10, (List.map Entry.row l), none⟩] : Heap) (AV.int .i64 ((mid + p - b : Nat) : Int))) ∧ (Yes (.int .i64 (IntKind.i64.wrap (((mid + p : Nat) : Int) - 1))) ([⟨g, 10, (List.map Entry.row l), none⟩] : Heap) (AV.int .i64 ((mid + p - 1 : Nat) : Int))) ∧ (LoopTo (codeQ Try.prog (X sE_ann) (loopOf Try.f133 4)) (some [0, 1, 2, 3, 4, 18, 19, 20, 21, 22]) (some [0, 1, 2, 3, 4, 18, 19, 20]) (mkF 220 [(0, (AV.osl 0 g 10 0 n)), (1, (AV.int .i64 ((a : Nat) : Int))), (2, (AV.int .i64 ((p : Nat) : Int))), (3, (AV.int .i64 ((b : Nat) : Int))), (4, (AV.func f xs)), (18, (AV.int .i64 ((mid : Nat) : Int))), (19, (AV.int .i64 ((mid + p : Nat) : Int))), (20, (AV.int .i64 ((mid + p - b : Nat) : Int))), (21, (AV.int .i64 ((mid : Nat) : Int))), (22, (AV.int .i64 ((mid + p - 1 : Nat) : Int)))]) ([⟨g, 10, (List.map Entry.row l), none⟩] : Heap) (.exit 8) (mkF 220 [(0, (AV.osl 0 g 10 0 n)), (1, (AV.int .i64 ((a : Nat) : Int))), (2, (AV.int .i64 ((p : Nat) : Int))), (3, (AV.int .i64 ((b : Nat) : Int))), (4, (AV.func f xs)), (18, (AV.int .i64 ((mid : Nat) : Int))), (19, (AV.int .i64 (((mid + p) : Nat) : Int))), (20, (AV.int .i64 ((i : Nat) : Int)))]) ([⟨g, 10, (List.map Entry.row l), none⟩] : Heap)) ∧ (Yes (.int .i64 (IntKind.i64.wrap ((((mid + p) : Nat) : Int) - ((i : Nat) : Int)))) ([⟨g, 10, (List.map Entry.row l), none⟩] : Heap) (AV.int .i64 (((mid + p) - i : Nat) : Int))) ∧ cond (decide (((i : Nat) : Int) < ((p : Nat) : Int))) (cond (decide (((p : Nat) : Int) < (((mid + p) - i : Nat) : Int))) ((ACalls Try.prog 138 [(AV.osl 0 g 10 0 n), (AV.int .i64 ((i : Nat) : Int)), (AV.int .i64 ((p : Nat) : Int)), (AV.int .i64 (((mid + p) - i : Nat) : Int)), (AV.func f xs)] ([⟨g, 10, (List.map Entry.row l), none⟩] : Heap) ((AV.tup []), ([⟨g, 10, (List.map Entry.row (rotL i p ((mid + p) - i) l)), none⟩] : Heap))) ∧ cond (decide (((a : Nat) : Int) < ((i : Nat) : Int))) (cond (decide (((i : Nat) : Int) < ((mid : Nat) : Int))) ((ACalls Try.prog 133 [(AV.osl 0 g 10 0 n), (AV.int .i64 ((a : Nat) : Int)), (AV.int .i64 ((i : Nat) : Int)), (AV.int .i64 ((mid : Nat) : Int)), (AV.func f xs)] ([⟨g, 10, (List.map Entry.row (rotL i p ((mid + p) - i) l)), none⟩] : Heap) ((AV.tup []), ([⟨g, 10, (List.map Entry.row (mAt (ltF cmp) a i mid (rotL i p ((mid + p) - i) l))), none⟩] : Heap))) ∧ cond (decide (((mid : Nat) : Int) < (((mid + p) - i : Nat) : Int))) (cond (decide ((((mid + p) - i : Nat) : Int) < ((b : Nat) : Int))) ((ACalls Try.prog 133 [(AV.osl 0 g 10 0 n), (AV.int .i64 ((mid : Nat) : Int)), (AV.int .i64 (((mid + p) - i : Nat) : Int)), (AV.int .i64 ((b : Nat) : Int)), (AV.func f xs)] ([⟨g, 10, (List.map Entry.row (mAt (ltF cmp) a i mid (rotL i p ((mid + p) - i) l))), none⟩] : Heap) ((AV.tup []), ([⟨g, 10, (List.map Entry.row (mAt (ltF cmp) mid ((mid + p) - i) b (mAt (ltF cmp) a i mid (rotL i p ((mid + p) - i) l)))), none⟩] : Heap))) ∧ (AV.bdd 1 (AV.tup []) = true ∧ obsB 1 ([⟨g, 10, (List.map Entry.row (mAt (ltF cmp) mid ((mid + p) - i) b (mAt (ltF cmp) a i mid (rotL i p ((mid + p) - i) l)))), none⟩] : Heap) = true) ∧ ((AV.tup []), ([⟨g, 10, (List.map Entry.row (mAt (ltF cmp) mid ((mid + p) - i) b (mAt (ltF cmp) a i mid (rotL i p ((mid + p) - i) l)))), none⟩] : Heap)) = ((AV.tup []), ([⟨g, 10, (List.map Entry.row (A ++ (mg (ltF cmp) L1 R1 ++ (mg (ltF cmp) L2 R2 ++ B)))), none⟩] : Heap))) ((AV.bdd 1 (AV.tup []) = true ∧ obsB 1 ([⟨g, 10, (List.map Entry.row (mAt (ltF cmp) a i mid (rotL i p ((mid + p) - i) l))), none⟩] : Heap) = true) ∧ ((AV.tup []), ([⟨g, 10, (List.map Entry.row (mAt (ltF cmp) a i mid (rotL i p ((mid + p) - i) l))), none⟩] : Heap)) = ((AV.tup []), ([⟨g, 10, (List.map Entry.row (A ++ (mg (ltF cmp) L1 R1 ++ (mg (ltF cmp) L2 R2 ++ B)))), none⟩] : Heap)))) ((AV.bdd 1 (AV.tup []) = true ∧ obsB 1 ([⟨g, 10, (List.map Entry.row (mAt (ltF cmp) a i mid (rotL i p ((mid + p) - i) l))), none⟩] : Heap) = true) ∧ ((AV.tup []), ([⟨g, 10, (List.map Entry.row (mAt (ltF cmp) a i mid (rotL i p ((mid + p) - i) l))), none⟩] : Heap)) = ((AV.tup []), ([⟨g, 10, (List.map Entry.row (A ++ (mg (ltF cmp) L1 R1 ++ (mg (ltF cmp) L2 R2 ++ B)))), none⟩] : Heap)))) (cond (decide (((mid : Nat) : Int) < (((mid + p) - i : Nat) : Int))) (cond (decide ((((mid + p) - i : Nat) : Int) < ((b : Nat) : Int))) ((ACalls Try.prog 133 [(AV.osl 0 g 10 0 n), (AV.int .i64 ((mid : Nat) : Int)), (AV.int .i64 (((mid + p) - i : Nat) : Int)), (AV.int .i64 ((b : Nat) : Int)), (AV.func f xs)] ([⟨g, 10, (List.map Entry.row (rotL i p ((mid + p) - i) l)), none⟩] : Heap) ((AV.tup []), ([⟨g, 10, (List.map Entry.row (mAt (ltF cmp) mid ((mid + p) - i) b (rotL i p ((mid + p) - i) l))), none⟩] : Heap))) ∧ (AV.bdd 1 (AV.tup []) = true ∧ obsB 1 ([⟨g, 10, (List.map Entry.row (mAt (ltF cmp) mid ((mid + p) - i) b (rotL i p ((mid + p) - i) l))), none⟩] : Heap) = true) ∧ ((AV.tup []), ([⟨g, 10, (List.map Entry.row (mAt (ltF cmp) mid ((mid + p) - i) b (rotL i p ((mid + p) - i) l))), none⟩] : Heap)) = ((AV.tup []), ([⟨g, 10, (List.map Entry.row (A ++ (mg (ltF cmp) L1 R1 ++ (mg (ltF cmp) L2 R2 ++ B)))), none⟩] : Heap))) ((AV.bdd 1 (AV.tup []) = true ∧ obsB 1 ([⟨g, 10, (List.map Entry.row (rotL i p ((mid + p) - i) l)), none⟩] : Heap) = true) ∧ ((AV.tup []), ([⟨g, 10, (List.map Entry.row (rotL i p ((mid + p) - i) l)), none⟩] : Heap)) = ((AV.tup []), ([⟨g, 10, (List.map Entry.row (A ++ (mg (ltF cmp) L1 R1 ++ (mg (ltF cmp) L2 R2 ++ B)))), none⟩] : Heap)))) ((AV.bdd 1 (AV.tup []) = true ∧ obsB 1 ([⟨g, 10, (List.map Entry.row (rotL i p ((mid + p) - i) l)), none⟩] : Heap) = true) ∧ ((AV.tup []), ([⟨g, 10, (List.map Entry.row (rotL i p ((mid + p) - i) l)), none⟩] : Heap)) = ((AV.tup []), ([⟨g, 10, (List.map Entry.row (A ++ (mg (ltF cmp) L1 R1 ++ (mg (ltF cmp) L2 R2 ++ B)))), none⟩] : Heap))))) (cond (decide (((mid : Nat) : Int) < (((mid + p) - i : Nat) : Int))) (cond (decide ((((mid + p) - i : Nat) : Int) < ((b : Nat) : Int))) ((ACalls Try.prog 133 [(AV.osl 0 g 10 0 n), (AV.int .i64 ((mid : Nat) : Int)), (AV.int .i64 (((mid + p) - i : Nat) : Int)), (AV.int .i64 ((b : Nat) : Int)), (AV.func f xs)] ([⟨g, 10, (List.map Entry.row (rotL i p ((mid + p) - i) l)), none⟩] : Heap) ((AV.tup []), ([⟨g, 10, (List.map Entry.row (mAt (ltF cmp) mid ((mid + p) - i) b (rotL i p ((mid + p) - i) l))), none⟩] : Heap))) ∧ (AV.bdd 1 (AV.tup []) = true ∧ obsB 1 ([⟨g, 10, (List.map Entry.row (mAt (ltF cmp) mid ((mid + p) - i) b (rotL i p ((mid + p) - i) l))), none⟩] : Heap) = true) ∧ ((AV.tup []), ([⟨g, 10, (List.map Entry.row (mAt (ltF cmp) mid ((mid + p) - i) b (rotL i p ((mid + p) - i) l))), none⟩] : Heap)) = ((AV.tup []), ([⟨g, 10, (List.map Entry.row (A ++ (mg (ltF cmp) L1 R1 ++ (mg (ltF cmp) L2 R2 ++ B)))), none⟩] : Heap))) ((AV.bdd 1 (AV.tup []) = true ∧ obsB 1 ([⟨g, 10, (List.map Entry.row (rotL i p ((mid + p) - i) l)), none⟩] : Heap) = true) ∧ ((AV.tup []), ([⟨g, 10, (List.map Entry.row (rotL i p ((mid + p) - i) l)), none⟩] : Heap)) = ((AV.tup []), ([⟨g, 10, (List.map Entry.row (A ++ (mg (ltF cmp) L1 R1 ++ (mg (ltF cmp) L2 R2 ++ B)))), none⟩] : Heap)))) ((AV.bdd 1 (AV.tup []) = true ∧ obsB 1 ([⟨g, 10, (List.map Entry.row (rotL i p ((mid + p) - i) l)), none⟩] : Heap) = true) ∧ ((AV.tup []), ([⟨g, 10, (List.map Entry.row (rotL i p ((mid + p) - i) l)), none⟩] : Heap)) = ((AV.tup []), ([⟨g, 10, (List.map Entry.row (A ++ (mg (ltF cmp) L1 R1 ++ (mg (ltF cmp) L2 R2 ++ B)))), none⟩] : Heap))))) (cond (decide (((a : Nat) : Int) < ((i : Nat) : Int))) (cond (decide (((i : Nat) : Int) < ((mid : Nat) : Int))) ((ACalls Try.prog 133 [(AV.osl 0 g 10 0 n), (AV.int .i64 ((a : Nat) : Int)), (AV.int .i64 ((i : Nat) : Int)), (AV.int .i64 ((mid : Nat) : Int)), (AV.func f xs)] ([⟨g, 10, (List.map Entry.row l), none⟩] : Heap) ((AV.tup []), ([⟨g, 10, (List.map Entry.row (mAt (ltF cmp) a i mid l)), none⟩] : Heap))) ∧ cond (decide (((mid : Nat) : Int) < (((mid + p) - i : Nat) : Int))) (cond (decide ((((mid + p) - i : Nat) : Int) < ((b : Nat) : Int))) ((ACalls Try.prog 133 [(AV.osl 0 g 10 0 n), (AV.int .i64 ((mid : Nat) : Int)), (AV.int .i64 (((mid + p) - i : Nat) : Int)), (AV.int .i64 ((b : Nat) : Int)), (AV.func f xs)] ([⟨g, 10, (List.map Entry.row (mAt (ltF cmp) a i mid l)), none⟩] : Heap) ((AV.tup []), ([⟨g, 10, (List.map Entry.row (mAt (ltF cmp) mid ((mid + p) - i) b (mAt (ltF cmp) a i mid l))), none⟩] : Heap))) ∧ (AV.bdd 1 (AV.tup []) = true ∧ obsB 1 ([⟨g, 10, (List.map Entry.row (mAt (ltF cmp) mid ((mid + p) - i) b (mAt (ltF cmp) a i mid l))), none⟩] : Heap) = true) ∧ ((AV.tup []), ([⟨g, 10, (List.map Entry.row (mAt (ltF cmp) mid ((mid + p) - i) b (mAt (ltF cmp) a i mid l))), none⟩] : Heap)) = ((AV.tup []), ([⟨g, 10, (List.map Entry.row (A ++ (mg (ltF cmp) L1 R1 ++ (mg (ltF cmp) L2 R2 ++ B)))), none⟩] : Heap))) ((AV.bdd 1 (AV.tup []) = true ∧ obsB 1 ([⟨g, 10, (List.map Entry.row (mAt (ltF cmp) a i mid l)), none⟩] : Heap) = true) ∧ ((AV.tup []), ([⟨g, 10, (List.map Entry.row (mAt (ltF cmp) a i mid l)), none⟩] : Heap)) = ((AV.tup []), ([⟨g, 10, (List.map Entry.row (A ++ (mg (ltF cmp) L1 R1 ++ (mg (ltF cmp) L2 R2 ++ B)))), none⟩] : Heap)))) ((AV.bdd 1 (AV.tup []) = true ∧ obsB 1 ([⟨g, 10, (List.map Entry.row (mAt (ltF cmp) a i mid l)), none⟩] : Heap) = true) ∧ ((AV.tup []), ([⟨g, 10, (List.map Entry.row (mAt (ltF cmp) a i mid l)), none⟩] : Heap)) = ((AV.tup []), ([⟨g, 10, (List.map Entry.row (A ++ (mg (ltF cmp) L1 R1 ++ (mg (ltF cmp) L2 R2 ++ B)))), none⟩] : Heap)))) (cond (decide (((mid : Nat) : Int) < (((mid + p) - i : Nat) : Int))) (cond (decide ((((mid + p) - i : Nat) : Int) < ((b : Nat) : Int))) ((ACalls Try.prog 133 [(AV.osl 0 g 10 0 n), (AV.int .i64 ((mid : Nat) : Int)), (AV.int .i64 (((mid + p) - i : Nat) : Int)), (AV.int .i64 ((b : Nat) : Int)), (AV.func f xs)] ([⟨g, 10, (List.map Entry.row l), none⟩] : Heap) ((AV.tup []), ([⟨g, 10, (List.map Entry.row (mAt (ltF cmp) mid ((mid + p) - i) b l)), none⟩] : Heap))) ∧ (AV.bdd 1 (AV.tup []) = true ∧ obsB 1 ([⟨g, 10, (List.map Entry.row (mAt (ltF cmp) mid ((mid + p) - i) b l)), none⟩] : Heap) = true) ∧ ((AV.tup []), ([⟨g, 10, (List.map Entry.row (mAt (ltF cmp) mid ((mid + p) - i) b l)), none⟩] : Heap)) = ((AV.tup []), ([⟨g, 10, (List.map Entry.row (A ++ (mg (ltF cmp) L1 R1 ++ (mg (ltF cmp) L2 R2 ++ B)))), none⟩] : Heap))) ((AV.bdd 1 (AV.tup []) = true ∧ obsB 1 ([⟨g, 10, (List.map Entry.row l), none⟩] : Heap) = true) ∧ ((AV.tup []), ([⟨g, 10, (List.map Entry.row l), none⟩] : Heap)) = ((AV.tup []), ([⟨g, 10, (List.map Entry.row (A ++ (mg (ltF cmp) L1 R1 ++ (mg (ltF cmp) L2 R2 ++ B)))), none⟩] : Heap)))) ((AV.bdd 1 (AV.tup []) = true ∧ obsB 1 ([⟨g, 10, (List.map Entry.row l), none⟩] : Heap) = true) ∧ ((AV.tup []), ([⟨g, 10, (List.map Entry.row l), none⟩] : Heap)) = ((AV.tup []), ([⟨g, 10, (List.map Entry.row (A ++ (mg (ltF cmp) L1 R1 ++ (mg (ltF cmp) L2 R2 ++ B)))), none⟩] : Heap))))) (cond (decide (((mid : Nat) : Int) < (((mid + p) - i : Nat) : Int))) (cond (decide ((((mid + p) - i : Nat) : Int) < ((b : Nat) : Int))) ((ACalls Try.prog 133 [(AV.osl 0 g 10 0 n), (AV.int .i64 ((mid : Nat) : Int)), (AV.int .i64 (((mid + p) - i : Nat) : Int)), (AV.int .i64 ((b : Nat) : Int)), (AV.func f xs)] ([⟨g, 10, (List.map Entry.row l), none⟩] : Heap) ((AV.tup []), ([⟨g, 10, (List.map Entry.row (mAt (ltF cmp) mid ((mid + p) - i) b l)), none⟩] : Heap))) ∧ (AV.bdd 1 (AV.tup []) = true ∧ obsB 1 ([⟨g, 10, (List.map Entry.row (mAt (ltF cmp) mid ((mid + p) - i) b l)), none⟩] : Heap) = true) ∧ ((AV.tup []), ([⟨g, 10, (List.map Entry.row (mAt (ltF cmp) mid ((mid + p) - i) b l)), none⟩] : Heap)) = ((AV.tup []), ([⟨g, 10, (List.map Entry.row (A ++ (mg (ltF cmp) L1 R1 ++ (mg (ltF cmp) L2 R2 ++ B)))), none⟩] : Heap))) ((AV.bdd 1 (AV.tup []) = true ∧ obsB 1 ([⟨g, 10, (List.map Entry.row l), none⟩] : Heap) = true) ∧ ((AV.tup []), ([⟨g, 10, (List.map Entry.row l), none⟩] : Heap)) = ((AV.tup []), ([⟨g, 10, (List.map Entry.row (A ++ (mg (ltF cmp) L1 R1 ++ (mg (ltF cmp) L2 R2 ++ B)))), none⟩] : Heap)))) ((AV.bdd 1 (AV.tup []) = true ∧ obsB 1 ([⟨g, 10, (List.map Entry.row l), none⟩] : Heap) = true) ∧ ((AV.tup []), ([⟨g, 10, (List.map Entry.row l), none⟩] : Heap)) = ((AV.tup []), ([⟨g, 10, (List.map Entry.row (A ++ (mg (ltF cmp) L1 R1 ++ (mg (ltF cmp) L2 R2 ++ B)))), none⟩] : Heap)))))) (cond (decide (((a : Nat) : Int) < ((i : Nat) : Int))) (cond (decide (((i : Nat) : Int) < ((mid : Nat) : Int))) ((ACalls Try.prog 133 [(AV.osl 0 g 10 0 n), (AV.int .i64 ((a : Nat) : Int)), (AV.int .i64 ((i : Nat) : Int)), (AV.int .i64 ((mid : Nat) : Int)), (AV.func f xs)] ([⟨g, 10, (List.map Entry.row l), none⟩] : Heap) ((AV.tup []), ([⟨g, 10, (List.map Entry.row (mAt (ltF cmp) a i mid l)), none⟩] : Heap))) ∧ cond (decide (((mid : Nat) : Int) < (((mid + p) - i : Nat) : Int))) (cond (decide ((((mid + p) - i : Nat) : Int) < ((b : Nat) : Int))) ((ACalls Try.prog 133 [(AV.osl 0 g 10 0 n), (AV.int .i64 ((mid : Nat) : Int)), (AV.int .i64 (((mid + p) - i : Nat) : Int)), (AV.int .i64 ((b : Nat) : Int)), (AV.func f xs)] ([⟨g, 10, (List.map Entry.row (mAt (ltF cmp) a i mid l)), none⟩] : Heap) ((AV.tup []), ([⟨g, 10, (List.map Entry.row (mAt (ltF cmp) mid ((mid + p) - i) b (mAt (ltF cmp) a i mid l))), none⟩] : Heap))) ∧ (AV.bdd 1 (AV.tup []) = true ∧ obsB 1 ([⟨g, 10, (List.map Entry.row (mAt (ltF cmp) mid ((mid + p) - i) b (mAt (ltF cmp) a i mid l))), none⟩] : Heap) = true) ∧ ((AV.tup []), ([⟨g, 10, (List.map Entry.row (mAt (ltF cmp) mid ((mid + p) - i) b (mAt (ltF cmp) a i mid l))), none⟩] : Heap)) = ((AV.tup []), ([⟨g, 10, (List.map Entry.row (A ++ (mg (ltF cmp) L1 R1 ++ (mg (ltF cmp) L2 R2 ++ B)))), none⟩] : Heap))) ((AV.bdd 1 (AV.tup []) = true ∧ obsB 1 ([⟨g, 10, (List.map Entry.row (mAt (ltF cmp) a i mid l)), none⟩] : Heap) = true) ∧ ((AV.tup []), ([⟨g, 10, (List.map Entry.row (mAt (ltF cmp) a i mid l)), none⟩] : Heap)) = ((AV.tup []), ([⟨g, 10, (List.map Entry.row (A ++ (mg (ltF cmp) L1 R1 ++ (mg (ltF cmp) L2 R2 ++ B)))), none⟩] : Heap)))) ((AV.bdd 1 (AV.tup []) = true ∧ obsB 1 ([⟨g, 10, (List.map Entry.row (mAt (ltF cmp) a i mid l)), none⟩] : Heap) = true) ∧ ((AV.tup []), ([⟨g, 10, (List.map Entry.row (mAt (ltF cmp) a i mid l)), none⟩] : Heap)) = ((AV.tup []), ([⟨g, 10, (List.map Entry.row (A ++ (mg (ltF cmp) L1 R1 ++ (mg (ltF cmp) L2 R2 ++ B)))), none⟩] : Heap)))) (cond (decide (((mid : Nat) : Int) < (((mid + p) - i : Nat) : Int))) (cond (decide ((((mid + p) - i : Nat) : Int) < ((b : Nat) : Int))) ((ACalls Try.prog 133 [(AV.osl 0 g 10 0 n), (AV.int .i64 ((mid : Nat) : Int)), (AV.int .i64 (((mid + p) - i : Nat) : Int)), (AV.int .i64 ((b : Nat) : Int)), (AV.func f xs)] ([⟨g, 10, (List.map Entry.row l), none⟩] : Heap) ((AV.tup []), ([⟨g, 10, (List.map Entry.row (mAt (ltF cmp) mid ((mid + p) - i) b l)), none⟩] : Heap))) ∧ (AV.bdd 1 (AV.tup []) = true ∧ obsB 1 ([⟨g, 10, (List.map Entry.row (mAt (ltF cmp) mid ((mid + p) - i) b l)), none⟩] : Heap) = true) ∧ ((AV.tup []), ([⟨g, 10, (List.map Entry.row (mAt (ltF cmp) mid ((mid + p) - i) b l)), none⟩] : Heap)) = ((AV.tup []), ([⟨g, 10, (List.map Entry.row (A ++ (mg (ltF cmp) L1 R1 ++ (mg (ltF cmp) L2 R2 ++ B)))), none⟩] : Heap))) ((AV.bdd 1 (AV.tup []) = true ∧ obsB 1 ([⟨g, 10, (List.map Entry.row l), none⟩] : Heap) = true) ∧ ((AV.tup []), ([⟨g, 10, (List.map Entry.row l), none⟩] : Heap)) = ((AV.tup []), ([⟨g, 10, (List.map Entry.row (A ++ (mg (ltF cmp) L1 R1 ++ (mg (ltF cmp) L2 R2 ++ B)))), none⟩] : Heap)))) ((AV.bdd 1 (AV.tup []) = true ∧ obsB 1 ([⟨g, 10, (List.map Entry.row l), none⟩] : Heap) = true) ∧ ((AV.tup []), ([⟨g, 10, (List.map Entry.row l), none⟩] : Heap)) = ((AV.tup []), ([⟨g, 10, (List.map Entry.row (A ++ (mg (ltF cmp) L1 R1 ++ (mg (ltF cmp) L2 R2 ++ B)))), none⟩] : Heap))))) (cond (decide (((mid : Nat) : Int) < (((mid + p) - i : Nat) : Int))) (cond (decide ((((mid + p) - i : Nat) : Int) < ((b : Nat) : Int))) ((ACalls Try.prog 133 [(AV.osl 0 g 10 0 n), (AV.int .i64 ((mid : Nat) : Int)), (AV.int .i64 (((mid + p) - i : Nat) : Int)), (AV.int .i64 ((b : Nat) : Int)), (AV.func f xs)] ([⟨g, 10, (List.map Entry.row l), none⟩] : Heap) ((AV.tup []), ([⟨g, 10, (List.map Entry.row (mAt (ltF cmp) mid ((mid + p) - i) b l)), none⟩] : Heap))) ∧ (AV.bdd 1 (AV.tup []) = true ∧ obsB 1 ([⟨g, 10, (List.map Entry.row (mAt (ltF cmp) mid ((mid + p) - i) b l)), none⟩] : Heap) = true) ∧ ((AV.tup []), ([⟨g, 10, (List.map Entry.row (mAt (ltF cmp) mid ((mid + p) - i) b l)), none⟩] : Heap)) = ((AV.tup []), ([⟨g, 10, (List.map Entry.row (A ++ (mg (ltF cmp) L1 R1 ++ (mg (ltF cmp) L2 R2 ++ B)))), none⟩] : Heap))) ((AV.bdd 1 (AV.tup []) = true ∧ obsB 1 ([⟨g, 10, (List.map Entry.row l), none⟩] : Heap) = true) ∧ ((AV.tup []), ([⟨g, 10, (List.map Entry.row l), none⟩] : Heap)) = ((AV.tup []), ([⟨g, 10, (List.map Entry.row (A ++ (mg (ltF cmp) L1 R1 ++ (mg (ltF cmp) L2 R2 ++ B)))), none⟩] : Heap)))) ((AV.bdd 1 (AV.tup []) = true ∧ obsB 1 ([⟨g, 10, (List.map Entry.row l), none⟩] : Heap) = true) ∧ ((AV.tup []), ([⟨g, 10, (List.map Entry.row l), none⟩] : Heap)) = ((AV.tup []), ([⟨g, 10, (List.map Entry.row (A ++ (mg (ltF cmp) L1 R1 ++ (mg (ltF cmp) L2 R2 ++ B)))), none⟩] : Heap)))))) = _) ?_
  refine And.intro (Yes.add (by omega) (by omega) (by omega)) ?_
  refine And.intro (Yes.bool (by exact beq_eq_false_iff_ne.2 (by omega))) ?_
  refine And.intro (Yes.add (by omega) (by omega) (by omega)) ?_
  refine And.intro (Yes.bool (by exact beq_eq_false_iff_ne.2 (by omega))) ?_
  refine And.intro (Yes.add (by omega) (by omega) (by omega)) ?_
  refine And.intro (Yes.int (half_nat (by omega) (by omega))) ?_
  refine And.intro (Yes.add (by omega) (by omega) (by omega)) ?_
  refine And.intro (Yes.bool (by exact decide_eq_true (by omega))) ?_
  refine And.intro (Yes.add (by omega) (by omega) (by omega)) ?_
  refine And.intro (Yes.add (by omega) (by omega) (by omega)) ?_
  refine And.intro ((by rw [hs]; exact sEc_loop cmp f xs hc a p b mid (mid + p) (mid + p - 1) n g l hn hnb (mid - ((mid + p - b))) (mid + p - b) mid (by omega) (by omega) (by omega))) ?_
  refine And.intro (Yes.add (by omega) (by omega) (by omega)) ?_
  refine cond_split (fun h1 => ?_) (fun h1 => ?_)
  · have h1' := h1
    try simp at h1'
    refine cond_split (fun h2 => ?_) (fun h2 => ?_)
    · have h2' := h2
      try simp at h2'
      refine And.intro ((mEr_at f xs i p ((mid + p) - i) n g l (by first | exact hc | exact hxs | omega | (simp; omega)) (by first | exact hc | exact hxs | omega | (simp; omega)) (by first | exact hc | exact hxs | omega | (simp; omega)) (by first | exact hc | exact hxs | omega | (simp; omega)) (by first | exact hc | exact hxs | omega | (simp; omega)) (by first | exact hc | exact hxs | omega | (simp; omega)) ((hrot (by omega) (by omega)).1) ((hrot (by omega) (by omega)).2.1) ((hrot (by omega) (by omega)).2.2) ([] : Heap)).pre ⟨AV.wk_refl_any _, AV.wk_refl_any _, AV.wk_refl_any _, AV.wk_refl_any _, AV.wk_refl_any _, trivial⟩) ?_
      refine cond_split (fun h3 => ?_) (fun h3 => ?_)
      · have h3' := h3
        try simp at h3'
        refine cond_split (fun h4 => ?_) (fun h4 => ?_)
        · have h4' := h4
          try simp at h4'
          refine And.intro (ih_at a i mid n g (rotL i p ((mid + p) - i) l) (by first | (exfalso; omega) | ((first | rw [if_pos (by omega)] at e1 | rw [if_neg (by omega)] at e1); rw [e1]; exact hlen1.symm)) (by first | exact hc | exact hxs | omega | (simp; omega)) (by first | exact hc | exact hxs | omega | (simp; omega)) (by first | exact hc | exact hxs | omega | (simp; omega)) (by first | exact hc | exact hxs | omega | (simp; omega)) (by first | exact hc | exact hxs | omega | (simp; omega)) (by first | (exfalso; omega) | ((first | rw [if_pos (by omega)] at e1 | rw [if_neg (by omega)] at e1); rw [e1]; rw [piece A L1 _ hA (by omega)]; exact q1)) (by first | (exfalso; omega) | ((first | rw [if_pos (by omega)] at e1 | rw [if_neg (by omega)] at e1); rw [e1]; rw [show A ++ (L1 ++ (R1 ++ (L2 ++ (R2 ++ B)))) = (A ++ L1) ++ (R1 ++ (L2 ++ (R2 ++ B))) by simp, piece (A ++ L1) R1 _ (by simp; omega) (by omega)]; exact q3)) ([] : Heap)) ?_
          refine cond_split (fun h5 => ?_) (fun h5 => ?_)
          · have h5' := h5
            try simp at h5'
            refine cond_split (fun h6 => ?_) (fun h6 => ?_)
            · have h6' := h6
              try simp at h6'
              refine And.intro ((ih_at mid ((mid + p) - i) b n g (mAt (ltF cmp) a i mid (rotL i p ((mid + p) - i) l)) (by first | (exfalso; omega) | ((first | rw [if_pos (by omega)] at e1 | rw [if_neg (by omega)] at e1); (first | rw [if_pos (by omega)] at e2 | rw [if_neg (by omega)] at e2); rw [e1, e2]; exact hlen2.symm)) (by first | exact hc | exact hxs | omega | (simp; omega)) (by first | exact hc | exact hxs | omega | (simp; omega)) (by first | exact hc | exact hxs | omega | (simp; omega)) (by first | exact hc | exact hxs | omega | (simp; omega)) (by first | exact hc | exact hxs | omega | (simp; omega)) (by first | (exfalso; omega) | ((first | rw [if_pos (by omega)] at e1 | rw [if_neg (by omega)] at e1); (first | rw [if_pos (by omega)] at e2 | rw [if_neg (by omega)] at e2); rw [e1, e2]; rw [show A ++ (mg (ltF cmp) L1 R1 ++ (L2 ++ (R2 ++ B))) = (A ++ mg (ltF cmp) L1 R1) ++ (L2 ++ (R2 ++ B)) by simp, piece (A ++ mg (ltF cmp) L1 R1) L2 _ (by simp [mg_len]; omega) (by omega)]; exact q2)) (by first | (exfalso; omega) | ((first | rw [if_pos (by omega)] at e1 | rw [if_neg (by omega)] at e1); (first | rw [if_pos (by omega)] at e2 | rw [if_neg (by omega)] at e2); rw [e1, e2]; rw [show A ++ (mg (ltF cmp) L1 R1 ++ (L2 ++ (R2 ++ B))) = ((A ++ mg (ltF cmp) L1 R1) ++ L2) ++ (R2 ++ B) by simp, piece ((A ++ mg (ltF cmp) L1 R1) ++ L2) R2 _ (by simp [mg_len]; omega) (by omega)]; exact q4)) ([] : Heap)).pre ⟨AV.wk_refl_any _, AV.wk_refl_any _, AV.wk_refl_any _, AV.wk_refl_any _, AV.wk_refl_any _, trivial⟩) ?_
              refine And.intro (by first | (simp [obsB, AV.bddss, AV.bdds, AV.bdd]; done) | (simp [obsB, AV.bddss, AV.bdds, AV.bdd, -List.map_append]; done) | simp [obsB, AV.bddss, AV.bdds, AV.bdd, -List.map_append, -List.map_set, -List.map_take, -List.map_drop, -List.map_cons, -List.map_map]) ?_
              first | (exfalso; omega) | ((first | rw [if_pos (by omega)] at e1 | rw [if_neg (by omega)] at e1); (first | rw [if_pos (by omega)] at e2 | rw [if_neg (by omega)] at e2); (first | rw [if_pos (by omega)] at e3 | rw [if_neg (by omega)] at e3); rw [e1, e2, e3])
            · have h6' := h6
              try simp at h6'
              refine And.intro (by first | (simp [obsB, AV.bddss, AV.bdds, AV.bdd]; done) | (simp [obsB, AV.bddss, AV.bdds, AV.bdd, -List.map_append]; done) | simp [obsB, AV.bddss, AV.bdds, AV.bdd, -List.map_append, -List.map_set, -List.map_take, -List.map_drop, -List.map_cons, -List.map_map]) ?_
              first | (exfalso; omega) | ((first | rw [if_pos (by omega)] at e1 | rw [if_neg (by omega)] at e1); (first | rw [if_pos (by omega)] at e2 | rw [if_neg (by omega)] at e2); (first | rw [if_pos (by omega)] at e3 | rw [if_neg (by omega)] at e3); rw [e1, e2, e3])
          · have h5' := h5
            try simp at h5'
            refine And.intro (by first | (simp [obsB, AV.bddss, AV.bdds, AV.bdd]; done) | (simp [obsB, AV.bddss, AV.bdds, AV.bdd, -List.map_append]; done) | simp [obsB, AV.bddss, AV.bdds, AV.bdd, -List.map_append, -List.map_set, -List.map_take, -List.map_drop, -List.map_cons, -List.map_map]) ?_
            first | (exfalso; omega) | ((first | rw [if_pos (by omega)] at e1 | rw [if_neg (by omega)] at e1); (first | rw [if_pos (by omega)] at e2 | rw [if_neg (by omega)] at e2); (first | rw [if_pos (by omega)] at e3 | rw [if_neg (by omega)] at e3); rw [e1, e2, e3])
        · have h4' := h4
          try simp at h4'
          refine cond_split (fun h5 => ?_) (fun h5 => ?_)
          · have h5' := h5
            try simp at h5'
            refine cond_split (fun h6 => ?_) (fun h6 => ?_)
            · have h6' := h6
              try simp at h6'
              refine And.intro ((ih_at mid ((mid + p) - i) b n g (rotL i p ((mid + p) - i) l) (by first | (exfalso; omega) | ((first | rw [if_pos (by omega)] at e1 | rw [if_neg (by omega)] at e1); (first | rw [if_pos (by omega)] at e2 | rw [if_neg (by omega)] at e2); rw [e1, e2]; exact hlen2.symm)) (by first | exact hc | exact hxs | omega | (simp; omega)) (by first | exact hc | exact hxs | omega | (simp; omega)) (by first | exact hc | exact hxs | omega | (simp; omega)) (by first | exact hc | exact hxs | omega | (simp; omega)) (by first | exact hc | exact hxs | omega | (simp; omega)) (by first | (exfalso; omega) | ((first | rw [if_pos (by omega)] at e1 | rw [if_neg (by omega)] at e1); (first | rw [if_pos (by omega)] at e2 | rw [if_neg (by omega)] at e2); rw [e1, e2]; rw [show A ++ (mg (ltF cmp) L1 R1 ++ (L2 ++ (R2 ++ B))) = (A ++ mg (ltF cmp) L1 R1) ++ (L2 ++ (R2 ++ B)) by simp, piece (A ++ mg (ltF cmp) L1 R1) L2 _ (by simp [mg_len]; omega) (by omega)]; exact q2)) (by first | (exfalso; omega) | ((first | rw [if_pos (by omega)] at e1 | rw [if_neg (by omega)] at e1); (first | rw [if_pos (by omega)] at e2 | rw [if_neg (by omega)] at e2); rw [e1, e2]; rw [show A ++ (mg (ltF cmp) L1 R1 ++ (L2 ++ (R2 ++ B))) = ((A ++ mg (ltF cmp) L1 R1) ++ L2) ++ (R2 ++ B) by simp, piece ((A ++ mg (ltF cmp) L1 R1) ++ L2) R2 _ (by simp [mg_len]; omega) (by omega)]; exact q4)) ([] : Heap)).pre ⟨AV.wk_refl_any _, AV.wk_refl_any _, AV.wk_refl_any _, AV.wk_refl_any _, AV.wk_refl_any _, trivial⟩) ?_
              refine And.intro (by first | (simp [obsB, AV.bddss, AV.bdds, AV.bdd]; done) | (simp [obsB, AV.bddss, AV.bdds, AV.bdd, -List.map_append]; done) | simp [obsB, AV.bddss, AV.bdds, AV.bdd, -List.map_append, -List.map_set, -List.map_take, -List.map_drop, -List.map_cons, -List.map_map]) ?_
              first | (exfalso; omega) | ((first | rw [if_pos (by omega)] at e1 | rw [if_neg (by omega)] at e1); (first | rw [if_pos (by omega)] at e2 | rw [if_neg (by omega)] at e2); (first | rw [if_pos (by omega)] at e3 | rw [if_neg (by omega)] at e3); rw [e1, e2, e3])
            · have h6' := h6
              try simp at h6'
              refine And.intro (by first | (simp [obsB, AV.bddss, AV.bdds, AV.bdd]; done) | (simp [obsB, AV.bddss, AV.bdds, AV.bdd, -List.map_append]; done) | simp [obsB, AV.bddss, AV.bdds, AV.bdd, -List.map_append, -List.map_set, -List.map_take, -List.map_drop, -List.map_cons, -List.map_map]) ?_
              first | (exfalso; omega) | ((first | rw [if_pos (by omega)] at e1 | rw [if_neg (by omega)] at e1); (first | rw [if_pos (by omega)] at e2 | rw [if_neg (by omega)] at e2); (first | rw [if_pos (by omega)] at e3 | rw [if_neg (by omega)] at e3); rw [e1, e2, e3])
          · have h5' := h5
            try simp at h5'
            refine And.intro (by first | (simp [obsB, AV.bddss, AV.bdds, AV.bdd]; done) | (simp [obsB, AV.bddss, AV.bdds, AV.bdd, -List.map_append]; done) | simp [obsB, AV.bddss, AV.bdds, AV.bdd, -List.map_append, -List.map_set, -List.map_take, -List.map_drop, -List.map_cons, -List.map_map]) ?_
            first | (exfalso; omega) | ((first | rw [if_pos (by omega)] at e1 | rw [if_neg (by omega)] at e1); (first | rw [if_pos (by omega)] at e2 | rw [if_neg (by omega)] at e2); (first | rw [if_pos (by omega)] at e3 | rw [if_neg (by omega)] at e3); rw [e1, e2, e3])
      · have h3' := h3
        try simp at h3'
        refine cond_split (fun h4 => ?_) (fun h4 => ?_)
        · have h4' := h4
          try simp at h4'
          refine cond_split (fun h5 => ?_) (fun h5 => ?_)
          · have h5' := h5
            try simp at h5'
            refine And.intro ((ih_at mid ((mid + p) - i) b n g (rotL i p ((mid + p) - i) l) (by first | (exfalso; omega) | ((first | rw [if_pos (by omega)] at e1 | rw [if_neg (by omega)] at e1); (first | rw [if_pos (by omega)] at e2 | rw [if_neg (by omega)] at e2); rw [e1, e2]; exact hlen2.symm)) (by first | exact hc | exact hxs | omega | (simp; omega)) (by first | exact hc | exact hxs | omega | (simp; omega)) (by first | exact hc | exact hxs | omega | (simp; omega)) (by first | exact hc | exact hxs | omega | (simp; omega)) (by first | exact hc | exact hxs | omega | (simp; omega)) (by first | (exfalso; omega) | ((first | rw [if_pos (by omega)] at e1 | rw [if_neg (by omega)] at e1); (first | rw [if_pos (by omega)] at e2 | rw [if_neg (by omega)] at e2); rw [e1, e2]; rw [show A ++ (mg (ltF cmp) L1 R1 ++ (L2 ++ (R2 ++ B))) = (A ++ mg (ltF cmp) L1 R1) ++ (L2 ++ (R2 ++ B)) by simp, piece (A ++ mg (ltF cmp) L1 R1) L2 _ (by simp [mg_len]; omega) (by omega)]; exact q2)) (by first | (exfalso; omega) | ((first | rw [if_pos (by omega)] at e1 | rw [if_neg (by omega)] at e1); (first | rw [if_pos (by omega)] at e2 | rw [if_neg (by omega)] at e2); rw [e1, e2]; rw [show A ++ (mg (ltF cmp) L1 R1 ++ (L2 ++ (R2 ++ B))) = ((A ++ mg (ltF cmp) L1 R1) ++ L2) ++ (R2 ++ B) by simp, piece ((A ++ mg (ltF cmp) L1 R1) ++ L2) R2 _ (by simp [mg_len]; omega) (by omega)]; exact q4)) ([] : Heap)).pre ⟨AV.wk_refl_any _, AV.wk_refl_any _, AV.wk_refl_any _, AV.wk_refl_any _, AV.wk_refl_any _, trivial⟩) ?_
            refine And.intro (by first | (simp [obsB, AV.bddss, AV.bdds, AV.bdd]; done) | (simp [obsB, AV.bddss, AV.bdds, AV.bdd, -List.map_append]; done) | simp [obsB, AV.bddss, AV.bdds, AV.bdd, -List.map_append, -List.map_set, -List.map_take, -List.map_drop, -List.map_cons, -List.map_map]) ?_
            first | (exfalso; omega) | ((first | rw [if_pos (by omega)] at e1 | rw [if_neg (by omega)] at e1); (first | rw [if_pos (by omega)] at e2 | rw [if_neg (by omega)] at e2); (first | rw [if_pos (by omega)] at e3 | rw [if_neg (by omega)] at e3); rw [e1, e2, e3])
          · have h5' := h5
            try simp at h5'
            refine And.intro (by first | (simp [obsB, AV.bddss, AV.bdds, AV.bdd]; done) | (simp [obsB, AV.bddss, AV.bdds, AV.bdd, -List.map_append]; done) | simp [obsB, AV.bddss, AV.bdds, AV.bdd, -List.map_append, -List.map_set, -List.map_take, -List.map_drop, -List.map_cons, -List.map_map]) ?_
            first | (exfalso; omega) | ((first | rw [if_pos (by omega)] at e1 | rw [if_neg (by omega)] at e1); (first | rw [if_pos (by omega)] at e2 | rw [if_neg (by omega)] at e2); (first | rw [if_pos (by omega)] at e3 | rw [if_neg (by omega)] at e3); rw [e1, e2, e3])
        · have h4' := h4
          try simp at h4'
          refine And.intro (by first | (simp [obsB, AV.bddss, AV.bdds, AV.bdd]; done) | (simp [obsB, AV.bddss, AV.bdds, AV.bdd, -List.map_append]; done) | simp [obsB, AV.bddss, AV.bdds, AV.bdd, -List.map_append, -List.map_set, -List.map_take, -List.map_drop, -List.map_cons, -List.map_map]) ?_
          first | (exfalso; omega) | ((first | rw [if_pos (by omega)] at e1 | rw [if_neg (by omega)] at e1); (first | rw [if_pos (by omega)] at e2 | rw [if_neg (by omega)] at e2); (first | rw [if_pos (by omega)] at e3 | rw [if_neg (by omega)] at e3); rw [e1, e2, e3])
    · have h2' := h2
      try simp at h2'
      refine cond_split (fun h3 => ?_) (fun h3 => ?_)
      · have h3' := h3
        try simp at h3'
        refine cond_split (fun h4 => ?_) (fun h4 => ?_)
        · have h4' := h4
          try simp at h4'
          refine And.intro (ih_at a i mid n g l (by first | (exfalso; omega) | ((first | rw [if_pos (by omega)] at e1 | rw [if_neg (by omega)] at e1); rw [e1]; exact hlen1.symm)) (by first | exact hc | exact hxs | omega | (simp; omega)) (by first | exact hc | exact hxs | omega | (simp; omega)) (by first | exact hc | exact hxs | omega | (simp; omega)) (by first | exact hc | exact hxs | omega | (simp; omega)) (by first | exact hc | exact hxs | omega | (simp; omega)) (by first | (exfalso; omega) | ((first | rw [if_pos (by omega)] at e1 | rw [if_neg (by omega)] at e1); rw [e1]; rw [piece A L1 _ hA (by omega)]; exact q1)) (by first | (exfalso; omega) | ((first | rw [if_pos (by omega)] at e1 | rw [if_neg (by omega)] at e1); rw [e1]; rw [show A ++ (L1 ++ (R1 ++ (L2 ++ (R2 ++ B)))) = (A ++ L1) ++ (R1 ++ (L2 ++ (R2 ++ B))) by simp, piece (A ++ L1) R1 _ (by simp; omega) (by omega)]; exact q3)) ([] : Heap)) ?_
          refine cond_split (fun h5 => ?_) (fun h5 => ?_)
          · have h5' := h5
            try simp at h5'
            refine cond_split (fun h6 => ?_) (fun h6 => ?_)
            · have h6' := h6
              try simp at h6'
              refine And.intro ((ih_at mid ((mid + p) - i) b n g (mAt (ltF cmp) a i mid l) (by first | (exfalso; omega) | ((first | rw [if_pos (by omega)] at e1 | rw [if_neg (by omega)] at e1); (first | rw [if_pos (by omega)] at e2 | rw [if_neg (by omega)] at e2); rw [e1, e2]; exact hlen2.symm)) (by first | exact hc | exact hxs | omega | (simp; omega)) (by first | exact hc | exact hxs | omega | (simp; omega)) (by first | exact hc | exact hxs | omega | (simp; omega)) (by first | exact hc | exact hxs | omega | (simp; omega)) (by first | exact hc | exact hxs | omega | (simp; omega)) (by first | (exfalso; omega) | ((first | rw [if_pos (by omega)] at e1 | rw [if_neg (by omega)] at e1); (first | rw [if_pos (by omega)] at e2 | rw [if_neg (by omega)] at e2); rw [e1, e2]; rw [show A ++ (mg (ltF cmp) L1 R1 ++ (L2 ++ (R2 ++ B))) = (A ++ mg (ltF cmp) L1 R1) ++ (L2 ++ (R2 ++ B)) by simp, piece (A ++ mg (ltF cmp) L1 R1) L2 _ (by simp [mg_len]; omega) (by omega)]; exact q2)) (by first | (exfalso; omega) | ((first | rw [if_pos (by omega)] at e1 | rw [if_neg (by omega)] at e1); (first | rw [if_pos (by omega)] at e2 | rw [if_neg (by omega)] at e2); rw [e1, e2]; rw [show A ++ (mg (ltF cmp) L1 R1 ++ (L2 ++ (R2 ++ B))) = ((A ++ mg (ltF cmp) L1 R1) ++ L2) ++ (R2 ++ B) by simp, piece ((A ++ mg (ltF cmp) L1 R1) ++ L2) R2 _ (by simp [mg_len]; omega) (by omega)]; exact q4)) ([] : Heap)).pre ⟨AV.wk_refl_any _, AV.wk_refl_any _, AV.wk_refl_any _, AV.wk_refl_any _, AV.wk_refl_any _, trivial⟩) ?_
              refine And.intro (by first | (simp [obsB, AV.bddss, AV.bdds, AV.bdd]; done) | (simp [obsB, AV.bddss, AV.bdds, AV.bdd, -List.map_append]; done) | simp [obsB, AV.bddss, AV.bdds, AV.bdd, -List.map_append, -List.map_set, -List.map_take, -List.map_drop, -List.map_cons, -List.map_map]) ?_
              first | (exfalso; omega) | ((first | rw [if_pos (by omega)] at e1 | rw [if_neg (by omega)] at e1); (first | rw [if_pos (by omega)] at e2 | rw [if_neg (by omega)] at e2); (first | rw [if_pos (by omega)] at e3 | rw [if_neg (by omega)] at e3); rw [e1, e2, e3])
            · have h6' := h6
              try simp at h6'
              refine And.intro (by first | (simp [obsB, AV.bddss, AV.bdds, AV.bdd]; done) | (simp [obsB, AV.bddss, AV.bdds, AV.bdd, -List.map_append]; done) | simp [obsB, AV.bddss, AV.bdds, AV.bdd, -List.map_append, -List.map_set, -List.map_take, -List.map_drop, -List.map_cons, -List.map_map]) ?_
              first | (exfalso; omega) | ((first | rw [if_pos (by omega)] at e1 | rw [if_neg (by omega)] at e1); (first | rw [if_pos (by omega)] at e2 | rw [if_neg (by omega)] at e2); (first | rw [if_pos (by omega)] at e3 | rw [if_neg (by omega)] at e3); rw [e1, e2, e3])
          · have h5' := h5
            try simp at h5'
            refine And.intro (by first | (simp [obsB, AV.bddss, AV.bdds, AV.bdd]; done) | (simp [obsB, AV.bddss, AV.bdds, AV.bdd, -List.map_append]; done) | simp [obsB, AV.bddss, AV.bdds, AV.bdd, -List.map_append, -List.map_set, -List.map_take, -List.map_drop, -List.map_cons, -List.map_map]) ?_
            first | (exfalso; omega) | ((first | rw [if_pos (by omega)] at e1 | rw [if_neg (by omega)] at e1); (first | rw [if_pos (by omega)] at e2 | rw [if_neg (by omega)] at e2); (first | rw [if_pos (by omega)] at e3 | rw [if_neg (by omega)] at e3); rw [e1, e2, e3])
        · have h4' := h4
          try simp at h4'
          refine cond_split (fun h5 => ?_) (fun h5 => ?_)
          · have h5' := h5
            try simp at h5'
            refine cond_split (fun h6 => ?_) (fun h6 => ?_)
            · have h6' := h6
              try simp at h6'
              refine And.intro ((ih_at mid ((mid + p) - i) b n g l (by first | (exfalso; omega) | ((first | rw [if_pos (by omega)] at e1 | rw [if_neg (by omega)] at e1); (first | rw [if_pos (by omega)] at e2 | rw [if_neg (by omega)] at e2); rw [e1, e2]; exact hlen2.symm)) (by first | exact hc | exact hxs | omega | (simp; omega)) (by first | exact hc | exact hxs | omega | (simp; omega)) (by first | exact hc | exact hxs | omega | (simp; omega)) (by first | exact hc | exact hxs | omega | (simp; omega)) (by first | exact hc | exact hxs | omega | (simp; omega)) (by first | (exfalso; omega) | ((first | rw [if_pos (by omega)] at e1 | rw [if_neg (by omega)] at e1); (first | rw [if_pos (by omega)] at e2 | rw [if_neg (by omega)] at e2); rw [e1, e2]; rw [show A ++ (mg (ltF cmp) L1 R1 ++ (L2 ++ (R2 ++ B))) = (A ++ mg (ltF cmp) L1 R1) ++ (L2 ++ (R2 ++ B)) by simp, piece (A ++ mg (ltF cmp) L1 R1) L2 _ (by simp [mg_len]; omega) (by omega)]; exact q2)) (by first | (exfalso; omega) | ((first | rw [if_pos (by omega)] at e1 | rw [if_neg (by omega)] at e1); (first | rw [if_pos (by omega)] at e2 | rw [if_neg (by omega)] at e2); rw [e1, e2]; rw [show A ++ (mg (ltF cmp) L1 R1 ++ (L2 ++ (R2 ++ B))) = ((A ++ mg (ltF cmp) L1 R1) ++ L2) ++ (R2 ++ B) by simp, piece ((A ++ mg (ltF cmp) L1 R1) ++ L2) R2 _ (by simp [mg_len]; omega) (by omega)]; exact q4)) ([] : Heap)).pre ⟨AV.wk_refl_any _, AV.wk_refl_any _, AV.wk_refl_any _, AV.wk_refl_any _, AV.wk_refl_any _, trivial⟩) ?_
              refine And.intro (by first | (simp [obsB, AV.bddss, AV.bdds, AV.bdd]; done) | (simp [obsB, AV.bddss, AV.bdds, AV.bdd, -List.map_append]; done) | simp [obsB, AV.bddss, AV.bdds, AV.bdd, -List.map_append, -List.map_set, -List.map_take, -List.map_drop, -List.map_cons, -List.map_map]) ?_
              first | (exfalso; omega) | ((first | rw [if_pos (by omega)] at e1 | rw [if_neg (by omega)] at e1); (first | rw [if_pos (by omega)] at e2 | rw [if_neg (by omega)] at e2); (first | rw [if_pos (by omega)] at e3 | rw [if_neg (by omega)] at e3); rw [e1, e2, e3])
            · have h6' := h6
              try simp at h6'
              refine And.intro (by first | (simp [obsB, AV.bddss, AV.bdds, AV.bdd]; done) | (simp [obsB, AV.bddss, AV.bdds, AV.bdd, -List.map_append]; done) | simp [obsB, AV.bddss, AV.bdds, AV.bdd, -List.map_append, -List.map_set, -List.map_take, -List.map_drop, -List.map_cons, -List.map_map]) ?_
              first | (exfalso; omega) | ((first | rw [if_pos (by omega)] at e1 | rw [if_neg (by omega)] at e1); (first | rw [if_pos (by omega)] at e2 | rw [if_neg (by omega)] at e2); (first | rw [if_pos (by omega)] at e3 | rw [if_neg (by omega)] at e3); rw [e1, e2, e3])
          · have h5' := h5
            try simp at h5'
            refine And.intro (by first | (simp [obsB, AV.bddss, AV.bdds, AV.bdd]; done) | (simp [obsB, AV.bddss, AV.bdds, AV.bdd, -List.map_append]; done) | simp [obsB, AV.bddss, AV.bdds, AV.bdd, -List.map_append, -List.map_set, -List.map_take, -List.map_drop, -List.map_cons, -List.map_map]) ?_
            first | (exfalso; omega) | ((first | rw [if_pos (by omega)] at e1 | rw [if_neg (by omega)] at e1); (first | rw [if_pos (by omega)] at e2 | rw [if_neg (by omega)] at e2); (first | rw [if_pos (by omega)] at e3 | rw [if_neg (by omega)] at e3); rw [e1, e2, e3])
      · have h3' := h3
        try simp at h3'
        refine cond_split (fun h4 => ?_) (fun h4 => ?_)
        · have h4' := h4
          try simp at h4'
          refine cond_split (fun h5 => ?_) (fun h5 => ?_)
          · have h5' := h5
            try simp at h5'
            refine And.intro ((ih_at mid ((mid + p) - i) b n g l (by first | (exfalso; omega) | ((first | rw [if_pos (by omega)] at e1 | rw [if_neg (by omega)] at e1); (first | rw [if_pos (by omega)] at e2 | rw [if_neg (by omega)] at e2); rw [e1, e2]; exact hlen2.symm)) (by first | exact hc | exact hxs | omega | (simp; omega)) (by first | exact hc | exact hxs | omega | (simp; omega)) (by first | exact hc | exact hxs | omega | (simp; omega)) (by first | exact hc | exact hxs | omega | (simp; omega)) (by first | exact hc | exact hxs | omega | (simp; omega)) (by first | (exfalso; omega) | ((first | rw [if_pos (by omega)] at e1 | rw [if_neg (by omega)] at e1); (first | rw [if_pos (by omega)] at e2 | rw [if_neg (by omega)] at e2); rw [e1, e2]; rw [show A ++ (mg (ltF cmp) L1 R1 ++ (L2 ++ (R2 ++ B))) = (A ++ mg (ltF cmp) L1 R1) ++ (L2 ++ (R2 ++ B)) by simp, piece (A ++ mg (ltF cmp) L1 R1) L2 _ (by simp [mg_len]; omega) (by omega)]; exact q2)) (by first | (exfalso; omega) | ((first | rw [if_pos (by omega)] at e1 | rw [if_neg (by omega)] at e1); (first | rw [if_pos (by omega)] at e2 | rw [if_neg (by omega)] at e2); rw [e1, e2]; rw [show A ++ (mg (ltF cmp) L1 R1 ++ (L2 ++ (R2 ++ B))) = ((A ++ mg (ltF cmp) L1 R1) ++ L2) ++ (R2 ++ B) by simp, piece ((A ++ mg (ltF cmp) L1 R1) ++ L2) R2 _ (by simp [mg_len]; omega) (by omega)]; exact q4)) ([] : Heap)).pre ⟨AV.wk_refl_any _, AV.wk_refl_any _, AV.wk_refl_any _, AV.wk_refl_any _, AV.wk_refl_any _, trivial⟩) ?_
            refine And.intro (by first | (simp [obsB, AV.bddss, AV.bdds, AV.bdd]; done) | (simp [obsB, AV.bddss, AV.bdds, AV.bdd, -List.map_append]; done) | simp [obsB, AV.bddss, AV.bdds, AV.bdd, -List.map_append, -List.map_set, -List.map_take, -List.map_drop, -List.map_cons, -List.map_map]) ?_
            first | (exfalso; omega) | ((first | rw [if_pos (by omega)] at e1 | rw [if_neg (by omega)] at e1); (first | rw [if_pos (by omega)] at e2 | rw [if_neg (by omega)] at e2); (first | rw [if_pos (by omega)] at e3 | rw [if_neg (by omega)] at e3); rw [e1, e2, e3])
          · have h5' := h5
            try simp at h5'
            refine And.intro (by first | (simp [obsB, AV.bddss, AV.bdds, AV.bdd]; done) | (simp [obsB, AV.bddss, AV.bdds, AV.bdd, -List.map_append]; done) | simp [obsB, AV.bddss, AV.bdds, AV.bdd, -List.map_append, -List.map_set, -List.map_take, -List.map_drop, -List.map_cons, -List.map_map]) ?_
            first | (exfalso; omega) | ((first | rw [if_pos (by omega)] at e1 | rw [if_neg (by omega)] at e1); (first | rw [if_pos (by omega)] at e2 | rw [if_neg (by omega)] at e2); (first | rw [if_pos (by omega)] at e3 | rw [if_neg (by omega)] at e3); rw [e1, e2, e3])
        · have h4' := h4
          try simp at h4'
          refine And.intro (by first | (simp [obsB, AV.bddss, AV.bdds, AV.bdd]; done) | (simp [obsB, AV.bddss, AV.bdds, AV.bdd, -List.map_append]; done) | simp [obsB, AV.bddss, AV.bdds, AV.bdd, -List.map_append, -List.map_set, -List.map_take, -List.map_drop, -List.map_cons, -List.map_map]) ?_
          first | (exfalso; omega) | ((first | rw [if_pos (by omega)] at e1 | rw [if_neg (by omega)] at e1); (first | rw [if_pos (by omega)] at e2 | rw [if_neg (by omega)] at e2); (first | rw [if_pos (by omega)] at e3 | rw [if_neg (by omega)] at e3); rw [e1, e2, e3])
  · have h1' := h1
    try simp at h1'
    refine cond_split (fun h2 => ?_) (fun h2 => ?_)
    · have h2' := h2
      try simp at h2'
      refine cond_split (fun h3 => ?_) (fun h3 => ?_)
      · have h3' := h3
        try simp at h3'
        refine And.intro (ih_at a i mid n g l (by first | (exfalso; omega) | ((first | rw [if_pos (by omega)] at e1 | rw [if_neg (by omega)] at e1); rw [e1]; exact hlen1.symm)) (by first | exact hc | exact hxs | omega | (simp; omega)) (by first | exact hc | exact hxs | omega | (simp; omega)) (by first | exact hc | exact hxs | omega | (simp; omega)) (by first | exact hc | exact hxs | omega | (simp; omega)) (by first | exact hc | exact hxs | omega | (simp; omega)) (by first | (exfalso; omega) | ((first | rw [if_pos (by omega)] at e1 | rw [if_neg (by omega)] at e1); rw [e1]; rw [piece A L1 _ hA (by omega)]; exact q1)) (by first | (exfalso; omega) | ((first | rw [if_pos (by omega)] at e1 | rw [if_neg (by omega)] at e1); rw [e1]; rw [show A ++ (L1 ++ (R1 ++ (L2 ++ (R2 ++ B)))) = (A ++ L1) ++ (R1 ++ (L2 ++ (R2 ++ B))) by simp, piece (A ++ L1) R1 _ (by simp; omega) (by omega)]; exact q3)) ([] : Heap)) ?_
        refine cond_split (fun h4 => ?_) (fun h4 => ?_)
        · have h4' := h4
          try simp at h4'
          refine cond_split (fun h5 => ?_) (fun h5 => ?_)
          · have h5' := h5
            try simp at h5'
            refine And.intro ((ih_at mid ((mid + p) - i) b n g (mAt (ltF cmp) a i mid l) (by first | (exfalso; omega) | ((first | rw [if_pos (by omega)] at e1 | rw [if_neg (by omega)] at e1); (first | rw [if_pos (by omega)] at e2 | rw [if_neg (by omega)] at e2); rw [e1, e2]; exact hlen2.symm)) (by first | exact hc | exact hxs | omega | (simp; omega)) (by first | exact hc | exact hxs | omega | (simp; omega)) (by first | exact hc | exact hxs | omega | (simp; omega)) (by first | exact hc | exact hxs | omega | (simp; omega)) (by first | exact hc | exact hxs | omega | (simp; omega)) (by first | (exfalso; omega) | ((first | rw [if_pos (by omega)] at e1 | rw [if_neg (by omega)] at e1); (first | rw [if_pos (by omega)] at e2 | rw [if_neg (by omega)] at e2); rw [e1, e2]; rw [show A ++ (mg (ltF cmp) L1 R1 ++ (L2 ++ (R2 ++ B))) = (A ++ mg (ltF cmp) L1 R1) ++ (L2 ++ (R2 ++ B)) by simp, piece (A ++ mg (ltF cmp) L1 R1) L2 _ (by simp [mg_len]; omega) (by omega)]; exact q2)) (by first | (exfalso; omega) | ((first | rw [if_pos (by omega)] at e1 | rw [if_neg (by omega)] at e1); (first | rw [if_pos (by omega)] at e2 | rw [if_neg (by omega)] at e2); rw [e1, e2]; rw [show A ++ (mg (ltF cmp) L1 R1 ++ (L2 ++ (R2 ++ B))) = ((A ++ mg (ltF cmp) L1 R1) ++ L2) ++ (R2 ++ B) by simp, piece ((A ++ mg (ltF cmp) L1 R1) ++ L2) R2 _ (by simp [mg_len]; omega) (by omega)]; exact q4)) ([] : Heap)).pre ⟨AV.wk_refl_any _, AV.wk_refl_any _, AV.wk_refl_any _, AV.wk_refl_any _, AV.wk_refl_any _, trivial⟩) ?_
            refine And.intro (by first | (simp [obsB, AV.bddss, AV.bdds, AV.bdd]; done) | (simp [obsB, AV.bddss, AV.bdds, AV.bdd, -List.map_append]; done) | simp [obsB, AV.bddss, AV.bdds, AV.bdd, -List.map_append, -List.map_set, -List.map_take, -List.map_drop, -List.map_cons, -List.map_map]) ?_
            first | (exfalso; omega) | ((first | rw [if_pos (by omega)] at e1 | rw [if_neg (by omega)] at e1); (first | rw [if_pos (by omega)] at e2 | rw [if_neg (by omega)] at e2); (first | rw [if_pos (by omega)] at e3 | rw [if_neg (by omega)] at e3); rw [e1, e2, e3])
          · have h5' := h5
            try simp at h5'
            refine And.intro (by first | (simp [obsB, AV.bddss, AV.bdds, AV.bdd]; done) | (simp [obsB, AV.bddss, AV.bdds, AV.bdd, -List.map_append]; done) | simp [obsB, AV.bddss, AV.bdds, AV.bdd, -List.map_append, -List.map_set, -List.map_take, -List.map_drop, -List.map_cons, -List.map_map]) ?_
            first | (exfalso; omega) | ((first | rw [if_pos (by omega)] at e1 | rw [if_neg (by omega)] at e1); (first | rw [if_pos (by omega)] at e2 | rw [if_neg (by omega)] at e2); (first | rw [if_pos (by omega)] at e3 | rw [if_neg (by omega)] at e3); rw [e1, e2, e3])
        · have h4' := h4
          try simp at h4'
          refine And.intro (by first | (simp [obsB, AV.bddss, AV.bdds, AV.bdd]; done) | (simp [obsB, AV.bddss, AV.bdds, AV.bdd, -List.map_append]; done) | simp [obsB, AV.bddss, AV.bdds, AV.bdd, -List.map_append, -List.map_set, -List.map_take, -List.map_drop, -List.map_cons, -List.map_map]) ?_
          first | (exfalso; omega) | ((first | rw [if_pos (by omega)] at e1 | rw [if_neg (by omega)] at e1); (first | rw [if_pos (by omega)] at e2 | rw [if_neg (by omega)] at e2); (first | rw [if_pos (by omega)] at e3 | rw [if_neg (by omega)] at e3); rw [e1, e2, e3])
      · have h3' := h3
        try simp at h3'
        refine cond_split (fun h4 => ?_) (fun h4 => ?_)
        · have h4' := h4
          try simp at h4'
          refine cond_split (fun h5 => ?_) (fun h5 => ?_)
          · have h5' := h5
            try simp at h5'
            refine And.intro ((ih_at mid ((mid + p) - i) b n g l (by first | (exfalso; omega) | ((first | rw [if_pos (by omega)] at e1 | rw [if_neg (by omega)] at e1); (first | rw [if_pos (by omega)] at e2 | rw [if_neg (by omega)] at e2); rw [e1, e2]; exact hlen2.symm)) (by first | exact hc | exact hxs | omega | (simp; omega)) (by first | exact hc | exact hxs | omega | (simp; omega)) (by first | exact hc | exact hxs | omega | (simp; omega)) (by first | exact hc | exact hxs | omega | (simp; omega)) (by first | exact hc | exact hxs | omega | (simp; omega)) (by first | (exfalso; omega) | ((first | rw [if_pos (by omega)] at e1 | rw [if_neg (by omega)] at e1); (first | rw [if_pos (by omega)] at e2 | rw [if_neg (by omega)] at e2); rw [e1, e2]; rw [show A ++ (mg (ltF cmp) L1 R1 ++ (L2 ++ (R2 ++ B))) = (A ++ mg (ltF cmp) L1 R1) ++ (L2 ++ (R2 ++ B)) by simp, piece (A ++ mg (ltF cmp) L1 R1) L2 _ (by simp [mg_len]; omega) (by omega)]; exact q2)) (by first | (exfalso; omega) | ((first | rw [if_pos (by omega)] at e1 | rw [if_neg (by omega)] at e1); (first | rw [if_pos (by omega)] at e2 | rw [if_neg (by omega)] at e2); rw [e1, e2]; rw [show A ++ (mg (ltF cmp) L1 R1 ++ (L2 ++ (R2 ++ B))) = ((A ++ mg (ltF cmp) L1 R1) ++ L2) ++ (R2 ++ B) by simp, piece ((A ++ mg (ltF cmp) L1 R1) ++ L2) R2 _ (by simp [mg_len]; omega) (by omega)]; exact q4)) ([] : Heap)).pre ⟨AV.wk_refl_any _, AV.wk_refl_any _, AV.wk_refl_any _, AV.wk_refl_any _, AV.wk_refl_any _, trivial⟩) ?_
            refine And.intro (by first | (simp [obsB, AV.bddss, AV.bdds, AV.bdd]; done) | (simp [obsB, AV.bddss, AV.bdds, AV.bdd, -List.map_append]; done) | simp [obsB, AV.bddss, AV.bdds, AV.bdd, -List.map_append, -List.map_set, -List.map_take, -List.map_drop, -List.map_cons, -List.map_map]) ?_
            first | (exfalso; omega) | ((first | rw [if_pos (by omega)] at e1 | rw [if_neg (by omega)] at e1); (first | rw [if_pos (by omega)] at e2 | rw [if_neg (by omega)] at e2); (first | rw [if_pos (by omega)] at e3 | rw [if_neg (by omega)] at e3); rw [e1, e2, e3])
          · have h5' := h5
            try simp at h5'
            refine And.intro (by first | (simp [obsB, AV.bddss, AV.bdds, AV.bdd]; done) | (simp [obsB, AV.bddss, AV.bdds, AV.bdd, -List.map_append]; done) | simp [obsB, AV.bddss, AV.bdds, AV.bdd, -List.map_append, -List.map_set, -List.map_take, -List.map_drop, -List.map_cons, -List.map_map]) ?_
            first | (exfalso; omega) | ((first | rw [if_pos (by omega)] at e1 | rw [if_neg (by omega)] at e1); (first | rw [if_pos (by omega)] at e2 | rw [if_neg (by omega)] at e2); (first | rw [if_pos (by omega)] at e3 | rw [if_neg (by omega)] at e3); rw [e1, e2, e3])
        · have h4' := h4
          try simp at h4'
          refine And.intro (by first | (simp [obsB, AV.bddss, AV.bdds, AV.bdd]; done) | (simp [obsB, AV.bddss, AV.bdds, AV.bdd, -List.map_append]; done) | simp [obsB, AV.bddss, AV.bdds, AV.bdd, -List.map_append, -List.map_set, -List.map_take, -List.map_drop, -List.map_cons, -List.map_map]) ?_
          first | (exfalso; omega) | ((first | rw [if_pos (by omega)] at e1 | rw [if_neg (by omega)] at e1); (first | rw [if_pos (by omega)] at e2 | rw [if_neg (by omega)] at e2); (first | rw [if_pos (by omega)] at e3 | rw [if_neg (by omega)] at e3); rw [e1, e2, e3])
    · have h2' := h2
      try simp at h2'
      refine cond_split (fun h3 => ?_) (fun h3 => ?_)
      · have h3' := h3
        try simp at h3'
        refine cond_split (fun h4 => ?_) (fun h4 => ?_)
        · have h4' := h4
          try simp at h4'
          refine And.intro ((ih_at mid ((mid + p) - i) b n g l (by first | (exfalso; omega) | ((first | rw [if_pos (by omega)] at e1 | rw [if_neg (by omega)] at e1); (first | rw [if_pos (by omega)] at e2 | rw [if_neg (by omega)] at e2); rw [e1, e2]; exact hlen2.symm)) (by first | exact hc | exact hxs | omega | (simp; omega)) (by first | exact hc | exact hxs | omega | (simp; omega)) (by first | exact hc | exact hxs | omega | (simp; omega)) (by first | exact hc | exact hxs | omega | (simp; omega)) (by first | exact hc | exact hxs | omega | (simp; omega)) (by first | (exfalso; omega) | ((first | rw [if_pos (by omega)] at e1 | rw [if_neg (by omega)] at e1); (first | rw [if_pos (by omega)] at e2 | rw [if_neg (by omega)] at e2); rw [e1, e2]; rw [show A ++ (mg (ltF cmp) L1 R1 ++ (L2 ++ (R2 ++ B))) = (A ++ mg (ltF cmp) L1 R1) ++ (L2 ++ (R2 ++ B)) by simp, piece (A ++ mg (ltF cmp) L1 R1) L2 _ (by simp [mg_len]; omega) (by omega)]; exact q2)) (by first | (exfalso; omega) | ((first | rw [if_pos (by omega)] at e1 | rw [if_neg (by omega)] at e1); (first | rw [if_pos (by omega)] at e2 | rw [if_neg (by omega)] at e2); rw [e1, e2]; rw [show A ++ (mg (ltF cmp) L1 R1 ++ (L2 ++ (R2 ++ B))) = ((A ++ mg (ltF cmp) L1 R1) ++ L2) ++ (R2 ++ B) by simp, piece ((A ++ mg (ltF cmp) L1 R1) ++ L2) R2 _ (by simp [mg_len]; omega) (by omega)]; exact q4)) ([] : Heap)).pre ⟨AV.wk_refl_any _, AV.wk_refl_any _, AV.wk_refl_any _, AV.wk_refl_any _, AV.wk_refl_any _, trivial⟩) ?_
          refine And.intro (by first | (simp [obsB, AV.bddss, AV.bdds, AV.bdd]; done) | (simp [obsB, AV.bddss, AV.bdds, AV.bdd, -List.map_append]; done) | simp [obsB, AV.bddss, AV.bdds, AV.bdd, -List.map_append, -List.map_set, -List.map_take, -List.map_drop, -List.map_cons, -List.map_map]) ?_
          first | (exfalso; omega) | ((first | rw [if_pos (by omega)] at e1 | rw [if_neg (by omega)] at e1); (first | rw [if_pos (by omega)] at e2 | rw [if_neg (by omega)] at e2); (first | rw [if_pos (by omega)] at e3 | rw [if_neg (by omega)] at e3); rw [e1, e2, e3])
        · have h4' := h4
          try simp at h4'
          refine And.intro (by first | (simp [obsB, AV.bddss, AV.bdds, AV.bdd]; done) | (simp [obsB, AV.bddss, AV.bdds, AV.bdd, -List.map_append]; done) | simp [obsB, AV.bddss, AV.bdds, AV.bdd, -List.map_append, -List.map_set, -List.map_take, -List.map_drop, -List.map_cons, -List.map_map]) ?_
          first | (exfalso; omega) | ((first | rw [if_pos (by omega)] at e1 | rw [if_neg (by omega)] at e1); (first | rw [if_pos (by omega)] at e2 | rw [if_neg (by omega)] at e2); (first | rw [if_pos (by omega)] at e3 | rw [if_neg (by omega)] at e3); rw [e1, e2, e3])
      · have h3' := h3
        try simp at h3'
        refine And.intro (by first | (simp [obsB, AV.bddss, AV.bdds, AV.bdd]; done) | (simp [obsB, AV.bddss, AV.bdds, AV.bdd, -List.map_append]; done) | simp [obsB, AV.bddss, AV.bdds, AV.bdd, -List.map_append, -List.map_set, -List.map_take, -List.map_drop, -List.map_cons, -List.map_map]) ?_
        first | (exfalso; omega) | ((first | rw [if_pos (by omega)] at e1 | rw [if_neg (by omega)] at e1); (first | rw [if_pos (by omega)] at e2 | rw [if_neg (by omega)] at e2); (first | rw [if_pos (by omega)] at e3 | rw [if_neg (by omega)] at e3); rw [e1, e2, e3])
set_option maxHeartbeats 4000000 in
set_option maxRecDepth 100000 in
theorem sED_spec (cmp : Entry → Entry → Int) (f : Nat) (xs : List AV) (A L1 L2 R1 R2 B : List Entry) (a p b n g i mid Nz : Nat) (l : List Entry) (hc : ∀ (x y : Entry) (H : Heap), ACalls Try.prog f ([AV.agg (Entry.row x), AV.agg (Entry.row y)] ++ xs) H (AV.int .i64 (cmp x y), H)) (hxs : AV.bdds 1 xs = true) (hn : n = l.length) (hnb : n < 1048576) (ih_at : ∀ (a p b n g : Nat) (l : List Entry), n = l.length → n < 1048576 → a < p → p < b → b ≤ n → b - a < Nz → Srt (ltF cmp) ((l.drop a).take (p - a)) → Srt (ltF cmp) ((l.drop p).take (b - p)) → ∀ H : Heap, ACalls Try.prog 133 [(AV.osl 0 g 10 0 n), (AV.int .i64 ((a : Nat) : Int)), (AV.int .i64 ((p : Nat) : Int)), (AV.int .i64 ((b : Nat) : Int)), (AV.func f xs)] (([⟨g, 10, (List.map Entry.row l), none⟩] : Heap) ++ H) (.tup [], ([⟨g, 10, (List.map Entry.row (mAt (ltF cmp) a p b l)), none⟩] : Heap) ++ H)) (hl : l = A ++ (L1 ++ (L2 ++ (R1 ++ (R2 ++ B))))) (hA : a = A.length) (hi : i = a + L1.length) (hp : p = i + L2.length) (hR1 : mid = i + R1.length) (hb : b = p + R1.length + R2.length) (hbn : b ≤ n) (hap : a < p) (hpb : p < b) (h1 : p ≠ a + 1) (h2 : b ≠ p + 1) (hmid : mid = (a + b) / 2) (hNz : b - a ≤ Nz) (hgt : p ≤ mid) (hs : i = bsr (fun c => !decide (cmp (nth l (mid + p - 1 - c)) (nth l c) < 0)) (p - (a)) (a) p) (hlo : a ≤ i) (hhi : i ≤ p) (q1 : Srt (ltF cmp) L1) (q2 : Srt (ltF cmp) L2) (q3 : Srt (ltF cmp) R1) (q4 : Srt (ltF cmp) R2) : ACalls Try.prog 133 [(AV.osl 0 g 10 0 n), (AV.int .i64 ((a : Nat) : Int)), (AV.int .i64 ((p : Nat) : Int)), (AV.int .i64 ((b : Nat) : Int)), (AV.func f xs)] ([⟨g, 10, (List.map Entry.row l), none⟩] : Heap) ((AV.tup []), ([⟨g, 10, (List.map Entry.row (A ++ (mg (ltF cmp) L1 R1 ++ (mg (ltF cmp) L2 R2 ++ B)))), none⟩] : Heap)) := by
  have hll : n = A.length + L1.length + L2.length + R1.length + R2.length + B.length := by rw [hn, hl]; simp; omega
  have e1 := sm1 A L1 L2 R1 R2 B hl (s := i) (m := p) (e := mid + p - i) (by omega) hp (by omega)
  have e2 := sm2 (ltF cmp) A L1 R1 (L2 ++ (R2 ++ B)) (a := a) (s := i) (mid := mid) hA hi hR1
  have e3 := sm3 (ltF cmp) A (mg (ltF cmp) L1 R1) L2 R2 B (mid := mid) (e := mid + p - i) (b := b) (by rw [mg_len]; omega) (by omega) (by omega)
  have hrot : 0 < L2.length → 0 < R1.length → _ := rot_facts (A ++ L1) L2 R1 (R2 ++ B) (l := l) (by rw [hl]; simp) (a := i) (m := p) (b := mid + p - i) (by simp; omega) hp (by omega)
  have hlen2 : (A ++ (mg (ltF cmp) L1 R1 ++ (L2 ++ (R2 ++ B)))).length = n := by rw [hll]; simp [mg_len]; omega
  have hlen1 : (A ++ (L1 ++ (R1 ++ (L2 ++ (R2 ++ B))))).length = n := by rw [hll]; simp; omega
  refine spec (fn := Try.f133) (ann := sE_ann) (t := (.reg [(2, ((AV.int .i64 ((p - a : Nat) : Int)), ([⟨g, 10, (List.map Entry.row l), none⟩] : Heap))), (3, ((AV.bool false), ([⟨g, 10, (List.map Entry.row l), none⟩] : Heap)))] [] [] (.two .nil (.reg [(2, ((AV.int .i64 ((b - p : Nat) : Int)), ([⟨g, 10, (List.map Entry.row l), none⟩] : Heap))), (3, ((AV.bool false), ([⟨g, 10, (List.map Entry.row l), none⟩] : Heap)))] [] [] (.two .nil (.reg [(2, ((AV.int .i64 ((a + b : Nat) : Int)), ([⟨g, 10, (List.map Entry.row l), none⟩] : Heap))), (5, ((AV.int .i64 ((mid : Nat) : Int)), ([⟨g, 10, (List.map Entry.row l), none⟩] : Heap)))] [] [] (.reg [(2, ((AV.int .i64 ((mid + p : Nat) : Int)), ([⟨g, 10, (List.map Entry.row l), none⟩] : Heap)))] [] [] (.reg [] [] [] (.reg [(2, ((AV.bool false), ([⟨g, 10, (List.map Entry.row l), none⟩] : Heap)))] [] [] (.two .nil (.reg [] [] [] (.reg [] [] [] (.reg [(1, ((AV.int .i64 ((mid + p - 1 : Nat) : Int)), ([⟨g, 10, (List.map Entry.row l), none⟩] : Heap)))] [] [] (.loop (.exit 8) (mkF 220 [(0, (AV.osl 0 g 10 0 n)), (1, (AV.int .i64 ((a : Nat) : Int))), (2, (AV.int .i64 ((p : Nat) : Int))), (3, (AV.int .i64 ((b : Nat) : Int))), (4, (AV.func f xs)), (18, (AV.int .i64 ((mid : Nat) : Int))), (19, (AV.int .i64 (((mid + p) : Nat) : Int))), (20, (AV.int .i64 ((i : Nat) : Int)))]) ([⟨g, 10, (List.map Entry.row l), none⟩] : Heap) (.reg [(2, ((AV.int .i64 (((mid + p) - i : Nat) : Int)), ([⟨g, 10, (List.map Entry.row l), none⟩] : Heap)))] [] [] (.reg [] [] [] (.two (.two (.two (.two (.reg [(5, ((AV.tup []), ([⟨g, 10, (List.map Entry.row (rotL i p ((mid + p) - i) l)), none⟩] : Heap)))] [] [] (.reg [] [] [] (.two (.two (.two (.two (.reg [(5, ((AV.tup []), ([⟨g, 10, (List.map Entry.row (mAt (ltF cmp) a i mid (rotL i p ((mid + p) - i) l))), none⟩] : Heap)))] [] [] (.reg [] [] [] (.two (.two (.two (.two (.reg [(5, ((AV.tup []), ([⟨g, 10, (List.map Entry.row (mAt (ltF cmp) mid ((mid + p) - i) b (mAt (ltF cmp) a i mid (rotL i p ((mid + p) - i) l)))), none⟩] : Heap)))] [] [] .nil) .nil) .nil) .nil) (.two .nil (.two .nil (.two .nil .nil)))))) (.reg [] [] [] (.two (.two (.two (.two (.reg [(5, ((AV.tup []), ([⟨g, 10, (List.map Entry.row (mAt (ltF cmp) mid ((mid + p) - i) b (rotL i p ((mid + p) - i) l))), none⟩] : Heap)))] [] [] .nil) .nil) .nil) .nil) (.two .nil (.two .nil (.two .nil .nil)))))) .nil) .nil) (.two .nil (.two .nil (.two .nil (.reg [] [] [] (.two (.two (.two (.two (.reg [(5, ((AV.tup []), ([⟨g, 10, (List.map Entry.row (mAt (ltF cmp) mid ((mid + p) - i) b (rotL i p ((mid + p) - i) l))), none⟩] : Heap)))] [] [] .nil) .nil) .nil) .nil) (.two .nil (.two .nil (.two .nil .nil))))))))))) (.reg [] [] [] (.two (.two (.two (.two (.reg [(5, ((AV.tup []), ([⟨g, 10, (List.map Entry.row (mAt (ltF cmp) a i mid l)), none⟩] : Heap)))] [] [] (.reg [] [] [] (.two (.two (.two (.two (.reg [(5, ((AV.tup []), ([⟨g, 10, (List.map Entry.row (mAt (ltF cmp) mid ((mid + p) - i) b (mAt (ltF cmp) a i mid l))), none⟩] : Heap)))] [] [] .nil) .nil) .nil) .nil) (.two .nil (.two .nil (.two .nil .nil)))))) (.reg [] [] [] (.two (.two (.two (.two (.reg [(5, ((AV.tup []), ([⟨g, 10, (List.map Entry.row (mAt (ltF cmp) mid ((mid + p) - i) b l)), none⟩] : Heap)))] [] [] .nil) .nil) .nil) .nil) (.two .nil (.two .nil (.two .nil .nil)))))) .nil) .nil) (.two .nil (.two .nil (.two .nil (.reg [] [] [] (.two (.two (.two (.two (.reg [(5, ((AV.tup []), ([⟨g, 10, (List.map Entry.row (mAt (ltF cmp) mid ((mid + p) - i) b l)), none⟩] : Heap)))] [] [] .nil) .nil) .nil) .nil) (.two .nil (.two .nil (.two .nil .nil))))))))))) .nil) .nil) (.two .nil (.two .nil (.two .nil (.reg [] [] [] (.two (.two (.two (.two (.reg [(5, ((AV.tup []), ([⟨g, 10, (List.map Entry.row (mAt (ltF cmp) a i mid l)), none⟩] : Heap)))] [] [] (.reg [] [] [] (.two (.two (.two (.two (.reg [(5, ((AV.tup []), ([⟨g, 10, (List.map Entry.row (mAt (ltF cmp) mid ((mid + p) - i) b (mAt (ltF cmp) a i mid l))), none⟩] : Heap)))] [] [] .nil) .nil) .nil) .nil) (.two .nil (.two .nil (.two .nil .nil)))))) (.reg [] [] [] (.two (.two (.two (.two (.reg [(5, ((AV.tup []), ([⟨g, 10, (List.map Entry.row (mAt (ltF cmp) mid ((mid + p) - i) b l)), none⟩] : Heap)))] [] [] .nil) .nil) .nil) .nil) (.two .nil (.two .nil (.two .nil .nil)))))) .nil) .nil) (.two .nil (.two .nil (.two .nil (.reg [] [] [] (.two (.two (.two (.two (.reg [(5, ((AV.tup []), ([⟨g, 10, (List.map Entry.row (mAt (ltF cmp) mid ((mid + p) - i) b l)), none⟩] : Heap)))] [] [] .nil) .nil) .nil) .nil) (.two .nil (.two .nil (.two .nil .nil)))))))))))))))))))))))))))))) (Nat.le_of_ble_eq_true (by kernel_rfl)) ⟨Try.func133, by kernel_rfl, by kernel_rfl, by kernel_rfl⟩ ?_
  refine Eq.mp (by kernel_rfl : ((Yes (.int .i64 (IntKind.i64.wrap (((p : Nat) : Int) - ((a : Nat) : Int)))) ([⟨g, 10, (List.map Entry.row l), none⟩] : Heap) (AV.int .i64 ((p - a : Nat) : Int))) ∧ (Yes (AV.bool (((p - a : Nat) : Int) == 1)) ([⟨g, 10, (List.map Entry.row l), none⟩] : Heap) (AV.bool false)) ∧ (Yes (.int .i64 (IntKind.i64.wrap (((b : Nat) : Int) - ((p : Nat) : Int)))) ([⟨g, 10, (List.map Entry.row l), none⟩] : Heap) (AV.int .i64 ((b - p : Nat) : Int))) ∧ (Yes (AV.bool (((b - p : Nat) : Int) == 1)) ([⟨g, 10, (List.map Entry.row l), none⟩] : Heap) (AV.bool false)) ∧ (Yes (.int .i64 (IntKind.i64.wrap (((a : Nat) : Int) + ((b : Nat) : Int)))) ([⟨g, 10, (List.map Entry.row l), none⟩] : Heap) (AV.int .i64 ((a + b : Nat) : Int))) ∧ (Yes (AV.int .i64 (IntKind.i64.wrap (Int.fdiv (IntKind.u64.wrap ((a + b : Nat) : Int)) (2 ^ (min (Int.toNat 1) 64))))) ([⟨g, 10, (List.map Entry.row l), none⟩] : Heap) (AV.int .i64 ((mid : Nat) : Int))) ∧ (Yes (.int .i64 (IntKind.i64.wrap (((mid : Nat) : Int) + ((p : Nat) : Int)))) ([⟨g, 10, (List.map Entry.row l), none⟩] : Heap) (AV.int .i64 ((mid + p : Nat) : Int))) ∧ (Yes (AV.bool (decide (((p : Nat) : Int) > ((mid : Nat) : Int)))) ([⟨g, 10, (List.map Entry.row l), none⟩] : Heap) (AV.bool false)) ∧ (Yes (.int .i64 (IntKind.i64.wrap (((mid + p : Nat) : Int) - 1))) ([⟨g, 10, (List.map Entry.row l), none⟩] : Heap) (AV.int .i64 ((mid + p - 1 : Nat) : Int))) ∧ (LoopTo (codeQ Try.prog (X sE_ann) (loopOf Try.f133 4)) (some [0, 1, 2, 3, 4, 18, 19, 20, 21, 22]) (some [0, 1, 2, 3, 4, 18, 19, 20]) (mkF 220 [(0, (AV.osl 0 g 10 0 n)), (1, (AV.int .i64 ((a : Nat) : Int))), (2, (AV.int .i64 ((p : Nat) : Int))), (3, (AV.int .i64 ((b : Nat) : Int))), (4, (AV.func f xs)), (18, (AV.int .i64 ((mid : Nat) : Int))), (19, (AV.int .i64 ((mid + p : Nat) : Int))), (20, (AV.int .i64 ((a : Nat) : Int))), (21, (AV.int .i64 ((p : Nat) : Int))), (22, (AV.int .i64 ((mid + p - 1 : Nat) : Int)))]) ([⟨g, 10, (List.map Entry.row l), none⟩] : Heap) (.exit 8) (mkF 220 [(0, (AV.osl 0 g 10 0 n)), (1, (AV.int .i64 ((a : Nat) : Int))), (2, (AV.int .i64 ((p : Nat) : Int))), (3, (AV.int .i64 ((b : Nat) : Int))), (4, (AV.func f xs)), (18, (AV.int .i64 ((mid : Nat) : Int))), (19, (AV.int .i64 (((mid + p) : Nat) : Int))), (20, (AV.int .i64 ((i : Nat) : Int)))]) ([⟨g, 10, (List.map Entry.row l), none⟩] : Heap)) ∧ (Yes (.int .i64 (IntKind.i64.wrap ((((mid + p) : Nat) : Int) - ((i : Nat) : Int)))) ([⟨g, 10, (List.map Entry.row l), none⟩] : Heap) (AV.int .i64 (((mid + p) - i : Nat) : Int))) ∧ cond (decide (((i : Nat) : Int) < ((p : Nat) : Int))) (cond (decide (((p : Nat) : Int) < (((mid + p) - i : Nat) : Int))) ((ACalls Try.prog 138 [(AV.osl 0 g 10 0 n), (AV.int .i64 ((i : Nat) : Int)), (AV.int .i64 ((p : Nat) : Int)), (AV.int .i64 (((mid + p) - i : Nat) : Int)), (AV.func f xs)] ([⟨g, 10, (List.map Entry.row l), none⟩] : Heap) ((AV.tup []), ([⟨g, 10, (List.map Entry.row (rotL i p ((mid + p) - i) l)), none⟩] : Heap))) ∧ cond (decide (((a : Nat) : Int) < ((i : Nat) : Int))) (cond (decide (((i : Nat) : Int) < ((mid : Nat) : Int))) ((ACalls Try.prog 133 [(AV.osl 0 g 10 0 n), (AV.int .i64 ((a : Nat) : Int)), (AV.int .i64 ((i : Nat) : Int)), (AV.int .i64 ((mid : Nat) : Int)), (AV.func f xs)] ([⟨g, 10, (List.map Entry.row (rotL i p ((mid + p) - i) l)), none⟩] : Heap) ((AV.tup []), ([⟨g, 10, (List.map Entry.row (mAt (ltF cmp) a i mid (rotL i p ((mid + p) - i) l))), none⟩] : Heap))) ∧ cond (decide (((mid : Nat) : Int) < (((mid + p) - i : Nat) : Int))) (cond (decide ((((mid + p) - i : Nat) : Int) < ((b : Nat) : Int))) ((ACalls Try.prog 133 [(AV.osl 0 g 10 0 n), (AV.int .i64 ((mid : Nat) : Int)), (AV.int .i64 (((mid + p) - i : Nat) : Int)), (AV.int .i64 ((b : Nat) : Int)), (AV.func f xs)] ([⟨g, 10, (List.map Entry.row (mAt (ltF cmp) a i mid (rotL i p ((mid + p) - i) l))), none⟩] : Heap) ((AV.tup []), ([⟨g, 10, (List.map Entry.row (mAt (ltF cmp) mid ((mid + p) - i) b (mAt (ltF cmp) a i mid (rotL i p ((mid + p) - i) l)))), none⟩] : Heap))) ∧ (AV.bdd 1 (AV.tup []) = true ∧ obsB 1 ([⟨g, 10, (List.map Entry.row (mAt (ltF cmp) mid ((mid + p) - i) b (mAt (ltF cmp) a i mid (rotL i p ((mid + p) - i) l)))), none⟩] : Heap) = true) ∧ ((AV.tup []), ([⟨g, 10, (List.map Entry.row (mAt (ltF cmp) mid ((mid + p) - i) b (mAt (ltF cmp) a i mid (rotL i p ((mid + p) - i) l)))), none⟩] : Heap)) = ((AV.tup []), ([⟨g, 10, (List.map Entry.row (A ++ (mg (ltF cmp) L1 R1 ++ (mg (ltF cmp) L2 R2 ++ B)))), none⟩] : Heap))) ((AV.bdd 1 (AV.tup []) = true ∧ obsB 1 ([⟨g, 10, (List.map Entry.row (mAt (ltF cmp) a i mid (rotL i p ((mid + p) - i) l))), none⟩] : Heap) = true) ∧ ((AV.tup []), ([⟨g, 10, (List.map Entry.row (mAt (ltF cmp) a i mid (rotL i p ((mid + p) - i) l))), none⟩] : Heap)) = ((AV.tup []), ([⟨g, 10, (List.map Entry.row (A ++ (mg (ltF cmp) L1 R1 ++ (mg (ltF cmp) L2 R2 ++ B)))), none⟩] : Heap)))) ((AV.bdd 1 (AV.tup []) = true ∧ obsB 1 ([⟨g, 10, (List.map Entry.row (mAt (ltF cmp) a i mid (rotL i p ((mid + p) - i) l))), none⟩] : Heap) = true) ∧ ((AV.tup []), ([⟨g, 10, (List.map Entry.row (mAt (ltF cmp) a i mid (rotL i p ((mid + p) - i) l))), none⟩] : Heap)) = ((AV.tup []), ([⟨g, 10, (List.map Entry.row (A ++ (mg (ltF cmp) L1 R1 ++ (mg (ltF cmp) L2 R2 ++ B)))), none⟩] : Heap)))) (cond (decide (((mid : Nat) : Int) < (((mid + p) - i : Nat) : Int))) (cond (decide ((((mid + p) - i : Nat) : Int) < ((b : Nat) : Int))) ((ACalls Try.prog 133 [(AV.osl 0 g 10 0 n), (AV.int .i64 ((mid : Nat) : Int)), (AV.int .i64 (((mid + p) - i : Nat) : Int)), (AV.int .i64 ((b : Nat) : Int)), (AV.func f xs)] ([⟨g, 10, (List.map Entry.row (rotL i p ((mid + p) - i) l)), none⟩] : Heap) ((AV.tup []), ([⟨g, 10, (List.map Entry.row (mAt (ltF cmp) mid ((mid + p) - i) b (rotL i p ((mid + p) - i) l))), none⟩] : Heap))) ∧ (AV.bdd 1 (AV.tup []) = true ∧ obsB 1 ([⟨g, 10, (List.map Entry.row (mAt (ltF cmp) mid ((mid + p) - i) b (rotL i p ((mid + p) - i) l))), none⟩] : Heap) = true) ∧ ((AV.tup []), ([⟨g, 10, (List.map Entry.row (mAt (ltF cmp) mid ((mid + p) - i) b (rotL i p ((mid + p) - i) l))), none⟩] : Heap)) = ((AV.tup []), ([⟨g, 10, (List.map Entry.row (A ++ (mg (ltF cmp) L1 R1 ++ (mg (ltF cmp) L2 R2 ++ B)))), none⟩] : Heap))) ((AV.bdd 1 (AV.tup []) = true ∧ obsB 1 ([⟨g, 10, (List.map Entry.row (rotL i p ((mid + p) - i) l)), none⟩] : Heap) = true) ∧ ((AV.tup []), ([⟨g, 10, (List.map Entry.row (rotL i p ((mid + p) - i) l)), none⟩] : Heap)) = ((AV.tup []), ([⟨g, 10, (List.map Entry.row (A ++ (mg (ltF cmp) L1 R1 ++ (mg (ltF cmp) L2 R2 ++ B)))), none⟩] : Heap)))) ((AV.bdd 1 (AV.tup []) = true ∧ obsB 1 ([⟨g, 10, (List.map Entry.row (rotL i p ((mid + p) - i) l)), none⟩] : Heap) = true) ∧ ((AV.tup []), ([⟨g, 10, (List.map Entry.row (rotL i p ((mid + p) - i) l)), none⟩] : Heap)) = ((AV.tup []), ([⟨g, 10, (List.map Entry.row (A ++ (mg (ltF cmp) L1 R1 ++ (mg (ltF cmp) L2 R2 ++ B)))), none⟩] : Heap))))) (cond (decide (((mid : Nat) : Int) < (((mid + p) - i : Nat) : Int))) (cond (decide ((((mid + p) - i : Nat) : Int) < ((b : Nat) : Int))) ((ACalls Try.prog 133 [(AV.osl 0 g 10 0 n), (AV.int .i64 ((mid : Nat) : Int)), (AV.int .i64 (((mid + p) - i : Nat) : Int)), (AV.int .i64 ((b : Nat) : Int)), (AV.func f xs)] ([⟨g, 10, (List.map Entry.row (rotL i p ((mid + p) - i) l)), none⟩] : Heap) ((AV.tup []), ([⟨g, 10, (List.map Entry.row (mAt (ltF cmp) mid ((mid + p) - i) b (rotL i p ((mid + p) - i) l))), none⟩] : Heap))) ∧ (AV.bdd 1 (AV.tup []) = true ∧ obsB 1 ([⟨g, 10, (List.map Entry.row (mAt (ltF cmp) mid ((mid + p) - i) b (rotL i p ((mid + p) - i) l))), none⟩] : Heap) = true) ∧ ((AV.tup []), ([⟨g, 10, (List.map Entry.row (mAt (ltF cmp) mid ((mid + p) - i) b (rotL i p ((mid + p) - i) l))), none⟩] : Heap)) = ((AV.tup []), ([⟨g, 10, (List.map Entry.row (A ++ (mg (ltF cmp) L1 R1 ++ (mg (ltF cmp) L2 R2 ++ B)))), none⟩] : Heap))) ((AV.bdd 1 (AV.tup []) = true ∧ obsB 1 ([⟨g, 10, (List.map Entry.row (rotL i p ((mid + p) - i) l)), none⟩] : Heap) = true) ∧ ((AV.tup []), ([⟨g, 10, (List.map Entry.row (rotL i p ((mid + p) - i) l)), none⟩] : Heap)) = ((AV.tup []), ([⟨g, 10, (List.map Entry.row (A ++ (mg (ltF cmp) L1 R1 ++ (mg (ltF cmp) L2 R2 ++ B)))), none⟩] : Heap)))) ((AV.bdd 1 (AV.tup []) = true ∧ obsB 1 ([⟨g, 10, (List.map Entry.row (rotL i p ((mid + p) - i) l)), none⟩] : Heap) = true) ∧ ((AV.tup []), ([⟨g, 10, (List.map Entry.row (rotL i p ((mid + p) - i) l)), none⟩] : Heap)) = ((AV.tup []), ([⟨g, 10, (List.map Entry.row (A ++ (mg (ltF cmp) L1 R1 ++ (mg (ltF cmp) L2 R2 ++ B)))), none⟩] : Heap))))) (cond (decide (((a : Nat) : Int) < ((i : Nat) : Int))) (cond (decide (((i : Nat) : Int) < ((mid : Nat) : Int))) ((ACalls Try.prog 133 [(AV.osl 0 g 10 0 n), (AV.int .i64 ((a : Nat) : Int)), (AV.int .i64 ((i : Nat) : Int)), (AV.int .i64 ((mid : Nat) : Int)), (AV.func f xs)] ([⟨g, 10, (List.map Entry.row l), none⟩] : Heap) ((AV.tup []), ([⟨g, 10, (List.map Entry.row (mAt (ltF cmp) a i mid l)), none⟩] : Heap))) ∧ cond (decide (((mid : Nat) : Int) < (((mid + p) - i : Nat) : Int))) (cond (decide ((((mid + p) - i : Nat) : Int) < ((b : Nat) : Int))) ((ACalls Try.prog 133 [(AV.osl 0 g 10 0 n), (AV.int .i64 ((mid : Nat) : Int)), (AV.int .i64 (((mid + p) - i : Nat) : Int)), (AV.int .i64 ((b : Nat) : Int)), (AV.func f xs)] ([⟨g, 10, (List.map Entry.row (mAt (ltF cmp) a i mid l)), none⟩] : Heap) ((AV.tup []), ([⟨g, 10, (List.map Entry.row (mAt (ltF cmp) mid ((mid + p) - i) b (mAt (ltF cmp) a i mid l))), none⟩] : Heap))) ∧ (AV.bdd 1 (AV.tup []) = true ∧ obsB 1 ([⟨g, 10, (List.map Entry.row (mAt (ltF cmp) mid ((mid + p) - i) b (mAt (ltF cmp) a i mid l))), none⟩] : Heap) = true) ∧ ((AV.tup []), ([⟨g, 10, (List.map Entry.row (mAt (ltF cmp) mid ((mid + p) - i) b (mAt (ltF cmp) a i mid l))), none⟩] : Heap)) = ((AV.tup []), ([⟨g, 10, (List.map Entry.row (A ++ (mg (ltF cmp) L1 R1 ++ (mg (ltF cmp) L2 R2 ++ B)))), none⟩] : Heap))) ((AV.bdd 1 (AV.tup []) = true ∧ obsB 1 ([⟨g, 10, (List.map Entry.row (mAt (ltF cmp) a i mid l)), none⟩] : Heap) = true) ∧ ((AV.tup []), ([⟨g, 10, (List.map Entry.row (mAt (ltF cmp) a i mid l)), none⟩] : Heap)) = ((AV.tup []), ([⟨g, 10, (List.map Entry.row (A ++ (mg (ltF cmp) L1 R1 ++ (mg (ltF cmp) L2 R2 ++ B)))), none⟩] : Heap)))) ((AV.bdd 1 (AV.tup []) = true ∧ obsB 1 ([⟨g, 10, (List.map Entry.row (mAt (ltF cmp) a i mid l)), none⟩] : Heap) = true) ∧ ((AV.tup []), ([⟨g, 10, (List.map Entry.row (mAt (ltF cmp) a i mid l)), none⟩] : Heap)) = ((AV.tup []), ([⟨g, 10, (List.map Entry.row (A ++ (mg (ltF cmp) L1 R1 ++ (mg (ltF cmp) L2 R2 ++ B)))), none⟩] : Heap)))) (cond (decide (((mid : Nat) : Int) < (((mid + p) - i : Nat) : Int))) (cond (decide ((((mid + p) - i : Nat) : Int) < ((b : Nat) : Int))) ((ACalls Try.prog 133 [(AV.osl 0 g 10 0 n), (AV.int .i64 ((mid : Nat) : Int)), (AV.int .i64 (((mid + p) - i : Nat) : Int)), (AV.int .i64 ((b : Nat) : Int)), (AV.func f xs)] ([⟨g, 10, (List.map Entry.row l), none⟩] : Heap) ((AV.tup []), ([⟨g, 10, (List.map Entry.row (mAt (ltF cmp) mid ((mid + p) - i) b l)), none⟩] : Heap))) ∧ (AV.bdd 1 (AV.tup []) = true ∧ obsB 1 ([⟨g, 10, (List.map Entry.row (mAt (ltF cmp) mid ((mid + p) - i) b l)), none⟩] : Heap) = true) ∧ ((AV.tup []), ([⟨g, 10, (List.map Entry.row (mAt (ltF cmp) mid ((mid + p) - i) b l)), none⟩] : Heap)) = ((AV.tup []), ([⟨g, 10, (List.map Entry.row (A ++ (mg (ltF cmp) L1 R1 ++ (mg (ltF cmp) L2 R2 ++ B)))), none⟩] : Heap))) ((AV.bdd 1 (AV.tup []) = true ∧ obsB 1 ([⟨g, 10, (List.map Entry.row l), none⟩] : Heap) = true) ∧ ((AV.tup []), ([⟨g, 10, (List.map Entry.row l), none⟩] : Heap)) = ((AV.tup []), ([⟨g, 10, (List.map Entry.row (A ++ (mg (ltF cmp) L1 R1 ++ (mg (ltF cmp) L2 R2 ++ B)))), none⟩] : Heap)))) ((AV.bdd 1 (AV.tup []) = true ∧ obsB 1 ([⟨g, 10, (List.map Entry.row l), none⟩] : Heap) = true) ∧ ((AV.tup []), ([⟨g, 10, (List.map Entry.row l), none⟩] : Heap)) = ((AV.tup []), ([⟨g, 10, (List.map Entry.row (A ++ (mg (ltF cmp) L1 R1 ++ (mg (ltF cmp) L2 R2 ++ B)))), none⟩] : Heap))))) (cond (decide (((mid : Nat) : Int) < (((mid + p) - i : Nat) : Int))) (cond (decide ((((mid + p) - i : Nat) : Int) < ((b : Nat) : Int))) ((ACalls Try.prog 133 [(AV.osl 0 g 10 0 n), (AV.int .i64 ((mid : Nat) : Int)), (AV.int .i64 (((mid + p) - i : Nat) : Int)), (AV.int .i64 ((b : Nat) : Int)), (AV.func f xs)] ([⟨g, 10, (List.map Entry.row l), none⟩] : Heap) ((AV.tup []), ([⟨g, 10, (List.map Entry.row (mAt (ltF cmp) mid ((mid + p) - i) b l)), none⟩] : Heap))) ∧ (AV.bdd 1 (AV.tup []) = true ∧ obsB 1 ([⟨g, 10, (List.map Entry.row (mAt (ltF cmp) mid ((mid + p) - i) b l)), none⟩] : Heap) = true) ∧ ((AV.tup []), ([⟨g, 10, (List.map Entry.row (mAt (ltF cmp) mid ((mid + p) - i) b l)), none⟩] : Heap)) = ((AV.tup []), ([⟨g, 10, (List.map Entry.row (A ++ (mg (ltF cmp) L1 R1 ++ (mg (ltF cmp) L2 R2 ++ B)))), none⟩] : Heap))) ((AV.bdd 1 (AV.tup []) = true ∧ obsB 1 ([⟨g, 10, (List.map Entry.row l), none⟩] : Heap) = true) ∧ ((AV.tup []), ([⟨g, 10, (List.map Entry.row l), none⟩] : Heap)) = ((AV.tup []), ([⟨g, 10, (List.map Entry.row (A ++ (mg (ltF cmp) L1 R1 ++ (mg (ltF cmp) L2 R2 ++ B)))), none⟩] : Heap)))) ((AV.bdd 1 (AV.tup []) = true ∧ obsB 1 ([⟨g, 10, (List.map Entry.row l), none⟩] : Heap) = true) ∧ ((AV.tup []), ([⟨g, 10, (List.map Entry.row l), none⟩] : Heap)) = ((AV.tup []), ([⟨g, 10, (List.map Entry.row (A ++ (mg (ltF cmp) L1 R1 ++ (mg (ltF cmp) L2 R2 ++ B)))), none⟩] : Heap)))))) (cond (decide (((a : Nat) : Int) < ((i : Nat) : Int))) (cond (decide (((i : Nat) : Int) < ((mid : Nat) : Int))) ((ACalls Try.prog 133 [(AV.osl 0 g 10 0 n), (AV.int .i64 ((a : Nat) : Int)), (AV.int .i64 ((i : Nat) : Int)), (AV.int .i64 ((mid : Nat) : Int)), (AV.func f xs)] ([⟨g, 10, (List.map Entry.row l), none⟩] : Heap) ((AV.tup []), ([⟨g, 10, (List.map Entry.row (mAt (ltF cmp) a i mid l)), none⟩] : Heap))) ∧ cond (decide (((mid : Nat) : Int) < (((mid + p) - i : Nat) : Int))) (cond (decide ((((mid + p) - i : Nat) : Int) < ((b : Nat) : Int))) ((ACalls Try.prog 133 [(AV.osl 0 g 10 0 n), (AV.int .i64 ((mid : Nat) : Int)), (AV.int .i64 (((mid + p) - i : Nat) : Int)), (AV.int .i64 ((b : Nat) : Int)), (AV.func f xs)] ([⟨g, 10, (List.map Entry.row (mAt (ltF cmp) a i mid l)), none⟩] : Heap) ((AV.tup []), ([⟨g, 10, (List.map Entry.row (mAt (ltF cmp) mid ((mid + p) - i) b (mAt (ltF cmp) a i mid l))), none⟩] : Heap))) ∧ (AV.bdd 1 (AV.tup []) = true ∧ obsB 1 ([⟨g, 10, (List.map Entry.row (mAt (ltF cmp) mid ((mid + p) - i) b (mAt (ltF cmp) a i mid l))), none⟩] : Heap) = true) ∧ ((AV.tup []), ([⟨g, 10, (List.map Entry.row (mAt (ltF cmp) mid ((mid + p) - i) b (mAt (ltF cmp) a i mid l))), none⟩] : Heap)) = ((AV.tup []), ([⟨g, 10, (List.map Entry.row (A ++ (mg (ltF cmp) L1 R1 ++ (mg (ltF cmp) L2 R2 ++ B)))), none⟩] : Heap))) ((AV.bdd 1 (AV.tup []) = true ∧ obsB 1 ([⟨g, 10, (List.map Entry.row (mAt (ltF cmp) a i mid l)), none⟩] : Heap) = true) ∧ ((AV.tup []), ([⟨g, 10, (List.map Entry.row (mAt (ltF cmp) a i mid l)), none⟩] : Heap)) = ((AV.tup []), ([⟨g, 10, (List.map Entry.row (A ++ (mg (ltF cmp) L1 R1 ++ (mg (ltF cmp) L2 R2 ++ B)))), none⟩] : Heap)))) ((AV.bdd 1 (AV.tup []) = true ∧ obsB 1 ([⟨g, 10, (List.map Entry.row (mAt (ltF cmp) a i mid l)), none⟩] : Heap) = true) ∧ ((AV.tup []), ([⟨g, 10, (List.map Entry.row (mAt (ltF cmp) a i mid l)), none⟩] : Heap)) = ((AV.tup []), ([⟨g, 10, (List.map Entry.row (A ++ (mg (ltF cmp) L1 R1 ++ (mg (ltF cmp) L2 R2 ++ B)))), none⟩] : Heap)))) (cond (decide (((mid : Nat) : Int) < (((mid + p) - i : Nat) : Int))) (cond (decide ((((mid + p) - i : Nat) : Int) < ((b : Nat) : Int))) ((ACalls Try.prog 133 [(AV.osl 0 g 10 0 n), (AV.int .i64 ((mid : Nat) : Int)), (AV.int .i64 (((mid + p) - i : Nat) : Int)), (AV.int .i64 ((b : Nat) : Int)), (AV.func f xs)] ([⟨g, 10, (List.map Entry.row l), none⟩] : Heap) ((AV.tup []), ([⟨g, 10, (List.map Entry.row (mAt (ltF cmp) mid ((mid + p) - i) b l)), none⟩] : Heap))) ∧ (AV.bdd 1 (AV.tup []) = true ∧ obsB 1 ([⟨g, 10, (List.map Entry.row (mAt (ltF cmp) mid ((mid + p) - i) b l)), none⟩] : Heap) = true) ∧ ((AV.tup []), ([⟨g, 10, (List.map Entry.row (mAt (ltF cmp) mid ((mid + p) - i) b l)), none⟩] : Heap)) = ((AV.tup []), ([⟨g, 10, (List.map Entry.row (A ++ (mg (ltF cmp) L1 R1 ++ (mg (ltF cmp) L2 R2 ++ B)))), none⟩] : Heap))) ((AV.bdd 1 (AV.tup []) = true ∧ obsB 1 ([⟨g, 10, (List.map Entry.row l), none⟩] : Heap) = true) ∧ ((AV.tup []), ([⟨g, 10, (List.map Entry.row l), none⟩] : Heap)) = ((AV.tup []), ([⟨g, 10, (List.map Entry.row (A ++ (mg (ltF cmp) L1 R1 ++ (mg (ltF cmp) L2 R2 ++ B)))), none⟩] : Heap)))) ((AV.bdd 1 (AV.tup []) = true ∧ obsB 1 ([⟨g, 10, (List.map Entry.row l), none⟩] : Heap) = true) ∧ ((AV.tup []), ([⟨g, 10, (List.map Entry.row l), none⟩] : Heap)) = ((AV.tup []), ([⟨g, 10, (List.map Entry.row (A ++ (mg (ltF cmp) L1 R1 ++ (mg (ltF cmp) L2 R2 ++ B)))), none⟩] : Heap))))) (cond (decide (((mid : Nat) : Int) < (((mid + p) - i : Nat) : Int))) (cond (decide ((((mid + p) - i : Nat) : Int) < ((b : Nat) : Int))) ((ACalls Try.prog 133 [(AV.osl 0 g 10 0 n), (AV.int .i64 ((mid : Nat) : Int)), (AV.int .i64 (((mid + p) - i : Nat) : Int)), (AV.int .i64 ((b : Nat) : Int)), (AV.func f xs)] ([⟨g, 10, (List.map Entry.row l), none⟩] : Heap) ((AV.tup []), ([⟨g, 10, (List.map Entry.row (mAt (ltF cmp) mid ((mid + p) - i) b l)), none⟩] : Heap))) ∧ (AV.bdd 1 (AV.tup []) = true ∧ obsB 1 ([⟨g, 10, (List.map Entry.row (mAt (ltF cmp) mid ((mid + p) - i) b l)), none⟩] : Heap) = true) ∧ ((AV.tup []), ([⟨g, 10, (List.map Entry.row (mAt (ltF cmp) mid ((mid + p) - i) b l)), none⟩] : Heap)) = ((AV.tup []), ([⟨g, 10, (List.map Entry.row (A ++ (mg (ltF cmp) L1 R1 ++ (mg (ltF cmp) L2 R2 ++ B)))), none⟩] : Heap))) ((AV.bdd 1 (AV.tup []) = true ∧ obsB 1 ([⟨g, 10, (List.map Entry.row l), none⟩] : Heap) = true) ∧ ((AV.tup []), ([⟨g, 10, (List.map Entry.row l), none⟩] : Heap)) = ((AV.tup []), ([⟨g, 10, (List.map Entry.row (A ++ (mg (ltF cmp) L1 R1 ++ (mg (ltF cmp) L2 R2 ++ B)))), none⟩] : Heap)))) ((AV.bdd 1 (AV.tup []) = true ∧ obsB 1 ([⟨g, 10, (List.map Entry.row l), none⟩] : Heap) = true) ∧ ((AV.tup []), ([⟨g, 10, (List.map Entry.row l), none⟩] : Heap)) = ((AV.tup []), ([⟨g, 10, (List.map Entry.row (A ++ (mg (ltF cmp) L1 R1 ++ (mg (ltF cmp) L2 R2 ++ B)))), none⟩] : Heap)))))) = _) ?_
  refine And.intro (Yes.add (by omega) (by omega) (by omega)) ?_
  refine And.intro (Yes.bool (by exact beq_eq_false_iff_ne.2 (by omega))) ?_
  refine And.intro (Yes.add (by omega) (by omega) (by omega)) ?_
  refine And.intro (Yes.bool (by exact beq_eq_false_iff_ne.2 (by omega))) ?_
  refine And.intro (Yes.add (by omega) (by omega) (by omega)) ?_
  refine And.intro (Yes.int (half_nat (by omega) (by omega))) ?_
  refine And.intro (Yes.add (by omega) (by omega) (by omega)) ?_
  refine And.intro (Yes.bool (by exact decide_eq_false (by omega))) ?_
  refine And.intro (Yes.add (by omega) (by omega) (by omega)) ?_
  refine And.intro ((by rw [hs]; exact sEc_loop cmp f xs hc a p b mid (mid + p) (mid + p - 1) n g l hn hnb (p - (a)) a p (by omega) (by omega) (by omega))) ?_
  refine And.intro (Yes.add (by omega) (by omega) (by omega)) ?_
  refine cond_split (fun h1 => ?_) (fun h1 => ?_)
  · have h1' := h1
    try simp at h1'
    refine cond_split (fun h2 => ?_) (fun h2 => ?_)
    · have h2' := h2
      try simp at h2'
      refine And.intro ((mEr_at f xs i p ((mid + p) - i) n g l (by first | exact hc | exact hxs | omega | (simp; omega)) (by first | exact hc | exact hxs | omega | (simp; omega)) (by first | exact hc | exact hxs | omega | (simp; omega)) (by first | exact hc | exact hxs | omega | (simp; omega)) (by first | exact hc | exact hxs | omega | (simp; omega)) (by first | exact hc | exact hxs | omega | (simp; omega)) ((hrot (by omega) (by omega)).1) ((hrot (by omega) (by omega)).2.1) ((hrot (by omega) (by omega)).2.2) ([] : Heap)).pre ⟨AV.wk_refl_any _, AV.wk_refl_any _, AV.wk_refl_any _, AV.wk_refl_any _, AV.wk_refl_any _, trivial⟩) ?_
      refine cond_split (fun h3 => ?_) (fun h3 => ?_)
      · have h3' := h3
        try simp at h3'
        refine cond_split (fun h4 => ?_) (fun h4 => ?_)
        · have h4' := h4
          try simp at h4'
          refine And.intro (ih_at a i mid n g (rotL i p ((mid + p) - i) l) (by first | (exfalso; omega) | ((first | rw [if_pos (by omega)] at e1 | rw [if_neg (by omega)] at e1); rw [e1]; exact hlen1.symm)) (by first | exact hc | exact hxs | omega | (simp; omega)) (by first | exact hc | exact hxs | omega | (simp; omega)) (by first | exact hc | exact hxs | omega | (simp; omega)) (by first | exact hc | exact hxs | omega | (simp; omega)) (by first | exact hc | exact hxs | omega | (simp; omega)) (by first | (exfalso; omega) | ((first | rw [if_pos (by omega)] at e1 | rw [if_neg (by omega)] at e1); rw [e1]; rw [piece A L1 _ hA (by omega)]; exact q1)) (by first | (exfalso; omega) | ((first | rw [if_pos (by omega)] at e1 | rw [if_neg (by omega)] at e1); rw [e1]; rw [show A ++ (L1 ++ (R1 ++ (L2 ++ (R2 ++ B)))) = (A ++ L1) ++ (R1 ++ (L2 ++ (R2 ++ B))) by simp, piece (A ++ L1) R1 _ (by simp; omega) (by omega)]; exact q3)) ([] : Heap)) ?_
          refine cond_split (fun h5 => ?_) (fun h5 => ?_)
          · have h5' := h5
            try simp at h5'
            refine cond_split (fun h6 => ?_) (fun h6 => ?_)
            · have h6' := h6
              try simp at h6'
              refine And.intro ((ih_at mid ((mid + p) - i) b n g (mAt (ltF cmp) a i mid (rotL i p ((mid + p) - i) l)) (by first | (exfalso; omega) | ((first | rw [if_pos (by omega)] at e1 | rw [if_neg (by omega)] at e1); (first | rw [if_pos (by omega)] at e2 | rw [if_neg (by omega)] at e2); rw [e1, e2]; exact hlen2.symm)) (by first | exact hc | exact hxs | omega | (simp; omega)) (by first | exact hc | exact hxs | omega | (simp; omega)) (by first | exact hc | exact hxs | omega | (simp; omega)) (by first | exact hc | exact hxs | omega | (simp; omega)) (by first | exact hc | exact hxs | omega | (simp; omega)) (by first | (exfalso; omega) | ((first | rw [if_pos (by omega)] at e1 | rw [if_neg (by omega)] at e1); (first | rw [if_pos (by omega)] at e2 | rw [if_neg (by omega)] at e2); rw [e1, e2]; rw [show A ++ (mg (ltF cmp) L1 R1 ++ (L2 ++ (R2 ++ B))) = (A ++ mg (ltF cmp) L1 R1) ++ (L2 ++ (R2 ++ B)) by simp, piece (A ++ mg (ltF cmp) L1 R1) L2 _ (by simp [mg_len]; omega) (by omega)]; exact q2)) (by first | (exfalso; omega) | ((first | rw [if_pos (by omega)] at e1 | rw [if_neg (by omega)] at e1); (first | rw [if_pos (by omega)] at e2 | rw [if_neg (by omega)] at e2); rw [e1, e2]; rw [show A ++ (mg (ltF cmp) L1 R1 ++ (L2 ++ (R2 ++ B))) = ((A ++ mg (ltF cmp) L1 R1) ++ L2) ++ (R2 ++ B) by simp, piece ((A ++ mg (ltF cmp) L1 R1) ++ L2) R2 _ (by simp [mg_len]; omega) (by omega)]; exact q4)) ([] : Heap)).pre ⟨AV.wk_refl_any _, AV.wk_refl_any _, AV.wk_refl_any _, AV.wk_refl_any _, AV.wk_refl_any _, trivial⟩) ?_
              refine And.intro (by first | (simp [obsB, AV.bddss, AV.bdds, AV.bdd]; done) | (simp [obsB, AV.bddss, AV.bdds, AV.bdd, -List.map_append]; done) | simp [obsB, AV.bddss, AV.bdds, AV.bdd, -List.map_append, -List.map_set, -List.map_take, -List.map_drop, -List.map_cons, -List.map_map]) ?_
              first | (exfalso; omega) | ((first | rw [if_pos (by omega)] at e1 | rw [if_neg (by omega)] at e1); (first | rw [if_pos (by omega)] at e2 | rw [if_neg (by omega)] at e2); (first | rw [if_pos (by omega)] at e3 | rw [if_neg (by omega)] at e3); rw [e1, e2, e3])
            · have h6' := h6
              try simp at h6'
              refine And.intro (by first | (simp [obsB, AV.bddss, AV.bdds, AV.bdd]; done) | (simp [obsB, AV.bddss, AV.bdds, AV.bdd, -List.map_append]; done) | simp [obsB, AV.bddss, AV.bdds, AV.bdd, -List.map_append, -List.map_set, -List.map_take, -List.map_drop, -List.map_cons, -List.map_map]) ?_
              first | (exfalso; omega) | ((first | rw [if_pos (by omega)] at e1 | rw [if_neg (by omega)] at e1); (first | rw [if_pos (by omega)] at e2 | rw [if_neg (by omega)] at e2); (first | rw [if_pos (by omega)] at e3 | rw [if_neg (by omega)] at e3); rw [e1, e2, e3])
          · have h5' := h5
            try simp at h5'
            refine And.intro (by first | (simp [obsB, AV.bddss, AV.bdds, AV.bdd]; done) | (simp [obsB, AV.bddss, AV.bdds, AV.bdd, -List.map_append]; done) | simp [obsB, AV.bddss, AV.bdds, AV.bdd, -List.map_append, -List.map_set, -List.map_take, -List.map_drop, -List.map_cons, -List.map_map]) ?_
            first | (exfalso; omega) | ((first | rw [if_pos (by omega)] at e1 | rw [if_neg (by omega)] at e1); (first | rw [if_pos (by omega)] at e2 | rw [if_neg (by omega)] at e2); (first | rw [if_pos (by omega)] at e3 | rw [if_neg (by omega)] at e3); rw [e1, e2, e3])
        · have h4' := h4
          try simp at h4'
          refine cond_split (fun h5 => ?_) (fun h5 => ?_)
          · have h5' := h5
            try simp at h5'
            refine cond_split (fun h6 => ?_) (fun h6 => ?_)
            · have h6' := h6
              try simp at h6'
              refine And.intro ((ih_at mid ((mid + p) - i) b n g (rotL i p ((mid + p) - i) l) (by first | (exfalso; omega) | ((first | rw [if_pos (by omega)] at e1 | rw [if_neg (by omega)] at e1); (first | rw [if_pos (by omega)] at e2 | rw [if_neg (by omega)] at e2); rw [e1, e2]; exact hlen2.symm)) (by first | exact hc | exact hxs | omega | (simp; omega)) (by first | exact hc | exact hxs | omega | (simp; omega)) (by first | exact hc | exact hxs | omega | (simp; omega)) (by first | exact hc | exact hxs | omega | (simp; omega)) (by first | exact hc | exact hxs | omega | (simp; omega)) (by first | (exfalso; omega) | ((first | rw [if_pos (by omega)] at e1 | rw [if_neg (by omega)] at e1); (first | rw [if_pos (by omega)] at e2 | rw [if_neg (by omega)] at e2); rw [e1, e2]; rw [show A ++ (mg (ltF cmp) L1 R1 ++ (L2 ++ (R2 ++ B))) = (A ++ mg (ltF cmp) L1 R1) ++ (L2 ++ (R2 ++ B)) by simp, piece (A ++ mg (ltF cmp) L1 R1) L2 _ (by simp [mg_len]; omega) (by omega)]; exact q2)) (by first | (exfalso; omega) | ((first | rw [if_pos (by omega)] at e1 | rw [if_neg (by omega)] at e1); (first | rw [if_pos (by omega)] at e2 | rw [if_neg (by omega)] at e2); rw [e1, e2]; rw [show A ++ (mg (ltF cmp) L1 R1 ++ (L2 ++ (R2 ++ B))) = ((A ++ mg (ltF cmp) L1 R1) ++ L2) ++ (R2 ++ B) by simp, piece ((A ++ mg (ltF cmp) L1 R1) ++ L2) R2 _ (by simp [mg_len]; omega) (by omega)]; exact q4)) ([] : Heap)).pre ⟨AV.wk_refl_any _, AV.wk_refl_any _, AV.wk_refl_any _, AV.wk_refl_any _, AV.wk_refl_any _, trivial⟩) ?_
              refine And.intro (by first | (simp [obsB, AV.bddss, AV.bdds, AV.bdd]; done) | (simp [obsB, AV.bddss, AV.bdds, AV.bdd, -List.map_append]; done) | simp [obsB, AV.bddss, AV.bdds, AV.bdd, -List.map_append, -List.map_set, -List.map_take, -List.map_drop, -List.map_cons, -List.map_map]) ?_
              first | (exfalso; omega) | ((first | rw [if_pos (by omega)] at e1 | rw [if_neg (by omega)] at e1); (first | rw [if_pos (by omega)] at e2 | rw [if_neg (by omega)] at e2); (first | rw [if_pos (by omega)] at e3 | rw [if_neg (by omega)] at e3); rw [e1, e2, e3])
            · have h6' := h6
              try simp at h6'
              refine And.intro (by first | (simp [obsB, AV.bddss, AV.bdds, AV.bdd]; done) | (simp [obsB, AV.bddss, AV.bdds, AV.bdd, -List.map_append]; done) | simp [obsB, AV.bddss, AV.bdds, AV.bdd, -List.map_append, -List.map_set, -List.map_take, -List.map_drop, -List.map_cons, -List.map_map]) ?_
              first | (exfalso; omega) | ((first | rw [if_pos (by omega)] at e1 | rw [if_neg (by omega)] at e1); (first | rw [if_pos (by omega)] at e2 | rw [if_neg (by omega)] at e2); (first | rw [if_pos (by omega)] at e3 | rw [if_neg (by omega)] at e3); rw [e1, e2, e3])
          · have h5' := h5
            try simp at h5'
            refine And.intro (by first | (simp [obsB, AV.bddss, AV.bdds, AV.bdd]; done) | (simp [obsB, AV.bddss, AV.bdds, AV.bdd, -List.map_append]; done) | simp [obsB, AV.bddss, AV.bdds, AV.bdd, -List.map_append, -List.map_set, -List.map_take, -List.map_drop, -List.map_cons, -List.map_map]) ?_
            first | (exfalso; omega) | ((first | rw [if_pos (by omega)] at e1 | rw [if_neg (by omega)] at e1); (first | rw [if_pos (by omega)] at e2 | rw [if_neg (by omega)] at e2); (first | rw [if_pos (by omega)] at e3 | rw [if_neg (by omega)] at e3); rw [e1, e2, e3])
      · have h3' := h3
        try simp at h3'
        refine cond_split (fun h4 => ?_) (fun h4 => ?_)
        · have h4' := h4
          try simp at h4'
          refine cond_split (fun h5 => ?_) (fun h5 => ?_)
          · have h5' := h5
            try simp at h5'
            refine And.intro ((ih_at mid ((mid + p) - i) b n g (rotL i p ((mid + p) - i) l) (by first | (exfalso; omega) | ((first | rw [if_pos (by omega)] at e1 | rw [if_neg (by omega)] at e1); (first | rw [if_pos (by omega)] at e2 | rw [if_neg (by omega)] at e2); rw [e1, e2]; exact hlen2.symm)) (by first | exact hc | exact hxs | omega | (simp; omega)) (by first | exact hc | exact hxs | omega | (simp; omega)) (by first | exact hc | exact hxs | omega | (simp; omega)) (by first | exact hc | exact hxs | omega | (simp; omega)) (by first | exact hc | exact hxs | omega | (simp; omega)) (by first | (exfalso; omega) | ((first | rw [if_pos (by omega)] at e1 | rw [if_neg (by omega)] at e1); (first | rw [if_pos (by omega)] at e2 | rw [if_neg (by omega)] at e2); rw [e1, e2]; rw [show A ++ (mg (ltF cmp) L1 R1 ++ (L2 ++ (R2 ++ B))) = (A ++ mg (ltF cmp) L1 R1) ++ (L2 ++ (R2 ++ B)) by simp, piece (A ++ mg (ltF cmp) L1 R1) L2 _ (by simp [mg_len]; omega) (by omega)]; exact q2)) (by first | (exfalso; omega) | ((first | rw [if_pos (by omega)] at e1 | rw [if_neg (by omega)] at e1); (first | rw [if_pos (by omega)] at e2 | rw [if_neg (by omega)] at e2); rw [e1, e2]; rw [show A ++ (mg (ltF cmp) L1 R1 ++ (L2 ++ (R2 ++ B))) = ((A ++ mg (ltF cmp) L1 R1) ++ L2) ++ (R2 ++ B) by simp, piece ((A ++ mg (ltF cmp) L1 R1) ++ L2) R2 _ (by simp [mg_len]; omega) (by omega)]; exact q4)) ([] : Heap)).pre ⟨AV.wk_refl_any _, AV.wk_refl_any _, AV.wk_refl_any _, AV.wk_refl_any _, AV.wk_refl_any _, trivial⟩) ?_
            refine And.intro (by first | (simp [obsB, AV.bddss, AV.bdds, AV.bdd]; done) | (simp [obsB, AV.bddss, AV.bdds, AV.bdd, -List.map_append]; done) | simp [obsB, AV.bddss, AV.bdds, AV.bdd, -List.map_append, -List.map_set, -List.map_take, -List.map_drop, -List.map_cons, -List.map_map]) ?_
            first | (exfalso; omega) | ((first | rw [if_pos (by omega)] at e1 | rw [if_neg (by omega)] at e1); (first | rw [if_pos (by omega)] at e2 | rw [if_neg (by omega)] at e2); (first | rw [if_pos (by omega)] at e3 | rw [if_neg (by omega)] at e3); rw [e1, e2, e3])
          · have h5' := h5
            try simp at h5'
            refine And.intro (by first | (simp [obsB, AV.bddss, AV.bdds, AV.bdd]; done) | (simp [obsB, AV.bddss, AV.bdds, AV.bdd, -List.map_append]; done) | simp [obsB, AV.bddss, AV.bdds, AV.bdd, -List.map_append, -List.map_set, -List.map_take, -List.map_drop, -List.map_cons, -List.map_map]) ?_
            first | (exfalso; omega) | ((first | rw [if_pos (by omega)] at e1 | rw [if_neg (by omega)] at e1); (first | rw [if_pos (by omega)] at e2 | rw [if_neg (by omega)] at e2); (first | rw [if_pos (by omega)] at e3 | rw [if_neg (by omega)] at e3); rw [e1, e2, e3])
        · have h4' := h4
          try simp at h4'
          refine And.intro (by first | (simp [obsB, AV.bddss, AV.bdds, AV.bdd]; done) | (simp [obsB, AV.bddss, AV.bdds, AV.bdd, -List.map_append]; done) | simp [obsB, AV.bddss, AV.bdds, AV.bdd, -List.map_append, -List.map_set, -List.map_take, -List.map_drop, -List.map_cons, -List.map_map]) ?_
          first | (exfalso; omega) | ((first | rw [if_pos (by omega)] at e1 | rw [if_neg (by omega)] at e1); (first | rw [if_pos (by omega)] at e2 | rw [if_neg (by omega)] at e2); (first | rw [if_pos (by omega)] at e3 | rw [if_neg (by omega)] at e3); rw [e1, e2, e3])
    · have h2' := h2
      try simp at h2'
      refine cond_split (fun h3 => ?_) (fun h3 => ?_)
      · have h3' := h3
        try simp at h3'
        refine cond_split (fun h4 => ?_) (fun h4 => ?_)
        · have h4' := h4
          try simp at h4'
          refine And.intro (ih_at a i mid n g l (by first | (exfalso; omega) | ((first | rw [if_pos (by omega)] at e1 | rw [if_neg (by omega)] at e1); rw [e1]; exact hlen1.symm)) (by first | exact hc | exact hxs | omega | (simp; omega)) (by first | exact hc | exact hxs | omega | (simp; omega)) (by first | exact hc | exact hxs | omega | (simp; omega)) (by first | exact hc | exact hxs | omega | (simp; omega)) (by first | exact hc | exact hxs | omega | (simp; omega)) (by first | (exfalso; omega) | ((first | rw [if_pos (by omega)] at e1 | rw [if_neg (by omega)] at e1); rw [e1]; rw [piece A L1 _ hA (by omega)]; exact q1)) (by first | (exfalso; omega) | ((first | rw [if_pos (by omega)] at e1 | rw [if_neg (by omega)] at e1); rw [e1]; rw [show A ++ (L1 ++ (R1 ++ (L2 ++ (R2 ++ B)))) = (A ++ L1) ++ (R1 ++ (L2 ++ (R2 ++ B))) by simp, piece (A ++ L1) R1 _ (by simp; omega) (by omega)]; exact q3)) ([] : Heap)) ?_
          refine cond_split (fun h5 => ?_) (fun h5 => ?_)
          · have h5' := h5
            try simp at h5'
            refine cond_split (fun h6 => ?_) (fun h6 => ?_)
            · have h6' := h6
              try simp at h6'
              refine And.intro ((ih_at mid ((mid + p) - i) b n g (mAt (ltF cmp) a i mid l) (by first | (exfalso; omega) | ((first | rw [if_pos (by omega)] at e1 | rw [if_neg (by omega)] at e1); (first | rw [if_pos (by omega)] at e2 | rw [if_neg (by omega)] at e2); rw [e1, e2]; exact hlen2.symm)) (by first | exact hc | exact hxs | omega | (simp; omega)) (by first | exact hc | exact hxs | omega | (simp; omega)) (by first | exact hc | exact hxs | omega | (simp; omega)) (by first | exact hc | exact hxs | omega | (simp; omega)) (by first | exact hc | exact hxs | omega | (simp; omega)) (by first | (exfalso; omega) | ((first | rw [if_pos (by omega)] at e1 | rw [if_neg (by omega)] at e1); (first | rw [if_pos (by omega)] at e2 | rw [if_neg (by omega)] at e2); rw [e1, e2]; rw [show A ++ (mg (ltF cmp) L1 R1 ++ (L2 ++ (R2 ++ B))) = (A ++ mg (ltF cmp) L1 R1) ++ (L2 ++ (R2 ++ B)) by simp, piece (A ++ mg (ltF cmp) L1 R1) L2 _ (by simp [mg_len]; omega) (by omega)]; exact q2)) (by first | (exfalso; omega) | ((first | rw [if_pos (by omega)] at e1 | rw [if_neg (by omega)] at e1); (first | rw [if_pos (by omega)] at e2 | rw [if_neg (by omega)] at e2); rw [e1, e2]; rw [show A ++ (mg (ltF cmp) L1 R1 ++ (L2 ++ (R2 ++ B))) = ((A ++ mg (ltF cmp) L1 R1) ++ L2) ++ (R2 ++ B) by simp, piece ((A ++ mg (ltF cmp) L1 R1) ++ L2) R2 _ (by simp [mg_len]; omega) (by omega)]; exact q4)) ([] : Heap)).pre ⟨AV.wk_refl_any _, AV.wk_refl_any _, AV.wk_refl_any _, AV.wk_refl_any _, AV.wk_refl_any _, trivial⟩) ?_
              refine And.intro (by first | (simp [obsB, AV.bddss, AV.bdds, AV.bdd]; done) | (simp [obsB, AV.bddss, AV.bdds, AV.bdd, -List.map_append]; done) | simp [obsB, AV.bddss, AV.bdds, AV.bdd, -List.map_append, -List.map_set, -List.map_take, -List.map_drop, -List.map_cons, -List.map_map]) ?_
              first | (exfalso; omega) | ((first | rw [if_pos (by omega)] at e1 | rw [if_neg (by omega)] at e1); (first | rw [if_pos (by omega)] at e2 | rw [if_neg (by omega)] at e2); (first | rw [if_pos (by omega)] at e3 | rw [if_neg (by omega)] at e3); rw [e1, e2, e3])
            · have h6' := h6
              try simp at h6'
              refine And.intro (by first | (simp [obsB, AV.bddss, AV.bdds, AV.bdd]; done) | (simp [obsB, AV.bddss, AV.bdds, AV.bdd, -List.map_append]; done) | simp [obsB, AV.bddss, AV.bdds, AV.bdd, -List.map_append, -List.map_set, -List.map_take, -List.map_drop, -List.map_cons, -List.map_map]) ?_
              first | (exfalso; omega) | ((first | rw [if_pos (by omega)] at e1 | rw [if_neg (by omega)] at e1); (first | rw [if_pos (by omega)] at e2 | rw [if_neg (by omega)] at e2); (first | rw [if_pos (by omega)] at e3 | rw [if_neg (by omega)] at e3); rw [e1, e2, e3])
          · have h5' := h5
            try simp at h5'
            refine And.intro (by first | (simp [obsB, AV.bddss, AV.bdds, AV.bdd]; done) | (simp [obsB, AV.bddss, AV.bdds, AV.bdd, -List.map_append]; done) | simp [obsB, AV.bddss, AV.bdds, AV.bdd, -List.map_append, -List.map_set, -List.map_take, -List.map_drop, -List.map_cons, -List.map_map]) ?_
            first | (exfalso; omega) | ((first | rw [if_pos (by omega)] at e1 | rw [if_neg (by omega)] at e1); (first | rw [if_pos (by omega)] at e2 | rw [if_neg (by omega)] at e2); (first | rw [if_pos (by omega)] at e3 | rw [if_neg (by omega)] at e3); rw [e1, e2, e3])
        · have h4' := h4
          try simp at h4'
          refine cond_split (fun h5 => ?_) (fun h5 => ?_)
          · have h5' := h5
            try simp at h5'
            refine cond_split (fun h6 => ?_) (fun h6 => ?_)
            · have h6' := h6
              try simp at h6'
              refine And.intro ((ih_at mid ((mid + p) - i) b n g l (by first | (exfalso; omega) | ((first | rw [if_pos (by omega)] at e1 | rw [if_neg (by omega)] at e1); (first | rw [if_pos (by omega)] at e2 | rw [if_neg (by omega)] at e2); rw [e1, e2]; exact hlen2.symm)) (by first | exact hc | exact hxs | omega | (simp; omega)) (by first | exact hc | exact hxs | omega | (simp; omega)) (by first | exact hc | exact hxs | omega | (simp; omega)) (by first | exact hc | exact hxs | omega | (simp; omega)) (by first | exact hc | exact hxs | omega | (simp; omega)) (by first | (exfalso; omega) | ((first | rw [if_pos (by omega)] at e1 | rw [if_neg (by omega)] at e1); (first | rw [if_pos (by omega)] at e2 | rw [if_neg (by omega)] at e2); rw [e1, e2]; rw [show A ++ (mg (ltF cmp) L1 R1 ++ (L2 ++ (R2 ++ B))) = (A ++ mg (ltF cmp) L1 R1) ++ (L2 ++ (R2 ++ B)) by simp, piece (A ++ mg (ltF cmp) L1 R1) L2 _ (by simp [mg_len]; omega) (by omega)]; exact q2)) (by first | (exfalso; omega) | ((first | rw [if_pos (by omega)] at e1 | rw [if_neg (by omega)] at e1); (first | rw [if_pos (by omega)] at e2 | rw [if_neg (by omega)] at e2); rw [e1, e2]; rw [show A ++ (mg (ltF cmp) L1 R1 ++ (L2 ++ (R2 ++ B))) = ((A ++ mg (ltF cmp) L1 R1) ++ L2) ++ (R2 ++ B) by simp, piece ((A ++ mg (ltF cmp) L1 R1) ++ L2) R2 _ (by simp [mg_len]; omega) (by omega)]; exact q4)) ([] : Heap)).pre ⟨AV.wk_refl_any _, AV.wk_refl_any _, AV.wk_refl_any _, AV.wk_refl_any _, AV.wk_refl_any _, trivial⟩) ?_
              refine And.intro (by first | (simp [obsB, AV.bddss, AV.bdds, AV.bdd]; done) | (simp [obsB, AV.bddss, AV.bdds, AV.bdd, -List.map_append]; done) | simp [obsB, AV.bddss, AV.bdds, AV.bdd, -List.map_append, -List.map_set, -List.map_take, -List.map_drop, -List.map_cons, -List.map_map]) ?_
              first | (exfalso; omega) | ((first | rw [if_pos (by omega)] at e1 | rw [if_neg (by omega)] at e1); (first | rw [if_pos (by omega)] at e2 | rw [if_neg (by omega)] at e2); (first | rw [if_pos (by omega)] at e3 | rw [if_neg (by omega)] at e3); rw [e1, e2, e3])
            · have h6' := h6
              try simp at h6'
              refine And.intro (by first | (simp [obsB, AV.bddss, AV.bdds, AV.bdd]; done) | (simp [obsB, AV.bddss, AV.bdds, AV.bdd, -List.map_append]; done) | simp [obsB, AV.bddss, AV.bdds, AV.bdd, -List.map_append, -List.map_set, -List.map_take, -List.map_drop, -List.map_cons, -List.map_map]) ?_
              first | (exfalso; omega) | ((first | rw [if_pos (by omega)] at e1 | rw [if_neg (by omega)] at e1); (first | rw [if_pos (by omega)] at e2 | rw [if_neg (by omega)] at e2); (first | rw [if_pos (by omega)] at e3 | rw [if_neg (by omega)] at e3); rw [e1, e2, e3])
          · have h5' := h5
            try simp at h5'
            refine And.intro (by first | (simp [obsB, AV.bddss, AV.bdds, AV.bdd]; done) | (simp [obsB, AV.bddss, AV.bdds, AV.bdd, -List.map_append]; done) | simp [obsB, AV.bddss, AV.bdds, AV.bdd, -List.map_append, -List.map_set, -List.map_take, -List.map_drop, -List.map_cons, -List.map_map]) ?_
            first | (exfalso; omega) | ((first | rw [if_pos (by omega)] at e1 | rw [if_neg (by omega)] at e1); (first | rw [if_pos (by omega)] at e2 | rw [if_neg (by omega)] at e2); (first | rw [if_pos (by omega)] at e3 | rw [if_neg (by omega)] at e3); rw [e1, e2, e3])
      · have h3' := h3
        try simp at h3'
        refine cond_split (fun h4 => ?_) (fun h4 => ?_)
        · have h4' := h4
          try simp at h4'
          refine cond_split (fun h5 => ?_) (fun h5 => ?_)
          · have h5' := h5
            try simp at h5'
            refine And.intro ((ih_at mid ((mid + p) - i) b n g l (by first | (exfalso; omega) | ((first | rw [if_pos (by omega)] at e1 | rw [if_neg (by omega)] at e1); (first | rw [if_pos (by omega)] at e2 | rw [if_neg (by omega)] at e2); rw [e1, e2]; exact hlen2.symm)) (by first | exact hc | exact hxs | omega | (simp; omega)) (by first | exact hc | exact hxs | omega | (simp; omega)) (by first | exact hc | exact hxs | omega | (simp; omega)) (by first | exact hc | exact hxs | omega | (simp; omega)) (by first | exact hc | exact hxs | omega | (simp; omega)) (by first | (exfalso; omega) | ((first | rw [if_pos (by omega)] at e1 | rw [if_neg (by omega)] at e1); (first | rw [if_pos (by omega)] at e2 | rw [if_neg (by omega)] at e2); rw [e1, e2]; rw [show A ++ (mg (ltF cmp) L1 R1 ++ (L2 ++ (R2 ++ B))) = (A ++ mg (ltF cmp) L1 R1) ++ (L2 ++ (R2 ++ B)) by simp, piece (A ++ mg (ltF cmp) L1 R1) L2 _ (by simp [mg_len]; omega) (by omega)]; exact q2)) (by first | (exfalso; omega) | ((first | rw [if_pos (by omega)] at e1 | rw [if_neg (by omega)] at e1); (first | rw [if_pos (by omega)] at e2 | rw [if_neg (by omega)] at e2); rw [e1, e2]; rw [show A ++ (mg (ltF cmp) L1 R1 ++ (L2 ++ (R2 ++ B))) = ((A ++ mg (ltF cmp) L1 R1) ++ L2) ++ (R2 ++ B) by simp, piece ((A ++ mg (ltF cmp) L1 R1) ++ L2) R2 _ (by simp [mg_len]; omega) (by omega)]; exact q4)) ([] : Heap)).pre ⟨AV.wk_refl_any _, AV.wk_refl_any _, AV.wk_refl_any _, AV.wk_refl_any _, AV.wk_refl_any _, trivial⟩) ?_
            refine And.intro (by first | (simp [obsB, AV.bddss, AV.bdds, AV.bdd]; done) | (simp [obsB, AV.bddss, AV.bdds, AV.bdd, -List.map_append]; done) | simp [obsB, AV.bddss, AV.bdds, AV.bdd, -List.map_append, -List.map_set, -List.map_take, -List.map_drop, -List.map_cons, -List.map_map]) ?_
            first | (exfalso; omega) | ((first | rw [if_pos (by omega)] at e1 | rw [if_neg (by omega)] at e1); (first | rw [if_pos (by omega)] at e2 | rw [if_neg (by omega)] at e2); (first | rw [if_pos (by omega)] at e3 | rw [if_neg (by omega)] at e3); rw [e1, e2, e3])
          · have h5' := h5
            try simp at h5'
            refine And.intro (by first | (simp [obsB, AV.bddss, AV.bdds, AV.bdd]; done) | (simp [obsB, AV.bddss, AV.bdds, AV.bdd, -List.map_append]; done) | simp [obsB, AV.bddss, AV.bdds, AV.bdd, -List.map_append, -List.map_set, -List.map_take, -List.map_drop, -List.map_cons, -List.map_map]) ?_
            first | (exfalso; omega) | ((first | rw [if_pos (by omega)] at e1 | rw [if_neg (by omega)] at e1); (first | rw [if_pos (by omega)] at e2 | rw [if_neg (by omega)] at e2); (first | rw [if_pos (by omega)] at e3 | rw [if_neg (by omega)] at e3); rw [e1, e2, e3])
        · have h4' := h4
          try simp at h4'
          refine And.intro (by first | (simp [obsB, AV.bddss, AV.bdds, AV.bdd]; done) | (simp [obsB, AV.bddss, AV.bdds, AV.bdd, -List.map_append]; done) | simp [obsB, AV.bddss, AV.bdds, AV.bdd, -List.map_append, -List.map_set, -List.map_take, -List.map_drop, -List.map_cons, -List.map_map]) ?_
          first | (exfalso; omega) | ((first | rw [if_pos (by omega)] at e1 | rw [if_neg (by omega)] at e1); (first | rw [if_pos (by omega)] at e2 | rw [if_neg (by omega)] at e2); (first | rw [if_pos (by omega)] at e3 | rw [if_neg (by omega)] at e3); rw [e1, e2, e3])
  · have h1' := h1
    try simp at h1'
    refine cond_split (fun h2 => ?_) (fun h2 => ?_)
    · have h2' := h2
      try simp at h2'
      refine cond_split (fun h3 => ?_) (fun h3 => ?_)
      · have h3' := h3
        try simp at h3'
        refine And.intro (ih_at a i mid n g l (by first | (exfalso; omega) | ((first | rw [if_pos (by omega)] at e1 | rw [if_neg (by omega)] at e1); rw [e1]; exact hlen1.symm)) (by first | exact hc | exact hxs | omega | (simp; omega)) (by first | exact hc | exact hxs | omega | (simp; omega)) (by first | exact hc | exact hxs | omega | (simp; omega)) (by first | exact hc | exact hxs | omega | (simp; omega)) (by first | exact hc | exact hxs | omega | (simp; omega)) (by first | (exfalso; omega) | ((first | rw [if_pos (by omega)] at e1 | rw [if_neg (by omega)] at e1); rw [e1]; rw [piece A L1 _ hA (by omega)]; exact q1)) (by first | (exfalso; omega) | ((first | rw [if_pos (by omega)] at e1 | rw [if_neg (by omega)] at e1); rw [e1]; rw [show A ++ (L1 ++ (R1 ++ (L2 ++ (R2 ++ B)))) = (A ++ L1) ++ (R1 ++ (L2 ++ (R2 ++ B))) by simp, piece (A ++ L1) R1 _ (by simp; omega) (by omega)]; exact q3)) ([] : Heap)) ?_
        refine cond_split (fun h4 => ?_) (fun h4 => ?_)
        · have h4' := h4
          try simp at h4'
          refine cond_split (fun h5 => ?_) (fun h5 => ?_)
          · have h5' := h5
            try simp at h5'
            refine And.intro ((ih_at mid ((mid + p) - i) b n g (mAt (ltF cmp) a i mid l) (by first | (exfalso; omega) | ((first | rw [if_pos (by omega)] at e1 | rw [if_neg (by omega)] at e1); (first | rw [if_pos (by omega)] at e2 | rw [if_neg (by omega)] at e2); rw [e1, e2]; exact hlen2.symm)) (by first | exact hc | exact hxs | omega | (simp; omega)) (by first | exact hc | exact hxs | omega | (simp; omega)) (by first | exact hc | exact hxs | omega | (simp; omega)) (by first | exact hc | exact hxs | omega | (simp; omega)) (by first | exact hc | exact hxs | omega | (simp; omega)) (by first | (exfalso; omega) | ((first | rw [if_pos (by omega)] at e1 | rw [if_neg (by omega)] at e1); (first | rw [if_pos (by omega)] at e2 | rw [if_neg (by omega)] at e2); rw [e1, e2]; rw [show A ++ (mg (ltF cmp) L1 R1 ++ (L2 ++ (R2 ++ B))) = (A ++ mg (ltF cmp) L1 R1) ++ (L2 ++ (R2 ++ B)) by simp, piece (A ++ mg (ltF cmp) L1 R1) L2 _ (by simp [mg_len]; omega) (by omega)]; exact q2)) (by first | (exfalso; omega) | ((first | rw [if_pos (by omega)] at e1 | rw [if_neg (by omega)] at e1); (first | rw [if_pos (by omega)] at e2 | rw [if_neg (by omega)] at e2); rw [e1, e2]; rw [show A ++ (mg (ltF cmp) L1 R1 ++ (L2 ++ (R2 ++ B))) = ((A ++ mg (ltF cmp) L1 R1) ++ L2) ++ (R2 ++ B) by simp, piece ((A ++ mg (ltF cmp) L1 R1) ++ L2) R2 _ (by simp [mg_len]; omega) (by omega)]; exact q4)) ([] : Heap)).pre ⟨AV.wk_refl_any _, AV.wk_refl_any _, AV.wk_refl_any _, AV.wk_refl_any _, AV.wk_refl_any _, trivial⟩) ?_
            refine And.intro (by first | (simp [obsB, AV.bddss, AV.bdds, AV.bdd]; done) | (simp [obsB, AV.bddss, AV.bdds, AV.bdd, -List.map_append]; done) | simp [obsB, AV.bddss, AV.bdds, AV.bdd, -List.map_append, -List.map_set, -List.map_take, -List.map_drop, -List.map_cons, -List.map_map]) ?_
            first | (exfalso; omega) | ((first | rw [if_pos (by omega)] at e1 | rw [if_neg (by omega)] at e1); (first | rw [if_pos (by omega)] at e2 | rw [if_neg (by omega)] at e2); (first | rw [if_pos (by omega)] at e3 | rw [if_neg (by omega)] at e3); rw [e1, e2, e3])
          · have h5' := h5
            try simp at h5'
            refine And.intro (by first | (simp [obsB, AV.bddss, AV.bdds, AV.bdd]; done) | (simp [obsB, AV.bddss, AV.bdds, AV.bdd, -List.map_append]; done) | simp [obsB, AV.bddss, AV.bdds, AV.bdd, -List.map_append, -List.map_set, -List.map_take, -List.map_drop, -List.map_cons, -List.map_map]) ?_
            first | (exfalso; omega) | ((first | rw [if_pos (by omega)] at e1 | rw [if_neg (by omega)] at e1); (first | rw [if_pos (by omega)] at e2 | rw [if_neg (by omega)] at e2); (first | rw [if_pos (by omega)] at e3 | rw [if_neg (by omega)] at e3); rw [e1, e2, e3])
        · have h4' := h4
          try simp at h4'
          refine And.intro (by first | (simp [obsB, AV.bddss, AV.bdds, AV.bdd]; done) | (simp [obsB, AV.bddss, AV.bdds, AV.bdd, -List.map_append]; done) | simp [obsB, AV.bddss, AV.bdds, AV.bdd, -List.map_append, -List.map_set, -List.map_take, -List.map_drop, -List.map_cons, -List.map_map]) ?_
          first | (exfalso; omega) | ((first | rw [if_pos (by omega)] at e1 | rw [if_neg (by omega)] at e1); (first | rw [if_pos (by omega)] at e2 | rw [if_neg (by omega)] at e2); (first | rw [if_pos (by omega)] at e3 | rw [if_neg (by omega)] at e3); rw [e1, e2, e3])
      · have h3' := h3
        try simp at h3'
        refine cond_split (fun h4 => ?_) (fun h4 => ?_)
        · have h4' := h4
          try simp at h4'
          refine cond_split (fun h5 => ?_) (fun h5 => ?_)
          · have h5' := h5
            try simp at h5'
            refine And.intro ((ih_at mid ((mid + p) - i) b n g l (by first | (exfalso; omega) | ((first | rw [if_pos (by omega)] at e1 | rw [if_neg (by omega)] at e1); (first | rw [if_pos (by omega)] at e2 | rw [if_neg (by omega)] at e2); rw [e1, e2]; exact hlen2.symm)) (by first | exact hc | exact hxs | omega | (simp; omega)) (by first | exact hc | exact hxs | omega | (simp; omega)) (by first | exact hc | exact hxs | omega | (simp; omega)) (by first | exact hc | exact hxs | omega | (simp; omega)) (by first | exact hc | exact hxs | omega | (simp; omega)) (by first | (exfalso; omega) | ((first | rw [if_pos (by omega)] at e1 | rw [if_neg (by omega)] at e1); (first | rw [if_pos (by omega)] at e2 | rw [if_neg (by omega)] at e2); rw [e1, e2]; rw [show A ++ (mg (ltF cmp) L1 R1 ++ (L2 ++ (R2 ++ B))) = (A ++ mg (ltF cmp) L1 R1) ++ (L2 ++ (R2 ++ B)) by simp, piece (A ++ mg (ltF cmp) L1 R1) L2 _ (by simp [mg_len]; omega) (by omega)]; exact q2)) (by first | (exfalso; omega) | ((first | rw [if_pos (by omega)] at e1 | rw [if_neg (by omega)] at e1); (first | rw [if_pos (by omega)] at e2 | rw [if_neg (by omega)] at e2); rw [e1, e2]; rw [show A ++ (mg (ltF cmp) L1 R1 ++ (L2 ++ (R2 ++ B))) = ((A ++ mg (ltF cmp) L1 R1) ++ L2) ++ (R2 ++ B) by simp, piece ((A ++ mg (ltF cmp) L1 R1) ++ L2) R2 _ (by simp [mg_len]; omega) (by omega)]; exact q4)) ([] : Heap)).pre ⟨AV.wk_refl_any _, AV.wk_refl_any _, AV.wk_refl_any _, AV.wk_refl_any _, AV.wk_refl_any _, trivial⟩) ?_
            refine And.intro (by first | (simp [obsB, AV.bddss, AV.bdds, AV.bdd]; done) | (simp [obsB, AV.bddss, AV.bdds, AV.bdd, -List.map_append]; done) | simp [obsB, AV.bddss, AV.bdds, AV.bdd, -List.map_append, -List.map_set, -List.map_take, -List.map_drop, -List.map_cons, -List.map_map]) ?_
            first | (exfalso; omega) | ((first | rw [if_pos (by omega)] at e1 | rw [if_neg (by omega)] at e1); (first | rw [if_pos (by omega)] at e2 | rw [if_neg (by omega)] at e2); (first | rw [if_pos (by omega)] at e3 | rw [if_neg (by omega)] at e3); rw [e1, e2, e3])
          · have h5' := h5
            try simp at h5'
            refine And.intro (by first | (simp [obsB, AV.bddss, AV.bdds, AV.bdd]; done) | (simp [obsB, AV.bddss, AV.bdds, AV.bdd, -List.map_append]; done) | simp [obsB, AV.bddss, AV.bdds, AV.bdd, -List.map_append, -List.map_set, -List.map_take, -List.map_drop, -List.map_cons, -List.map_map]) ?_
            first | (exfalso; omega) | ((first | rw [if_pos (by omega)] at e1 | rw [if_neg (by omega)] at e1); (first | rw [if_pos (by omega)] at e2 | rw [if_neg (by omega)] at e2); (first | rw [if_pos (by omega)] at e3 | rw [if_neg (by omega)] at e3); rw [e1, e2, e3])
        · have h4' := h4
          try simp at h4'
          refine And.intro (by first | (simp [obsB, AV.bddss, AV.bdds, AV.bdd]; done) | (simp [obsB, AV.bddss, AV.bdds, AV.bdd, -List.map_append]; done) | simp [obsB, AV.bddss, AV.bdds, AV.bdd, -List.map_append, -List.map_set, -List.map_take, -List.map_drop, -List.map_cons, -List.map_map]) ?_
          first | (exfalso; omega) | ((first | rw [if_pos (by omega)] at e1 | rw [if_neg (by omega)] at e1); (first | rw [if_pos (by omega)] at e2 | rw [if_neg (by omega)] at e2); (first | rw [if_pos (by omega)] at e3 | rw [if_neg (by omega)] at e3); rw [e1, e2, e3])
    · have h2' := h2
      try simp at h2'
      refine cond_split (fun h3 => ?_) (fun h3 => ?_)
      · have h3' := h3
        try simp at h3'
        refine cond_split (fun h4 => ?_) (fun h4 => ?_)
        · have h4' := h4
          try simp at h4'
          refine And.intro ((ih_at mid ((mid + p) - i) b n g l (by first | (exfalso; omega) | ((first | rw [if_pos (by omega)] at e1 | rw [if_neg (by omega)] at e1); (first | rw [if_pos (by omega)] at e2 | rw [if_neg (by omega)] at e2); rw [e1, e2]; exact hlen2.symm)) (by first | exact hc | exact hxs | omega | (simp; omega)) (by first | exact hc | exact hxs | omega | (simp; omega)) (by first | exact hc | exact hxs | omega | (simp; omega)) (by first | exact hc | exact hxs | omega | (simp; omega)) (by first | exact hc | exact hxs | omega | (simp; omega)) (by first | (exfalso; omega) | ((first | rw [if_pos (by omega)] at e1 | rw [if_neg (by omega)] at e1); (first | rw [if_pos (by omega)] at e2 | rw [if_neg (by omega)] at e2); rw [e1, e2]; rw [show A ++ (mg (ltF cmp) L1 R1 ++ (L2 ++ (R2 ++ B))) = (A ++ mg (ltF cmp) L1 R1) ++ (L2 ++ (R2 ++ B)) by simp, piece (A ++ mg (ltF cmp) L1 R1) L2 _ (by simp [mg_len]; omega) (by omega)]; exact q2)) (by first | (exfalso; omega) | ((first | rw [if_pos (by omega)] at e1 | rw [if_neg (by omega)] at e1); (first | rw [if_pos (by omega)] at e2 | rw [if_neg (by omega)] at e2); rw [e1, e2]; rw [show A ++ (mg (ltF cmp) L1 R1 ++ (L2 ++ (R2 ++ B))) = ((A ++ mg (ltF cmp) L1 R1) ++ L2) ++ (R2 ++ B) by simp, piece ((A ++ mg (ltF cmp) L1 R1) ++ L2) R2 _ (by simp [mg_len]; omega) (by omega)]; exact q4)) ([] : Heap)).pre ⟨AV.wk_refl_any _, AV.wk_refl_any _, AV.wk_refl_any _, AV.wk_refl_any _, AV.wk_refl_any _, trivial⟩) ?_
          refine And.intro (by first | (simp [obsB, AV.bddss, AV.bdds, AV.bdd]; done) | (simp [obsB, AV.bddss, AV.bdds, AV.bdd, -List.map_append]; done) | simp [obsB, AV.bddss, AV.bdds, AV.bdd, -List.map_append, -List.map_set, -List.map_take, -List.map_drop, -List.map_cons, -List.map_map]) ?_
          first | (exfalso; omega) | ((first | rw [if_pos (by omega)] at e1 | rw [if_neg (by omega)] at e1); (first | rw [if_pos (by omega)] at e2 | rw [if_neg (by omega)] at e2); (first | rw [if_pos (by omega)] at e3 | rw [if_neg (by omega)] at e3); rw [e1, e2, e3])
        · have h4' := h4
          try simp at h4'
          refine And.intro (by first | (simp [obsB, AV.bddss, AV.bdds, AV.bdd]; done) | (simp [obsB, AV.bddss, AV.bdds, AV.bdd, -List.map_append]; done) | simp [obsB, AV.bddss, AV.bdds, AV.bdd, -List.map_append, -List.map_set, -List.map_take, -List.map_drop, -List.map_cons, -List.map_map]) ?_
          first | (exfalso; omega) | ((first | rw [if_pos (by omega)] at e1 | rw [if_neg (by omega)] at e1); (first | rw [if_pos (by omega)] at e2 | rw [if_neg (by omega)] at e2); (first | rw [if_pos (by omega)] at e3 | rw [if_neg (by omega)] at e3); rw [e1, e2, e3])
      · have h3' := h3
        try simp at h3'
        refine And.intro (by first | (simp [obsB, AV.bddss, AV.bdds, AV.bdd]; done) | (simp [obsB, AV.bddss, AV.bdds, AV.bdd, -List.map_append]; done) | simp [obsB, AV.bddss, AV.bdds, AV.bdd, -List.map_append, -List.map_set, -List.map_take, -List.map_drop, -List.map_cons, -List.map_map]) ?_
        first | (exfalso; omega) | ((first | rw [if_pos (by omega)] at e1 | rw [if_neg (by omega)] at e1); (first | rw [if_pos (by omega)] at e2 | rw [if_neg (by omega)] at e2); (first | rw [if_pos (by omega)] at e3 | rw [if_neg (by omega)] at e3); rw [e1, e2, e3])
end Go.Proofs.Ytpkgpldgoajphaa.AM

set_option linter.unusedVariables false
set_option linter.unusedSimpArgs false
set_option linter.unusedSectionVars false
namespace Go.Proofs.Ytpkgpldgoajphaa.AM
open Go

section
variable {α : Type} [Inhabited α] {lt : α → α → Bool}
theorem Weak.irr (W : Weak lt) (a : α) : lt a a = false := by
  cases h : lt a a with
  | false => rfl
  | true => have := W.asymm a a h; rw [h] at this; exact this
theorem four {l : List α} {a m b : Nat} (ham : a ≤ m) (hmb : m ≤ b) : l = l.take a ++ ((l.drop a).take (m - a) ++ ((l.drop m).take (b - m) ++ l.drop b)) := by
  have h1 : (l.drop m).take (b - m) ++ l.drop b = l.drop m := by
    have := List.take_append_drop (b - m) (l.drop m)
    rw [List.drop_drop, show m + (b - m) = b by omega] at this
    exact this
  have h2 : (l.drop a).take (m - a) ++ l.drop m = l.drop a := by
    have := List.take_append_drop (m - a) (l.drop a)
    rw [List.drop_drop, show a + (m - a) = m by omega] at this
    exact this
  rw [h1, h2, List.take_append_drop]
theorem part_nth {l : List α} {a k i : Nat} (hi : i < k) : nth ((l.drop a).take k) i = nth l (a + i) := by rw [nth_take hi, nth_drop]
theorem part_len {l : List α} {a k : Nat} (h : a + k ≤ l.length) : ((l.drop a).take k).length = k := by simp; omega
theorem part_mem {l : List α} {a k : Nat} {x : α} (h : a + k ≤ l.length) (hx : x ∈ (l.drop a).take k) : ∃ i, a ≤ i ∧ i < a + k ∧ nth l i = x := by
  obtain ⟨i, hi, rfl⟩ := mem_nth hx
  rw [part_len h] at hi
  exact ⟨a + i, by omega, by omega, (part_nth hi).symm⟩
theorem srt_at {l : List α} {a k : Nat} (W : Weak lt) (h : a + k ≤ l.length) (hs : Srt lt ((l.drop a).take k)) {i j : Nat} (h1 : a ≤ i) (h2 : i ≤ j) (h3 : j < a + k) : lt (nth l j) (nth l i) = false := by
  rcases Nat.lt_or_ge i j with h4 | h4
  · have := pw_nth.1 hs (i - a) (j - a) (by omega) (by rw [part_len h]; omega)
    rw [part_nth (by omega), part_nth (by omega)] at this
    rwa [show a + (i - a) = i by omega, show a + (j - a) = j by omega] at this
  · obtain rfl : i = j := by omega
    exact W.irr _
theorem part_cut {l : List α} {a k s : Nat} (hs : s ≤ k) : (l.drop a).take k = (l.drop a).take s ++ (l.drop (a + s)).take (k - s) := by
  have := List.take_append_drop s ((l.drop a).take k)
  rw [List.take_take, Nat.min_eq_left hs, List.drop_take, List.drop_drop] at this
  exact this.symm
theorem srt_cut {l : List α} {a k s : Nat} (hs : s ≤ k) (h : Srt lt ((l.drop a).take k)) : Srt lt ((l.drop a).take s) ∧ Srt lt ((l.drop (a + s)).take (k - s)) := by
  rw [part_cut hs] at h
  have := List.pairwise_append.1 h
  exact ⟨this.1, this.2.1⟩
theorem le_lt_le (W : Weak lt) {x y u v : α} (h1 : lt u y = false) (h2 : lt u v = true) (h3 : lt x v = false) : lt y x = true := by
  cases h : lt y x with
  | true => rfl
  | false =>
    have h4 := W.trans v x y h3 h
    have h5 := W.trans v y u h4 h1
    rw [h2] at h5; simp at h5
/-- The parts are given; what is searched for parts them so that they merge by themselves. -/
theorem part_law (W : Weak lt) {l : List α} {a p b s e : Nat} (ham : a ≤ p) (hpb : p ≤ b) (hbl : b ≤ l.length) (h7 : Srt lt ((l.drop a).take (p - a))) (h8 : Srt lt ((l.drop p).take (b - p))) (has : a ≤ s) (hsp : s ≤ p) (hpe : p ≤ e) (heb : e ≤ b)
    (k1 : s < p → p < e → lt (nth l (e - 1)) (nth l s) = true) (k2 : a < s → e < b → lt (nth l e) (nth l (s - 1)) = false) :
    mAt lt a p b l = l.take a ++ (mg lt ((l.drop a).take (s - a)) ((l.drop p).take (e - p)) ++ (mg lt ((l.drop s).take (p - s)) ((l.drop e).take (b - e)) ++ l.drop b)) := by
  unfold mAt
  have c1 := part_cut (l := l) (a := a) (k := p - a) (s := s - a) (by omega)
  have c2 := part_cut (l := l) (a := p) (k := b - p) (s := e - p) (by omega)
  rw [show a + (s - a) = s by omega, show p - a - (s - a) = p - s by omega] at c1
  rw [show p + (e - p) = e by omega, show b - p - (e - p) = b - e by omega] at c2
  rw [c1, c2, mg_split lt _ _ _ (Nat.le_refl _) (fun x hx y hy => ?_) (fun x hx y hy => ?_), List.append_assoc]
  · obtain ⟨i, i1, i2, rfl⟩ := part_mem (by omega) hx
    obtain ⟨j, j1, j2, rfl⟩ := part_mem (by omega) hy
    exact le_lt_le W (srt_at W (by omega) h8 (i := j) (j := e - 1) (by omega) (by omega) (by omega)) (k1 (by omega) (by omega)) (srt_at W (by omega) h7 (i := s) (j := i) (by omega) (by omega) (by omega))
  · obtain ⟨i, i1, i2, rfl⟩ := part_mem (by omega) hx
    obtain ⟨j, j1, j2, rfl⟩ := part_mem (by omega) hy
    have q1 := srt_at W (by omega) h7 (i := i) (j := s - 1) (by omega) (by omega) (by omega)
    have q2 := srt_at W (by omega) h8 (i := e) (j := j) (by omega) (by omega) (by omega)
    exact W.trans _ _ _ (W.trans _ _ _ q1 (k2 (by omega) (by omega))) q2
theorem mg_one_l {x : α} {R : List α} (h : ∀ y, R.head? = some y → lt y x = false) : mg lt [x] R = x :: R := by
  cases R with
  | nil => rw [mg_nil_r]
  | cons y R => rw [mg_cons, if_neg (by rw [h y rfl]; simp), mg_nil_l]
theorem mg_one_r {y : α} {L : List α} (h : ∀ x, L.head? = some x → lt y x = true) : mg lt L [y] = y :: L := by
  cases L with
  | nil => rw [mg_nil_l]
  | cons x L => rw [mg_cons, if_pos (h x rfl), mg_nil_r]
theorem one_part {l : List α} {a : Nat} (h : a < l.length) : (l.drop a).take 1 = [nth l a] := by rw [drop_nth h]; rfl
theorem head_part {l : List α} {a k : Nat} {x : α} (h : ((l.drop a).take k).head? = some x) (hl : a + k ≤ l.length) : 0 < k ∧ x = nth l a := by
  cases k with
  | zero => simp at h
  | succ k =>
    rw [drop_nth (by omega)] at h
    simp at h
    exact ⟨by omega, h.symm⟩
/-! ### sorting by parts -/
theorem mg_insG (W : Weak lt) {S T : List α} (hS : Srt lt S) (hT : Srt lt T) (y : α) : mg lt S (insG lt T y) = insG lt (mg lt S T) y := by
  have fS : S = S.filter (fun z => !lt y z) ++ S.filter (fun z => lt y z) := by
    clear hT
    induction S with
    | nil => rfl
    | cons z S ih =>
      have h := List.pairwise_cons.1 hS
      have ih' := ih h.2
      by_cases c : lt y z = true
      · have hall : ∀ w ∈ S, lt y w = true := fun w hw => le_lt_le W (W.irr y) c (h.1 w hw)
        have e1 : S.filter (fun z => !lt y z) = [] := List.filter_eq_nil_iff.2 fun w hw => by simp [hall w hw]
        have e2 : S.filter (fun z => lt y z) = S := List.filter_eq_self.2 fun w hw => hall w hw
        simp [List.filter_cons, c, e1, e2]
      · simp only [Bool.not_eq_true] at c
        conv => lhs; rw [ih']
        simp [List.filter_cons, c]
  have fT : T = T.filter (fun z => !lt y z) ++ T.filter (fun z => lt y z) := by
    clear hS fS
    induction T with
    | nil => rfl
    | cons z T ih =>
      have h := List.pairwise_cons.1 hT
      have ih' := ih h.2
      by_cases c : lt y z = true
      · have hall : ∀ w ∈ T, lt y w = true := fun w hw => le_lt_le W (W.irr y) c (h.1 w hw)
        have e1 : T.filter (fun z => !lt y z) = [] := List.filter_eq_nil_iff.2 fun w hw => by simp [hall w hw]
        have e2 : T.filter (fun z => lt y z) = T := List.filter_eq_self.2 fun w hw => hall w hw
        simp [List.filter_cons, c, e1, e2]
      · simp only [Bool.not_eq_true] at c
        conv => lhs; rw [ih']
        simp [List.filter_cons, c]
  have m1 : ∀ z ∈ S.filter (fun z => !lt y z), lt y z = false := fun z hz => by simpa using (List.mem_filter.1 hz).2
  have m2 : ∀ z ∈ S.filter (fun z => lt y z), lt y z = true := fun z hz => (List.mem_filter.1 hz).2
  have m3 : ∀ z ∈ T.filter (fun z => !lt y z), lt y z = false := fun z hz => by simpa using (List.mem_filter.1 hz).2
  have m4 : ∀ z ∈ T.filter (fun z => lt y z), lt y z = true := fun z hz => (List.mem_filter.1 hz).2
  rw [insG_split W hT y]
  generalize hS1 : S.filter (fun z => !lt y z) = S1 at fS m1
  generalize hS2 : S.filter (fun z => lt y z) = S2 at fS m2
  generalize hT1 : T.filter (fun z => !lt y z) = T1 at fT m3
  generalize hT2 : T.filter (fun z => lt y z) = T2 at fT m4
  have cross : ∀ x ∈ S2, ∀ z ∈ T1, lt z x = true := fun x hx z hz => by
    cases h : lt z x with
    | true => rfl
    | false => have := W.trans x z y h (m3 z hz); rw [m2 x hx] at this; simp at this
  have cross2 : ∀ x ∈ S1, ∀ z ∈ T2, lt z x = false := fun x hx z hz => by
    have h1 := W.asymm _ _ (m4 z hz)
    exact W.trans x y z (m1 x hx) h1
  have e1 : mg lt S T = mg lt S1 T1 ++ mg lt S2 T2 := by
    rw [fS, fT]; exact mg_split lt _ _ _ (Nat.le_refl _) cross cross2
  have e2 : mg lt S (T1 ++ y :: T2) = mg lt S1 T1 ++ mg lt S2 (y :: T2) := by
    rw [fS]; exact mg_split lt _ _ _ (Nat.le_refl _) cross fun x hx z hz => by
      rcases List.mem_cons.1 hz with rfl | hz
      · exact m1 x hx
      · exact cross2 x hx z hz
  have e3 : mg lt S2 (y :: T2) = y :: mg lt S2 T2 := by
    cases S2 with
    | nil => rw [mg_nil_l, mg_nil_l]
    | cons x S2 => rw [mg_cons, if_pos (m2 x (by simp))]
  have p1 : ∀ z ∈ mg lt S1 T1, lt y z = false := fun z hz => by
    have := (mg_perm lt _ S1 T1 (Nat.le_refl _)).mem_iff.1 hz
    rcases List.mem_append.1 this with h | h
    · exact m1 z h
    · exact m3 z h
  have p2 : ∀ z ∈ mg lt S2 T2, lt y z = true := fun z hz => by
    have := (mg_perm lt _ S2 T2 (Nat.le_refl _)).mem_iff.1 hz
    rcases List.mem_append.1 this with h | h
    · exact m2 z h
    · exact m4 z h
  have ins : ∀ (P Q : List α), (∀ z ∈ P, lt y z = false) → (∀ z ∈ Q, lt y z = true) → insG lt (P ++ Q) y = P ++ y :: Q := fun P Q hP hQ => by
    have hpos : posG lt y (P ++ Q) (P ++ Q).length = P.length := by
      obtain ⟨s1, s2⟩ := posG_spec lt y (P ++ Q) (P ++ Q).length
      have s3 := posG_le lt y (P ++ Q) (P ++ Q).length
      have hlen : (P ++ Q).length = P.length + Q.length := List.length_append
      rcases Nat.lt_trichotomy (posG lt y (P ++ Q) (P ++ Q).length) P.length with h | h | h
      · have := s1 _ (Nat.le_refl _) (by omega)
        rw [nth_appM, if_pos h] at this
        rw [hP _ (nth_mem h)] at this; simp at this
      · exact h
      · have := s2 (by omega)
        rw [nth_appM, if_neg (by omega)] at this
        rw [hQ _ (nth_mem (by omega))] at this; simp at this
    unfold insG
    rw [hpos]
    simp
  rw [e2, e3, e1, ins _ _ p1 p2]
theorem sortG_app (W : Weak lt) (Y : List α) : ∀ (X : List α), sortG lt (X ++ Y) = mg lt (sortG lt X) (sortG lt Y) := by
  intro X
  have key : ∀ (Z T : List α), Srt lt T → mg lt (sortG lt X) (Z.foldl (insG lt) T) = Z.foldl (insG lt) (mg lt (sortG lt X) T) := by
    intro Z
    induction Z with
    | nil => intro T _; rfl
    | cons z Z ih =>
      intro T hT
      simp only [List.foldl_cons]
      rw [ih _ (insG_sorted W hT z), mg_insG W (sortG_sorted W X) hT]
  have := key Y [] List.Pairwise.nil
  rw [mg_nil_r] at this
  have e : sortG lt (X ++ Y) = Y.foldl (insG lt) (sortG lt X) := by unfold sortG; rw [List.foldl_append]
  rw [e, ← this]
  rfl
end
end Go.Proofs.Ytpkgpldgoajphaa.AM

set_option maxRecDepth 100000
set_option linter.unusedVariables false
set_option linter.unusedSimpArgs false
namespace Go.Proofs.Ytpkgpldgoajphaa.AM
open Go Go.Proofs.Ytpkgpldgoajphaa
attribute [local irreducible] ACalls funT codeT codeQ LoopTo
attribute [local irreducible] Tp.card Tp.cardT Tp.next Tp.step Tp.cards Tp.cardsT Tp.key Tp.keyT sink insSort pickS pickL pickN pickK mostN cmpL lateE orderK sortK insK posK beforeK onceStep onceS onceK sortP lastS lastK cmpK
attribute [local irreducible] swapL rotS rotL bsr mgL mg shU shD
theorem sE_all (cmp : Entry → Entry → Int) (f : Nat) (xs : List AV) (hc : ∀ (x y : Entry) (H : Heap), ACalls Try.prog f ([AV.agg (Entry.row x), AV.agg (Entry.row y)] ++ xs) H (AV.int .i64 (cmp x y), H)) (hxs : AV.bdds 1 xs = true) (W : Weak (ltF cmp)) (Nz : Nat) : ∀ (a p b n g : Nat) (l : List Entry), n = l.length → n < 1048576 → a < p → p < b → b ≤ n → b - a < Nz →
    Srt (ltF cmp) ((l.drop a).take (p - a)) → Srt (ltF cmp) ((l.drop p).take (b - p)) → ACalls Try.prog 133 [(AV.osl 0 g 10 0 n), (AV.int .i64 ((a : Nat) : Int)), (AV.int .i64 ((p : Nat) : Int)), (AV.int .i64 ((b : Nat) : Int)), (AV.func f xs)] ([⟨g, 10, (List.map Entry.row l), none⟩] : Heap) (.tup [], ([⟨g, 10, (List.map Entry.row (mAt (ltF cmp) a p b l)), none⟩] : Heap)) := by
  induction Nz with
  | zero => intro a p b n g l _ _ _ _ _ h; omega
  | succ Nz ih =>
    intro a p b n g l hn hnb hap hpb hbn hN h7 h8
    by_cases c1 : p = a + 1
    · obtain ⟨s1, s2, s3, s4⟩ := bsr_spec (fun c => decide (cmp (nth l c) (nth l a) < 0)) (b - p) p b (Nat.le_refl _) (by omega)
      generalize hs : bsr (fun c => decide (cmp (nth l c) (nth l a) < 0)) (b - p) p b = s at s1 s2 s3 s4
      have hlaw := part_law W (l := l) (a := a) (p := p) (b := b) (s := a) (e := s) (by omega) (by omega) (by omega) h7 h8 (by omega) (by omega) s1 s2 (fun _ h => s3 h) (fun h => by omega)
      have hx : (l.drop a).take (p - a) = [nth l a] := by rw [show p - a = 1 by omega]; exact one_part (by omega)
      rw [Nat.sub_self, List.take_zero, mg_nil_l, hx, mg_one_l (fun y hy => by
        obtain ⟨q1, q2⟩ := head_part hy (by omega)
        rw [q2]; exact s4 (by omega))] at hlaw
      rw [hlaw]
      have hl := four (l := l) (a := a) (m := p) (b := b) (by omega) (by omega)
      rw [hx, part_cut (l := l) (a := p) (k := b - p) (s := s - p) (by omega), show p + (s - p) = s by omega, show b - p - (s - p) = b - s by omega, List.append_assoc] at hl
      exact sEA_spec cmp f xs (l.take a) ((l.drop p).take (s - p)) ((l.drop s).take (b - s)) (l.drop b) (nth l a) a p b n g s l hc hxs hn hnb hl (by simp; omega) c1 (by omega) hbn (by rw [part_len (by omega)]; omega) s2 hs.symm
    by_cases c2 : b = p + 1
    · obtain ⟨s1, s2, s3, s4⟩ := bsr_spec (fun c => !decide (cmp (nth l p) (nth l c) < 0)) (p - a) a p (Nat.le_refl _) (by omega)
      generalize hs : bsr (fun c => !decide (cmp (nth l p) (nth l c) < 0)) (p - a) a p = s at s1 s2 s3 s4
      have hlaw := part_law W (l := l) (a := a) (p := p) (b := b) (s := s) (e := p) (by omega) (by omega) (by omega) h7 h8 s1 s2 (by omega) (by omega) (fun _ h => by omega) (fun h _ => by have := s3 h; simp only [Bool.not_eq_true'] at this; exact this)
      have hx : (l.drop p).take (b - p) = [nth l p] := by rw [show b - p = 1 by omega]; exact one_part (by omega)
      rw [Nat.sub_self, List.take_zero, mg_nil_r, hx, mg_one_r (fun y hy => by
        obtain ⟨q1, q2⟩ := head_part hy (by omega)
        rw [q2]; simpa [ltF] using s4 (by omega))] at hlaw
      rw [hlaw]
      have hl := four (l := l) (a := a) (m := p) (b := b) (by omega) (by omega)
      rw [hx, part_cut (l := l) (a := a) (k := p - a) (s := s - a) (by omega), show a + (s - a) = s by omega, show p - a - (s - a) = p - s by omega, List.append_assoc] at hl
      exact sEB_spec cmp f xs (l.take a) ((l.drop a).take (s - a)) ((l.drop s).take (p - s)) (l.drop b) (nth l p) a p b n g s l hc hxs hn hnb hl (by simp; omega) (by rw [part_len (by omega)]; omega) (by rw [part_len (by omega)]; omega) c1 c2 hbn hs.symm
    have ih_at : ∀ (a p b n g : Nat) (l : List Entry), n = l.length → n < 1048576 → a < p → p < b → b ≤ n → b - a < Nz → Srt (ltF cmp) ((l.drop a).take (p - a)) → Srt (ltF cmp) ((l.drop p).take (b - p)) → ∀ H : Heap, ACalls Try.prog 133 [(AV.osl 0 g 10 0 n), (AV.int .i64 ((a : Nat) : Int)), (AV.int .i64 ((p : Nat) : Int)), (AV.int .i64 ((b : Nat) : Int)), (AV.func f xs)] (([⟨g, 10, (List.map Entry.row l), none⟩] : Heap) ++ H) (.tup [], ([⟨g, 10, (List.map Entry.row (mAt (ltF cmp) a p b l)), none⟩] : Heap) ++ H) :=
      fun a p b n g l q1 q2 q3 q4 q5 q6 q7 q8 H => (ih a p b n g l q1 q2 q3 q4 q5 q6 q7 q8).ext (by simp [AV.bdds, AV.bdd, hxs]) (by kernel_rfl) (by first | (simp [obsB, AV.bddss, AV.bdds, AV.bdd]; done) | (simp [obsB, AV.bddss, AV.bdds, AV.bdd, -List.map_append]; done) | simp [obsB, AV.bddss, AV.bdds, AV.bdd, -List.map_append, -List.map_set, -List.map_take, -List.map_drop, -List.map_cons, -List.map_map]) (by first | (simp [obsB, AV.bddss, AV.bdds, AV.bdd]; done) | (simp [obsB, AV.bddss, AV.bdds, AV.bdd, -List.map_append]; done) | simp [obsB, AV.bddss, AV.bdds, AV.bdd, -List.map_append, -List.map_set, -List.map_take, -List.map_drop, -List.map_cons, -List.map_map]) (by kernel_rfl) H
    obtain ⟨mid, hmid⟩ : ∃ mid, mid = (a + b) / 2 := ⟨_, rfl⟩
    have go : ∀ lo hi, lo ≤ hi → (∀ s, lo ≤ s → s ≤ hi → a ≤ s ∧ s ≤ p ∧ p ≤ mid + p - s ∧ mid + p - s ≤ b ∧ (s < p → p < mid + p - s → s < hi) ∧ (a < s → mid + p - s < b → lo < s)) →
        (∀ s, s = bsr (fun c => !decide (cmp (nth l (mid + p - 1 - c)) (nth l c) < 0)) (hi - lo) lo hi → lo ≤ s → s ≤ hi → ∀ (L1 L2 R1 R2 : List Entry), l = l.take a ++ (L1 ++ (L2 ++ (R1 ++ (R2 ++ l.drop b)))) → s = a + L1.length → p = s + L2.length → mid = s + R1.length → b = p + R1.length + R2.length → Srt (ltF cmp) L1 → Srt (ltF cmp) L2 → Srt (ltF cmp) R1 → Srt (ltF cmp) R2 →
          ACalls Try.prog 133 [(AV.osl 0 g 10 0 n), (AV.int .i64 ((a : Nat) : Int)), (AV.int .i64 ((p : Nat) : Int)), (AV.int .i64 ((b : Nat) : Int)), (AV.func f xs)] ([⟨g, 10, (List.map Entry.row l), none⟩] : Heap) (.tup [], ([⟨g, 10, (List.map Entry.row (l.take a ++ (mg (ltF cmp) L1 R1 ++ (mg (ltF cmp) L2 R2 ++ l.drop b)))), none⟩] : Heap))) →
        ACalls Try.prog 133 [(AV.osl 0 g 10 0 n), (AV.int .i64 ((a : Nat) : Int)), (AV.int .i64 ((p : Nat) : Int)), (AV.int .i64 ((b : Nat) : Int)), (AV.func f xs)] ([⟨g, 10, (List.map Entry.row l), none⟩] : Heap) (.tup [], ([⟨g, 10, (List.map Entry.row (mAt (ltF cmp) a p b l)), none⟩] : Heap)) := by
      intro lo hi hlh hb walk
      obtain ⟨s1, s2, s3, s4⟩ := bsr_spec (fun c => !decide (cmp (nth l (mid + p - 1 - c)) (nth l c) < 0)) (hi - lo) lo hi (Nat.le_refl _) hlh
      generalize hs : bsr (fun c => !decide (cmp (nth l (mid + p - 1 - c)) (nth l c) < 0)) (hi - lo) lo hi = s at s1 s2 s3 s4
      obtain ⟨b1, b2, b3, b4, b5, b6⟩ := hb s s1 s2
      have hlaw := part_law W (l := l) (a := a) (p := p) (b := b) (s := s) (e := mid + p - s) (by omega) (by omega) (by omega) h7 h8 b1 b2 b3 b4 (fun h1 h2 => by
          have := s4 (b5 h1 h2)
          simp only [Bool.not_eq_false'] at this
          rwa [show mid + p - 1 - s = mid + p - s - 1 by omega] at this) (fun h1 h2 => by
          have := s3 (b6 h1 h2)
          simp only [Bool.not_eq_true'] at this
          rwa [show mid + p - 1 - (s - 1) = mid + p - s by omega] at this)
      rw [hlaw]
      have hl := four (l := l) (a := a) (m := p) (b := b) (by omega) (by omega)
      rw [part_cut (l := l) (a := a) (k := p - a) (s := s - a) (by omega), show a + (s - a) = s by omega, show p - a - (s - a) = p - s by omega,
        part_cut (l := l) (a := p) (k := b - p) (s := mid + p - s - p) (by omega), show p + (mid + p - s - p) = mid + p - s by omega, show b - p - (mid + p - s - p) = b - (mid + p - s) by omega, List.append_assoc, List.append_assoc] at hl
      have q1 := srt_cut (l := l) (a := a) (k := p - a) (s := s - a) (by omega) h7
      have q2 := srt_cut (l := l) (a := p) (k := b - p) (s := mid + p - s - p) (by omega) h8
      rw [show a + (s - a) = s by omega, show p - a - (s - a) = p - s by omega] at q1
      rw [show p + (mid + p - s - p) = mid + p - s by omega, show b - p - (mid + p - s - p) = b - (mid + p - s) by omega] at q2
      exact walk s hs.symm s1 s2 _ _ _ _ hl (by rw [part_len (by omega)]; omega) (by rw [part_len (by omega)]; omega) (by rw [part_len (by omega)]; omega) (by rw [part_len (by omega), part_len (by omega)]; omega) q1.1 q1.2 q2.1 q2.2
    have hA : a = (l.take a).length := by simp; omega
    by_cases hgt : mid < p
    · refine go (mid + p - b) mid (by omega) (fun s h1 h2 => ⟨by omega, by omega, by omega, by omega, fun _ _ => by omega, fun _ _ => by omega⟩) fun s hs h1 h2 L1 L2 R1 R2 hl e1 e2 e3 e4 q1 q2 q3 q4 => ?_
      exact sEC_spec cmp f xs (l.take a) L1 L2 R1 R2 (l.drop b) a p b n g s mid Nz l hc hxs hn hnb ih_at hl hA e1 e2 e3 e4 hbn hap hpb c1 c2 hmid (by omega) hgt hs h1 h2 q1 q2 q3 q4
    · refine go a p (by omega) (fun s h1 h2 => ⟨by omega, by omega, by omega, by omega, fun _ _ => by omega, fun _ _ => by omega⟩) fun s hs h1 h2 L1 L2 R1 R2 hl e1 e2 e3 e4 q1 q2 q3 q4 => ?_
      exact sED_spec cmp f xs (l.take a) L1 L2 R1 R2 (l.drop b) a p b n g s mid Nz l hc hxs hn hnb ih_at hl hA e1 e2 e3 e4 hbn hap hpb c1 c2 hmid (by omega) (by omega) hs h1 h2 q1 q2 q3 q4
end Go.Proofs.Ytpkgpldgoajphaa.AM

set_option linter.unusedVariables false
set_option linter.unusedSimpArgs false
set_option linter.unusedSectionVars false
namespace Go.Proofs.Ytpkgpldgoajphaa.AM
open Go

section
variable {α : Type} [Inhabited α]
theorem sink_shift (cmp : α → α → Int) (X : List α) (j : Nat) : ∀ (l : List α), j < l.length → sink cmp X.length (X.length + j) (X ++ l) = X ++ sink cmp 0 j l := by
  induction j with
  | zero =>
    intro l hl
    have h1 : sink cmp X.length X.length (X ++ l) = X ++ l := by
      cases h : X.length with
      | zero => simp only [sink]
      | succ q => simp only [sink]; rw [if_neg]; simp
    simpa [sink] using h1
  | succ j ih =>
    intro l hl
    have e1 : nth (X ++ l) (X.length + j + 1) = nth l (j + 1) := by rw [nth_appM, if_neg (by omega)]; congr 1; omega
    have e2 : nth (X ++ l) (X.length + j) = nth l j := by rw [nth_appM, if_neg (by omega)]; congr 1; omega
    have L : sink cmp X.length (X.length + (j + 1)) (X ++ l) = if decide (cmp (nth (X ++ l) (X.length + j + 1)) (nth (X ++ l) (X.length + j)) < 0) = true then sink cmp X.length (X.length + j) (((X ++ l).set (X.length + j + 1) (nth (X ++ l) (X.length + j))).set (X.length + j) (nth (X ++ l) (X.length + j + 1))) else X ++ l := by
      rw [← Nat.add_assoc]; simp only [sink]; rw [if_pos (by simp; omega)]
    have R : sink cmp 0 (j + 1) l = if decide (cmp (nth l (j + 1)) (nth l j) < 0) = true then sink cmp 0 j ((l.set (j + 1) (nth l j)).set j (nth l (j + 1))) else l := by
      simp only [sink]; rw [if_pos (by simp)]
    rw [L, R, e1, e2]
    split
    · have e3 : ((X ++ l).set (X.length + j + 1) (nth l j)).set (X.length + j) (nth l (j + 1)) = X ++ (l.set (j + 1) (nth l j)).set j (nth l (j + 1)) := by
        rw [List.set_append_right _ _ (by omega), List.set_append_right _ _ (by omega)]
        congr 2
        · congr 1; omega
        · omega
      rw [e3]
      exact ih _ (by simpa using (by omega : j < l.length))
    · rfl
theorem insSort_shift (cmp : α → α → Int) (X : List α) (k : Nat) : ∀ (i : Nat) (l : List α), i + k ≤ l.length → insSort cmp X.length k (X.length + i) (X ++ l) = X ++ insSort cmp 0 k i l := by
  induction k with
  | zero => intro i l _; simp only [insSort]
  | succ k ih =>
    intro i l h
    simp only [insSort]
    rw [sink_shift cmp X i l (by omega)]
    exact ih (i + 1) _ (by rw [sink_len]; omega)
theorem insSort_mid (cmp : α → α → Int) (Y : List α) (rest : List α) : ∀ (S : List α), insSort cmp 0 rest.length S.length (S ++ (rest ++ Y)) = rest.foldl (insG fun a b => decide (cmp a b < 0)) S ++ Y := by
  induction rest with
  | nil => intro S; simp only [List.length_nil, insSort, List.nil_append, List.foldl_nil]
  | cons x rest ih =>
    intro S
    simp only [List.length_cons, insSort, List.foldl_cons]
    have h1 := sink_ins cmp S.length (S ++ (x :: rest ++ Y)) (by simp)
    have e1 : (S ++ (x :: rest ++ Y)).take S.length = S := by rw [List.take_append_of_le_length (Nat.le_refl _), List.take_length]
    have e2 : nth (S ++ (x :: rest ++ Y)) S.length = x := by rw [nth_appM, if_neg (by omega), Nat.sub_self]; rfl
    have e3 : (S ++ (x :: rest ++ Y)).drop (S.length + 1) = rest ++ Y := by
      rw [← List.drop_drop, List.drop_append_of_le_length (Nat.le_refl _), List.drop_length]; rfl
    rw [e1, e2, e3] at h1
    rw [h1]
    have := ih (insG (fun a b => decide (cmp a b < 0)) S x)
    rw [insG_len] at this
    exact this
theorem insSort_part (cmp : α → α → Int) (X M Y : List α) {a b : Nat} (ha : a = X.length) (hb : b = a + M.length) : insSort cmp a (b - (a + 1)) (a + 1) (X ++ (M ++ Y)) = X ++ (sortG (fun a b => decide (cmp a b < 0)) M ++ Y) := by
  subst ha hb
  cases M with
  | nil => rw [show X.length + ([] : List α).length - (X.length + 1) = 0 by simp]; simp only [insSort]; rfl
  | cons x M =>
    rw [show X.length + (x :: M).length - (X.length + 1) = M.length by simp; omega, insSort_shift cmp X M.length 1 (x :: M ++ Y) (by simp; omega)]
    have := insSort_mid cmp Y M [x]
    simp only [List.length_singleton, List.singleton_append] at this
    rw [show x :: M ++ Y = x :: (M ++ Y) from rfl, this]
    have e : sortG (fun a b => decide (cmp a b < 0)) (x :: M) = M.foldl (insG fun a b => decide (cmp a b < 0)) [x] := by
      unfold sortG
      rw [List.foldl_cons]
      congr 1
    rw [e]
/-- K blocks of bs rows, each sorted, and what is behind them. -/
def blk (lt : α → α → Bool) (bs : Nat) : Nat → List α → List α
  | 0, l => l
  | K + 1, l => sortG lt (l.take bs) ++ blk lt bs K (l.drop bs)
theorem sortG_len (lt : α → α → Bool) (l : List α) : (sortG lt l).length = l.length := (sortG_perm lt l).length_eq
theorem blk_nil (lt : α → α → Bool) (bs K : Nat) : blk lt bs K ([] : List α) = [] := by
  induction K with
  | zero => rfl
  | succ K ih => simp only [blk, List.take_nil, List.drop_nil]; rw [ih]; rfl
theorem blk_len (lt : α → α → Bool) (bs K : Nat) : ∀ (l : List α), (blk lt bs K l).length = l.length := by
  induction K with
  | zero => intro l; rfl
  | succ K ih => intro l; simp only [blk, List.length_append]; rw [sortG_len, ih, List.length_take, List.length_drop]; omega
theorem blk_next (lt : α → α → Bool) (bs K : Nat) : ∀ (l : List α), K * bs ≤ l.length → ∃ X, X.length = K * bs ∧ blk lt bs K l = X ++ l.drop (K * bs) ∧ ∀ (D : Nat), blk lt bs (K + D) l = X ++ blk lt bs D (l.drop (K * bs)) := by
  induction K with
  | zero => intro l h; exact ⟨[], by simp, by simp [blk], fun D => by simp⟩
  | succ K ih =>
    intro l h
    rw [Nat.succ_mul] at h
    obtain ⟨X, h1, h2, h3⟩ := ih (l.drop bs) (by simp; omega)
    refine ⟨sortG lt (l.take bs) ++ X, by rw [List.length_append, sortG_len, h1, Nat.succ_mul]; simp; omega, ?_, fun D => ?_⟩
    · simp only [blk]
      rw [h2, List.drop_drop, List.append_assoc, Nat.succ_mul, Nat.add_comm bs]
    · rw [show K + 1 + D = (K + D) + 1 by omega]
      simp only [blk]
      rw [h3, List.drop_drop, List.append_assoc, Nat.succ_mul, Nat.add_comm bs]
theorem blk_more (lt : α → α → Bool) (bs D : Nat) (K : Nat) : ∀ (l : List α), l.length ≤ K * bs → blk lt bs (K + D) l = blk lt bs K l := by
  induction K with
  | zero => intro l h; obtain rfl : l = [] := List.eq_nil_of_length_eq_zero (by omega); rw [blk_nil, blk_nil]
  | succ K ih =>
    intro l h
    rw [Nat.succ_mul] at h
    rw [show K + 1 + D = (K + D) + 1 by omega]
    simp only [blk]
    rw [ih _ (by simp; omega)]
/-- All blocks. -/
def allB (lt : α → α → Bool) (bs : Nat) (l : List α) : List α := blk lt bs (l.length + 1) l
theorem allB_of (lt : α → α → Bool) {bs K : Nat} (hb : 0 < bs) {l : List α} (h : l.length ≤ K * bs) : blk lt bs K l = allB lt bs l := by
  unfold allB
  have h2 : l.length ≤ (l.length + 1) * bs := Nat.le_trans (Nat.le_succ _) (Nat.le_mul_of_pos_right _ hb)
  rcases Nat.le_total K (l.length + 1) with h1 | h1
  · obtain ⟨D, hD⟩ := Nat.le.dest h1
    rw [← hD, blk_more lt bs D K l h]
  · obtain ⟨D, hD⟩ := Nat.le.dest h1
    rw [← hD, blk_more lt bs D _ l h2]
theorem allB_one (lt : α → α → Bool) {bs : Nat} {l : List α} (h : l.length ≤ bs) (hb : 0 < bs) : allB lt bs l = sortG lt l := by
  rw [← allB_of lt (K := 1) hb (by omega)]
  simp only [blk]
  rw [List.take_of_length_le h, List.drop_of_length_le h, List.append_nil]
theorem allB_step (lt : α → α → Bool) {bs : Nat} (hb : 0 < bs) (l : List α) : allB lt bs l = sortG lt (l.take bs) ++ allB lt bs (l.drop bs) := by
  have h2 : ∀ q : Nat, q ≤ (q + 1) * bs := fun q => Nat.le_trans (Nat.le_succ _) (Nat.le_mul_of_pos_right _ hb)
  rw [← allB_of lt (K := (l.length + 1) + 1) hb (Nat.le_trans (h2 _) (Nat.mul_le_mul_right _ (Nat.le_succ _)))]
  have e : blk lt bs (l.length + 1 + 1) l = sortG lt (l.take bs) ++ blk lt bs (l.length + 1) (l.drop bs) := rfl
  rw [e, allB_of lt hb (Nat.le_trans (by simp) (h2 l.length))]
theorem allB_len (lt : α → α → Bool) (bs : Nat) (l : List α) : (allB lt bs l).length = l.length := blk_len lt bs _ l
/-- J blocks of twice bs rows, and blocks of bs rows behind them. -/
def mix (lt : α → α → Bool) (bs : Nat) : Nat → List α → List α
  | 0, l => allB lt bs l
  | J + 1, l => sortG lt (l.take (2 * bs)) ++ mix lt bs J (l.drop (2 * bs))
theorem mix_next (lt : α → α → Bool) {bs : Nat} (hb : 0 < bs) (J : Nat) : ∀ (l : List α), J * (2 * bs) ≤ l.length → ∃ X, X.length = J * (2 * bs) ∧ mix lt bs J l = X ++ allB lt bs (l.drop (J * (2 * bs))) ∧ mix lt bs (J + 1) l = X ++ (sortG lt ((l.drop (J * (2 * bs))).take (2 * bs)) ++ allB lt bs ((l.drop (J * (2 * bs))).drop (2 * bs))) ∧ ∀ D, blk lt (2 * bs) (J + D) l = X ++ blk lt (2 * bs) D (l.drop (J * (2 * bs))) := by
  induction J with
  | zero => intro l h; exact ⟨[], by simp, by simp [mix], by simp [mix], fun D => by simp⟩
  | succ J ih =>
    intro l h
    rw [Nat.succ_mul] at h
    obtain ⟨X, h1, h2, h3, h4⟩ := ih (l.drop (2 * bs)) (by simp; omega)
    have hmul : (J + 1) * (2 * bs) = J * (2 * bs) + 2 * bs := Nat.succ_mul _ _
    have hd0 : (l.drop (2 * bs)).drop (J * (2 * bs)) = l.drop ((J + 1) * (2 * bs)) := by rw [List.drop_drop, hmul, Nat.add_comm]
    refine ⟨sortG lt (l.take (2 * bs)) ++ X, by rw [List.length_append, sortG_len, h1, hmul, List.length_take]; omega, ?_, ?_, fun D => ?_⟩
    · rw [mix, h2, hd0, List.append_assoc]
    · rw [mix, h3, hd0, List.append_assoc]
    · rw [show J + 1 + D = (J + D) + 1 by omega]
      simp only [blk]
      rw [h4, hd0, List.append_assoc]
theorem mix_len (lt : α → α → Bool) (bs J : Nat) : ∀ (l : List α), (mix lt bs J l).length = l.length := by
  induction J with
  | zero => intro l; exact allB_len lt bs l
  | succ J ih => intro l; simp only [mix, List.length_append]; rw [sortG_len, ih, List.length_take, List.length_drop]; omega
variable {lt : α → α → Bool}
/-- Two blocks that lie one behind the other are merged. -/
theorem mix_merge (W : Weak lt) {bs J : Nat} (hb : 0 < bs) {l : List α} {a b : Nat} (ha : a = J * (2 * bs)) (hbe : b = a + 2 * bs) (hn : b ≤ l.length) :
    mAt lt a (a + bs) b (mix lt bs J l) = mix lt bs (J + 1) l ∧ Srt lt (((mix lt bs J l).drop a).take (a + bs - a)) ∧ Srt lt (((mix lt bs J l).drop (a + bs)).take (b - (a + bs))) := by
  obtain ⟨X, h1, h2, h3, _⟩ := mix_next lt hb J l (by omega)
  rw [← ha] at h1 h2 h3
  rw [h2, h3, allB_step lt hb, allB_step lt hb ((l.drop a).drop bs)]
  have l1 : (sortG lt ((l.drop a).take bs)).length = bs := by rw [sortG_len]; simp; omega
  have l2 : (sortG lt (((l.drop a).drop bs).take bs)).length = bs := by rw [sortG_len]; simp; omega
  refine ⟨?_, ?_, ?_⟩
  · rw [mAt_parts lt X _ _ _ h1.symm (by omega) (by omega), ← sortG_app W]
    have e : (l.drop a).take bs ++ ((l.drop a).drop bs).take bs = (l.drop a).take (2 * bs) := by
      rw [show 2 * bs = bs + bs by omega, List.take_add]
    rw [e, List.drop_drop, show bs + bs = 2 * bs by omega]
  · rw [piece X _ _ h1.symm (by omega)]; exact sortG_sorted W _
  · have := piece (X ++ sortG lt ((l.drop a).take bs)) (sortG lt (((l.drop a).drop bs).take bs)) (allB lt bs (((l.drop a).drop bs).drop bs)) (a := a + bs) (k := b - (a + bs)) (by simp [l1, h1]) (by omega)
    rw [List.append_assoc] at this
    rw [this]; exact sortG_sorted W _
/-- The last blocks, behind those of twice the size. -/
theorem mix_last (W : Weak lt) {bs J : Nat} (hb : 0 < bs) {l : List α} {a n : Nat} (ha : a = J * (2 * bs)) (hn : n = l.length) (han : a ≤ n) (hlt : n < a + 2 * bs) :
    (a + bs < n → mAt lt a (a + bs) n (mix lt bs J l) = allB lt (2 * bs) l ∧ Srt lt (((mix lt bs J l).drop a).take (a + bs - a)) ∧ Srt lt (((mix lt bs J l).drop (a + bs)).take (n - (a + bs)))) ∧ (n ≤ a + bs → mix lt bs J l = allB lt (2 * bs) l) := by
  obtain ⟨X, h1, h2, _, h4⟩ := mix_next lt hb J l (by omega)
  rw [← ha] at h1 h2
  have h5 := h4 1
  rw [allB_of lt (by omega) (by rw [Nat.succ_mul]; omega), ← ha] at h5
  simp only [blk] at h5
  rw [List.take_of_length_le (by simp; omega), List.drop_of_length_le (i := 2 * bs) (by simp; omega), List.append_nil] at h5
  rw [h2, h5]
  refine ⟨fun h => ?_, fun h => ?_⟩
  · rw [allB_step lt hb, allB_one lt (l := (l.drop a).drop bs) (by simp; omega) hb]
    have l1 : (sortG lt ((l.drop a).take bs)).length = bs := by rw [sortG_len]; simp; omega
    have l2 : (sortG lt ((l.drop a).drop bs)).length = n - (a + bs) := by rw [sortG_len]; simp; omega
    refine ⟨?_, ?_, ?_⟩
    · have := mAt_parts lt X (sortG lt ((l.drop a).take bs)) (sortG lt ((l.drop a).drop bs)) [] (a := a) (m := a + bs) (b := n) h1.symm (by omega) (by omega)
      rw [List.append_nil, List.append_nil] at this
      rw [this, ← sortG_app W, List.take_append_drop]
    · rw [piece X _ _ h1.symm (by omega)]; exact sortG_sorted W _
    · have := piece (X ++ sortG lt ((l.drop a).take bs)) (sortG lt ((l.drop a).drop bs)) [] (a := a + bs) (k := n - (a + bs)) (by simp [l1, h1]) (by omega)
      rw [List.append_assoc, List.append_nil] at this
      rw [this]; exact sortG_sorted W _
  · rw [allB_one lt (by simp; omega) hb]
end
end Go.Proofs.Ytpkgpldgoajphaa.AM

set_option maxRecDepth 100000
set_option linter.unusedVariables false
set_option linter.unusedSimpArgs false
namespace Go.Proofs.Ytpkgpldgoajphaa.AM
open Go Go.Proofs.Ytpkgpldgoajphaa
attribute [local irreducible] ACalls funT codeT codeQ LoopTo
attribute [local irreducible] Tp.card Tp.cardT Tp.next Tp.step Tp.cards Tp.cardsT Tp.key Tp.keyT sink insSort pickS pickL pickN pickK mostN cmpL lateE orderK sortK insK posK beforeK onceStep onceS onceK sortP lastS lastK cmpK
attribute [local irreducible] mgL mg mAt blk allB mix sortG
section
variable {α : Type} [Inhabited α]
theorem st_block (cmp : α → α → Int) {l : List α} {j a b : Nat} (ha : a = j * 20) (hb : b = a + 20) (hn : b ≤ l.length) : insSort cmp a (b - (a + 1)) (a + 1) (blk (ltF cmp) 20 j l) = blk (ltF cmp) 20 (j + 1) l := by
  obtain ⟨X, h1, h2, h3⟩ := blk_next (ltF cmp) 20 j l (by omega)
  have h4 : blk (ltF cmp) 20 1 (l.drop (j * 20)) = sortG (ltF cmp) ((l.drop (j * 20)).take 20) ++ (l.drop (j * 20)).drop 20 := by simp only [blk]
  rw [h2, h3 1, h4, ← ha]
  have := insSort_part cmp X ((l.drop a).take 20) ((l.drop a).drop 20) (a := a) (b := b) (by omega) (by simp; omega)
  rw [List.take_append_drop] at this
  exact this
theorem st_tail (cmp : α → α → Int) {l : List α} {j a n : Nat} (ha : a = j * 20) (hn : n = l.length) (han : a ≤ n) (hlt : n < a + 20) : insSort cmp a (n - (a + 1)) (a + 1) (blk (ltF cmp) 20 j l) = allB (ltF cmp) 20 l := by
  obtain ⟨X, h1, h2, h3⟩ := blk_next (ltF cmp) 20 j l (by omega)
  have h4 : blk (ltF cmp) 20 1 (l.drop (j * 20)) = sortG (ltF cmp) ((l.drop (j * 20)).take 20) ++ (l.drop (j * 20)).drop 20 := by simp only [blk]
  rw [← allB_of (ltF cmp) (bs := 20) (K := j + 1) (by omega) (by omega), h2, h3 1, h4, ← ha]
  have := insSort_part cmp X (l.drop a) [] (a := a) (b := n) (by omega) (by simp; omega)
  rw [List.append_nil, List.append_nil] at this
  rw [this, List.take_of_length_le (by simp; omega), List.drop_of_length_le (i := 20) (by simp; omega), List.append_nil]
  rfl
theorem mAt_len {lt : α → α → Bool} {a p b : Nat} {l : List α} (h1 : a ≤ p) (h2 : p ≤ b) (h3 : b ≤ l.length) : (mAt lt a p b l).length = l.length := by
  unfold mAt
  rw [List.length_append, List.length_append, mg_len]; simp; omega
end
theorem sEm_spec (cmp : Entry → Entry → Int) (f : Nat) (xs : List AV) (a p b n g : Nat) (l : List Entry) (hc : ∀ (x y : Entry) (H : Heap), ACalls Try.prog f ([AV.agg (Entry.row x), AV.agg (Entry.row y)] ++ xs) H (AV.int .i64 (cmp x y), H)) (hxs : AV.bdds 1 xs = true) (W : Weak (ltF cmp)) (h1 : n = l.length) (h2 : n < 1048576) (h3 : a < p) (h4 : p < b) (h5 : b ≤ n) (h7 : Srt (ltF cmp) ((l.drop a).take (p - a))) (h8 : Srt (ltF cmp) ((l.drop p).take (b - p))) : ACalls Try.prog 133 [(AV.osl 0 g 10 0 n), (AV.int .i64 ((a : Nat) : Int)), (AV.int .i64 ((p : Nat) : Int)), (AV.int .i64 ((b : Nat) : Int)), (AV.func f xs)] ([⟨g, 10, (List.map Entry.row l), none⟩] : Heap) ((AV.tup []), ([⟨g, 10, (List.map Entry.row (mAt (ltF cmp) a p b l)), none⟩] : Heap)) := sE_all cmp f xs hc hxs W (b - a + 1) a p b n g l h1 h2 h3 h4 h5 (by omega) h7 h8
theorem sEm_at (cmp : Entry → Entry → Int) (f : Nat) (xs : List AV) (a p b n g : Nat) (l : List Entry) (hc : ∀ (x y : Entry) (H : Heap), ACalls Try.prog f ([AV.agg (Entry.row x), AV.agg (Entry.row y)] ++ xs) H (AV.int .i64 (cmp x y), H)) (hxs : AV.bdds 1 xs = true) (W : Weak (ltF cmp)) (h1 : n = l.length) (h2 : n < 1048576) (h3 : a < p) (h4 : p < b) (h5 : b ≤ n) (h7 : Srt (ltF cmp) ((l.drop a).take (p - a))) (h8 : Srt (ltF cmp) ((l.drop p).take (b - p))) (H : Heap) : ACalls Try.prog 133 [(AV.osl 0 g 10 0 n), (AV.int .i64 ((a : Nat) : Int)), (AV.int .i64 ((p : Nat) : Int)), (AV.int .i64 ((b : Nat) : Int)), (AV.func f xs)] (([⟨g, 10, (List.map Entry.row l), none⟩] : Heap) ++ H) ((AV.tup []), ([⟨g, 10, (List.map Entry.row (mAt (ltF cmp) a p b l)), none⟩] : Heap) ++ H) := (sEm_spec cmp f xs a p b n g l hc hxs W h1 h2 h3 h4 h5 h7 h8).ext (by simp [AV.bdds, AV.bdd, *]) (by kernel_rfl) (by first | (simp [obsB, AV.bddss, AV.bdds, AV.bdd]; done) | (simp [obsB, AV.bddss, AV.bdds, AV.bdd, -List.map_append]; done) | simp [obsB, AV.bddss, AV.bdds, AV.bdd, -List.map_append, -List.map_set, -List.map_take, -List.map_drop, -List.map_cons, -List.map_map]) (by first | (simp [obsB, AV.bddss, AV.bdds, AV.bdd]; done) | (simp [obsB, AV.bddss, AV.bdds, AV.bdd, -List.map_append]; done) | simp [obsB, AV.bddss, AV.bdds, AV.bdd, -List.map_append, -List.map_set, -List.map_take, -List.map_drop, -List.map_cons, -List.map_map]) (by kernel_rfl) H
def sEst_ann : Ann := { base := 1, fin := some 1, live := [(2, [0, 1, 2, 6, 7, 8]), (7, [0, 1, 2, 6]), (9, [0, 1, 2, 6, 7, 8])], out := [(2, [0, 1, 2, 6, 7]), (7, []), (9, [0, 1, 2, 6, 7])] }
set_option maxRecDepth 100000 in
theorem sEstb_step (cmp : Entry → Entry → Int) (f : Nat) (xs : List AV) (a b n g : Nat) (l : List Entry) (hc : ∀ (x y : Entry) (H : Heap), ACalls Try.prog f ([AV.agg (Entry.row x), AV.agg (Entry.row y)] ++ xs) H (AV.int .i64 (cmp x y), H)) (hxs : AV.bdds 1 xs = true) (W : Weak (ltF cmp)) (hn : n = l.length) (hnb : n < 524288) (hb : b = a + 20) (han : a ≤ n) {eX : Ex} {FX : Fr} {HX : Heap} (k1 : (decide (((b : Nat) : Int) ≤ ((n : Nat) : Int))) = true → LoopTo (codeQ Try.prog (X sEst_ann) (loopOf Try.f112 0)) (some [0, 1, 2, 6, 7, 8]) (some [0, 1, 2, 6, 7]) (mkF 63 [(0, (AV.osl 0 g 10 0 n)), (1, (AV.int .i64 ((n : Nat) : Int))), (2, (AV.func f xs)), (6, (AV.int .i64 20)), (7, (AV.int .i64 ((b : Nat) : Int))), (8, (AV.int .i64 ((b + 20 : Nat) : Int)))]) ([⟨g, 10, (List.map Entry.row (insSort cmp a (b - (a + 1)) (a + 1) l)), none⟩] : Heap) eX FX HX) (k2 : (decide (((b : Nat) : Int) ≤ ((n : Nat) : Int))) = false → ((.exit 0 : Ex), (mkF 63 [(0, (AV.osl 0 g 10 0 n)), (1, (AV.int .i64 ((n : Nat) : Int))), (2, (AV.func f xs)), (6, (AV.int .i64 20)), (7, (AV.int .i64 ((a : Nat) : Int)))]), ([⟨g, 10, (List.map Entry.row l), none⟩] : Heap)) = (eX, FX, HX)) : LoopTo (codeQ Try.prog (X sEst_ann) (loopOf Try.f112 0)) (some [0, 1, 2, 6, 7, 8]) (some [0, 1, 2, 6, 7]) (mkF 63 [(0, (AV.osl 0 g 10 0 n)), (1, (AV.int .i64 ((n : Nat) : Int))), (2, (AV.func f xs)), (6, (AV.int .i64 20)), (7, (AV.int .i64 ((a : Nat) : Int))), (8, (AV.int .i64 ((b : Nat) : Int)))]) ([⟨g, 10, (List.map Entry.row l), none⟩] : Heap) eX FX HX := by
  refine LoopTo.step (.reg [] [] [] (.two (.reg [(4, ((AV.tup []), ([⟨g, 10, (List.map Entry.row (insSort cmp a (b - (a + 1)) (a + 1) l)), none⟩] : Heap)))] [] [] (.reg [] [] [] (.reg [(2, ((AV.int .i64 ((b + 20 : Nat) : Int)), ([⟨g, 10, (List.map Entry.row (insSort cmp a (b - (a + 1)) (a + 1) l)), none⟩] : Heap)))] [] [] .nil))) .nil)) ?_
  refine Eq.mp (by kernel_rfl : (cond (decide (((b : Nat) : Int) ≤ ((n : Nat) : Int))) ((ACalls Try.prog 132 [(AV.osl 0 g 10 0 n), (AV.int .i64 ((a : Nat) : Int)), (AV.int .i64 ((b : Nat) : Int)), (AV.func f xs)] ([⟨g, 10, (List.map Entry.row l), none⟩] : Heap) ((AV.tup []), ([⟨g, 10, (List.map Entry.row (insSort cmp a (b - (a + 1)) (a + 1) l)), none⟩] : Heap))) ∧ (Yes (.int .i64 (IntKind.i64.wrap (((b : Nat) : Int) + 20))) ([⟨g, 10, (List.map Entry.row (insSort cmp a (b - (a + 1)) (a + 1) l)), none⟩] : Heap) (AV.int .i64 ((b + 20 : Nat) : Int))) ∧ LoopTo (codeQ Try.prog (X sEst_ann) (loopOf Try.f112 0)) (some [0, 1, 2, 6, 7, 8]) (some [0, 1, 2, 6, 7]) (mkF 63 [(0, (AV.osl 0 g 10 0 n)), (1, (AV.int .i64 ((n : Nat) : Int))), (2, (AV.func f xs)), (6, (AV.int .i64 20)), (7, (AV.int .i64 ((b : Nat) : Int))), (8, (AV.int .i64 ((b + 20 : Nat) : Int)))]) ([⟨g, 10, (List.map Entry.row (insSort cmp a (b - (a + 1)) (a + 1) l)), none⟩] : Heap) eX FX HX) (((.exit 0 : Ex), (mkF 63 [(0, (AV.osl 0 g 10 0 n)), (1, (AV.int .i64 ((n : Nat) : Int))), (2, (AV.func f xs)), (6, (AV.int .i64 20)), (7, (AV.int .i64 ((a : Nat) : Int)))]), ([⟨g, 10, (List.map Entry.row l), none⟩] : Heap)) = (eX, FX, HX))) = _) ?_
  refine cond_split (fun h1 => ?_) (fun h1 => ?_)
  · have h1' := h1
    try simp at h1'
    refine And.intro (insE_at _ f xs a b n g l (by first | exact hc | exact hxs | exact W | omega | (simp; omega)) (by first | exact hc | exact hxs | exact W | omega | (simp; omega)) (by first | exact hc | exact hxs | exact W | omega | (simp; omega)) (by first | exact hc | exact hxs | exact W | omega | (simp; omega)) (by first | exact hc | exact hxs | exact W | omega | (simp; omega)) (by first | exact hc | exact hxs | exact W | omega | (simp; omega)) ([] : Heap)) ?_
    refine And.intro (Yes.add (by omega) (by omega) (by omega)) ?_
    exact k1 h1
  · have h1' := h1
    try simp at h1'
    exact k2 h1
theorem sEstb_loop (cmp : Entry → Entry → Int) (f : Nat) (xs : List AV) (hc : ∀ (x y : Entry) (H : Heap), ACalls Try.prog f ([AV.agg (Entry.row x), AV.agg (Entry.row y)] ++ xs) H (AV.int .i64 (cmp x y), H)) (hxs : AV.bdds 1 xs = true) (W : Weak (ltF cmp)) (n g : Nat) (l0 : List Entry) (hn : n = l0.length) (hnb : n < 524288) (r : Nat) : ∀ (j a b : Nat) (l : List Entry), j + r = n / 20 → a = j * 20 → b = a + 20 → l = blk (ltF cmp) 20 j l0 →
    LoopTo (codeQ Try.prog (X sEst_ann) (loopOf Try.f112 0)) (some [0, 1, 2, 6, 7, 8]) (some [0, 1, 2, 6, 7]) (mkF 63 [(0, (AV.osl 0 g 10 0 n)), (1, (AV.int .i64 ((n : Nat) : Int))), (2, (AV.func f xs)), (6, (AV.int .i64 20)), (7, (AV.int .i64 ((a : Nat) : Int))), (8, (AV.int .i64 ((b : Nat) : Int)))]) ([⟨g, 10, (List.map Entry.row l), none⟩] : Heap) (.exit 0) (mkF 63 [(0, (AV.osl 0 g 10 0 n)), (1, (AV.int .i64 ((n : Nat) : Int))), (2, (AV.func f xs)), (6, (AV.int .i64 20)), (7, (AV.int .i64 (((n / 20 * 20) : Nat) : Int)))]) ([⟨g, 10, (List.map Entry.row (blk (ltF cmp) 20 (n / 20) l0)), none⟩] : Heap) := by
  induction r with
  | zero =>
    intro j a b l hj ha hb hl
    subst hl
    refine sEstb_step cmp f xs a b n g _ hc hxs W (by rw [blk_len]; exact hn) hnb hb (by omega) (fun h => by simp at h; omega) (fun _ => ?_)
    rw [show n / 20 = j by omega, ← ha]
  | succ r ih =>
    intro j a b l hj ha hb hl
    subst hl
    refine sEstb_step cmp f xs a b n g _ hc hxs W (by rw [blk_len]; exact hn) hnb hb (by omega) (fun h => ?_) (fun h => by simp at h; omega)
    rw [st_block cmp ha hb (by omega)]
    exact ih (j + 1) b (b + 20) _ (by omega) (by omega) rfl rfl
set_option maxRecDepth 100000 in
theorem sEstm_step (cmp : Entry → Entry → Int) (f : Nat) (xs : List AV) (bs a b n g : Nat) (l : List Entry) (hc : ∀ (x y : Entry) (H : Heap), ACalls Try.prog f ([AV.agg (Entry.row x), AV.agg (Entry.row y)] ++ xs) H (AV.int .i64 (cmp x y), H)) (hxs : AV.bdds 1 xs = true) (W : Weak (ltF cmp)) (hn : n = l.length) (hnb : n < 524288) (hb : b = a + 2 * bs) (hbs : 0 < bs) (hbn : bs < 524288) (han : a ≤ n) (hs7 : b ≤ n → Srt (ltF cmp) ((l.drop a).take (a + bs - a))) (hs8 : b ≤ n → Srt (ltF cmp) ((l.drop (a + bs)).take (b - (a + bs)))) {eX : Ex} {FX : Fr} {HX : Heap} (k1 : (decide (((b : Nat) : Int) ≤ ((n : Nat) : Int))) = true → LoopTo (codeQ Try.prog (X sEst_ann) (loopOf Try.f112 2)) (some [0, 1, 2, 6, 7, 8]) (some [0, 1, 2, 6, 7]) (mkF 63 [(0, (AV.osl 0 g 10 0 n)), (1, (AV.int .i64 ((n : Nat) : Int))), (2, (AV.func f xs)), (6, (AV.int .i64 ((bs : Nat) : Int))), (7, (AV.int .i64 ((b : Nat) : Int))), (8, (AV.int .i64 ((b + (2 * bs) : Nat) : Int)))]) ([⟨g, 10, (List.map Entry.row (mAt (ltF cmp) a (a + bs) b l)), none⟩] : Heap) eX FX HX) (k2 : (decide (((b : Nat) : Int) ≤ ((n : Nat) : Int))) = false → ((.exit 4 : Ex), (mkF 63 [(0, (AV.osl 0 g 10 0 n)), (1, (AV.int .i64 ((n : Nat) : Int))), (2, (AV.func f xs)), (6, (AV.int .i64 ((bs : Nat) : Int))), (7, (AV.int .i64 ((a : Nat) : Int)))]), ([⟨g, 10, (List.map Entry.row l), none⟩] : Heap)) = (eX, FX, HX)) : LoopTo (codeQ Try.prog (X sEst_ann) (loopOf Try.f112 2)) (some [0, 1, 2, 6, 7, 8]) (some [0, 1, 2, 6, 7]) (mkF 63 [(0, (AV.osl 0 g 10 0 n)), (1, (AV.int .i64 ((n : Nat) : Int))), (2, (AV.func f xs)), (6, (AV.int .i64 ((bs : Nat) : Int))), (7, (AV.int .i64 ((a : Nat) : Int))), (8, (AV.int .i64 ((b : Nat) : Int)))]) ([⟨g, 10, (List.map Entry.row l), none⟩] : Heap) eX FX HX := by
  refine LoopTo.step (.reg [] [] [] (.two (.reg [(4, ((AV.int .i64 ((a + bs : Nat) : Int)), ([⟨g, 10, (List.map Entry.row l), none⟩] : Heap))), (7, ((AV.tup []), ([⟨g, 10, (List.map Entry.row (mAt (ltF cmp) a (a + bs) b l)), none⟩] : Heap)))] [] [] (.reg [] [] [] (.reg [(2, ((AV.int .i64 ((2 * bs : Nat) : Int)), ([⟨g, 10, (List.map Entry.row (mAt (ltF cmp) a (a + bs) b l)), none⟩] : Heap))), (3, ((AV.int .i64 ((b + (2 * bs) : Nat) : Int)), ([⟨g, 10, (List.map Entry.row (mAt (ltF cmp) a (a + bs) b l)), none⟩] : Heap)))] [] [] .nil))) .nil)) ?_
  refine Eq.mp (by kernel_rfl : (cond (decide (((b : Nat) : Int) ≤ ((n : Nat) : Int))) ((Yes (.int .i64 (IntKind.i64.wrap (((a : Nat) : Int) + ((bs : Nat) : Int)))) ([⟨g, 10, (List.map Entry.row l), none⟩] : Heap) (AV.int .i64 ((a + bs : Nat) : Int))) ∧ (ACalls Try.prog 133 [(AV.osl 0 g 10 0 n), (AV.int .i64 ((a : Nat) : Int)), (AV.int .i64 ((a + bs : Nat) : Int)), (AV.int .i64 ((b : Nat) : Int)), (AV.func f xs)] ([⟨g, 10, (List.map Entry.row l), none⟩] : Heap) ((AV.tup []), ([⟨g, 10, (List.map Entry.row (mAt (ltF cmp) a (a + bs) b l)), none⟩] : Heap))) ∧ (Yes (.int .i64 (IntKind.i64.wrap (2 * ((bs : Nat) : Int)))) ([⟨g, 10, (List.map Entry.row (mAt (ltF cmp) a (a + bs) b l)), none⟩] : Heap) (AV.int .i64 ((2 * bs : Nat) : Int))) ∧ (Yes (.int .i64 (IntKind.i64.wrap (((b : Nat) : Int) + ((2 * bs : Nat) : Int)))) ([⟨g, 10, (List.map Entry.row (mAt (ltF cmp) a (a + bs) b l)), none⟩] : Heap) (AV.int .i64 ((b + (2 * bs) : Nat) : Int))) ∧ LoopTo (codeQ Try.prog (X sEst_ann) (loopOf Try.f112 2)) (some [0, 1, 2, 6, 7, 8]) (some [0, 1, 2, 6, 7]) (mkF 63 [(0, (AV.osl 0 g 10 0 n)), (1, (AV.int .i64 ((n : Nat) : Int))), (2, (AV.func f xs)), (6, (AV.int .i64 ((bs : Nat) : Int))), (7, (AV.int .i64 ((b : Nat) : Int))), (8, (AV.int .i64 ((b + (2 * bs) : Nat) : Int)))]) ([⟨g, 10, (List.map Entry.row (mAt (ltF cmp) a (a + bs) b l)), none⟩] : Heap) eX FX HX) (((.exit 4 : Ex), (mkF 63 [(0, (AV.osl 0 g 10 0 n)), (1, (AV.int .i64 ((n : Nat) : Int))), (2, (AV.func f xs)), (6, (AV.int .i64 ((bs : Nat) : Int))), (7, (AV.int .i64 ((a : Nat) : Int)))]), ([⟨g, 10, (List.map Entry.row l), none⟩] : Heap)) = (eX, FX, HX))) = _) ?_
  refine cond_split (fun h1 => ?_) (fun h1 => ?_)
  · have h1' := h1
    try simp at h1'
    refine And.intro (Yes.add (by omega) (by omega) (by omega)) ?_
    refine And.intro ((sEm_at _ f xs a (a + bs) b n g l (by first | exact hc | exact hxs | exact W | omega | (simp; omega)) (by first | exact hc | exact hxs | exact W | omega | (simp; omega)) (by first | exact hc | exact hxs | exact W | omega | (simp; omega)) (by first | exact hc | exact hxs | exact W | omega | (simp; omega)) (by first | exact hc | exact hxs | exact W | omega | (simp; omega)) (by first | exact hc | exact hxs | exact W | omega | (simp; omega)) (by first | exact hc | exact hxs | exact W | omega | (simp; omega)) (by first | exact hc | exact hxs | exact W | omega | (simp; omega)) (hs7 (by have := of_decide_eq_true h1; omega)) (hs8 (by have := of_decide_eq_true h1; omega)) ([] : Heap)).pre ⟨AV.wk_refl_any _, AV.wk_refl_any _, AV.wk_refl_any _, AV.wk_refl_any _, AV.wk_refl_any _, trivial⟩) ?_
    refine And.intro (Yes.add (by omega) (by omega) (by omega)) ?_
    refine And.intro (Yes.add (by omega) (by omega) (by omega)) ?_
    exact k1 h1
  · have h1' := h1
    try simp at h1'
    exact k2 h1
theorem sEstm_loop (cmp : Entry → Entry → Int) (f : Nat) (xs : List AV) (hc : ∀ (x y : Entry) (H : Heap), ACalls Try.prog f ([AV.agg (Entry.row x), AV.agg (Entry.row y)] ++ xs) H (AV.int .i64 (cmp x y), H)) (hxs : AV.bdds 1 xs = true) (W : Weak (ltF cmp)) (bs n g : Nat) (l0 : List Entry) (hn : n = l0.length) (hnb : n < 524288) (hbs : 0 < bs) (hbn : bs < 524288) (J : Nat) (hJ : J = n / (2 * bs)) (r : Nat) : ∀ (j a b : Nat) (l : List Entry), j + r = J → a = j * (2 * bs) → b = a + 2 * bs → l = mix (ltF cmp) bs j l0 →
    LoopTo (codeQ Try.prog (X sEst_ann) (loopOf Try.f112 2)) (some [0, 1, 2, 6, 7, 8]) (some [0, 1, 2, 6, 7]) (mkF 63 [(0, (AV.osl 0 g 10 0 n)), (1, (AV.int .i64 ((n : Nat) : Int))), (2, (AV.func f xs)), (6, (AV.int .i64 ((bs : Nat) : Int))), (7, (AV.int .i64 ((a : Nat) : Int))), (8, (AV.int .i64 ((b : Nat) : Int)))]) ([⟨g, 10, (List.map Entry.row l), none⟩] : Heap) (.exit 4) (mkF 63 [(0, (AV.osl 0 g 10 0 n)), (1, (AV.int .i64 ((n : Nat) : Int))), (2, (AV.func f xs)), (6, (AV.int .i64 ((bs : Nat) : Int))), (7, (AV.int .i64 (((J * (2 * bs)) : Nat) : Int)))]) ([⟨g, 10, (List.map Entry.row (mix (ltF cmp) bs J l0)), none⟩] : Heap) := by
  have hdm := Nat.div_mul_le_self n (2 * bs)
  have hlt := Nat.lt_div_mul_add (a := n) (b := 2 * bs) (by omega)
  rw [← hJ] at hdm hlt
  induction r with
  | zero =>
    intro j a b l hj ha hb hl
    subst hl
    obtain rfl : j = J := by omega
    refine sEstm_step cmp f xs bs a b n g _ hc hxs W (by rw [mix_len]; exact hn) hnb hb hbs hbn (by omega) (fun h => by omega) (fun h => by omega) (fun h => by simp at h; omega) (fun _ => ?_)
    rw [← ha]
  | succ r ih =>
    intro j a b l hj ha hb hl
    subst hl
    have hmul : (j + 1) * (2 * bs) = j * (2 * bs) + 2 * bs := Nat.succ_mul _ _
    have hle : (j + 1) * (2 * bs) ≤ J * (2 * bs) := Nat.mul_le_mul_right _ (by omega)
    obtain ⟨q1, q2, q3⟩ := mix_merge W hbs (l := l0) ha hb (by omega)
    refine sEstm_step cmp f xs bs a b n g _ hc hxs W (by rw [mix_len]; exact hn) hnb hb hbs hbn (by omega) (fun _ => q2) (fun _ => q3) (fun h => ?_) (fun h => by simp at h; omega)
    rw [q1]
    exact ih (j + 1) b (b + 2 * bs) _ (by omega) (by omega) rfl rfl
set_option maxRecDepth 100000 in
theorem sEsto_step (cmp : Entry → Entry → Int) (f : Nat) (xs : List AV) (bs J n g : Nat) (l l0 : List Entry) (hc : ∀ (x y : Entry) (H : Heap), ACalls Try.prog f ([AV.agg (Entry.row x), AV.agg (Entry.row y)] ++ xs) H (AV.int .i64 (cmp x y), H)) (hxs : AV.bdds 1 xs = true) (W : Weak (ltF cmp)) (hn : n = l0.length) (hnb : n < 524288) (hbs : 0 < bs) (hbn : bs < 1048576) (hl : l = allB (ltF cmp) bs l0) (hJ : J = n / (2 * bs)) (hJn : J * (2 * bs) ≤ n) (hs7 : J * (2 * bs) + bs < n → Srt (ltF cmp) (((mix (ltF cmp) bs J l0).drop (J * (2 * bs))).take (J * (2 * bs) + bs - J * (2 * bs)))) (hs8 : J * (2 * bs) + bs < n → Srt (ltF cmp) (((mix (ltF cmp) bs J l0).drop (J * (2 * bs) + bs)).take (n - (J * (2 * bs) + bs)))) {eX : Ex} {FX : Fr} {HX : Heap} (k1 : (decide (((bs : Nat) : Int) < ((n : Nat) : Int))) = true → (decide ((((J * (2 * bs)) + bs : Nat) : Int) < ((n : Nat) : Int))) = true → LoopTo (codeQ Try.prog (X sEst_ann) (loopOf Try.f112 1)) (some [0, 1, 2, 6]) (some []) (mkF 63 [(0, (AV.osl 0 g 10 0 n)), (1, (AV.int .i64 ((n : Nat) : Int))), (2, (AV.func f xs)), (6, (AV.int .i64 ((bs * 2 : Nat) : Int)))]) ([⟨g, 10, (List.map Entry.row (mAt (ltF cmp) (J * (2 * bs)) ((J * (2 * bs)) + bs) n (mix (ltF cmp) bs J l0))), none⟩] : Heap) eX FX HX) (k2 : (decide (((bs : Nat) : Int) < ((n : Nat) : Int))) = true → (decide ((((J * (2 * bs)) + bs : Nat) : Int) < ((n : Nat) : Int))) = false → LoopTo (codeQ Try.prog (X sEst_ann) (loopOf Try.f112 1)) (some [0, 1, 2, 6]) (some []) (mkF 63 [(0, (AV.osl 0 g 10 0 n)), (1, (AV.int .i64 ((n : Nat) : Int))), (2, (AV.func f xs)), (6, (AV.int .i64 ((bs * 2 : Nat) : Int)))]) ([⟨g, 10, (List.map Entry.row (mix (ltF cmp) bs J l0)), none⟩] : Heap) eX FX HX) (k3 : (decide (((bs : Nat) : Int) < ((n : Nat) : Int))) = false → ((.exit 2 : Ex), (mkF 63 []), ([⟨g, 10, (List.map Entry.row l), none⟩] : Heap)) = (eX, FX, HX)) : LoopTo (codeQ Try.prog (X sEst_ann) (loopOf Try.f112 1)) (some [0, 1, 2, 6]) (some []) (mkF 63 [(0, (AV.osl 0 g 10 0 n)), (1, (AV.int .i64 ((n : Nat) : Int))), (2, (AV.func f xs)), (6, (AV.int .i64 ((bs : Nat) : Int)))]) ([⟨g, 10, (List.map Entry.row l), none⟩] : Heap) eX FX HX := by
  refine LoopTo.step (.reg [] [] [] (.two (.reg [(1, ((AV.int .i64 ((2 * bs : Nat) : Int)), ([⟨g, 10, (List.map Entry.row l), none⟩] : Heap)))] [] [] (.loop (.exit 4) (mkF 63 [(0, (AV.osl 0 g 10 0 n)), (1, (AV.int .i64 ((n : Nat) : Int))), (2, (AV.func f xs)), (6, (AV.int .i64 ((bs : Nat) : Int))), (7, (AV.int .i64 (((J * (2 * bs)) : Nat) : Int)))]) ([⟨g, 10, (List.map Entry.row (mix (ltF cmp) bs J l0)), none⟩] : Heap) (.reg [(2, ((AV.int .i64 (((J * (2 * bs)) + bs : Nat) : Int)), ([⟨g, 10, (List.map Entry.row (mix (ltF cmp) bs J l0)), none⟩] : Heap)))] [] [] (.reg [] [] [] (.two (.reg [(5, ((AV.tup []), ([⟨g, 10, (List.map Entry.row (mAt (ltF cmp) (J * (2 * bs)) ((J * (2 * bs)) + bs) n (mix (ltF cmp) bs J l0))), none⟩] : Heap)))] [] [] (.reg [(1, ((AV.int .i64 ((bs * 2 : Nat) : Int)), ([⟨g, 10, (List.map Entry.row (mAt (ltF cmp) (J * (2 * bs)) ((J * (2 * bs)) + bs) n (mix (ltF cmp) bs J l0))), none⟩] : Heap)))] [] [] .nil)) (.reg [(1, ((AV.int .i64 ((bs * 2 : Nat) : Int)), ([⟨g, 10, (List.map Entry.row (mix (ltF cmp) bs J l0)), none⟩] : Heap)))] [] [] .nil)))))) .nil)) ?_
  refine Eq.mp (by kernel_rfl : (cond (decide (((bs : Nat) : Int) < ((n : Nat) : Int))) ((Yes (.int .i64 (IntKind.i64.wrap (2 * ((bs : Nat) : Int)))) ([⟨g, 10, (List.map Entry.row l), none⟩] : Heap) (AV.int .i64 ((2 * bs : Nat) : Int))) ∧ (LoopTo (codeQ Try.prog (X sEst_ann) (loopOf Try.f112 2)) (some [0, 1, 2, 6, 7, 8]) (some [0, 1, 2, 6, 7]) (mkF 63 [(0, (AV.osl 0 g 10 0 n)), (1, (AV.int .i64 ((n : Nat) : Int))), (2, (AV.func f xs)), (6, (AV.int .i64 ((bs : Nat) : Int))), (7, (AV.int .i64 0)), (8, (AV.int .i64 ((2 * bs : Nat) : Int)))]) ([⟨g, 10, (List.map Entry.row l), none⟩] : Heap) (.exit 4) (mkF 63 [(0, (AV.osl 0 g 10 0 n)), (1, (AV.int .i64 ((n : Nat) : Int))), (2, (AV.func f xs)), (6, (AV.int .i64 ((bs : Nat) : Int))), (7, (AV.int .i64 (((J * (2 * bs)) : Nat) : Int)))]) ([⟨g, 10, (List.map Entry.row (mix (ltF cmp) bs J l0)), none⟩] : Heap)) ∧ (Yes (.int .i64 (IntKind.i64.wrap ((((J * (2 * bs)) : Nat) : Int) + ((bs : Nat) : Int)))) ([⟨g, 10, (List.map Entry.row (mix (ltF cmp) bs J l0)), none⟩] : Heap) (AV.int .i64 (((J * (2 * bs)) + bs : Nat) : Int))) ∧ cond (decide ((((J * (2 * bs)) + bs : Nat) : Int) < ((n : Nat) : Int))) ((ACalls Try.prog 133 [(AV.osl 0 g 10 0 n), (AV.int .i64 (((J * (2 * bs)) : Nat) : Int)), (AV.int .i64 (((J * (2 * bs)) + bs : Nat) : Int)), (AV.int .i64 ((n : Nat) : Int)), (AV.func f xs)] ([⟨g, 10, (List.map Entry.row (mix (ltF cmp) bs J l0)), none⟩] : Heap) ((AV.tup []), ([⟨g, 10, (List.map Entry.row (mAt (ltF cmp) (J * (2 * bs)) ((J * (2 * bs)) + bs) n (mix (ltF cmp) bs J l0))), none⟩] : Heap))) ∧ (Yes (.int .i64 (IntKind.i64.wrap (((bs : Nat) : Int) * 2))) ([⟨g, 10, (List.map Entry.row (mAt (ltF cmp) (J * (2 * bs)) ((J * (2 * bs)) + bs) n (mix (ltF cmp) bs J l0))), none⟩] : Heap) (AV.int .i64 ((bs * 2 : Nat) : Int))) ∧ LoopTo (codeQ Try.prog (X sEst_ann) (loopOf Try.f112 1)) (some [0, 1, 2, 6]) (some []) (mkF 63 [(0, (AV.osl 0 g 10 0 n)), (1, (AV.int .i64 ((n : Nat) : Int))), (2, (AV.func f xs)), (6, (AV.int .i64 ((bs * 2 : Nat) : Int)))]) ([⟨g, 10, (List.map Entry.row (mAt (ltF cmp) (J * (2 * bs)) ((J * (2 * bs)) + bs) n (mix (ltF cmp) bs J l0))), none⟩] : Heap) eX FX HX) ((Yes (.int .i64 (IntKind.i64.wrap (((bs : Nat) : Int) * 2))) ([⟨g, 10, (List.map Entry.row (mix (ltF cmp) bs J l0)), none⟩] : Heap) (AV.int .i64 ((bs * 2 : Nat) : Int))) ∧ LoopTo (codeQ Try.prog (X sEst_ann) (loopOf Try.f112 1)) (some [0, 1, 2, 6]) (some []) (mkF 63 [(0, (AV.osl 0 g 10 0 n)), (1, (AV.int .i64 ((n : Nat) : Int))), (2, (AV.func f xs)), (6, (AV.int .i64 ((bs * 2 : Nat) : Int)))]) ([⟨g, 10, (List.map Entry.row (mix (ltF cmp) bs J l0)), none⟩] : Heap) eX FX HX)) (((.exit 2 : Ex), (mkF 63 []), ([⟨g, 10, (List.map Entry.row l), none⟩] : Heap)) = (eX, FX, HX))) = _) ?_
  refine cond_split (fun h1 => ?_) (fun h1 => ?_)
  · have h1' := h1
    try simp at h1'
    refine And.intro (Yes.add (by omega) (by omega) (by omega)) ?_
    refine And.intro ((sEstm_loop cmp f xs hc hxs W bs n g l0 hn hnb hbs (by omega) J hJ J 0 0 (2 * bs) l (by omega) (by omega) (by omega) (by rw [hl]; simp only [mix]))) ?_
    refine And.intro (Yes.add (by omega) (by omega) (by omega)) ?_
    refine cond_split (fun h2 => ?_) (fun h2 => ?_)
    · have h2' := h2
      try simp at h2'
      refine And.intro ((sEm_at _ f xs (J * (2 * bs)) ((J * (2 * bs)) + bs) n n g (mix (ltF cmp) bs J l0) (by first | exact hc | exact hxs | exact W | omega | (rw [mix_len]; exact hn) | (simp; omega)) (by first | exact hc | exact hxs | exact W | omega | (rw [mix_len]; exact hn) | (simp; omega)) (by first | exact hc | exact hxs | exact W | omega | (rw [mix_len]; exact hn) | (simp; omega)) (by first | exact hc | exact hxs | exact W | omega | (rw [mix_len]; exact hn) | (simp; omega)) (by first | exact hc | exact hxs | exact W | omega | (rw [mix_len]; exact hn) | (simp; omega)) (by first | exact hc | exact hxs | exact W | omega | (rw [mix_len]; exact hn) | (simp; omega)) (by have := of_decide_eq_true h2; omega) (by omega) (hs7 (by have := of_decide_eq_true h2; omega)) (hs8 (by have := of_decide_eq_true h2; omega)) ([] : Heap)).pre ⟨AV.wk_refl_any _, AV.wk_refl_any _, AV.wk_refl_any _, AV.wk_refl_any _, AV.wk_refl_any _, trivial⟩) ?_
      refine And.intro (Yes.add (by omega) (by omega) (by omega)) ?_
      exact k1 h1 h2
    · have h2' := h2
      try simp at h2'
      refine And.intro (Yes.add (by omega) (by omega) (by omega)) ?_
      exact k2 h1 h2
  · have h1' := h1
    try simp at h1'
    exact k3 h1
theorem sEsto_loop (cmp : Entry → Entry → Int) (f : Nat) (xs : List AV) (hc : ∀ (x y : Entry) (H : Heap), ACalls Try.prog f ([AV.agg (Entry.row x), AV.agg (Entry.row y)] ++ xs) H (AV.int .i64 (cmp x y), H)) (hxs : AV.bdds 1 xs = true) (W : Weak (ltF cmp)) (n g : Nat) (l0 : List Entry) (hn : n = l0.length) (hnb : n < 524288) (r : Nat) : ∀ (bs : Nat) (l : List Entry), n - bs ≤ r → 0 < bs → bs < 1048576 → l = allB (ltF cmp) bs l0 →
    LoopTo (codeQ Try.prog (X sEst_ann) (loopOf Try.f112 1)) (some [0, 1, 2, 6]) (some []) (mkF 63 [(0, (AV.osl 0 g 10 0 n)), (1, (AV.int .i64 ((n : Nat) : Int))), (2, (AV.func f xs)), (6, (AV.int .i64 ((bs : Nat) : Int)))]) ([⟨g, 10, (List.map Entry.row l), none⟩] : Heap) (.exit 2) (mkF 63 []) ([⟨g, 10, (List.map Entry.row (sortG (ltF cmp) l0)), none⟩] : Heap) := by
  have key : ∀ bs, 0 < bs → (n / (2 * bs) * (2 * bs) ≤ n ∧ n < n / (2 * bs) * (2 * bs) + 2 * bs) := fun bs hbs => ⟨Nat.div_mul_le_self n (2 * bs), Nat.lt_div_mul_add (a := n) (b := 2 * bs) (by omega)⟩
  induction r with
  | zero =>
    intro bs l h1 hbs hbn hl
    obtain ⟨k1, k2⟩ := key bs hbs
    obtain ⟨q1, q2⟩ := mix_last W hbs (l := l0) (J := n / (2 * bs)) rfl hn k1 k2
    refine sEsto_step cmp f xs bs (n / (2 * bs)) n g l l0 hc hxs W hn hnb hbs hbn hl rfl k1 (fun h => (q1 h).2.1) (fun h => (q1 h).2.2) (fun h => by simp at h; omega) (fun h => by simp at h; omega) (fun _ => ?_)
    rw [hl, allB_one (ltF cmp) (by omega) hbs]
  | succ r ih =>
    intro bs l h1 hbs hbn hl
    obtain ⟨k1, k2⟩ := key bs hbs
    obtain ⟨q1, q2⟩ := mix_last W hbs (l := l0) (J := n / (2 * bs)) rfl hn k1 k2
    refine sEsto_step cmp f xs bs (n / (2 * bs)) n g l l0 hc hxs W hn hnb hbs hbn hl rfl k1 (fun h => (q1 h).2.1) (fun h => (q1 h).2.2) (fun h h2 => ?_) (fun h h2 => ?_) (fun h => ?_)
    · rw [(q1 (by have := of_decide_eq_true h2; omega)).1]
      exact ih (bs * 2) _ (by simp at h; omega) (by omega) (by simp at h; omega) (by rw [Nat.mul_comm])
    · rw [q2 (by have := of_decide_eq_false h2; omega)]
      exact ih (bs * 2) _ (by simp at h; omega) (by omega) (by simp at h; omega) (by rw [Nat.mul_comm])
    · rw [hl, allB_one (ltF cmp) (by simp at h; omega) hbs]
set_option maxRecDepth 100000 in
theorem sEst_spec (cmp : Entry → Entry → Int) (f : Nat) (xs : List AV) (n g : Nat) (l : List Entry) (hc : ∀ (x y : Entry) (H : Heap), ACalls Try.prog f ([AV.agg (Entry.row x), AV.agg (Entry.row y)] ++ xs) H (AV.int .i64 (cmp x y), H)) (hxs : AV.bdds 1 xs = true) (W : Weak (ltF cmp)) (hn : n = l.length) (hb : n < 524288) : ACalls Try.prog 112 [(AV.osl 0 g 10 0 n), (AV.int .i64 ((n : Nat) : Int)), (AV.func f xs)] ([⟨g, 10, (List.map Entry.row l), none⟩] : Heap) ((AV.tup []), ([⟨g, 10, (List.map Entry.row (insSort cmp 0 (n - 1) 1 l)), none⟩] : Heap)) := by
  have hq : (blk (ltF cmp) 20 (n / 20) l).length = n := by rw [blk_len]; exact hn.symm
  have ht := st_tail cmp (l := l) (j := n / 20) (a := n / 20 * 20) rfl hn (by omega) (by omega)
  have hfin : sortG (ltF cmp) l = insSort cmp 0 (n - 1) 1 l := by subst hn; exact (insSort_sortG cmp l).symm
  refine spec (fn := Try.f112) (ann := sEst_ann) (t := (.reg [] [] [] (.reg [] [] [] (.loop (.exit 0) (mkF 63 [(0, (AV.osl 0 g 10 0 n)), (1, (AV.int .i64 ((n : Nat) : Int))), (2, (AV.func f xs)), (6, (AV.int .i64 20)), (7, (AV.int .i64 (((n / 20 * 20) : Nat) : Int)))]) ([⟨g, 10, (List.map Entry.row (blk (ltF cmp) 20 (n / 20) l)), none⟩] : Heap) (.reg [(4, ((AV.tup []), ([⟨g, 10, (List.map Entry.row (insSort cmp (n / 20 * 20) (n - ((n / 20 * 20) + 1)) ((n / 20 * 20) + 1) (blk (ltF cmp) 20 (n / 20) l))), none⟩] : Heap)))] [] [] (.loop (.exit 2) (mkF 63 []) ([⟨g, 10, (List.map Entry.row (sortG (ltF cmp) l)), none⟩] : Heap) .nil)))))) (Nat.le_of_ble_eq_true (by kernel_rfl)) ⟨Try.func112, by kernel_rfl, by kernel_rfl, by kernel_rfl⟩ ?_
  refine Eq.mp (by kernel_rfl : ((LoopTo (codeQ Try.prog (X sEst_ann) (loopOf Try.f112 0)) (some [0, 1, 2, 6, 7, 8]) (some [0, 1, 2, 6, 7]) (mkF 63 [(0, (AV.osl 0 g 10 0 n)), (1, (AV.int .i64 ((n : Nat) : Int))), (2, (AV.func f xs)), (6, (AV.int .i64 20)), (7, (AV.int .i64 0)), (8, (AV.int .i64 20))]) ([⟨g, 10, (List.map Entry.row l), none⟩] : Heap) (.exit 0) (mkF 63 [(0, (AV.osl 0 g 10 0 n)), (1, (AV.int .i64 ((n : Nat) : Int))), (2, (AV.func f xs)), (6, (AV.int .i64 20)), (7, (AV.int .i64 (((n / 20 * 20) : Nat) : Int)))]) ([⟨g, 10, (List.map Entry.row (blk (ltF cmp) 20 (n / 20) l)), none⟩] : Heap)) ∧ (ACalls Try.prog 132 [(AV.osl 0 g 10 0 n), (AV.int .i64 (((n / 20 * 20) : Nat) : Int)), (AV.int .i64 ((n : Nat) : Int)), (AV.func f xs)] ([⟨g, 10, (List.map Entry.row (blk (ltF cmp) 20 (n / 20) l)), none⟩] : Heap) ((AV.tup []), ([⟨g, 10, (List.map Entry.row (insSort cmp (n / 20 * 20) (n - ((n / 20 * 20) + 1)) ((n / 20 * 20) + 1) (blk (ltF cmp) 20 (n / 20) l))), none⟩] : Heap))) ∧ (LoopTo (codeQ Try.prog (X sEst_ann) (loopOf Try.f112 1)) (some [0, 1, 2, 6]) (some []) (mkF 63 [(0, (AV.osl 0 g 10 0 n)), (1, (AV.int .i64 ((n : Nat) : Int))), (2, (AV.func f xs)), (6, (AV.int .i64 20))]) ([⟨g, 10, (List.map Entry.row (insSort cmp (n / 20 * 20) (n - ((n / 20 * 20) + 1)) ((n / 20 * 20) + 1) (blk (ltF cmp) 20 (n / 20) l))), none⟩] : Heap) (.exit 2) (mkF 63 []) ([⟨g, 10, (List.map Entry.row (sortG (ltF cmp) l)), none⟩] : Heap)) ∧ (AV.bdd 1 (AV.tup []) = true ∧ obsB 1 ([⟨g, 10, (List.map Entry.row (sortG (ltF cmp) l)), none⟩] : Heap) = true) ∧ ((AV.tup []), ([⟨g, 10, (List.map Entry.row (sortG (ltF cmp) l)), none⟩] : Heap)) = ((AV.tup []), ([⟨g, 10, (List.map Entry.row (insSort cmp 0 (n - 1) 1 l)), none⟩] : Heap))) = _) ?_
  refine And.intro ((sEstb_loop cmp f xs hc hxs W n g l hn hb (n / 20) 0 0 20 l (by omega) rfl (by omega) (by simp only [blk]))) ?_
  refine And.intro (insE_at _ f xs (n / 20 * 20) n n g (blk (ltF cmp) 20 (n / 20) l) (by first | exact hc | exact hxs | omega | (rw [blk_len]; omega) | (simp; omega)) (by first | exact hc | exact hxs | omega | (rw [blk_len]; omega) | (simp; omega)) (by first | exact hc | exact hxs | omega | (rw [blk_len]; omega) | (simp; omega)) (by first | exact hc | exact hxs | omega | (rw [blk_len]; omega) | (simp; omega)) (by first | exact hc | exact hxs | omega | (rw [blk_len]; omega) | (simp; omega)) (by first | exact hc | exact hxs | omega | (rw [blk_len]; omega) | (simp; omega)) ([] : Heap)) ?_
  refine And.intro ((sEsto_loop cmp f xs hc hxs W n g l hn hb n 20 (insSort cmp (n / 20 * 20) (n - ((n / 20 * 20) + 1)) ((n / 20 * 20) + 1) (blk (ltF cmp) 20 (n / 20) l)) (by omega) (by omega) (by omega) ht)) ?_
  refine And.intro (by first | (simp [obsB, AV.bddss, AV.bdds, AV.bdd]; done) | (simp [obsB, AV.bddss, AV.bdds, AV.bdd, -List.map_append]; done) | simp [obsB, AV.bddss, AV.bdds, AV.bdd, -List.map_append, -List.map_set, -List.map_take, -List.map_drop, -List.map_cons, -List.map_map]) ?_
  rw [hfin]
theorem sEst_at (cmp : Entry → Entry → Int) (f : Nat) (xs : List AV) (n g : Nat) (l : List Entry) (hc : ∀ (x y : Entry) (H : Heap), ACalls Try.prog f ([AV.agg (Entry.row x), AV.agg (Entry.row y)] ++ xs) H (AV.int .i64 (cmp x y), H)) (hxs : AV.bdds 1 xs = true) (W : Weak (ltF cmp)) (hn : n = l.length) (hb : n < 524288) (H : Heap) : ACalls Try.prog 112 [(AV.osl 0 g 10 0 n), (AV.int .i64 ((n : Nat) : Int)), (AV.func f xs)] (([⟨g, 10, (List.map Entry.row l), none⟩] : Heap) ++ H) ((AV.tup []), ([⟨g, 10, (List.map Entry.row (insSort cmp 0 (n - 1) 1 l)), none⟩] : Heap) ++ H) := (sEst_spec cmp f xs n g l hc hxs W hn hb).ext (by simp [AV.bdds, AV.bdd, *]) (by kernel_rfl) (by first | (simp [obsB, AV.bddss, AV.bdds, AV.bdd]; done) | (simp [obsB, AV.bddss, AV.bdds, AV.bdd, -List.map_append]; done) | simp [obsB, AV.bddss, AV.bdds, AV.bdd, -List.map_append, -List.map_set, -List.map_take, -List.map_drop, -List.map_cons, -List.map_map]) (by first | (simp [obsB, AV.bddss, AV.bdds, AV.bdd]; done) | (simp [obsB, AV.bddss, AV.bdds, AV.bdd, -List.map_append]; done) | simp [obsB, AV.bddss, AV.bdds, AV.bdd, -List.map_append, -List.map_set, -List.map_take, -List.map_drop, -List.map_cons, -List.map_map]) (by kernel_rfl) H
def sortEW_ann : Ann := { base := 1, fin := some 1 }
set_option maxRecDepth 100000 in
theorem sortEW_spec (cmp : Entry → Entry → Int) (f : Nat) (xs : List AV) (n g : Nat) (l : List Entry) (hc : ∀ (x y : Entry) (H : Heap), ACalls Try.prog f ([AV.agg (Entry.row x), AV.agg (Entry.row y)] ++ xs) H (AV.int .i64 (cmp x y), H)) (hxs : AV.bdds 1 xs = true) (W : Weak (ltF cmp)) (hn : n = l.length) (hb : n < 524288) : ACalls Try.prog 75 [(AV.osl 0 g 10 0 n), (AV.func f xs)] ([⟨g, 10, (List.map Entry.row l), none⟩] : Heap) ((AV.tup []), ([⟨g, 10, (List.map Entry.row (insSort cmp 0 (n - 1) 1 l)), none⟩] : Heap)) := by
  refine spec (fn := Try.f75) (ann := sortEW_ann) (t := (.reg [(4, ((AV.tup []), ([⟨g, 10, (List.map Entry.row (insSort cmp 0 (n - 1) 1 l)), none⟩] : Heap)))] [] [] .nil)) (Nat.le_of_ble_eq_true (by kernel_rfl)) ⟨Try.func75, by kernel_rfl, by kernel_rfl, by kernel_rfl⟩ ?_
  refine Eq.mp (by kernel_rfl : ((ACalls Try.prog 112 [(AV.osl 0 g 10 0 n), (AV.int .i64 ((n : Nat) : Int)), (AV.func f xs)] ([⟨g, 10, (List.map Entry.row l), none⟩] : Heap) ((AV.tup []), ([⟨g, 10, (List.map Entry.row (insSort cmp 0 (n - 1) 1 l)), none⟩] : Heap))) ∧ (AV.bdd 1 (AV.tup []) = true ∧ obsB 1 ([⟨g, 10, (List.map Entry.row (insSort cmp 0 (n - 1) 1 l)), none⟩] : Heap) = true) ∧ ((AV.tup []), ([⟨g, 10, (List.map Entry.row (insSort cmp 0 (n - 1) 1 l)), none⟩] : Heap)) = ((AV.tup []), ([⟨g, 10, (List.map Entry.row (insSort cmp 0 (n - 1) 1 l)), none⟩] : Heap))) = _) ?_
  refine And.intro (sEst_at _ f xs n g l (by first | exact hc | exact hxs | exact W | omega) (by first | exact hc | exact hxs | exact W | omega) (by first | exact hc | exact hxs | exact W | omega) (by first | exact hc | exact hxs | exact W | omega) (by first | exact hc | exact hxs | exact W | omega) ([] : Heap)) ?_
  refine And.intro (by first | (simp [obsB, AV.bddss, AV.bdds, AV.bdd]; done) | (simp [obsB, AV.bddss, AV.bdds, AV.bdd, -List.map_append]; done) | simp [obsB, AV.bddss, AV.bdds, AV.bdd, -List.map_append, -List.map_set, -List.map_take, -List.map_drop, -List.map_cons, -List.map_map]) ?_
  rfl
theorem sortEW_at (cmp : Entry → Entry → Int) (f : Nat) (xs : List AV) (n g : Nat) (l : List Entry) (hc : ∀ (x y : Entry) (H : Heap), ACalls Try.prog f ([AV.agg (Entry.row x), AV.agg (Entry.row y)] ++ xs) H (AV.int .i64 (cmp x y), H)) (hxs : AV.bdds 1 xs = true) (W : Weak (ltF cmp)) (hn : n = l.length) (hb : n < 524288) (H : Heap) : ACalls Try.prog 75 [(AV.osl 0 g 10 0 n), (AV.func f xs)] (([⟨g, 10, (List.map Entry.row l), none⟩] : Heap) ++ H) ((AV.tup []), ([⟨g, 10, (List.map Entry.row (insSort cmp 0 (n - 1) 1 l)), none⟩] : Heap) ++ H) := (sortEW_spec cmp f xs n g l hc hxs W hn hb).ext (by simp [AV.bdds, AV.bdd, *]) (by kernel_rfl) (by first | (simp [obsB, AV.bddss, AV.bdds, AV.bdd]; done) | (simp [obsB, AV.bddss, AV.bdds, AV.bdd, -List.map_append]; done) | simp [obsB, AV.bddss, AV.bdds, AV.bdd, -List.map_append, -List.map_set, -List.map_take, -List.map_drop, -List.map_cons, -List.map_map]) (by first | (simp [obsB, AV.bddss, AV.bdds, AV.bdd]; done) | (simp [obsB, AV.bddss, AV.bdds, AV.bdd, -List.map_append]; done) | simp [obsB, AV.bddss, AV.bdds, AV.bdd, -List.map_append, -List.map_set, -List.map_take, -List.map_drop, -List.map_cons, -List.map_map]) (by kernel_rfl) H
end Go.Proofs.Ytpkgpldgoajphaa.AM
