/-
  leases, the tape.
-/
import Derived.Test.YtpkgpldgoajphaaSa
set_option maxRecDepth 100000
set_option linter.unusedVariables false
set_option linter.unusedSimpArgs false
namespace Go.Proofs.Ytpkgpldgoajphaa.AM
open Go Go.Proofs.Ytpkgpldgoajphaa
attribute [local irreducible] ACalls funT codeT codeQ LoopTo
structure Tp where
  l : List Int
  pos : Nat
  deriving Inhabited
def Tp.row (x : Tp) : List AV := [(AV.sl .any 1 (List.map rI64 x.l)), (AV.int .i64 ((x.pos : Nat) : Int))]
theorem Tp.row_bdd (n : Nat) (x : Tp) : AV.bdds n x.row = true := by simp [Tp.row, AV.bdds, AV.bdd]
theorem Tp.rows_bdd (n : Nat) (l : List Tp) : AV.bddss n (l.map Tp.row) = true := by induction l with | nil => rfl | cons x l ih => simp [AV.bddss, Tp.row_bdd, ih]
def held (n : Int) : Int := max 0 (min n 4611686018427387904)
theorem held_bd (n : Int) : 0 ≤ held n ∧ held n ≤ 4611686018427387904 := by unfold held; omega
def lateE (e : Entry) (now : Int) : Int := if e.card.gone = true then 0 else max 0 (held now - held e.seen - held e.card.lease)
def agoE (e : Entry) (now : Int) : Int := held now - held e.seen
def orderK (a b : Key) : Int := if lessK a b = true then -1 else if lessK b a = true then 1 else 0
/-- 0 to hi. -/
def wN (x : Int) (hi : Nat) : Nat := if 0 ≤ x ∧ x ≤ hi then x.toNat else if Int.tmod x (((hi + 1 : Nat) : Int)) < 0 then (Int.tmod x (((hi + 1 : Nat) : Int)) + hi + 1).toNat else (Int.tmod x (((hi + 1 : Nat) : Int))).toNat
theorem tmod_bd (x : Int) (n : Nat) (h : 0 < n) : -(n : Int) < Int.tmod x n ∧ Int.tmod x n < n := by
  have h1 := Int.tmod_lt_of_pos x (show (0 : Int) < n by omega)
  have h2 := Int.tmod_lt_of_pos (-x) (show (0 : Int) < n by omega)
  rw [Int.neg_tmod] at h2
  omega
def held_ann : Ann := { fin := some 0 }
set_option maxRecDepth 100000 in
theorem held_spec (n : Int)  : ACalls Try.prog 111 [(AV.int .i64 n)] ([] : Heap) ((AV.int .i64 (held n)), ([] : Heap)) := by
  refine spec (fn := Try.f111) (ann := held_ann) (t := (.reg [] [] [] (.reg [(1, ((AV.int .i64 (min n 4611686018427387904)), ([] : Heap))), (2, ((AV.int .i64 (max 0 (min n 4611686018427387904))), ([] : Heap)))] [] [] .nil))) (Nat.le_of_ble_eq_true (by kernel_rfl)) ⟨Try.func111, by kernel_rfl, by kernel_rfl, by kernel_rfl⟩ ?_
  refine Eq.mp (by kernel_rfl : ((Yes (.int .i64 (if 4611686018427387904 < n then 4611686018427387904 else n)) ([] : Heap) (AV.int .i64 (min n 4611686018427387904))) ∧ (Yes (.int .i64 (if (min n 4611686018427387904) > 0 then (min n 4611686018427387904) else 0)) ([] : Heap) (AV.int .i64 (max 0 (min n 4611686018427387904)))) ∧ (AV.bdd 0 (AV.int .i64 (max 0 (min n 4611686018427387904))) = true ∧ obsB 0 ([] : Heap) = true) ∧ ((AV.int .i64 (max 0 (min n 4611686018427387904))), ([] : Heap)) = ((AV.int .i64 (held n)), ([] : Heap))) = _) ?_
  refine And.intro (Yes.int (by split <;> omega)) ?_
  refine And.intro (Yes.int (by split <;> omega)) ?_
  refine And.intro (by first | (simp only [obsB, Key.rows_bdd, Key.row_bdd, Stamp.rows_bdd, Stamp.row_bdd, Card.rows_bdd, Card.row_bdd, Entry.rows_bdd, Entry.row_bdd, Tp.rows_bdd, Tp.row_bdd, rI64_bdd, rStr_bdd, rBool_bdd, rU8_bdd, Bool.and_self, Bool.and_true, AV.bdds, AV.bddss, AV.bdd, decide_true, and_self]; done) | simp [obsB, AV.bddss, AV.bdds, AV.bdd, Key.rows_bdd, Key.row_bdd, Stamp.rows_bdd, Stamp.row_bdd, Card.rows_bdd, Card.row_bdd, Entry.rows_bdd, Entry.row_bdd, Tp.rows_bdd, Tp.row_bdd, rI64_bdd, rStr_bdd, rBool_bdd, rU8_bdd]) ?_
  simp [held]
theorem held_at (n : Int)  (H : Heap) : ACalls Try.prog 111 [(AV.int .i64 n)] H ((AV.int .i64 (held n)), H) := (held_spec n ).lift (by kernel_rfl) (by kernel_rfl) H
def late_ann : Ann := { refs := [2], fin := some 0 }
set_option maxRecDepth 100000 in
theorem late_spec (e : Entry) (now : Int)  : ACalls Try.prog 74 [(AV.agg (Entry.row e)), (AV.int .i64 now)] ([] : Heap) ((AV.int .i64 (lateE e now)), ([] : Heap)) := by
  have h1 := held_bd now
  have h2 := held_bd e.seen
  have h3 := held_bd e.card.lease
  refine spec (fn := Try.f74) (ann := late_ann) (t := (.reg [] [] [] (.reg [] [] [] (.two (.reg [] [] [] .nil) (.reg [(1, ((AV.int .i64 (held now)), ([] : Heap))), (4, ((AV.int .i64 (held e.seen)), ([] : Heap))), (5, ((AV.int .i64 ((held now) - (held e.seen))), ([] : Heap))), (9, ((AV.int .i64 (held e.card.lease)), ([] : Heap))), (10, ((AV.int .i64 (((held now) - (held e.seen)) - (held e.card.lease))), ([] : Heap))), (11, ((AV.int .i64 (max 0 (((held now) - (held e.seen)) - (held e.card.lease)))), ([] : Heap)))] [] [] .nil))))) (Nat.le_of_ble_eq_true (by kernel_rfl)) ⟨Try.func74, by kernel_rfl, by kernel_rfl, by kernel_rfl⟩ ?_
  refine Eq.mp (by kernel_rfl : (cond e.card.gone ((AV.bdd 0 (AV.int .i64 0) = true ∧ obsB 0 ([] : Heap) = true) ∧ ((AV.int .i64 0), ([] : Heap)) = ((AV.int .i64 (lateE e now)), ([] : Heap))) ((ACalls Try.prog 111 [(AV.int .i64 now)] ([] : Heap) ((AV.int .i64 (held now)), ([] : Heap))) ∧ (ACalls Try.prog 111 [(AV.int .i64 e.seen)] ([] : Heap) ((AV.int .i64 (held e.seen)), ([] : Heap))) ∧ (Yes (.int .i64 (IntKind.i64.wrap ((held now) - (held e.seen)))) ([] : Heap) (AV.int .i64 ((held now) - (held e.seen)))) ∧ (ACalls Try.prog 111 [(AV.int .i64 e.card.lease)] ([] : Heap) ((AV.int .i64 (held e.card.lease)), ([] : Heap))) ∧ (Yes (.int .i64 (IntKind.i64.wrap (((held now) - (held e.seen)) - (held e.card.lease)))) ([] : Heap) (AV.int .i64 (((held now) - (held e.seen)) - (held e.card.lease)))) ∧ (Yes (.int .i64 (if (((held now) - (held e.seen)) - (held e.card.lease)) > 0 then (((held now) - (held e.seen)) - (held e.card.lease)) else 0)) ([] : Heap) (AV.int .i64 (max 0 (((held now) - (held e.seen)) - (held e.card.lease))))) ∧ (AV.bdd 0 (AV.int .i64 (max 0 (((held now) - (held e.seen)) - (held e.card.lease)))) = true ∧ obsB 0 ([] : Heap) = true) ∧ ((AV.int .i64 (max 0 (((held now) - (held e.seen)) - (held e.card.lease)))), ([] : Heap)) = ((AV.int .i64 (lateE e now)), ([] : Heap)))) = _) ?_
  refine cond_split (fun h1 => ?_) (fun h1 => ?_)
  · have h1' := h1
    try simp at h1'
    refine And.intro (by first | (simp only [obsB, Key.rows_bdd, Key.row_bdd, Stamp.rows_bdd, Stamp.row_bdd, Card.rows_bdd, Card.row_bdd, Entry.rows_bdd, Entry.row_bdd, Tp.rows_bdd, Tp.row_bdd, rI64_bdd, rStr_bdd, rBool_bdd, rU8_bdd, Bool.and_self, Bool.and_true, AV.bdds, AV.bddss, AV.bdd, decide_true, and_self]; done) | simp [obsB, AV.bddss, AV.bdds, AV.bdd, Key.rows_bdd, Key.row_bdd, Stamp.rows_bdd, Stamp.row_bdd, Card.rows_bdd, Card.row_bdd, Entry.rows_bdd, Entry.row_bdd, Tp.rows_bdd, Tp.row_bdd, rI64_bdd, rStr_bdd, rBool_bdd, rU8_bdd]) ?_
    simp_all [lateE]
  · have h1' := h1
    try simp at h1'
    refine And.intro (held_at now  ([] : Heap)) ?_
    refine And.intro (held_at e.seen  ([] : Heap)) ?_
    refine And.intro (Yes.add (by omega) (by omega) rfl) ?_
    refine And.intro (held_at e.card.lease  ([] : Heap)) ?_
    refine And.intro (Yes.add (by omega) (by omega) rfl) ?_
    refine And.intro (Yes.int (by split <;> omega)) ?_
    refine And.intro (by first | (simp only [obsB, Key.rows_bdd, Key.row_bdd, Stamp.rows_bdd, Stamp.row_bdd, Card.rows_bdd, Card.row_bdd, Entry.rows_bdd, Entry.row_bdd, Tp.rows_bdd, Tp.row_bdd, rI64_bdd, rStr_bdd, rBool_bdd, rU8_bdd, Bool.and_self, Bool.and_true, AV.bdds, AV.bddss, AV.bdd, decide_true, and_self]; done) | simp [obsB, AV.bddss, AV.bdds, AV.bdd, Key.rows_bdd, Key.row_bdd, Stamp.rows_bdd, Stamp.row_bdd, Card.rows_bdd, Card.row_bdd, Entry.rows_bdd, Entry.row_bdd, Tp.rows_bdd, Tp.row_bdd, rI64_bdd, rStr_bdd, rBool_bdd, rU8_bdd]) ?_
    simp_all [lateE]
theorem late_at (e : Entry) (now : Int)  (H : Heap) : ACalls Try.prog 74 [(AV.agg (Entry.row e)), (AV.int .i64 now)] H ((AV.int .i64 (lateE e now)), H) := (late_spec e now ).lift (by kernel_rfl) (by kernel_rfl) H
def ago_ann : Ann := { refs := [2], fin := some 0 }
set_option maxRecDepth 100000 in
theorem ago_spec (e : Entry) (now : Int)  : ACalls Try.prog 81 [(AV.agg (Entry.row e)), (AV.int .i64 now)] ([] : Heap) ((AV.int .i64 (agoE e now)), ([] : Heap)) := by
  have h1 := held_bd now
  have h2 := held_bd e.seen
  refine spec (fn := Try.f81) (ann := ago_ann) (t := (.reg [] [] [] (.reg [(1, ((AV.int .i64 (held now)), ([] : Heap))), (4, ((AV.int .i64 (held e.seen)), ([] : Heap))), (5, ((AV.int .i64 ((held now) - (held e.seen))), ([] : Heap)))] [] [] .nil))) (Nat.le_of_ble_eq_true (by kernel_rfl)) ⟨Try.func81, by kernel_rfl, by kernel_rfl, by kernel_rfl⟩ ?_
  refine Eq.mp (by kernel_rfl : ((ACalls Try.prog 111 [(AV.int .i64 now)] ([] : Heap) ((AV.int .i64 (held now)), ([] : Heap))) ∧ (ACalls Try.prog 111 [(AV.int .i64 e.seen)] ([] : Heap) ((AV.int .i64 (held e.seen)), ([] : Heap))) ∧ (Yes (.int .i64 (IntKind.i64.wrap ((held now) - (held e.seen)))) ([] : Heap) (AV.int .i64 ((held now) - (held e.seen)))) ∧ (AV.bdd 0 (AV.int .i64 ((held now) - (held e.seen))) = true ∧ obsB 0 ([] : Heap) = true) ∧ ((AV.int .i64 ((held now) - (held e.seen))), ([] : Heap)) = ((AV.int .i64 (agoE e now)), ([] : Heap))) = _) ?_
  refine And.intro (held_at now  ([] : Heap)) ?_
  refine And.intro (held_at e.seen  ([] : Heap)) ?_
  refine And.intro (Yes.add (by omega) (by omega) rfl) ?_
  refine And.intro (by first | (simp only [obsB, Key.rows_bdd, Key.row_bdd, Stamp.rows_bdd, Stamp.row_bdd, Card.rows_bdd, Card.row_bdd, Entry.rows_bdd, Entry.row_bdd, Tp.rows_bdd, Tp.row_bdd, rI64_bdd, rStr_bdd, rBool_bdd, rU8_bdd, Bool.and_self, Bool.and_true, AV.bdds, AV.bddss, AV.bdd, decide_true, and_self]; done) | simp [obsB, AV.bddss, AV.bdds, AV.bdd, Key.rows_bdd, Key.row_bdd, Stamp.rows_bdd, Stamp.row_bdd, Card.rows_bdd, Card.row_bdd, Entry.rows_bdd, Entry.row_bdd, Tp.rows_bdd, Tp.row_bdd, rI64_bdd, rStr_bdd, rBool_bdd, rU8_bdd]) ?_
  simp_all [agoE]
theorem ago_at (e : Entry) (now : Int)  (H : Heap) : ACalls Try.prog 81 [(AV.agg (Entry.row e)), (AV.int .i64 now)] H ((AV.int .i64 (agoE e now)), H) := (ago_spec e now ).lift (by kernel_rfl) (by kernel_rfl) H
def order_ann : Ann := { refs := [2, 3], fin := some 0 }
set_option maxRecDepth 100000 in
theorem order_spec (a b : Key)  : ACalls Try.prog 79 [(AV.agg (Key.row a)), (AV.agg (Key.row b))] ([] : Heap) ((AV.int .i64 (orderK a b)), ([] : Heap)) := by
  refine spec (fn := Try.f79) (ann := order_ann) (t := (.reg [] [] [] (.reg [(2, ((AV.bool (lessK a b)), ([] : Heap)))] [] [] (.two (.reg [] [] [] .nil) (.reg [(2, ((AV.bool (lessK b a)), ([] : Heap)))] [] [] (.two (.reg [] [] [] .nil) (.reg [] [] [] .nil))))))) (Nat.le_of_ble_eq_true (by kernel_rfl)) ⟨Try.func79, by kernel_rfl, by kernel_rfl, by kernel_rfl⟩ ?_
  refine Eq.mp (by kernel_rfl : ((ACalls Try.prog 101 [(AV.agg (Key.row a)), (AV.agg (Key.row b))] ([] : Heap) ((AV.bool (lessK a b)), ([] : Heap))) ∧ cond (lessK a b) ((AV.bdd 0 (AV.int .i64 (-1)) = true ∧ obsB 0 ([] : Heap) = true) ∧ ((AV.int .i64 (-1)), ([] : Heap)) = ((AV.int .i64 (orderK a b)), ([] : Heap))) ((ACalls Try.prog 101 [(AV.agg (Key.row b)), (AV.agg (Key.row a))] ([] : Heap) ((AV.bool (lessK b a)), ([] : Heap))) ∧ cond (lessK b a) ((AV.bdd 0 (AV.int .i64 1) = true ∧ obsB 0 ([] : Heap) = true) ∧ ((AV.int .i64 1), ([] : Heap)) = ((AV.int .i64 (orderK a b)), ([] : Heap))) ((AV.bdd 0 (AV.int .i64 0) = true ∧ obsB 0 ([] : Heap) = true) ∧ ((AV.int .i64 0), ([] : Heap)) = ((AV.int .i64 (orderK a b)), ([] : Heap))))) = _) ?_
  refine And.intro (keyLess_at a b  ([] : Heap)) ?_
  refine cond_split (fun h1 => ?_) (fun h1 => ?_)
  · have h1' := h1
    try simp at h1'
    refine And.intro (by first | (simp only [obsB, Key.rows_bdd, Key.row_bdd, Stamp.rows_bdd, Stamp.row_bdd, Card.rows_bdd, Card.row_bdd, Entry.rows_bdd, Entry.row_bdd, Tp.rows_bdd, Tp.row_bdd, rI64_bdd, rStr_bdd, rBool_bdd, rU8_bdd, Bool.and_self, Bool.and_true, AV.bdds, AV.bddss, AV.bdd, decide_true, and_self]; done) | simp [obsB, AV.bddss, AV.bdds, AV.bdd, Key.rows_bdd, Key.row_bdd, Stamp.rows_bdd, Stamp.row_bdd, Card.rows_bdd, Card.row_bdd, Entry.rows_bdd, Entry.row_bdd, Tp.rows_bdd, Tp.row_bdd, rI64_bdd, rStr_bdd, rBool_bdd, rU8_bdd]) ?_
    simp_all [orderK]
  · have h1' := h1
    try simp at h1'
    refine And.intro (keyLess_at b a  ([] : Heap)) ?_
    refine cond_split (fun h2 => ?_) (fun h2 => ?_)
    · have h2' := h2
      try simp at h2'
      refine And.intro (by first | (simp only [obsB, Key.rows_bdd, Key.row_bdd, Stamp.rows_bdd, Stamp.row_bdd, Card.rows_bdd, Card.row_bdd, Entry.rows_bdd, Entry.row_bdd, Tp.rows_bdd, Tp.row_bdd, rI64_bdd, rStr_bdd, rBool_bdd, rU8_bdd, Bool.and_self, Bool.and_true, AV.bdds, AV.bddss, AV.bdd, decide_true, and_self]; done) | simp [obsB, AV.bddss, AV.bdds, AV.bdd, Key.rows_bdd, Key.row_bdd, Stamp.rows_bdd, Stamp.row_bdd, Card.rows_bdd, Card.row_bdd, Entry.rows_bdd, Entry.row_bdd, Tp.rows_bdd, Tp.row_bdd, rI64_bdd, rStr_bdd, rBool_bdd, rU8_bdd]) ?_
      simp_all [orderK]
    · have h2' := h2
      try simp at h2'
      refine And.intro (by first | (simp only [obsB, Key.rows_bdd, Key.row_bdd, Stamp.rows_bdd, Stamp.row_bdd, Card.rows_bdd, Card.row_bdd, Entry.rows_bdd, Entry.row_bdd, Tp.rows_bdd, Tp.row_bdd, rI64_bdd, rStr_bdd, rBool_bdd, rU8_bdd, Bool.and_self, Bool.and_true, AV.bdds, AV.bddss, AV.bdd, decide_true, and_self]; done) | simp [obsB, AV.bddss, AV.bdds, AV.bdd, Key.rows_bdd, Key.row_bdd, Stamp.rows_bdd, Stamp.row_bdd, Card.rows_bdd, Card.row_bdd, Entry.rows_bdd, Entry.row_bdd, Tp.rows_bdd, Tp.row_bdd, rI64_bdd, rStr_bdd, rBool_bdd, rU8_bdd]) ?_
      simp_all [orderK]
theorem order_at (a b : Key)  (H : Heap) : ACalls Try.prog 79 [(AV.agg (Key.row a)), (AV.agg (Key.row b))] H ((AV.int .i64 (orderK a b)), H) := (order_spec a b ).lift (by kernel_rfl) (by kernel_rfl) H
def within_ann : Ann := { fin := some 0 }
set_option maxRecDepth 100000 in
theorem within_spec (x : Int) (hi : Nat) (hh : hi < 1099511627776) : ACalls Try.prog 34 [(AV.int .i64 x), (AV.int .i64 0), (AV.int .i64 ((hi : Nat) : Int))] ([] : Heap) ((AV.int .i64 ((wN x hi : Nat) : Int)), ([] : Heap)) := by
  have hb := tmod_bd x (hi + 1) (by omega)
  refine spec (fn := Try.f34) (ann := within_ann) (t := (.reg [] [] [] (.reg [] [] [] (.two (.two (.two (.two (.reg [] [] [] .nil) (.reg [(3, ((AV.int .i64 ((hi : Nat) : Int)), ([] : Heap))), (4, ((AV.int .i64 ((hi + 1 : Nat) : Int)), ([] : Heap))), (5, ((AV.int .i64 (Int.tmod x ((hi + 1 : Nat) : Int))), ([] : Heap)))] [] [] (.reg [] [] [] (.two (.reg [(2, ((AV.int .i64 ((Int.tmod x ((hi + 1 : Nat) : Int)) + ((hi : Nat) : Int))), ([] : Heap))), (4, ((AV.int .i64 (((Int.tmod x ((hi + 1 : Nat) : Int)) + ((hi : Nat) : Int)) - 0)), ([] : Heap))), (5, ((AV.int .i64 ((((Int.tmod x ((hi + 1 : Nat) : Int)) + ((hi : Nat) : Int)) - 0) + 1)), ([] : Heap)))] [] [] (.reg [(2, ((AV.int .i64 (0 + ((((Int.tmod x ((hi + 1 : Nat) : Int)) + ((hi : Nat) : Int)) - 0) + 1))), ([] : Heap)))] [] [] .nil)) (.reg [(2, ((AV.int .i64 (0 + (Int.tmod x ((hi + 1 : Nat) : Int)))), ([] : Heap)))] [] [] .nil))))) .nil) .nil) (.two .nil (.two .nil (.two .nil (.reg [(3, ((AV.int .i64 ((hi : Nat) : Int)), ([] : Heap))), (4, ((AV.int .i64 ((hi + 1 : Nat) : Int)), ([] : Heap))), (5, ((AV.int .i64 (Int.tmod x ((hi + 1 : Nat) : Int))), ([] : Heap)))] [] [] (.reg [] [] [] (.two (.reg [(2, ((AV.int .i64 ((Int.tmod x ((hi + 1 : Nat) : Int)) + ((hi : Nat) : Int))), ([] : Heap))), (4, ((AV.int .i64 (((Int.tmod x ((hi + 1 : Nat) : Int)) + ((hi : Nat) : Int)) - 0)), ([] : Heap))), (5, ((AV.int .i64 ((((Int.tmod x ((hi + 1 : Nat) : Int)) + ((hi : Nat) : Int)) - 0) + 1)), ([] : Heap)))] [] [] (.reg [(2, ((AV.int .i64 (0 + ((((Int.tmod x ((hi + 1 : Nat) : Int)) + ((hi : Nat) : Int)) - 0) + 1))), ([] : Heap)))] [] [] .nil)) (.reg [(2, ((AV.int .i64 (0 + (Int.tmod x ((hi + 1 : Nat) : Int)))), ([] : Heap)))] [] [] .nil))))))))))) (Nat.le_of_ble_eq_true (by kernel_rfl)) ⟨Try.func34, by kernel_rfl, by kernel_rfl, by kernel_rfl⟩ ?_
  refine Eq.mp (by kernel_rfl : (cond (decide (x ≥ 0)) (cond (decide (x ≤ ((hi : Nat) : Int))) ((AV.bdd 0 (AV.int .i64 x) = true ∧ obsB 0 ([] : Heap) = true) ∧ ((AV.int .i64 x), ([] : Heap)) = ((AV.int .i64 ((wN x hi : Nat) : Int)), ([] : Heap))) ((Yes (.int .i64 (IntKind.i64.wrap (((hi : Nat) : Int) - 0))) ([] : Heap) (AV.int .i64 ((hi : Nat) : Int))) ∧ (Yes (.int .i64 (IntKind.i64.wrap (((hi : Nat) : Int) + 1))) ([] : Heap) (AV.int .i64 ((hi + 1 : Nat) : Int))) ∧ (Option.map (fun a => (a, ([] : Heap))) (if (((hi + 1 : Nat) : Int) : Int) = 0 then none else some (AV.int .i64 (Int.tmod x ((hi + 1 : Nat) : Int)))) = some ((AV.int .i64 (Int.tmod x ((hi + 1 : Nat) : Int))), ([] : Heap))) ∧ cond (decide ((Int.tmod x ((hi + 1 : Nat) : Int)) < 0)) ((Yes (.int .i64 (IntKind.i64.wrap ((Int.tmod x ((hi + 1 : Nat) : Int)) + ((hi : Nat) : Int)))) ([] : Heap) (AV.int .i64 ((Int.tmod x ((hi + 1 : Nat) : Int)) + ((hi : Nat) : Int)))) ∧ (Yes (.int .i64 (IntKind.i64.wrap (((Int.tmod x ((hi + 1 : Nat) : Int)) + ((hi : Nat) : Int)) - 0))) ([] : Heap) (AV.int .i64 (((Int.tmod x ((hi + 1 : Nat) : Int)) + ((hi : Nat) : Int)) - 0))) ∧ (Yes (.int .i64 (IntKind.i64.wrap ((((Int.tmod x ((hi + 1 : Nat) : Int)) + ((hi : Nat) : Int)) - 0) + 1))) ([] : Heap) (AV.int .i64 ((((Int.tmod x ((hi + 1 : Nat) : Int)) + ((hi : Nat) : Int)) - 0) + 1))) ∧ (Yes (.int .i64 (IntKind.i64.wrap (0 + ((((Int.tmod x ((hi + 1 : Nat) : Int)) + ((hi : Nat) : Int)) - 0) + 1)))) ([] : Heap) (AV.int .i64 (0 + ((((Int.tmod x ((hi + 1 : Nat) : Int)) + ((hi : Nat) : Int)) - 0) + 1)))) ∧ (AV.bdd 0 (AV.int .i64 (0 + ((((Int.tmod x ((hi + 1 : Nat) : Int)) + ((hi : Nat) : Int)) - 0) + 1))) = true ∧ obsB 0 ([] : Heap) = true) ∧ ((AV.int .i64 (0 + ((((Int.tmod x ((hi + 1 : Nat) : Int)) + ((hi : Nat) : Int)) - 0) + 1))), ([] : Heap)) = ((AV.int .i64 ((wN x hi : Nat) : Int)), ([] : Heap))) ((Yes (.int .i64 (IntKind.i64.wrap (0 + (Int.tmod x ((hi + 1 : Nat) : Int))))) ([] : Heap) (AV.int .i64 (0 + (Int.tmod x ((hi + 1 : Nat) : Int))))) ∧ (AV.bdd 0 (AV.int .i64 (0 + (Int.tmod x ((hi + 1 : Nat) : Int)))) = true ∧ obsB 0 ([] : Heap) = true) ∧ ((AV.int .i64 (0 + (Int.tmod x ((hi + 1 : Nat) : Int)))), ([] : Heap)) = ((AV.int .i64 ((wN x hi : Nat) : Int)), ([] : Heap))))) ((Yes (.int .i64 (IntKind.i64.wrap (((hi : Nat) : Int) - 0))) ([] : Heap) (AV.int .i64 ((hi : Nat) : Int))) ∧ (Yes (.int .i64 (IntKind.i64.wrap (((hi : Nat) : Int) + 1))) ([] : Heap) (AV.int .i64 ((hi + 1 : Nat) : Int))) ∧ (Option.map (fun a => (a, ([] : Heap))) (if (((hi + 1 : Nat) : Int) : Int) = 0 then none else some (AV.int .i64 (Int.tmod x ((hi + 1 : Nat) : Int)))) = some ((AV.int .i64 (Int.tmod x ((hi + 1 : Nat) : Int))), ([] : Heap))) ∧ cond (decide ((Int.tmod x ((hi + 1 : Nat) : Int)) < 0)) ((Yes (.int .i64 (IntKind.i64.wrap ((Int.tmod x ((hi + 1 : Nat) : Int)) + ((hi : Nat) : Int)))) ([] : Heap) (AV.int .i64 ((Int.tmod x ((hi + 1 : Nat) : Int)) + ((hi : Nat) : Int)))) ∧ (Yes (.int .i64 (IntKind.i64.wrap (((Int.tmod x ((hi + 1 : Nat) : Int)) + ((hi : Nat) : Int)) - 0))) ([] : Heap) (AV.int .i64 (((Int.tmod x ((hi + 1 : Nat) : Int)) + ((hi : Nat) : Int)) - 0))) ∧ (Yes (.int .i64 (IntKind.i64.wrap ((((Int.tmod x ((hi + 1 : Nat) : Int)) + ((hi : Nat) : Int)) - 0) + 1))) ([] : Heap) (AV.int .i64 ((((Int.tmod x ((hi + 1 : Nat) : Int)) + ((hi : Nat) : Int)) - 0) + 1))) ∧ (Yes (.int .i64 (IntKind.i64.wrap (0 + ((((Int.tmod x ((hi + 1 : Nat) : Int)) + ((hi : Nat) : Int)) - 0) + 1)))) ([] : Heap) (AV.int .i64 (0 + ((((Int.tmod x ((hi + 1 : Nat) : Int)) + ((hi : Nat) : Int)) - 0) + 1)))) ∧ (AV.bdd 0 (AV.int .i64 (0 + ((((Int.tmod x ((hi + 1 : Nat) : Int)) + ((hi : Nat) : Int)) - 0) + 1))) = true ∧ obsB 0 ([] : Heap) = true) ∧ ((AV.int .i64 (0 + ((((Int.tmod x ((hi + 1 : Nat) : Int)) + ((hi : Nat) : Int)) - 0) + 1))), ([] : Heap)) = ((AV.int .i64 ((wN x hi : Nat) : Int)), ([] : Heap))) ((Yes (.int .i64 (IntKind.i64.wrap (0 + (Int.tmod x ((hi + 1 : Nat) : Int))))) ([] : Heap) (AV.int .i64 (0 + (Int.tmod x ((hi + 1 : Nat) : Int))))) ∧ (AV.bdd 0 (AV.int .i64 (0 + (Int.tmod x ((hi + 1 : Nat) : Int)))) = true ∧ obsB 0 ([] : Heap) = true) ∧ ((AV.int .i64 (0 + (Int.tmod x ((hi + 1 : Nat) : Int)))), ([] : Heap)) = ((AV.int .i64 ((wN x hi : Nat) : Int)), ([] : Heap))))) = _) ?_
  refine cond_split (fun h1 => ?_) (fun h1 => ?_)
  · have h1' := h1
    try simp at h1'
    refine cond_split (fun h2 => ?_) (fun h2 => ?_)
    · have h2' := h2
      try simp at h2'
      refine And.intro (by first | (simp only [obsB, Key.rows_bdd, Key.row_bdd, Stamp.rows_bdd, Stamp.row_bdd, Card.rows_bdd, Card.row_bdd, Entry.rows_bdd, Entry.row_bdd, Tp.rows_bdd, Tp.row_bdd, rI64_bdd, rStr_bdd, rBool_bdd, rU8_bdd, Bool.and_self, Bool.and_true, AV.bdds, AV.bddss, AV.bdd, decide_true, and_self]; done) | simp [obsB, AV.bddss, AV.bdds, AV.bdd, Key.rows_bdd, Key.row_bdd, Stamp.rows_bdd, Stamp.row_bdd, Card.rows_bdd, Card.row_bdd, Entry.rows_bdd, Entry.row_bdd, Tp.rows_bdd, Tp.row_bdd, rI64_bdd, rStr_bdd, rBool_bdd, rU8_bdd]) ?_
      simp_all [wN]
      all_goals first | done | omega | (split <;> omega) | (split <;> first | omega | (split <;> omega))
    · have h2' := h2
      try simp at h2'
      refine And.intro (Yes.add (by omega) (by omega) (by omega)) ?_
      refine And.intro (Yes.add (by omega) (by omega) (by omega)) ?_
      refine And.intro (quo_some (by omega) rfl) ?_
      refine cond_split (fun h3 => ?_) (fun h3 => ?_)
      · have h3' := h3
        try simp at h3'
        refine And.intro (Yes.add (by omega) (by omega) rfl) ?_
        refine And.intro (Yes.add (by omega) (by omega) rfl) ?_
        refine And.intro (Yes.add (by omega) (by omega) rfl) ?_
        refine And.intro (Yes.add (by omega) (by omega) rfl) ?_
        refine And.intro (by first | (simp only [obsB, Key.rows_bdd, Key.row_bdd, Stamp.rows_bdd, Stamp.row_bdd, Card.rows_bdd, Card.row_bdd, Entry.rows_bdd, Entry.row_bdd, Tp.rows_bdd, Tp.row_bdd, rI64_bdd, rStr_bdd, rBool_bdd, rU8_bdd, Bool.and_self, Bool.and_true, AV.bdds, AV.bddss, AV.bdd, decide_true, and_self]; done) | simp [obsB, AV.bddss, AV.bdds, AV.bdd, Key.rows_bdd, Key.row_bdd, Stamp.rows_bdd, Stamp.row_bdd, Card.rows_bdd, Card.row_bdd, Entry.rows_bdd, Entry.row_bdd, Tp.rows_bdd, Tp.row_bdd, rI64_bdd, rStr_bdd, rBool_bdd, rU8_bdd]) ?_
        simp_all [wN]
        all_goals first | done | omega | (split <;> omega) | (split <;> first | omega | (split <;> omega))
      · have h3' := h3
        try simp at h3'
        refine And.intro (Yes.add (by omega) (by omega) rfl) ?_
        refine And.intro (by first | (simp only [obsB, Key.rows_bdd, Key.row_bdd, Stamp.rows_bdd, Stamp.row_bdd, Card.rows_bdd, Card.row_bdd, Entry.rows_bdd, Entry.row_bdd, Tp.rows_bdd, Tp.row_bdd, rI64_bdd, rStr_bdd, rBool_bdd, rU8_bdd, Bool.and_self, Bool.and_true, AV.bdds, AV.bddss, AV.bdd, decide_true, and_self]; done) | simp [obsB, AV.bddss, AV.bdds, AV.bdd, Key.rows_bdd, Key.row_bdd, Stamp.rows_bdd, Stamp.row_bdd, Card.rows_bdd, Card.row_bdd, Entry.rows_bdd, Entry.row_bdd, Tp.rows_bdd, Tp.row_bdd, rI64_bdd, rStr_bdd, rBool_bdd, rU8_bdd]) ?_
        simp_all [wN]
        all_goals first | done | omega | (split <;> omega) | (split <;> first | omega | (split <;> omega))
  · have h1' := h1
    try simp at h1'
    refine And.intro (Yes.add (by omega) (by omega) (by omega)) ?_
    refine And.intro (Yes.add (by omega) (by omega) (by omega)) ?_
    refine And.intro (quo_some (by omega) rfl) ?_
    refine cond_split (fun h2 => ?_) (fun h2 => ?_)
    · have h2' := h2
      try simp at h2'
      refine And.intro (Yes.add (by omega) (by omega) rfl) ?_
      refine And.intro (Yes.add (by omega) (by omega) rfl) ?_
      refine And.intro (Yes.add (by omega) (by omega) rfl) ?_
      refine And.intro (Yes.add (by omega) (by omega) rfl) ?_
      refine And.intro (by first | (simp only [obsB, Key.rows_bdd, Key.row_bdd, Stamp.rows_bdd, Stamp.row_bdd, Card.rows_bdd, Card.row_bdd, Entry.rows_bdd, Entry.row_bdd, Tp.rows_bdd, Tp.row_bdd, rI64_bdd, rStr_bdd, rBool_bdd, rU8_bdd, Bool.and_self, Bool.and_true, AV.bdds, AV.bddss, AV.bdd, decide_true, and_self]; done) | simp [obsB, AV.bddss, AV.bdds, AV.bdd, Key.rows_bdd, Key.row_bdd, Stamp.rows_bdd, Stamp.row_bdd, Card.rows_bdd, Card.row_bdd, Entry.rows_bdd, Entry.row_bdd, Tp.rows_bdd, Tp.row_bdd, rI64_bdd, rStr_bdd, rBool_bdd, rU8_bdd]) ?_
      simp_all [wN]
      all_goals first | done | omega | (split <;> omega) | (split <;> first | omega | (split <;> omega))
    · have h2' := h2
      try simp at h2'
      refine And.intro (Yes.add (by omega) (by omega) rfl) ?_
      refine And.intro (by first | (simp only [obsB, Key.rows_bdd, Key.row_bdd, Stamp.rows_bdd, Stamp.row_bdd, Card.rows_bdd, Card.row_bdd, Entry.rows_bdd, Entry.row_bdd, Tp.rows_bdd, Tp.row_bdd, rI64_bdd, rStr_bdd, rBool_bdd, rU8_bdd, Bool.and_self, Bool.and_true, AV.bdds, AV.bddss, AV.bdd, decide_true, and_self]; done) | simp [obsB, AV.bddss, AV.bdds, AV.bdd, Key.rows_bdd, Key.row_bdd, Stamp.rows_bdd, Stamp.row_bdd, Card.rows_bdd, Card.row_bdd, Entry.rows_bdd, Entry.row_bdd, Tp.rows_bdd, Tp.row_bdd, rI64_bdd, rStr_bdd, rBool_bdd, rU8_bdd]) ?_
      simp_all [wN]
      all_goals first | done | omega | (split <;> omega) | (split <;> first | omega | (split <;> omega))
theorem within_at (x : Int) (hi : Nat) (hh : hi < 1099511627776) (H : Heap) : ACalls Try.prog 34 [(AV.int .i64 x), (AV.int .i64 0), (AV.int .i64 ((hi : Nat) : Int))] H ((AV.int .i64 ((wN x hi : Nat) : Int)), H) := (within_spec x hi hh).lift (by kernel_rfl) (by kernel_rfl) H
def Tp.next (t : Tp) (n : Nat) : Nat := if t.l.length ≤ t.pos ∨ n < 1 then 0 else wN (nth t.l t.pos) 1073741824 % n
def Tp.step (t : Tp) (n : Nat) : Tp := if t.l.length ≤ t.pos ∨ n < 1 then t else ⟨t.l, t.pos + 1⟩
theorem Tp.next_lt (t : Tp) (n : Nat) (h : 0 < n) : t.next n < n := by
  unfold Tp.next
  split
  · omega
  · exact Nat.mod_lt _ h
def next_ann : Ann := { base := 1, fin := some 1 }
set_option maxRecDepth 100000 in
theorem next_spec (t : Tp) (n : Nat) (hl : t.l.length < 9223372036854775808) : ACalls Try.prog 21 [(AV.obj 0 0 0 0), (AV.int .i64 ((n : Nat) : Int))] ([⟨0, 2, [(Tp.row t)], none⟩] : Heap) ((AV.int .i64 ((t.next n : Nat) : Int)), ([⟨0, 2, [(Tp.row (t.step n))], none⟩] : Heap)) := by
  refine spec (fn := Try.f21) (ann := next_ann) (t := (.reg [] [] [] (.reg [(8, ((AV.int .i64 ((t.l.length : Nat) : Int)), ([⟨0, 2, [(Tp.row t)], none⟩] : Heap)))] [] [] (.two (.two (.two (.reg [] [] [] .nil) .nil) .nil) (.two .nil (.two (.reg [] [] [] .nil) (.reg [(4, ((AV.int .i64 ((t.pos + 1 : Nat) : Int)), ([⟨0, 2, [(Tp.row t)], none⟩] : Heap)))] [] [] (.reg [(8, ((AV.int .i64 ((t.pos + 1 - 1 : Nat) : Int)), ([⟨0, 2, [[(AV.sl .any 1 (List.map rI64 t.l)), (AV.int .i64 ((t.pos + 1 : Nat) : Int))]], none⟩] : Heap))), (9, ((AV.ref [(AV.int .i64 (nth t.l (t.pos + 1 - 1)))] 0), ([⟨0, 2, [[(AV.sl .any 1 (List.map rI64 t.l)), (AV.int .i64 ((t.pos + 1 : Nat) : Int))]], none⟩] : Heap))), (11, ((AV.int .i64 ((wN (nth t.l (t.pos + 1 - 1)) 1073741824 : Nat) : Int)), ([⟨0, 2, [[(AV.sl .any 1 (List.map rI64 t.l)), (AV.int .i64 ((t.pos + 1 : Nat) : Int))]], none⟩] : Heap))), (13, ((AV.int .i64 (((wN (nth t.l (t.pos + 1 - 1)) 1073741824) % n : Nat) : Int)), ([⟨0, 2, [[(AV.sl .any 1 (List.map rI64 t.l)), (AV.int .i64 ((t.pos + 1 : Nat) : Int))]], none⟩] : Heap)))] [] [] .nil)))))))) (Nat.le_of_ble_eq_true (by kernel_rfl)) ⟨Try.func21, by kernel_rfl, by kernel_rfl, by kernel_rfl⟩ ?_
  refine Eq.mp (by kernel_rfl : ((Yes (.int .i64 ((List.length (List.map rI64 t.l) : Nat) : Int)) ([⟨0, 2, [(Tp.row t)], none⟩] : Heap) (AV.int .i64 ((t.l.length : Nat) : Int))) ∧ cond (decide (((t.pos : Nat) : Int) ≥ ((t.l.length : Nat) : Int))) ((AV.bdd 1 (AV.int .i64 0) = true ∧ obsB 1 ([⟨0, 2, [(Tp.row t)], none⟩] : Heap) = true) ∧ ((AV.int .i64 0), ([⟨0, 2, [(Tp.row t)], none⟩] : Heap)) = ((AV.int .i64 ((t.next n : Nat) : Int)), ([⟨0, 2, [(Tp.row (t.step n))], none⟩] : Heap))) (cond (decide (((n : Nat) : Int) < 1)) ((AV.bdd 1 (AV.int .i64 0) = true ∧ obsB 1 ([⟨0, 2, [(Tp.row t)], none⟩] : Heap) = true) ∧ ((AV.int .i64 0), ([⟨0, 2, [(Tp.row t)], none⟩] : Heap)) = ((AV.int .i64 ((t.next n : Nat) : Int)), ([⟨0, 2, [(Tp.row (t.step n))], none⟩] : Heap))) ((Yes (.int .i64 (IntKind.i64.wrap (((t.pos : Nat) : Int) + 1))) ([⟨0, 2, [(Tp.row t)], none⟩] : Heap) (AV.int .i64 ((t.pos + 1 : Nat) : Int))) ∧ (Yes (.int .i64 (IntKind.i64.wrap (((t.pos + 1 : Nat) : Int) - 1))) ([⟨0, 2, [[(AV.sl .any 1 (List.map rI64 t.l)), (AV.int .i64 ((t.pos + 1 : Nat) : Int))]], none⟩] : Heap) (AV.int .i64 ((t.pos + 1 - 1 : Nat) : Int))) ∧ (IdxSl 1 1 (List.map rI64 t.l) ((t.pos + 1 - 1 : Nat) : Int) ([⟨0, 2, [[(AV.sl .any 1 (List.map rI64 t.l)), (AV.int .i64 ((t.pos + 1 : Nat) : Int))]], none⟩] : Heap) (rI64 (nth t.l (t.pos + 1 - 1)))) ∧ (ACalls Try.prog 34 [(AV.int .i64 (nth t.l (t.pos + 1 - 1))), (AV.int .i64 0), (AV.int .i64 1073741824)] ([⟨0, 2, [[(AV.sl .any 1 (List.map rI64 t.l)), (AV.int .i64 ((t.pos + 1 : Nat) : Int))]], none⟩] : Heap) ((AV.int .i64 ((wN (nth t.l (t.pos + 1 - 1)) 1073741824 : Nat) : Int)), ([⟨0, 2, [[(AV.sl .any 1 (List.map rI64 t.l)), (AV.int .i64 ((t.pos + 1 : Nat) : Int))]], none⟩] : Heap))) ∧ (Option.map (fun a => (a, ([⟨0, 2, [[(AV.sl .any 1 (List.map rI64 t.l)), (AV.int .i64 ((t.pos + 1 : Nat) : Int))]], none⟩] : Heap))) (if (((n : Nat) : Int) : Int) = 0 then none else some (AV.int .i64 (Int.tmod ((wN (nth t.l (t.pos + 1 - 1)) 1073741824 : Nat) : Int) ((n : Nat) : Int)))) = some ((AV.int .i64 (((wN (nth t.l (t.pos + 1 - 1)) 1073741824) % n : Nat) : Int)), ([⟨0, 2, [[(AV.sl .any 1 (List.map rI64 t.l)), (AV.int .i64 ((t.pos + 1 : Nat) : Int))]], none⟩] : Heap))) ∧ (AV.bdd 1 (AV.int .i64 (((wN (nth t.l (t.pos + 1 - 1)) 1073741824) % n : Nat) : Int)) = true ∧ obsB 1 ([⟨0, 2, [[(AV.sl .any 1 (List.map rI64 t.l)), (AV.int .i64 ((t.pos + 1 : Nat) : Int))]], none⟩] : Heap) = true) ∧ ((AV.int .i64 (((wN (nth t.l (t.pos + 1 - 1)) 1073741824) % n : Nat) : Int)), ([⟨0, 2, [[(AV.sl .any 1 (List.map rI64 t.l)), (AV.int .i64 ((t.pos + 1 : Nat) : Int))]], none⟩] : Heap)) = ((AV.int .i64 ((t.next n : Nat) : Int)), ([⟨0, 2, [(Tp.row (t.step n))], none⟩] : Heap))))) = _) ?_
  refine And.intro (Yes.len _ _ _) ?_
  refine cond_split (fun h1 => ?_) (fun h1 => ?_)
  · have h1' := h1
    try simp at h1'
    refine And.intro (by first | (simp only [obsB, Key.rows_bdd, Key.row_bdd, Stamp.rows_bdd, Stamp.row_bdd, Card.rows_bdd, Card.row_bdd, Entry.rows_bdd, Entry.row_bdd, Tp.rows_bdd, Tp.row_bdd, rI64_bdd, rStr_bdd, rBool_bdd, rU8_bdd, Bool.and_self, Bool.and_true, AV.bdds, AV.bddss, AV.bdd, decide_true, and_self]; done) | simp [obsB, AV.bddss, AV.bdds, AV.bdd, Key.rows_bdd, Key.row_bdd, Stamp.rows_bdd, Stamp.row_bdd, Card.rows_bdd, Card.row_bdd, Entry.rows_bdd, Entry.row_bdd, Tp.rows_bdd, Tp.row_bdd, rI64_bdd, rStr_bdd, rBool_bdd, rU8_bdd]) ?_
    simp only [Tp.next, Tp.step]
    first | rw [if_pos (by omega), if_pos (by omega)] | rw [if_neg (by omega), if_neg (by omega)]
    first | rfl | simp [Tp.row]
  · have h1' := h1
    try simp at h1'
    refine cond_split (fun h2 => ?_) (fun h2 => ?_)
    · have h2' := h2
      try simp at h2'
      refine And.intro (by first | (simp only [obsB, Key.rows_bdd, Key.row_bdd, Stamp.rows_bdd, Stamp.row_bdd, Card.rows_bdd, Card.row_bdd, Entry.rows_bdd, Entry.row_bdd, Tp.rows_bdd, Tp.row_bdd, rI64_bdd, rStr_bdd, rBool_bdd, rU8_bdd, Bool.and_self, Bool.and_true, AV.bdds, AV.bddss, AV.bdd, decide_true, and_self]; done) | simp [obsB, AV.bddss, AV.bdds, AV.bdd, Key.rows_bdd, Key.row_bdd, Stamp.rows_bdd, Stamp.row_bdd, Card.rows_bdd, Card.row_bdd, Entry.rows_bdd, Entry.row_bdd, Tp.rows_bdd, Tp.row_bdd, rI64_bdd, rStr_bdd, rBool_bdd, rU8_bdd]) ?_
      simp only [Tp.next, Tp.step]
      first | rw [if_pos (by omega), if_pos (by omega)] | rw [if_neg (by omega), if_neg (by omega)]
      first | rfl | simp [Tp.row]
    · have h2' := h2
      try simp at h2'
      refine And.intro (Yes.add (by omega) (by omega) (by omega)) ?_
      refine And.intro (Yes.add (by omega) (by omega) (by omega)) ?_
      refine And.intro (IdxSl.mk _ (by omega) (by omega)) ?_
      refine And.intro ((within_at (nth t.l (t.pos + 1 - 1)) 1073741824 (by first | omega | assumption | (simp; done) | (simp; omega) | (simp_all; done) | (simp_all; omega)) ([⟨0, 2, [[(AV.sl .any 1 (List.map rI64 t.l)), (AV.int .i64 ((t.pos + 1 : Nat) : Int))]], none⟩] : Heap)).pre ⟨AV.wk_refl_any _, AV.wk_refl_any _, AV.wk_refl_any _, trivial⟩) ?_
      refine And.intro (rem_nat (by omega)) ?_
      refine And.intro (by first | (simp only [obsB, Key.rows_bdd, Key.row_bdd, Stamp.rows_bdd, Stamp.row_bdd, Card.rows_bdd, Card.row_bdd, Entry.rows_bdd, Entry.row_bdd, Tp.rows_bdd, Tp.row_bdd, rI64_bdd, rStr_bdd, rBool_bdd, rU8_bdd, Bool.and_self, Bool.and_true, AV.bdds, AV.bddss, AV.bdd, decide_true, and_self]; done) | simp [obsB, AV.bddss, AV.bdds, AV.bdd, Key.rows_bdd, Key.row_bdd, Stamp.rows_bdd, Stamp.row_bdd, Card.rows_bdd, Card.row_bdd, Entry.rows_bdd, Entry.row_bdd, Tp.rows_bdd, Tp.row_bdd, rI64_bdd, rStr_bdd, rBool_bdd, rU8_bdd]) ?_
      simp only [Tp.next, Tp.step]
      first | rw [if_pos (by omega), if_pos (by omega)] | rw [if_neg (by omega), if_neg (by omega)]
      first | rfl | simp [Tp.row]
theorem next_at (t : Tp) (n : Nat) (hl : t.l.length < 9223372036854775808) (H : Heap) : ACalls Try.prog 21 [(AV.obj 0 0 0 0), (AV.int .i64 ((n : Nat) : Int))] (([⟨0, 2, [(Tp.row t)], none⟩] : Heap) ++ H) ((AV.int .i64 ((t.next n : Nat) : Int)), ([⟨0, 2, [(Tp.row (t.step n))], none⟩] : Heap) ++ H) := (next_spec t n hl).ext (by kernel_rfl) (by kernel_rfl) (by first | (simp only [obsB, Key.rows_bdd, Key.row_bdd, Stamp.rows_bdd, Stamp.row_bdd, Card.rows_bdd, Card.row_bdd, Entry.rows_bdd, Entry.row_bdd, Tp.rows_bdd, Tp.row_bdd, rI64_bdd, rStr_bdd, rBool_bdd, rU8_bdd, Bool.and_self, Bool.and_true, AV.bdds, AV.bddss, AV.bdd, decide_true, and_self]; done) | simp [obsB, AV.bddss, AV.bdds, AV.bdd, Key.rows_bdd, Key.row_bdd, Stamp.rows_bdd, Stamp.row_bdd, Card.rows_bdd, Card.row_bdd, Entry.rows_bdd, Entry.row_bdd, Tp.rows_bdd, Tp.row_bdd, rI64_bdd, rStr_bdd, rBool_bdd, rU8_bdd]) (by first | (simp only [obsB, Key.rows_bdd, Key.row_bdd, Stamp.rows_bdd, Stamp.row_bdd, Card.rows_bdd, Card.row_bdd, Entry.rows_bdd, Entry.row_bdd, Tp.rows_bdd, Tp.row_bdd, rI64_bdd, rStr_bdd, rBool_bdd, rU8_bdd, Bool.and_self, Bool.and_true, AV.bdds, AV.bddss, AV.bdd, decide_true, and_self]; done) | simp [obsB, AV.bddss, AV.bdds, AV.bdd, Key.rows_bdd, Key.row_bdd, Stamp.rows_bdd, Stamp.row_bdd, Card.rows_bdd, Card.row_bdd, Entry.rows_bdd, Entry.row_bdd, Tp.rows_bdd, Tp.row_bdd, rI64_bdd, rStr_bdd, rBool_bdd, rU8_bdd]) (by kernel_rfl) H
end Go.Proofs.Ytpkgpldgoajphaa.AM
