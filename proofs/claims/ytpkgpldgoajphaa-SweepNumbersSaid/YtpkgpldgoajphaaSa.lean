/-
  types, comparisons.
-/
import Derived.Test.YtpkgpldgoajphaaSp0
set_option maxRecDepth 100000
set_option linter.unusedVariables false
set_option linter.unusedSimpArgs false
namespace Go.Proofs.Ytpkgpldgoajphaa.AM
open Go Go.Proofs.Ytpkgpldgoajphaa
attribute [local irreducible] ACalls funT codeT codeQ LoopTo
structure Key where
  app : ByteArray
  id : ByteArray
  deriving Inhabited
def Key.row (x : Key) : List AV := [(AV.str x.app), (AV.str x.id)]
theorem Key.row_bdd (n : Nat) (x : Key) : AV.bdds n x.row = true := by simp [Key.row, AV.bdds, AV.bdd]
theorem Key.rows_bdd (n : Nat) (l : List Key) : AV.bddss n (l.map Key.row) = true := by induction l with | nil => rfl | cons x l ih => simp [AV.bddss, Key.row_bdd, ih]
structure Stamp where
  t : Int
  node : Int
  n : Int
  deriving Inhabited
def Stamp.row (x : Stamp) : List AV := [(AV.int .i64 x.t), (AV.int .i64 x.node), (AV.int .i64 x.n)]
theorem Stamp.row_bdd (n : Nat) (x : Stamp) : AV.bdds n x.row = true := by simp [Stamp.row, AV.bdds, AV.bdd]
theorem Stamp.rows_bdd (n : Nat) (l : List Stamp) : AV.bddss n (l.map Stamp.row) = true := by induction l with | nil => rfl | cons x l ih => simp [AV.bddss, Stamp.row_bdd, ih]
structure Card where
  key : Key
  status : Int
  over : Int
  lease : Int
  stamp : Stamp
  gone : Bool
  deriving Inhabited
def Card.row (x : Card) : List AV := [(AV.str x.key.app), (AV.str x.key.id), (AV.int .i64 x.status), (AV.int .i64 x.over), (AV.int .i64 x.lease), (AV.int .i64 x.stamp.t), (AV.int .i64 x.stamp.node), (AV.int .i64 x.stamp.n), (AV.bool x.gone)]
theorem Card.row_bdd (n : Nat) (x : Card) : AV.bdds n x.row = true := by simp [Card.row, AV.bdds, AV.bdd]
theorem Card.rows_bdd (n : Nat) (l : List Card) : AV.bddss n (l.map Card.row) = true := by induction l with | nil => rfl | cons x l ih => simp [AV.bddss, Card.row_bdd, ih]
structure Entry where
  card : Card
  seen : Int
  deriving Inhabited
def Entry.row (x : Entry) : List AV := [(AV.str x.card.key.app), (AV.str x.card.key.id), (AV.int .i64 x.card.status), (AV.int .i64 x.card.over), (AV.int .i64 x.card.lease), (AV.int .i64 x.card.stamp.t), (AV.int .i64 x.card.stamp.node), (AV.int .i64 x.card.stamp.n), (AV.bool x.card.gone), (AV.int .i64 x.seen)]
theorem Entry.row_bdd (n : Nat) (x : Entry) : AV.bdds n x.row = true := by simp [Entry.row, AV.bdds, AV.bdd]
theorem Entry.rows_bdd (n : Nat) (l : List Entry) : AV.bddss n (l.map Entry.row) = true := by induction l with | nil => rfl | cons x l ih => simp [AV.bddss, Entry.row_bdd, ih]
def rI64 (n : Int) : List AV := [.int .i64 n]
def rU8 (n : Int) : List AV := [.int .u8 n]
def rStr (s : ByteArray) : List AV := [.str s]
def rBool (b : Bool) : List AV := [.bool b]
theorem rI64_bdd (n : Nat) (l : List Int) : AV.bddss n (l.map rI64) = true := by induction l with | nil => rfl | cons x l ih => simp [AV.bddss, rI64, AV.bdds, AV.bdd, ih]
theorem rU8_bdd (n : Nat) (l : List Int) : AV.bddss n (l.map rU8) = true := by induction l with | nil => rfl | cons x l ih => simp [AV.bddss, rU8, AV.bdds, AV.bdd, ih]
theorem rStr_bdd (n : Nat) (l : List ByteArray) : AV.bddss n (l.map rStr) = true := by induction l with | nil => rfl | cons x l ih => simp [AV.bddss, rStr, AV.bdds, AV.bdd, ih]
theorem rBool_bdd (n : Nat) (l : List Bool) : AV.bddss n (l.map rBool) = true := by induction l with | nil => rfl | cons x l ih => simp [AV.bddss, rBool, AV.bdds, AV.bdd, ih]
def Key.eqb (a b : Key) : Bool := (a.app.toList == b.app.toList) && ((a.id.toList == b.id.toList) && true)
def cmpS (a b : ByteArray) : Int := if Op.bytesLess a.toList b.toList then -1 else if a.toList == b.toList then 0 else 1
def cmpI (a b : Int) : Int := if a < b then -1 else if a > b then 1 else 0
def cmpK (a b : Key) : Int := if cmpS a.app b.app = 0 then cmpS a.id b.id else cmpS a.app b.app
def lessK (a b : Key) : Bool := decide (cmpK a b < 0)
def isNaNs_ann : Ann := { fin := some 0 }
set_option maxRecDepth 100000 in
theorem isNaNs_spec (s : ByteArray)  : ACalls Try.prog 141 [(AV.str s)] ([] : Heap) ((AV.bool false), ([] : Heap)) := by
  refine spec (fn := Try.f141) (ann := isNaNs_ann) (t := (.reg [] [] [] (.reg [] [] [] .nil))) (Nat.le_of_ble_eq_true (by kernel_rfl)) ⟨Try.func141, by kernel_rfl, by kernel_rfl, by kernel_rfl⟩ ?_
  refine Eq.mp (by kernel_rfl : ((AV.bdd 0 (AV.bool (!(s.toList == s.toList))) = true ∧ obsB 0 ([] : Heap) = true) ∧ ((AV.bool (!(s.toList == s.toList))), ([] : Heap)) = ((AV.bool false), ([] : Heap))) = _) ?_
  refine And.intro (by first | (simp only [obsB, Key.rows_bdd, Key.row_bdd, Stamp.rows_bdd, Stamp.row_bdd, Card.rows_bdd, Card.row_bdd, Entry.rows_bdd, Entry.row_bdd, rI64_bdd, rStr_bdd, rBool_bdd, rU8_bdd, Bool.and_self, Bool.and_true, AV.bdds, AV.bddss, AV.bdd, decide_true, and_self]; done) | simp [obsB, AV.bddss, AV.bdds, AV.bdd, Key.rows_bdd, Key.row_bdd, Stamp.rows_bdd, Stamp.row_bdd, Card.rows_bdd, Card.row_bdd, Entry.rows_bdd, Entry.row_bdd, rI64_bdd, rStr_bdd, rBool_bdd, rU8_bdd]) ?_
  simp
theorem isNaNs_at (s : ByteArray)  (H : Heap) : ACalls Try.prog 141 [(AV.str s)] H ((AV.bool false), H) := (isNaNs_spec s ).lift (by kernel_rfl) (by kernel_rfl) H
def compareS_ann : Ann := { fin := some 0 }
set_option maxRecDepth 100000 in
theorem compareS_spec (a b : ByteArray)  : ACalls Try.prog 135 [(AV.str a), (AV.str b)] ([] : Heap) ((AV.int .i64 (cmpS a b)), ([] : Heap)) := by
  refine spec (fn := Try.f135) (ann := compareS_ann) (t := (.reg [] [] [] (.reg [(1, ((AV.bool false), ([] : Heap)))] [] [] (.reg [(1, ((AV.bool false), ([] : Heap)))] [] [] (.reg [] [] [] (.two .nil (.reg [] [] [] (.two .nil (.reg [] [] [] (.two (.reg [] [] [] .nil) (.reg [] [] [] (.two (.reg [] [] [] .nil) (.reg [] [] [] .nil))))))))))))) (Nat.le_of_ble_eq_true (by kernel_rfl)) ⟨Try.func135, by kernel_rfl, by kernel_rfl, by kernel_rfl⟩ ?_
  refine Eq.mp (by kernel_rfl : ((ACalls Try.prog 141 [(AV.str a)] ([] : Heap) ((AV.bool false), ([] : Heap))) ∧ (ACalls Try.prog 141 [(AV.str b)] ([] : Heap) ((AV.bool false), ([] : Heap))) ∧ cond (Op.bytesLess a.toList b.toList) ((AV.bdd 0 (AV.int .i64 (-1)) = true ∧ obsB 0 ([] : Heap) = true) ∧ ((AV.int .i64 (-1)), ([] : Heap)) = ((AV.int .i64 (cmpS a b)), ([] : Heap))) (cond (!(Op.bytesLess a.toList b.toList || a.toList == b.toList)) ((AV.bdd 0 (AV.int .i64 1) = true ∧ obsB 0 ([] : Heap) = true) ∧ ((AV.int .i64 1), ([] : Heap)) = ((AV.int .i64 (cmpS a b)), ([] : Heap))) ((AV.bdd 0 (AV.int .i64 0) = true ∧ obsB 0 ([] : Heap) = true) ∧ ((AV.int .i64 0), ([] : Heap)) = ((AV.int .i64 (cmpS a b)), ([] : Heap))))) = _) ?_
  refine And.intro (isNaNs_at a  ([] : Heap)) ?_
  refine And.intro (isNaNs_at b  ([] : Heap)) ?_
  refine cond_split (fun h1 => ?_) (fun h1 => ?_)
  · have h1' := h1
    try simp at h1'
    refine And.intro (by first | (simp only [obsB, Key.rows_bdd, Key.row_bdd, Stamp.rows_bdd, Stamp.row_bdd, Card.rows_bdd, Card.row_bdd, Entry.rows_bdd, Entry.row_bdd, rI64_bdd, rStr_bdd, rBool_bdd, rU8_bdd, Bool.and_self, Bool.and_true, AV.bdds, AV.bddss, AV.bdd, decide_true, and_self]; done) | simp [obsB, AV.bddss, AV.bdds, AV.bdd, Key.rows_bdd, Key.row_bdd, Stamp.rows_bdd, Stamp.row_bdd, Card.rows_bdd, Card.row_bdd, Entry.rows_bdd, Entry.row_bdd, rI64_bdd, rStr_bdd, rBool_bdd, rU8_bdd]) ?_
    simp_all [cmpS]
  · have h1' := h1
    try simp at h1'
    refine cond_split (fun h2 => ?_) (fun h2 => ?_)
    · have h2' := h2
      try simp at h2'
      refine And.intro (by first | (simp only [obsB, Key.rows_bdd, Key.row_bdd, Stamp.rows_bdd, Stamp.row_bdd, Card.rows_bdd, Card.row_bdd, Entry.rows_bdd, Entry.row_bdd, rI64_bdd, rStr_bdd, rBool_bdd, rU8_bdd, Bool.and_self, Bool.and_true, AV.bdds, AV.bddss, AV.bdd, decide_true, and_self]; done) | simp [obsB, AV.bddss, AV.bdds, AV.bdd, Key.rows_bdd, Key.row_bdd, Stamp.rows_bdd, Stamp.row_bdd, Card.rows_bdd, Card.row_bdd, Entry.rows_bdd, Entry.row_bdd, rI64_bdd, rStr_bdd, rBool_bdd, rU8_bdd]) ?_
      simp_all [cmpS]
    · have h2' := h2
      try simp at h2'
      refine And.intro (by first | (simp only [obsB, Key.rows_bdd, Key.row_bdd, Stamp.rows_bdd, Stamp.row_bdd, Card.rows_bdd, Card.row_bdd, Entry.rows_bdd, Entry.row_bdd, rI64_bdd, rStr_bdd, rBool_bdd, rU8_bdd, Bool.and_self, Bool.and_true, AV.bdds, AV.bddss, AV.bdd, decide_true, and_self]; done) | simp [obsB, AV.bddss, AV.bdds, AV.bdd, Key.rows_bdd, Key.row_bdd, Stamp.rows_bdd, Stamp.row_bdd, Card.rows_bdd, Card.row_bdd, Entry.rows_bdd, Entry.row_bdd, rI64_bdd, rStr_bdd, rBool_bdd, rU8_bdd]) ?_
      simp_all [cmpS]
theorem compareS_at (a b : ByteArray)  (H : Heap) : ACalls Try.prog 135 [(AV.str a), (AV.str b)] H ((AV.int .i64 (cmpS a b)), H) := (compareS_spec a b ).lift (by kernel_rfl) (by kernel_rfl) H
def isNaNi_ann : Ann := { fin := some 0 }
set_option maxRecDepth 100000 in
theorem isNaNi_spec (n : Int)  : ACalls Try.prog 113 [(AV.int .i64 n)] ([] : Heap) ((AV.bool false), ([] : Heap)) := by
  refine spec (fn := Try.f113) (ann := isNaNi_ann) (t := (.reg [] [] [] (.reg [] [] [] .nil))) (Nat.le_of_ble_eq_true (by kernel_rfl)) ⟨Try.func113, by kernel_rfl, by kernel_rfl, by kernel_rfl⟩ ?_
  refine Eq.mp (by kernel_rfl : ((AV.bdd 0 (AV.bool (n != n)) = true ∧ obsB 0 ([] : Heap) = true) ∧ ((AV.bool (n != n)), ([] : Heap)) = ((AV.bool false), ([] : Heap))) = _) ?_
  refine And.intro (by first | (simp only [obsB, Key.rows_bdd, Key.row_bdd, Stamp.rows_bdd, Stamp.row_bdd, Card.rows_bdd, Card.row_bdd, Entry.rows_bdd, Entry.row_bdd, rI64_bdd, rStr_bdd, rBool_bdd, rU8_bdd, Bool.and_self, Bool.and_true, AV.bdds, AV.bddss, AV.bdd, decide_true, and_self]; done) | simp [obsB, AV.bddss, AV.bdds, AV.bdd, Key.rows_bdd, Key.row_bdd, Stamp.rows_bdd, Stamp.row_bdd, Card.rows_bdd, Card.row_bdd, Entry.rows_bdd, Entry.row_bdd, rI64_bdd, rStr_bdd, rBool_bdd, rU8_bdd]) ?_
  simp
theorem isNaNi_at (n : Int)  (H : Heap) : ACalls Try.prog 113 [(AV.int .i64 n)] H ((AV.bool false), H) := (isNaNi_spec n ).lift (by kernel_rfl) (by kernel_rfl) H
def compareI_ann : Ann := { fin := some 0 }
set_option maxRecDepth 100000 in
theorem compareI_spec (a b : Int)  : ACalls Try.prog 78 [(AV.int .i64 a), (AV.int .i64 b)] ([] : Heap) ((AV.int .i64 (cmpI a b)), ([] : Heap)) := by
  refine spec (fn := Try.f78) (ann := compareI_ann) (t := (.reg [] [] [] (.reg [(1, ((AV.bool false), ([] : Heap)))] [] [] (.reg [(1, ((AV.bool false), ([] : Heap)))] [] [] (.reg [] [] [] (.two .nil (.reg [] [] [] (.two .nil (.reg [] [] [] (.two (.reg [] [] [] .nil) (.reg [] [] [] (.two (.reg [] [] [] .nil) (.reg [] [] [] .nil))))))))))))) (Nat.le_of_ble_eq_true (by kernel_rfl)) ⟨Try.func78, by kernel_rfl, by kernel_rfl, by kernel_rfl⟩ ?_
  refine Eq.mp (by kernel_rfl : ((ACalls Try.prog 113 [(AV.int .i64 a)] ([] : Heap) ((AV.bool false), ([] : Heap))) ∧ (ACalls Try.prog 113 [(AV.int .i64 b)] ([] : Heap) ((AV.bool false), ([] : Heap))) ∧ cond (decide (a < b)) ((AV.bdd 0 (AV.int .i64 (-1)) = true ∧ obsB 0 ([] : Heap) = true) ∧ ((AV.int .i64 (-1)), ([] : Heap)) = ((AV.int .i64 (cmpI a b)), ([] : Heap))) (cond (decide (a > b)) ((AV.bdd 0 (AV.int .i64 1) = true ∧ obsB 0 ([] : Heap) = true) ∧ ((AV.int .i64 1), ([] : Heap)) = ((AV.int .i64 (cmpI a b)), ([] : Heap))) ((AV.bdd 0 (AV.int .i64 0) = true ∧ obsB 0 ([] : Heap) = true) ∧ ((AV.int .i64 0), ([] : Heap)) = ((AV.int .i64 (cmpI a b)), ([] : Heap))))) = _) ?_
  refine And.intro (isNaNi_at a  ([] : Heap)) ?_
  refine And.intro (isNaNi_at b  ([] : Heap)) ?_
  refine cond_split (fun h1 => ?_) (fun h1 => ?_)
  · have h1' := h1
    try simp at h1'
    refine And.intro (by first | (simp only [obsB, Key.rows_bdd, Key.row_bdd, Stamp.rows_bdd, Stamp.row_bdd, Card.rows_bdd, Card.row_bdd, Entry.rows_bdd, Entry.row_bdd, rI64_bdd, rStr_bdd, rBool_bdd, rU8_bdd, Bool.and_self, Bool.and_true, AV.bdds, AV.bddss, AV.bdd, decide_true, and_self]; done) | simp [obsB, AV.bddss, AV.bdds, AV.bdd, Key.rows_bdd, Key.row_bdd, Stamp.rows_bdd, Stamp.row_bdd, Card.rows_bdd, Card.row_bdd, Entry.rows_bdd, Entry.row_bdd, rI64_bdd, rStr_bdd, rBool_bdd, rU8_bdd]) ?_
    simp_all [cmpI] <;> omega
  · have h1' := h1
    try simp at h1'
    refine cond_split (fun h2 => ?_) (fun h2 => ?_)
    · have h2' := h2
      try simp at h2'
      refine And.intro (by first | (simp only [obsB, Key.rows_bdd, Key.row_bdd, Stamp.rows_bdd, Stamp.row_bdd, Card.rows_bdd, Card.row_bdd, Entry.rows_bdd, Entry.row_bdd, rI64_bdd, rStr_bdd, rBool_bdd, rU8_bdd, Bool.and_self, Bool.and_true, AV.bdds, AV.bddss, AV.bdd, decide_true, and_self]; done) | simp [obsB, AV.bddss, AV.bdds, AV.bdd, Key.rows_bdd, Key.row_bdd, Stamp.rows_bdd, Stamp.row_bdd, Card.rows_bdd, Card.row_bdd, Entry.rows_bdd, Entry.row_bdd, rI64_bdd, rStr_bdd, rBool_bdd, rU8_bdd]) ?_
      simp_all [cmpI] <;> omega
    · have h2' := h2
      try simp at h2'
      refine And.intro (by first | (simp only [obsB, Key.rows_bdd, Key.row_bdd, Stamp.rows_bdd, Stamp.row_bdd, Card.rows_bdd, Card.row_bdd, Entry.rows_bdd, Entry.row_bdd, rI64_bdd, rStr_bdd, rBool_bdd, rU8_bdd, Bool.and_self, Bool.and_true, AV.bdds, AV.bddss, AV.bdd, decide_true, and_self]; done) | simp [obsB, AV.bddss, AV.bdds, AV.bdd, Key.rows_bdd, Key.row_bdd, Stamp.rows_bdd, Stamp.row_bdd, Card.rows_bdd, Card.row_bdd, Entry.rows_bdd, Entry.row_bdd, rI64_bdd, rStr_bdd, rBool_bdd, rU8_bdd]) ?_
      simp_all [cmpI] <;> omega
theorem compareI_at (a b : Int)  (H : Heap) : ACalls Try.prog 78 [(AV.int .i64 a), (AV.int .i64 b)] H ((AV.int .i64 (cmpI a b)), H) := (compareI_spec a b ).lift (by kernel_rfl) (by kernel_rfl) H
def or2_ann : Ann := { fin := some 0 }
set_option maxRecDepth 100000 in
theorem or2_spec (x y : Int)  : ACalls Try.prog 77 [(AV.sl .any 1 [[(AV.int .i64 x)], [(AV.int .i64 y)]])] ([] : Heap) ((AV.int .i64 (if x = 0 then y else x)), ([] : Heap)) := by
  refine spec (fn := Try.f77) (ann := or2_ann) (t := (.reg [] [] [] (.reg [] [] [] (.reg [] [] [] (.roll 3 (.reg [] [] [] (.two (.reg [] [] [] (.reg [] [] [] (.two (.reg [] [] [] .nil) (.reg [] [] [] (.reg [] [] [] (.two (.reg [] [] [] (.reg [] [] [] (.two (.reg [] [] [] .nil) (.reg [] [] [] (.reg [] [] [] (.two .nil (.reg [] [] [] .nil))))))) .nil)))))) .nil))))))) (Nat.le_of_ble_eq_true (by kernel_rfl)) ⟨Try.func77, by kernel_rfl, by kernel_rfl, by kernel_rfl⟩ ?_
  refine Eq.mp (by kernel_rfl : (cond (x != 0) ((AV.bdd 0 (AV.int .i64 x) = true ∧ obsB 0 ([] : Heap) = true) ∧ ((AV.int .i64 x), ([] : Heap)) = ((AV.int .i64 (if x = 0 then y else x)), ([] : Heap))) (cond (y != 0) ((AV.bdd 0 (AV.int .i64 y) = true ∧ obsB 0 ([] : Heap) = true) ∧ ((AV.int .i64 y), ([] : Heap)) = ((AV.int .i64 (if x = 0 then y else x)), ([] : Heap))) ((AV.bdd 0 (AV.int .i64 0) = true ∧ obsB 0 ([] : Heap) = true) ∧ ((AV.int .i64 0), ([] : Heap)) = ((AV.int .i64 (if x = 0 then y else x)), ([] : Heap))))) = _) ?_
  refine cond_split (fun h1 => ?_) (fun h1 => ?_)
  · have h1' := h1
    try simp at h1'
    refine And.intro (by first | (simp only [obsB, Key.rows_bdd, Key.row_bdd, Stamp.rows_bdd, Stamp.row_bdd, Card.rows_bdd, Card.row_bdd, Entry.rows_bdd, Entry.row_bdd, rI64_bdd, rStr_bdd, rBool_bdd, rU8_bdd, Bool.and_self, Bool.and_true, AV.bdds, AV.bddss, AV.bdd, decide_true, and_self]; done) | simp [obsB, AV.bddss, AV.bdds, AV.bdd, Key.rows_bdd, Key.row_bdd, Stamp.rows_bdd, Stamp.row_bdd, Card.rows_bdd, Card.row_bdd, Entry.rows_bdd, Entry.row_bdd, rI64_bdd, rStr_bdd, rBool_bdd, rU8_bdd]) ?_
    simp_all
  · have h1' := h1
    try simp at h1'
    refine cond_split (fun h2 => ?_) (fun h2 => ?_)
    · have h2' := h2
      try simp at h2'
      refine And.intro (by first | (simp only [obsB, Key.rows_bdd, Key.row_bdd, Stamp.rows_bdd, Stamp.row_bdd, Card.rows_bdd, Card.row_bdd, Entry.rows_bdd, Entry.row_bdd, rI64_bdd, rStr_bdd, rBool_bdd, rU8_bdd, Bool.and_self, Bool.and_true, AV.bdds, AV.bddss, AV.bdd, decide_true, and_self]; done) | simp [obsB, AV.bddss, AV.bdds, AV.bdd, Key.rows_bdd, Key.row_bdd, Stamp.rows_bdd, Stamp.row_bdd, Card.rows_bdd, Card.row_bdd, Entry.rows_bdd, Entry.row_bdd, rI64_bdd, rStr_bdd, rBool_bdd, rU8_bdd]) ?_
      simp_all
    · have h2' := h2
      try simp at h2'
      refine And.intro (by first | (simp only [obsB, Key.rows_bdd, Key.row_bdd, Stamp.rows_bdd, Stamp.row_bdd, Card.rows_bdd, Card.row_bdd, Entry.rows_bdd, Entry.row_bdd, rI64_bdd, rStr_bdd, rBool_bdd, rU8_bdd, Bool.and_self, Bool.and_true, AV.bdds, AV.bddss, AV.bdd, decide_true, and_self]; done) | simp [obsB, AV.bddss, AV.bdds, AV.bdd, Key.rows_bdd, Key.row_bdd, Stamp.rows_bdd, Stamp.row_bdd, Card.rows_bdd, Card.row_bdd, Entry.rows_bdd, Entry.row_bdd, rI64_bdd, rStr_bdd, rBool_bdd, rU8_bdd]) ?_
      simp_all
theorem or2_at (x y : Int)  (H : Heap) : ACalls Try.prog 77 [(AV.sl .any 1 [[(AV.int .i64 x)], [(AV.int .i64 y)]])] H ((AV.int .i64 (if x = 0 then y else x)), H) := (or2_spec x y ).lift (by kernel_rfl) (by kernel_rfl) H
def keyCmp_ann : Ann := { refs := [2, 3], fin := some 0 }
set_option maxRecDepth 100000 in
theorem keyCmp_spec (a b : Key)  : ACalls Try.prog 120 [(AV.agg (Key.row a)), (AV.agg (Key.row b))] ([] : Heap) ((AV.int .i64 (cmpK a b)), ([] : Heap)) := by
  refine spec (fn := Try.f120) (ann := keyCmp_ann) (t := (.reg [] [] [] (.reg [(4, ((AV.int .i64 (cmpS a.app b.app)), ([] : Heap))), (9, ((AV.int .i64 (cmpS a.id b.id)), ([] : Heap))), (11, ((AV.int .i64 (if (cmpS a.app b.app) = 0 then (cmpS a.id b.id) else (cmpS a.app b.app))), ([] : Heap)))] [] [] .nil))) (Nat.le_of_ble_eq_true (by kernel_rfl)) ⟨Try.func120, by kernel_rfl, by kernel_rfl, by kernel_rfl⟩ ?_
  refine Eq.mp (by kernel_rfl : ((ACalls Try.prog 135 [(AV.str a.app), (AV.str b.app)] ([] : Heap) ((AV.int .i64 (cmpS a.app b.app)), ([] : Heap))) ∧ (ACalls Try.prog 135 [(AV.str a.id), (AV.str b.id)] ([] : Heap) ((AV.int .i64 (cmpS a.id b.id)), ([] : Heap))) ∧ (ACalls Try.prog 77 [(AV.sl .clip 1 [[(AV.int .i64 (cmpS a.app b.app))], [(AV.int .i64 (cmpS a.id b.id))]])] ([] : Heap) ((AV.int .i64 (if (cmpS a.app b.app) = 0 then (cmpS a.id b.id) else (cmpS a.app b.app))), ([] : Heap))) ∧ (AV.bdd 0 (AV.int .i64 (if (cmpS a.app b.app) = 0 then (cmpS a.id b.id) else (cmpS a.app b.app))) = true ∧ obsB 0 ([] : Heap) = true) ∧ ((AV.int .i64 (if (cmpS a.app b.app) = 0 then (cmpS a.id b.id) else (cmpS a.app b.app))), ([] : Heap)) = ((AV.int .i64 (cmpK a b)), ([] : Heap))) = _) ?_
  refine And.intro (compareS_at a.app b.app  ([] : Heap)) ?_
  refine And.intro (compareS_at a.id b.id  ([] : Heap)) ?_
  refine And.intro ((or2_at (cmpS a.app b.app) (cmpS a.id b.id)  ([] : Heap)).pre ⟨⟨rfl, rfl, .inl rfl⟩, trivial⟩) ?_
  refine And.intro (by first | (simp only [obsB, Key.rows_bdd, Key.row_bdd, Stamp.rows_bdd, Stamp.row_bdd, Card.rows_bdd, Card.row_bdd, Entry.rows_bdd, Entry.row_bdd, rI64_bdd, rStr_bdd, rBool_bdd, rU8_bdd, Bool.and_self, Bool.and_true, AV.bdds, AV.bddss, AV.bdd, decide_true, and_self]; done) | simp [obsB, AV.bddss, AV.bdds, AV.bdd, Key.rows_bdd, Key.row_bdd, Stamp.rows_bdd, Stamp.row_bdd, Card.rows_bdd, Card.row_bdd, Entry.rows_bdd, Entry.row_bdd, rI64_bdd, rStr_bdd, rBool_bdd, rU8_bdd]) ?_
  simp [cmpK]
theorem keyCmp_at (a b : Key)  (H : Heap) : ACalls Try.prog 120 [(AV.agg (Key.row a)), (AV.agg (Key.row b))] H ((AV.int .i64 (cmpK a b)), H) := (keyCmp_spec a b ).lift (by kernel_rfl) (by kernel_rfl) H
def keyLess_ann : Ann := { refs := [2, 3], fin := some 0 }
set_option maxRecDepth 100000 in
theorem keyLess_spec (a b : Key)  : ACalls Try.prog 101 [(AV.agg (Key.row a)), (AV.agg (Key.row b))] ([] : Heap) ((AV.bool (lessK a b)), ([] : Heap)) := by
  refine spec (fn := Try.f101) (ann := keyLess_ann) (t := (.reg [] [] [] (.reg [(2, ((AV.int .i64 (cmpK a b)), ([] : Heap)))] [] [] .nil))) (Nat.le_of_ble_eq_true (by kernel_rfl)) ⟨Try.func101, by kernel_rfl, by kernel_rfl, by kernel_rfl⟩ ?_
  refine Eq.mp (by kernel_rfl : ((ACalls Try.prog 120 [(AV.agg (Key.row a)), (AV.agg (Key.row b))] ([] : Heap) ((AV.int .i64 (cmpK a b)), ([] : Heap))) ∧ (AV.bdd 0 (AV.bool (decide ((cmpK a b) < 0))) = true ∧ obsB 0 ([] : Heap) = true) ∧ ((AV.bool (decide ((cmpK a b) < 0))), ([] : Heap)) = ((AV.bool (lessK a b)), ([] : Heap))) = _) ?_
  refine And.intro (keyCmp_at a b  ([] : Heap)) ?_
  refine And.intro (by first | (simp only [obsB, Key.rows_bdd, Key.row_bdd, Stamp.rows_bdd, Stamp.row_bdd, Card.rows_bdd, Card.row_bdd, Entry.rows_bdd, Entry.row_bdd, rI64_bdd, rStr_bdd, rBool_bdd, rU8_bdd, Bool.and_self, Bool.and_true, AV.bdds, AV.bddss, AV.bdd, decide_true, and_self]; done) | simp [obsB, AV.bddss, AV.bdds, AV.bdd, Key.rows_bdd, Key.row_bdd, Stamp.rows_bdd, Stamp.row_bdd, Card.rows_bdd, Card.row_bdd, Entry.rows_bdd, Entry.row_bdd, rI64_bdd, rStr_bdd, rBool_bdd, rU8_bdd]) ?_
  rfl
theorem keyLess_at (a b : Key)  (H : Heap) : ACalls Try.prog 101 [(AV.agg (Key.row a)), (AV.agg (Key.row b))] H ((AV.bool (lessK a b)), H) := (keyLess_spec a b ).lift (by kernel_rfl) (by kernel_rfl) H
end Go.Proofs.Ytpkgpldgoajphaa.AM
