/-
  Texts of this claim, part 3 of 7: an abstract machine over the model; what functions come to; plain laws.
-/
import Derived.Test.YtpkgpldgoajphaaMGossipNumbers2
set_option maxRecDepth 100000
set_option linter.unusedVariables false
set_option linter.unusedSimpArgs false
namespace Go.Proofs.Ytpkgpldgoajphaa.AM
open Go Go.Proofs.Ytpkgpldgoajphaa
attribute [local irreducible] ACalls funT codeT codeQ LoopTo
structure Key where
  app : ByteArray
  id : ByteArray
  deriving Inhabited
def Key.row (x : Key) : List AV := [(AV.str x.app), (AV.str x.id)]
@[simp] theorem Key.row_bdd (n : Nat) (x : Key) : AV.bdds n x.row = true := by simp [Key.row, AV.bdds, AV.bdd]
@[simp] theorem Key.rows_bdd (n : Nat) (l : List Key) : AV.bddss n (l.map Key.row) = true := by induction l with | nil => rfl | cons x l ih => simp [AV.bddss, Key.row_bdd, ih]
structure Stamp where
  t : Int
  node : Int
  n : Int
  deriving Inhabited
def Stamp.row (x : Stamp) : List AV := [(AV.int .i64 x.t), (AV.int .i64 x.node), (AV.int .i64 x.n)]
@[simp] theorem Stamp.row_bdd (n : Nat) (x : Stamp) : AV.bdds n x.row = true := by simp [Stamp.row, AV.bdds, AV.bdd]
@[simp] theorem Stamp.rows_bdd (n : Nat) (l : List Stamp) : AV.bddss n (l.map Stamp.row) = true := by induction l with | nil => rfl | cons x l ih => simp [AV.bddss, Stamp.row_bdd, ih]
structure Card where
  key : Key
  status : Int
  over : Int
  lease : Int
  stamp : Stamp
  gone : Bool
  deriving Inhabited
def Card.row (x : Card) : List AV := [(AV.str x.key.app), (AV.str x.key.id), (AV.int .i64 x.status), (AV.int .i64 x.over), (AV.int .i64 x.lease), (AV.int .i64 x.stamp.t), (AV.int .i64 x.stamp.node), (AV.int .i64 x.stamp.n), (AV.bool x.gone)]
@[simp] theorem Card.row_bdd (n : Nat) (x : Card) : AV.bdds n x.row = true := by simp [Card.row, AV.bdds, AV.bdd]
@[simp] theorem Card.rows_bdd (n : Nat) (l : List Card) : AV.bddss n (l.map Card.row) = true := by induction l with | nil => rfl | cons x l ih => simp [AV.bddss, Card.row_bdd, ih]
structure Entry where
  card : Card
  seen : Int
  deriving Inhabited
def Entry.row (x : Entry) : List AV := [(AV.str x.card.key.app), (AV.str x.card.key.id), (AV.int .i64 x.card.status), (AV.int .i64 x.card.over), (AV.int .i64 x.card.lease), (AV.int .i64 x.card.stamp.t), (AV.int .i64 x.card.stamp.node), (AV.int .i64 x.card.stamp.n), (AV.bool x.card.gone), (AV.int .i64 x.seen)]
@[simp] theorem Entry.row_bdd (n : Nat) (x : Entry) : AV.bdds n x.row = true := by simp [Entry.row, AV.bdds, AV.bdd]
@[simp] theorem Entry.rows_bdd (n : Nat) (l : List Entry) : AV.bddss n (l.map Entry.row) = true := by induction l with | nil => rfl | cons x l ih => simp [AV.bddss, Entry.row_bdd, ih]
def rI64 (n : Int) : List AV := [.int .i64 n]
def rU8 (n : Int) : List AV := [.int .u8 n]
def rStr (s : ByteArray) : List AV := [.str s]
def rBool (b : Bool) : List AV := [.bool b]
@[simp] theorem rI64_bdd (n : Nat) (l : List Int) : AV.bddss n (l.map rI64) = true := by induction l with | nil => rfl | cons x l ih => simp [AV.bddss, rI64, AV.bdds, AV.bdd, ih]
@[simp] theorem rU8_bdd (n : Nat) (l : List Int) : AV.bddss n (l.map rU8) = true := by induction l with | nil => rfl | cons x l ih => simp [AV.bddss, rU8, AV.bdds, AV.bdd, ih]
@[simp] theorem rStr_bdd (n : Nat) (l : List ByteArray) : AV.bddss n (l.map rStr) = true := by induction l with | nil => rfl | cons x l ih => simp [AV.bddss, rStr, AV.bdds, AV.bdd, ih]
@[simp] theorem rBool_bdd (n : Nat) (l : List Bool) : AV.bddss n (l.map rBool) = true := by induction l with | nil => rfl | cons x l ih => simp [AV.bddss, rBool, AV.bdds, AV.bdd, ih]
def Key.eqb (a b : Key) : Bool := (a.app.toList == b.app.toList) && ((a.id.toList == b.id.toList) && true)
def cmpS (a b : ByteArray) : Int := if Op.bytesLess a.toList b.toList then -1 else if a.toList == b.toList then 0 else 1
def cmpI (a b : Int) : Int := if a < b then -1 else if a > b then 1 else 0
def cmpK (a b : Key) : Int := if cmpS a.app b.app = 0 then cmpS a.id b.id else cmpS a.app b.app
def lessK (a b : Key) : Bool := decide (cmpK a b < 0)
def isNaNs_ann : Ann := { fin := some 0 }
set_option maxRecDepth 100000 in
theorem isNaNs_spec (s : ByteArray)  : ACalls Try.prog 141 [(AV.str s)] ([] : Heap) ((AV.bool false), ([] : Heap)) := by
  refine spec (fn := Try.f141) (ann := isNaNs_ann) (t := (.reg [] [] [] (.reg [] [] [] .nil))) (Nat.le_of_ble_eq_true (by kernel_rfl)) ⟨Try.func141, by kernel_rfl, by kernel_rfl, by kernel_rfl⟩ ?_
  refine Eq.mp (by kernel_rfl : ((AV.bdd 0 (AV.bool (!(s.toList == s.toList))) = true ∧ obsB 0 ([] : Heap) = true) ∧ ((AV.bool (!(s.toList == s.toList))), ([] : Heap)) = ((AV.bool false), ([] : Heap))) = _) ?_
  refine And.intro (by first | (simp [obsB, AV.bddss, AV.bdds, AV.bdd]; done) | (simp [obsB, AV.bddss, AV.bdds, AV.bdd, -List.map_append]; done) | simp [obsB, AV.bddss, AV.bdds, AV.bdd, -List.map_append, -List.map_set, -List.map_take, -List.map_drop, -List.map_cons, -List.map_map]) ?_
  simp
theorem isNaNs_at (s : ByteArray)  (H : Heap) : ACalls Try.prog 141 [(AV.str s)] H ((AV.bool false), H) := (isNaNs_spec s ).lift (by kernel_rfl) (by kernel_rfl) H
def compareS_ann : Ann := { fin := some 0 }
set_option maxRecDepth 100000 in
theorem compareS_spec (a b : ByteArray)  : ACalls Try.prog 135 [(AV.str a), (AV.str b)] ([] : Heap) ((AV.int .i64 (cmpS a b)), ([] : Heap)) := by
  refine spec (fn := Try.f135) (ann := compareS_ann) (t := (.reg [] [] [] (.reg [(1, ((AV.bool false), ([] : Heap)))] [] [] (.reg [(1, ((AV.bool false), ([] : Heap)))] [] [] (.reg [] [] [] (.two .nil (.reg [] [] [] (.two .nil (.reg [] [] [] (.two (.reg [] [] [] .nil) (.reg [] [] [] (.two (.reg [] [] [] .nil) (.reg [] [] [] .nil))))))))))))) (Nat.le_of_ble_eq_true (by kernel_rfl)) ⟨Try.func135, by kernel_rfl, by kernel_rfl, by kernel_rfl⟩ ?_
  refine Eq.mp (by kernel_rfl : ((ACalls Try.prog 141 [(AV.str a)] ([] : Heap) ((AV.bool false), ([] : Heap))) ∧ (ACalls Try.prog 141 [(AV.str b)] ([] : Heap) ((AV.bool false), ([] : Heap))) ∧ cond (Op.bytesLess a.toList b.toList) ((AV.bdd 0 (AV.int .i64 (-1)) = true ∧ obsB 0 ([] : Heap) = true) ∧ ((AV.int .i64 (-1)), ([] : Heap)) = ((AV.int .i64 (cmpS a b)), ([] : Heap))) (cond (!(Op.bytesLess a.toList b.toList || a.toList == b.toList)) ((AV.bdd 0 (AV.int .i64 1) = true ∧ obsB 0 ([] : Heap) = true) ∧ ((AV.int .i64 1), ([] : Heap)) = ((AV.int .i64 (cmpS a b)), ([] : Heap))) ((AV.bdd 0 (AV.int .i64 0) = true ∧ obsB 0 ([] : Heap) = true) ∧ ((AV.int .i64 0), ([] : Heap)) = ((AV.int .i64 (cmpS a b)), ([] : Heap))))) = _) ?_
  refine And.intro (isNaNs_at a  ([] : Heap)) ?_
  refine And.intro (isNaNs_at b  ([] : Heap)) ?_
  refine cond_split (fun h1 => ?_) (fun h1 => ?_)
  · have h1' := h1
    try simp at h1'
    refine And.intro (by first | (simp [obsB, AV.bddss, AV.bdds, AV.bdd]; done) | (simp [obsB, AV.bddss, AV.bdds, AV.bdd, -List.map_append]; done) | simp [obsB, AV.bddss, AV.bdds, AV.bdd, -List.map_append, -List.map_set, -List.map_take, -List.map_drop, -List.map_cons, -List.map_map]) ?_
    simp_all [cmpS]
  · have h1' := h1
    try simp at h1'
    refine cond_split (fun h2 => ?_) (fun h2 => ?_)
    · have h2' := h2
      try simp at h2'
      refine And.intro (by first | (simp [obsB, AV.bddss, AV.bdds, AV.bdd]; done) | (simp [obsB, AV.bddss, AV.bdds, AV.bdd, -List.map_append]; done) | simp [obsB, AV.bddss, AV.bdds, AV.bdd, -List.map_append, -List.map_set, -List.map_take, -List.map_drop, -List.map_cons, -List.map_map]) ?_
      simp_all [cmpS]
    · have h2' := h2
      try simp at h2'
      refine And.intro (by first | (simp [obsB, AV.bddss, AV.bdds, AV.bdd]; done) | (simp [obsB, AV.bddss, AV.bdds, AV.bdd, -List.map_append]; done) | simp [obsB, AV.bddss, AV.bdds, AV.bdd, -List.map_append, -List.map_set, -List.map_take, -List.map_drop, -List.map_cons, -List.map_map]) ?_
      simp_all [cmpS]
theorem compareS_at (a b : ByteArray)  (H : Heap) : ACalls Try.prog 135 [(AV.str a), (AV.str b)] H ((AV.int .i64 (cmpS a b)), H) := (compareS_spec a b ).lift (by kernel_rfl) (by kernel_rfl) H
def isNaNi_ann : Ann := { fin := some 0 }
set_option maxRecDepth 100000 in
theorem isNaNi_spec (n : Int)  : ACalls Try.prog 113 [(AV.int .i64 n)] ([] : Heap) ((AV.bool false), ([] : Heap)) := by
  refine spec (fn := Try.f113) (ann := isNaNi_ann) (t := (.reg [] [] [] (.reg [] [] [] .nil))) (Nat.le_of_ble_eq_true (by kernel_rfl)) ⟨Try.func113, by kernel_rfl, by kernel_rfl, by kernel_rfl⟩ ?_
  refine Eq.mp (by kernel_rfl : ((AV.bdd 0 (AV.bool (n != n)) = true ∧ obsB 0 ([] : Heap) = true) ∧ ((AV.bool (n != n)), ([] : Heap)) = ((AV.bool false), ([] : Heap))) = _) ?_
  refine And.intro (by first | (simp [obsB, AV.bddss, AV.bdds, AV.bdd]; done) | (simp [obsB, AV.bddss, AV.bdds, AV.bdd, -List.map_append]; done) | simp [obsB, AV.bddss, AV.bdds, AV.bdd, -List.map_append, -List.map_set, -List.map_take, -List.map_drop, -List.map_cons, -List.map_map]) ?_
  simp
theorem isNaNi_at (n : Int)  (H : Heap) : ACalls Try.prog 113 [(AV.int .i64 n)] H ((AV.bool false), H) := (isNaNi_spec n ).lift (by kernel_rfl) (by kernel_rfl) H
def compareI_ann : Ann := { fin := some 0 }
set_option maxRecDepth 100000 in
theorem compareI_spec (a b : Int)  : ACalls Try.prog 78 [(AV.int .i64 a), (AV.int .i64 b)] ([] : Heap) ((AV.int .i64 (cmpI a b)), ([] : Heap)) := by
  refine spec (fn := Try.f78) (ann := compareI_ann) (t := (.reg [] [] [] (.reg [(1, ((AV.bool false), ([] : Heap)))] [] [] (.reg [(1, ((AV.bool false), ([] : Heap)))] [] [] (.reg [] [] [] (.two .nil (.reg [] [] [] (.two .nil (.reg [] [] [] (.two (.reg [] [] [] .nil) (.reg [] [] [] (.two (.reg [] [] [] .nil) (.reg [] [] [] .nil))))))))))))) (Nat.le_of_ble_eq_true (by kernel_rfl)) ⟨Try.func78, by kernel_rfl, by kernel_rfl, by kernel_rfl⟩ ?_
  refine Eq.mp (by kernel_rfl : ((ACalls Try.prog 113 [(AV.int .i64 a)] ([] : Heap) ((AV.bool false), ([] : Heap))) ∧ (ACalls Try.prog 113 [(AV.int .i64 b)] ([] : Heap) ((AV.bool false), ([] : Heap))) ∧ cond (decide (a < b)) ((AV.bdd 0 (AV.int .i64 (-1)) = true ∧ obsB 0 ([] : Heap) = true) ∧ ((AV.int .i64 (-1)), ([] : Heap)) = ((AV.int .i64 (cmpI a b)), ([] : Heap))) (cond (decide (a > b)) ((AV.bdd 0 (AV.int .i64 1) = true ∧ obsB 0 ([] : Heap) = true) ∧ ((AV.int .i64 1), ([] : Heap)) = ((AV.int .i64 (cmpI a b)), ([] : Heap))) ((AV.bdd 0 (AV.int .i64 0) = true ∧ obsB 0 ([] : Heap) = true) ∧ ((AV.int .i64 0), ([] : Heap)) = ((AV.int .i64 (cmpI a b)), ([] : Heap))))) = _) ?_
  refine And.intro (isNaNi_at a  ([] : Heap)) ?_
  refine And.intro (isNaNi_at b  ([] : Heap)) ?_
  refine cond_split (fun h1 => ?_) (fun h1 => ?_)
  · have h1' := h1
    try simp at h1'
    refine And.intro (by first | (simp [obsB, AV.bddss, AV.bdds, AV.bdd]; done) | (simp [obsB, AV.bddss, AV.bdds, AV.bdd, -List.map_append]; done) | simp [obsB, AV.bddss, AV.bdds, AV.bdd, -List.map_append, -List.map_set, -List.map_take, -List.map_drop, -List.map_cons, -List.map_map]) ?_
    simp_all [cmpI] <;> omega
  · have h1' := h1
    try simp at h1'
    refine cond_split (fun h2 => ?_) (fun h2 => ?_)
    · have h2' := h2
      try simp at h2'
      refine And.intro (by first | (simp [obsB, AV.bddss, AV.bdds, AV.bdd]; done) | (simp [obsB, AV.bddss, AV.bdds, AV.bdd, -List.map_append]; done) | simp [obsB, AV.bddss, AV.bdds, AV.bdd, -List.map_append, -List.map_set, -List.map_take, -List.map_drop, -List.map_cons, -List.map_map]) ?_
      simp_all [cmpI] <;> omega
    · have h2' := h2
      try simp at h2'
      refine And.intro (by first | (simp [obsB, AV.bddss, AV.bdds, AV.bdd]; done) | (simp [obsB, AV.bddss, AV.bdds, AV.bdd, -List.map_append]; done) | simp [obsB, AV.bddss, AV.bdds, AV.bdd, -List.map_append, -List.map_set, -List.map_take, -List.map_drop, -List.map_cons, -List.map_map]) ?_
      simp_all [cmpI] <;> omega
theorem compareI_at (a b : Int)  (H : Heap) : ACalls Try.prog 78 [(AV.int .i64 a), (AV.int .i64 b)] H ((AV.int .i64 (cmpI a b)), H) := (compareI_spec a b ).lift (by kernel_rfl) (by kernel_rfl) H
def or2_ann : Ann := { fin := some 0 }
set_option maxRecDepth 100000 in
theorem or2_spec (x y : Int)  : ACalls Try.prog 77 [(AV.sl .any 1 [[(AV.int .i64 x)], [(AV.int .i64 y)]])] ([] : Heap) ((AV.int .i64 (if x = 0 then y else x)), ([] : Heap)) := by
  refine spec (fn := Try.f77) (ann := or2_ann) (t := (.reg [] [] [] (.reg [] [] [] (.reg [] [] [] (.roll 3 (.reg [] [] [] (.two (.reg [] [] [] (.reg [] [] [] (.two (.reg [] [] [] .nil) (.reg [] [] [] (.reg [] [] [] (.two (.reg [] [] [] (.reg [] [] [] (.two (.reg [] [] [] .nil) (.reg [] [] [] (.reg [] [] [] (.two .nil (.reg [] [] [] .nil))))))) .nil)))))) .nil))))))) (Nat.le_of_ble_eq_true (by kernel_rfl)) ⟨Try.func77, by kernel_rfl, by kernel_rfl, by kernel_rfl⟩ ?_
  refine Eq.mp (by kernel_rfl : (cond (x != 0) ((AV.bdd 0 (AV.int .i64 x) = true ∧ obsB 0 ([] : Heap) = true) ∧ ((AV.int .i64 x), ([] : Heap)) = ((AV.int .i64 (if x = 0 then y else x)), ([] : Heap))) (cond (y != 0) ((AV.bdd 0 (AV.int .i64 y) = true ∧ obsB 0 ([] : Heap) = true) ∧ ((AV.int .i64 y), ([] : Heap)) = ((AV.int .i64 (if x = 0 then y else x)), ([] : Heap))) ((AV.bdd 0 (AV.int .i64 0) = true ∧ obsB 0 ([] : Heap) = true) ∧ ((AV.int .i64 0), ([] : Heap)) = ((AV.int .i64 (if x = 0 then y else x)), ([] : Heap))))) = _) ?_
  refine cond_split (fun h1 => ?_) (fun h1 => ?_)
  · have h1' := h1
    try simp at h1'
    refine And.intro (by first | (simp [obsB, AV.bddss, AV.bdds, AV.bdd]; done) | (simp [obsB, AV.bddss, AV.bdds, AV.bdd, -List.map_append]; done) | simp [obsB, AV.bddss, AV.bdds, AV.bdd, -List.map_append, -List.map_set, -List.map_take, -List.map_drop, -List.map_cons, -List.map_map]) ?_
    simp_all
  · have h1' := h1
    try simp at h1'
    refine cond_split (fun h2 => ?_) (fun h2 => ?_)
    · have h2' := h2
      try simp at h2'
      refine And.intro (by first | (simp [obsB, AV.bddss, AV.bdds, AV.bdd]; done) | (simp [obsB, AV.bddss, AV.bdds, AV.bdd, -List.map_append]; done) | simp [obsB, AV.bddss, AV.bdds, AV.bdd, -List.map_append, -List.map_set, -List.map_take, -List.map_drop, -List.map_cons, -List.map_map]) ?_
      simp_all
    · have h2' := h2
      try simp at h2'
      refine And.intro (by first | (simp [obsB, AV.bddss, AV.bdds, AV.bdd]; done) | (simp [obsB, AV.bddss, AV.bdds, AV.bdd, -List.map_append]; done) | simp [obsB, AV.bddss, AV.bdds, AV.bdd, -List.map_append, -List.map_set, -List.map_take, -List.map_drop, -List.map_cons, -List.map_map]) ?_
      simp_all
theorem or2_at (x y : Int)  (H : Heap) : ACalls Try.prog 77 [(AV.sl .any 1 [[(AV.int .i64 x)], [(AV.int .i64 y)]])] H ((AV.int .i64 (if x = 0 then y else x)), H) := (or2_spec x y ).lift (by kernel_rfl) (by kernel_rfl) H
def keyCmp_ann : Ann := { refs := [2, 3], fin := some 0 }
set_option maxRecDepth 100000 in
theorem keyCmp_spec (a b : Key)  : ACalls Try.prog 120 [(AV.agg (Key.row a)), (AV.agg (Key.row b))] ([] : Heap) ((AV.int .i64 (cmpK a b)), ([] : Heap)) := by
  refine spec (fn := Try.f120) (ann := keyCmp_ann) (t := (.reg [] [] [] (.reg [(4, ((AV.int .i64 (cmpS a.app b.app)), ([] : Heap))), (9, ((AV.int .i64 (cmpS a.id b.id)), ([] : Heap))), (11, ((AV.int .i64 (if (cmpS a.app b.app) = 0 then (cmpS a.id b.id) else (cmpS a.app b.app))), ([] : Heap)))] [] [] .nil))) (Nat.le_of_ble_eq_true (by kernel_rfl)) ⟨Try.func120, by kernel_rfl, by kernel_rfl, by kernel_rfl⟩ ?_
  refine Eq.mp (by kernel_rfl : ((ACalls Try.prog 135 [(AV.str a.app), (AV.str b.app)] ([] : Heap) ((AV.int .i64 (cmpS a.app b.app)), ([] : Heap))) ∧ (ACalls Try.prog 135 [(AV.str a.id), (AV.str b.id)] ([] : Heap) ((AV.int .i64 (cmpS a.id b.id)), ([] : Heap))) ∧ (ACalls Try.prog 77 [(AV.sl .clip 1 [[(AV.int .i64 (cmpS a.app b.app))], [(AV.int .i64 (cmpS a.id b.id))]])] ([] : Heap) ((AV.int .i64 (if (cmpS a.app b.app) = 0 then (cmpS a.id b.id) else (cmpS a.app b.app))), ([] : Heap))) ∧ (AV.bdd 0 (AV.int .i64 (if (cmpS a.app b.app) = 0 then (cmpS a.id b.id) else (cmpS a.app b.app))) = true ∧ obsB 0 ([] : Heap) = true) ∧ ((AV.int .i64 (if (cmpS a.app b.app) = 0 then (cmpS a.id b.id) else (cmpS a.app b.app))), ([] : Heap)) = ((AV.int .i64 (cmpK a b)), ([] : Heap))) = _) ?_
  refine And.intro (compareS_at a.app b.app  ([] : Heap)) ?_
  refine And.intro (compareS_at a.id b.id  ([] : Heap)) ?_
  refine And.intro ((or2_at (cmpS a.app b.app) (cmpS a.id b.id)  ([] : Heap)).pre ⟨⟨rfl, rfl, .inl rfl⟩, trivial⟩) ?_
  refine And.intro (by first | (simp [obsB, AV.bddss, AV.bdds, AV.bdd]; done) | (simp [obsB, AV.bddss, AV.bdds, AV.bdd, -List.map_append]; done) | simp [obsB, AV.bddss, AV.bdds, AV.bdd, -List.map_append, -List.map_set, -List.map_take, -List.map_drop, -List.map_cons, -List.map_map]) ?_
  simp [cmpK]
theorem keyCmp_at (a b : Key)  (H : Heap) : ACalls Try.prog 120 [(AV.agg (Key.row a)), (AV.agg (Key.row b))] H ((AV.int .i64 (cmpK a b)), H) := (keyCmp_spec a b ).lift (by kernel_rfl) (by kernel_rfl) H
end Go.Proofs.Ytpkgpldgoajphaa.AM

set_option maxRecDepth 100000
set_option linter.unusedVariables false
set_option linter.unusedSimpArgs false
namespace Go.Proofs.Ytpkgpldgoajphaa.AM
open Go Go.Proofs.Ytpkgpldgoajphaa
attribute [local irreducible] ACalls funT codeT codeQ LoopTo
structure Tp where
  l : List Int
  pos : Nat
  deriving Inhabited
def Tp.row (x : Tp) : List AV := [(AV.sl .any 1 (List.map rI64 x.l)), (AV.int .i64 ((x.pos : Nat) : Int))]
@[simp] theorem Tp.row_bdd (n : Nat) (x : Tp) : AV.bdds n x.row = true := by simp [Tp.row, AV.bdds, AV.bdd]
@[simp] theorem Tp.rows_bdd (n : Nat) (l : List Tp) : AV.bddss n (l.map Tp.row) = true := by induction l with | nil => rfl | cons x l ih => simp [AV.bddss, Tp.row_bdd, ih]
def held (n : Int) : Int := max 0 (min n 4611686018427387904)
/-- 0 to hi. -/
def wN (x : Int) (hi : Nat) : Nat := if 0 ≤ x ∧ x ≤ hi then x.toNat else if Int.tmod x (((hi + 1 : Nat) : Int)) < 0 then (Int.tmod x (((hi + 1 : Nat) : Int)) + hi + 1).toNat else (Int.tmod x (((hi + 1 : Nat) : Int))).toNat
theorem tmod_bd (x : Int) (n : Nat) (h : 0 < n) : -(n : Int) < Int.tmod x n ∧ Int.tmod x n < n := by
  have h1 := Int.tmod_lt_of_pos x (show (0 : Int) < n by omega)
  have h2 := Int.tmod_lt_of_pos (-x) (show (0 : Int) < n by omega)
  rw [Int.neg_tmod] at h2
  omega
def within_ann : Ann := { fin := some 0 }
set_option maxRecDepth 100000 in
theorem within_spec (x : Int) (hi : Nat) (hh : hi < 1099511627776) : ACalls Try.prog 34 [(AV.int .i64 x), (AV.int .i64 0), (AV.int .i64 ((hi : Nat) : Int))] ([] : Heap) ((AV.int .i64 ((wN x hi : Nat) : Int)), ([] : Heap)) := by
  have hb := tmod_bd x (hi + 1) (by omega)
  refine spec (fn := Try.f34) (ann := within_ann) (t := (.reg [] [] [] (.reg [] [] [] (.two (.two (.two (.two (.reg [] [] [] .nil) (.reg [(3, ((AV.int .i64 ((hi : Nat) : Int)), ([] : Heap))), (4, ((AV.int .i64 ((hi + 1 : Nat) : Int)), ([] : Heap))), (5, ((AV.int .i64 (Int.tmod x ((hi + 1 : Nat) : Int))), ([] : Heap)))] [] [] (.reg [] [] [] (.two (.reg [(2, ((AV.int .i64 ((Int.tmod x ((hi + 1 : Nat) : Int)) + ((hi : Nat) : Int))), ([] : Heap))), (4, ((AV.int .i64 (((Int.tmod x ((hi + 1 : Nat) : Int)) + ((hi : Nat) : Int)) - 0)), ([] : Heap))), (5, ((AV.int .i64 ((((Int.tmod x ((hi + 1 : Nat) : Int)) + ((hi : Nat) : Int)) - 0) + 1)), ([] : Heap)))] [] [] (.reg [(2, ((AV.int .i64 (0 + ((((Int.tmod x ((hi + 1 : Nat) : Int)) + ((hi : Nat) : Int)) - 0) + 1))), ([] : Heap)))] [] [] .nil)) (.reg [(2, ((AV.int .i64 (0 + (Int.tmod x ((hi + 1 : Nat) : Int)))), ([] : Heap)))] [] [] .nil))))) .nil) .nil) (.two .nil (.two .nil (.two .nil (.reg [(3, ((AV.int .i64 ((hi : Nat) : Int)), ([] : Heap))), (4, ((AV.int .i64 ((hi + 1 : Nat) : Int)), ([] : Heap))), (5, ((AV.int .i64 (Int.tmod x ((hi + 1 : Nat) : Int))), ([] : Heap)))] [] [] (.reg [] [] [] (.two (.reg [(2, ((AV.int .i64 ((Int.tmod x ((hi + 1 : Nat) : Int)) + ((hi : Nat) : Int))), ([] : Heap))), (4, ((AV.int .i64 (((Int.tmod x ((hi + 1 : Nat) : Int)) + ((hi : Nat) : Int)) - 0)), ([] : Heap))), (5, ((AV.int .i64 ((((Int.tmod x ((hi + 1 : Nat) : Int)) + ((hi : Nat) : Int)) - 0) + 1)), ([] : Heap)))] [] [] (.reg [(2, ((AV.int .i64 (0 + ((((Int.tmod x ((hi + 1 : Nat) : Int)) + ((hi : Nat) : Int)) - 0) + 1))), ([] : Heap)))] [] [] .nil)) (.reg [(2, ((AV.int .i64 (0 + (Int.tmod x ((hi + 1 : Nat) : Int)))), ([] : Heap)))] [] [] .nil))))))))))) (Nat.le_of_ble_eq_true (by kernel_rfl)) ⟨Try.func34, by kernel_rfl, by kernel_rfl, by kernel_rfl⟩ ?_
  refine Eq.mp (by kernel_rfl : (cond (decide (x ≥ 0)) (cond (decide (x ≤ ((hi : Nat) : Int))) ((AV.bdd 0 (AV.int .i64 x) = true ∧ obsB 0 ([] : Heap) = true) ∧ ((AV.int .i64 x), ([] : Heap)) = ((AV.int .i64 ((wN x hi : Nat) : Int)), ([] : Heap))) ((Yes (.int .i64 (IntKind.i64.wrap (((hi : Nat) : Int) - 0))) ([] : Heap) (AV.int .i64 ((hi : Nat) : Int))) ∧ (Yes (.int .i64 (IntKind.i64.wrap (((hi : Nat) : Int) + 1))) ([] : Heap) (AV.int .i64 ((hi + 1 : Nat) : Int))) ∧ (Option.map (fun a => (a, ([] : Heap))) (if (((hi + 1 : Nat) : Int) : Int) = 0 then none else some (AV.int .i64 (Int.tmod x ((hi + 1 : Nat) : Int)))) = some ((AV.int .i64 (Int.tmod x ((hi + 1 : Nat) : Int))), ([] : Heap))) ∧ cond (decide ((Int.tmod x ((hi + 1 : Nat) : Int)) < 0)) ((Yes (.int .i64 (IntKind.i64.wrap ((Int.tmod x ((hi + 1 : Nat) : Int)) + ((hi : Nat) : Int)))) ([] : Heap) (AV.int .i64 ((Int.tmod x ((hi + 1 : Nat) : Int)) + ((hi : Nat) : Int)))) ∧ (Yes (.int .i64 (IntKind.i64.wrap (((Int.tmod x ((hi + 1 : Nat) : Int)) + ((hi : Nat) : Int)) - 0))) ([] : Heap) (AV.int .i64 (((Int.tmod x ((hi + 1 : Nat) : Int)) + ((hi : Nat) : Int)) - 0))) ∧ (Yes (.int .i64 (IntKind.i64.wrap ((((Int.tmod x ((hi + 1 : Nat) : Int)) + ((hi : Nat) : Int)) - 0) + 1))) ([] : Heap) (AV.int .i64 ((((Int.tmod x ((hi + 1 : Nat) : Int)) + ((hi : Nat) : Int)) - 0) + 1))) ∧ (Yes (.int .i64 (IntKind.i64.wrap (0 + ((((Int.tmod x ((hi + 1 : Nat) : Int)) + ((hi : Nat) : Int)) - 0) + 1)))) ([] : Heap) (AV.int .i64 (0 + ((((Int.tmod x ((hi + 1 : Nat) : Int)) + ((hi : Nat) : Int)) - 0) + 1)))) ∧ (AV.bdd 0 (AV.int .i64 (0 + ((((Int.tmod x ((hi + 1 : Nat) : Int)) + ((hi : Nat) : Int)) - 0) + 1))) = true ∧ obsB 0 ([] : Heap) = true) ∧ ((AV.int .i64 (0 + ((((Int.tmod x ((hi + 1 : Nat) : Int)) + ((hi : Nat) : Int)) - 0) + 1))), ([] : Heap)) = ((AV.int .i64 ((wN x hi : Nat) : Int)), ([] : Heap))) ((Yes (.int .i64 (IntKind.i64.wrap (0 + (Int.tmod x ((hi + 1 : Nat) : Int))))) ([] : Heap) (AV.int .i64 (0 + (Int.tmod x ((hi + 1 : Nat) : Int))))) ∧ (AV.bdd 0 (AV.int .i64 (0 + (Int.tmod x ((hi + 1 : Nat) : Int)))) = true ∧ obsB 0 ([] : Heap) = true) ∧ ((AV.int .i64 (0 + (Int.tmod x ((hi + 1 : Nat) : Int)))), ([] : Heap)) = ((AV.int .i64 ((wN x hi : Nat) : Int)), ([] : Heap))))) ((Yes (.int .i64 (IntKind.i64.wrap (((hi : Nat) : Int) - 0))) ([] : Heap) (AV.int .i64 ((hi : Nat) : Int))) ∧ (Yes (.int .i64 (IntKind.i64.wrap (((hi : Nat) : Int) + 1))) ([] : Heap) (AV.int .i64 ((hi + 1 : Nat) : Int))) ∧ (Option.map (fun a => (a, ([] : Heap))) (if (((hi + 1 : Nat) : Int) : Int) = 0 then none else some (AV.int .i64 (Int.tmod x ((hi + 1 : Nat) : Int)))) = some ((AV.int .i64 (Int.tmod x ((hi + 1 : Nat) : Int))), ([] : Heap))) ∧ cond (decide ((Int.tmod x ((hi + 1 : Nat) : Int)) < 0)) ((Yes (.int .i64 (IntKind.i64.wrap ((Int.tmod x ((hi + 1 : Nat) : Int)) + ((hi : Nat) : Int)))) ([] : Heap) (AV.int .i64 ((Int.tmod x ((hi + 1 : Nat) : Int)) + ((hi : Nat) : Int)))) ∧ (Yes (.int .i64 (IntKind.i64.wrap (((Int.tmod x ((hi + 1 : Nat) : Int)) + ((hi : Nat) : Int)) - 0))) ([] : Heap) (AV.int .i64 (((Int.tmod x ((hi + 1 : Nat) : Int)) + ((hi : Nat) : Int)) - 0))) ∧ (Yes (.int .i64 (IntKind.i64.wrap ((((Int.tmod x ((hi + 1 : Nat) : Int)) + ((hi : Nat) : Int)) - 0) + 1))) ([] : Heap) (AV.int .i64 ((((Int.tmod x ((hi + 1 : Nat) : Int)) + ((hi : Nat) : Int)) - 0) + 1))) ∧ (Yes (.int .i64 (IntKind.i64.wrap (0 + ((((Int.tmod x ((hi + 1 : Nat) : Int)) + ((hi : Nat) : Int)) - 0) + 1)))) ([] : Heap) (AV.int .i64 (0 + ((((Int.tmod x ((hi + 1 : Nat) : Int)) + ((hi : Nat) : Int)) - 0) + 1)))) ∧ (AV.bdd 0 (AV.int .i64 (0 + ((((Int.tmod x ((hi + 1 : Nat) : Int)) + ((hi : Nat) : Int)) - 0) + 1))) = true ∧ obsB 0 ([] : Heap) = true) ∧ ((AV.int .i64 (0 + ((((Int.tmod x ((hi + 1 : Nat) : Int)) + ((hi : Nat) : Int)) - 0) + 1))), ([] : Heap)) = ((AV.int .i64 ((wN x hi : Nat) : Int)), ([] : Heap))) ((Yes (.int .i64 (IntKind.i64.wrap (0 + (Int.tmod x ((hi + 1 : Nat) : Int))))) ([] : Heap) (AV.int .i64 (0 + (Int.tmod x ((hi + 1 : Nat) : Int))))) ∧ (AV.bdd 0 (AV.int .i64 (0 + (Int.tmod x ((hi + 1 : Nat) : Int)))) = true ∧ obsB 0 ([] : Heap) = true) ∧ ((AV.int .i64 (0 + (Int.tmod x ((hi + 1 : Nat) : Int)))), ([] : Heap)) = ((AV.int .i64 ((wN x hi : Nat) : Int)), ([] : Heap))))) = _) ?_
  refine cond_split (fun h1 => ?_) (fun h1 => ?_)
  · have h1' := h1
    try simp at h1'
    refine cond_split (fun h2 => ?_) (fun h2 => ?_)
    · have h2' := h2
      try simp at h2'
      refine And.intro (by first | (simp [obsB, AV.bddss, AV.bdds, AV.bdd]; done) | (simp [obsB, AV.bddss, AV.bdds, AV.bdd, -List.map_append]; done) | simp [obsB, AV.bddss, AV.bdds, AV.bdd, -List.map_append, -List.map_set, -List.map_take, -List.map_drop, -List.map_cons, -List.map_map]) ?_
      simp_all [wN]
      all_goals first | done | omega | (split <;> omega) | (split <;> first | omega | (split <;> omega))
    · have h2' := h2
      try simp at h2'
      refine And.intro (Yes.add (by omega) (by omega) (by omega)) ?_
      refine And.intro (Yes.add (by omega) (by omega) (by omega)) ?_
      refine And.intro (quo_some (by omega) rfl) ?_
      refine cond_split (fun h3 => ?_) (fun h3 => ?_)
      · have h3' := h3
        try simp at h3'
        refine And.intro (Yes.add (by omega) (by omega) rfl) ?_
        refine And.intro (Yes.add (by omega) (by omega) rfl) ?_
        refine And.intro (Yes.add (by omega) (by omega) rfl) ?_
        refine And.intro (Yes.add (by omega) (by omega) rfl) ?_
        refine And.intro (by first | (simp [obsB, AV.bddss, AV.bdds, AV.bdd]; done) | (simp [obsB, AV.bddss, AV.bdds, AV.bdd, -List.map_append]; done) | simp [obsB, AV.bddss, AV.bdds, AV.bdd, -List.map_append, -List.map_set, -List.map_take, -List.map_drop, -List.map_cons, -List.map_map]) ?_
        simp_all [wN]
        all_goals first | done | omega | (split <;> omega) | (split <;> first | omega | (split <;> omega))
      · have h3' := h3
        try simp at h3'
        refine And.intro (Yes.add (by omega) (by omega) rfl) ?_
        refine And.intro (by first | (simp [obsB, AV.bddss, AV.bdds, AV.bdd]; done) | (simp [obsB, AV.bddss, AV.bdds, AV.bdd, -List.map_append]; done) | simp [obsB, AV.bddss, AV.bdds, AV.bdd, -List.map_append, -List.map_set, -List.map_take, -List.map_drop, -List.map_cons, -List.map_map]) ?_
        simp_all [wN]
        all_goals first | done | omega | (split <;> omega) | (split <;> first | omega | (split <;> omega))
  · have h1' := h1
    try simp at h1'
    refine And.intro (Yes.add (by omega) (by omega) (by omega)) ?_
    refine And.intro (Yes.add (by omega) (by omega) (by omega)) ?_
    refine And.intro (quo_some (by omega) rfl) ?_
    refine cond_split (fun h2 => ?_) (fun h2 => ?_)
    · have h2' := h2
      try simp at h2'
      refine And.intro (Yes.add (by omega) (by omega) rfl) ?_
      refine And.intro (Yes.add (by omega) (by omega) rfl) ?_
      refine And.intro (Yes.add (by omega) (by omega) rfl) ?_
      refine And.intro (Yes.add (by omega) (by omega) rfl) ?_
      refine And.intro (by first | (simp [obsB, AV.bddss, AV.bdds, AV.bdd]; done) | (simp [obsB, AV.bddss, AV.bdds, AV.bdd, -List.map_append]; done) | simp [obsB, AV.bddss, AV.bdds, AV.bdd, -List.map_append, -List.map_set, -List.map_take, -List.map_drop, -List.map_cons, -List.map_map]) ?_
      simp_all [wN]
      all_goals first | done | omega | (split <;> omega) | (split <;> first | omega | (split <;> omega))
    · have h2' := h2
      try simp at h2'
      refine And.intro (Yes.add (by omega) (by omega) rfl) ?_
      refine And.intro (by first | (simp [obsB, AV.bddss, AV.bdds, AV.bdd]; done) | (simp [obsB, AV.bddss, AV.bdds, AV.bdd, -List.map_append]; done) | simp [obsB, AV.bddss, AV.bdds, AV.bdd, -List.map_append, -List.map_set, -List.map_take, -List.map_drop, -List.map_cons, -List.map_map]) ?_
      simp_all [wN]
      all_goals first | done | omega | (split <;> omega) | (split <;> first | omega | (split <;> omega))
theorem within_at (x : Int) (hi : Nat) (hh : hi < 1099511627776) (H : Heap) : ACalls Try.prog 34 [(AV.int .i64 x), (AV.int .i64 0), (AV.int .i64 ((hi : Nat) : Int))] H ((AV.int .i64 ((wN x hi : Nat) : Int)), H) := (within_spec x hi hh).lift (by kernel_rfl) (by kernel_rfl) H
def Tp.next (t : Tp) (n : Nat) : Nat := if t.l.length ≤ t.pos ∨ n < 1 then 0 else wN (nth t.l t.pos) 1073741824 % n
def Tp.step (t : Tp) (n : Nat) : Tp := if t.l.length ≤ t.pos ∨ n < 1 then t else ⟨t.l, t.pos + 1⟩
theorem Tp.next_lt (t : Tp) (n : Nat) (h : 0 < n) : t.next n < n := by
  unfold Tp.next
  split
  · omega
  · exact Nat.mod_lt _ h
def next_ann : Ann := { base := 1, fin := some 1 }
set_option maxRecDepth 100000 in
theorem next_spec (t : Tp) (n : Nat) (hl : t.l.length < 9223372036854775808) : ACalls Try.prog 21 [(AV.obj 0 0 0 0), (AV.int .i64 ((n : Nat) : Int))] ([⟨0, 2, [(Tp.row t)], none⟩] : Heap) ((AV.int .i64 ((t.next n : Nat) : Int)), ([⟨0, 2, [(Tp.row (t.step n))], none⟩] : Heap)) := by
  refine spec (fn := Try.f21) (ann := next_ann) (t := (.reg [] [] [] (.reg [(8, ((AV.int .i64 ((t.l.length : Nat) : Int)), ([⟨0, 2, [(Tp.row t)], none⟩] : Heap)))] [] [] (.two (.two (.two (.reg [] [] [] .nil) .nil) .nil) (.two .nil (.two (.reg [] [] [] .nil) (.reg [(4, ((AV.int .i64 ((t.pos + 1 : Nat) : Int)), ([⟨0, 2, [(Tp.row t)], none⟩] : Heap)))] [] [] (.reg [(8, ((AV.int .i64 ((t.pos + 1 - 1 : Nat) : Int)), ([⟨0, 2, [[(AV.sl .any 1 (List.map rI64 t.l)), (AV.int .i64 ((t.pos + 1 : Nat) : Int))]], none⟩] : Heap))), (9, ((AV.ref [(AV.int .i64 (nth t.l (t.pos + 1 - 1)))] 0), ([⟨0, 2, [[(AV.sl .any 1 (List.map rI64 t.l)), (AV.int .i64 ((t.pos + 1 : Nat) : Int))]], none⟩] : Heap))), (11, ((AV.int .i64 ((wN (nth t.l (t.pos + 1 - 1)) 1073741824 : Nat) : Int)), ([⟨0, 2, [[(AV.sl .any 1 (List.map rI64 t.l)), (AV.int .i64 ((t.pos + 1 : Nat) : Int))]], none⟩] : Heap))), (13, ((AV.int .i64 (((wN (nth t.l (t.pos + 1 - 1)) 1073741824) % n : Nat) : Int)), ([⟨0, 2, [[(AV.sl .any 1 (List.map rI64 t.l)), (AV.int .i64 ((t.pos + 1 : Nat) : Int))]], none⟩] : Heap)))] [] [] .nil)))))))) (Nat.le_of_ble_eq_true (by kernel_rfl)) ⟨Try.func21, by kernel_rfl, by kernel_rfl, by kernel_rfl⟩ ?_
  refine Eq.mp (by kernel_rfl : ((Yes (.int .i64 ((List.length (List.map rI64 t.l) : Nat) : Int)) ([⟨0, 2, [(Tp.row t)], none⟩] : Heap) (AV.int .i64 ((t.l.length : Nat) : Int))) ∧ cond (decide (((t.pos : Nat) : Int) ≥ ((t.l.length : Nat) : Int))) ((AV.bdd 1 (AV.int .i64 0) = true ∧ obsB 1 ([⟨0, 2, [(Tp.row t)], none⟩] : Heap) = true) ∧ ((AV.int .i64 0), ([⟨0, 2, [(Tp.row t)], none⟩] : Heap)) = ((AV.int .i64 ((t.next n : Nat) : Int)), ([⟨0, 2, [(Tp.row (t.step n))], none⟩] : Heap))) (cond (decide (((n : Nat) : Int) < 1)) ((AV.bdd 1 (AV.int .i64 0) = true ∧ obsB 1 ([⟨0, 2, [(Tp.row t)], none⟩] : Heap) = true) ∧ ((AV.int .i64 0), ([⟨0, 2, [(Tp.row t)], none⟩] : Heap)) = ((AV.int .i64 ((t.next n : Nat) : Int)), ([⟨0, 2, [(Tp.row (t.step n))], none⟩] : Heap))) ((Yes (.int .i64 (IntKind.i64.wrap (((t.pos : Nat) : Int) + 1))) ([⟨0, 2, [(Tp.row t)], none⟩] : Heap) (AV.int .i64 ((t.pos + 1 : Nat) : Int))) ∧ (Yes (.int .i64 (IntKind.i64.wrap (((t.pos + 1 : Nat) : Int) - 1))) ([⟨0, 2, [[(AV.sl .any 1 (List.map rI64 t.l)), (AV.int .i64 ((t.pos + 1 : Nat) : Int))]], none⟩] : Heap) (AV.int .i64 ((t.pos + 1 - 1 : Nat) : Int))) ∧ (IdxSl 1 1 (List.map rI64 t.l) ((t.pos + 1 - 1 : Nat) : Int) ([⟨0, 2, [[(AV.sl .any 1 (List.map rI64 t.l)), (AV.int .i64 ((t.pos + 1 : Nat) : Int))]], none⟩] : Heap) (rI64 (nth t.l (t.pos + 1 - 1)))) ∧ (ACalls Try.prog 34 [(AV.int .i64 (nth t.l (t.pos + 1 - 1))), (AV.int .i64 0), (AV.int .i64 1073741824)] ([⟨0, 2, [[(AV.sl .any 1 (List.map rI64 t.l)), (AV.int .i64 ((t.pos + 1 : Nat) : Int))]], none⟩] : Heap) ((AV.int .i64 ((wN (nth t.l (t.pos + 1 - 1)) 1073741824 : Nat) : Int)), ([⟨0, 2, [[(AV.sl .any 1 (List.map rI64 t.l)), (AV.int .i64 ((t.pos + 1 : Nat) : Int))]], none⟩] : Heap))) ∧ (Option.map (fun a => (a, ([⟨0, 2, [[(AV.sl .any 1 (List.map rI64 t.l)), (AV.int .i64 ((t.pos + 1 : Nat) : Int))]], none⟩] : Heap))) (if (((n : Nat) : Int) : Int) = 0 then none else some (AV.int .i64 (Int.tmod ((wN (nth t.l (t.pos + 1 - 1)) 1073741824 : Nat) : Int) ((n : Nat) : Int)))) = some ((AV.int .i64 (((wN (nth t.l (t.pos + 1 - 1)) 1073741824) % n : Nat) : Int)), ([⟨0, 2, [[(AV.sl .any 1 (List.map rI64 t.l)), (AV.int .i64 ((t.pos + 1 : Nat) : Int))]], none⟩] : Heap))) ∧ (AV.bdd 1 (AV.int .i64 (((wN (nth t.l (t.pos + 1 - 1)) 1073741824) % n : Nat) : Int)) = true ∧ obsB 1 ([⟨0, 2, [[(AV.sl .any 1 (List.map rI64 t.l)), (AV.int .i64 ((t.pos + 1 : Nat) : Int))]], none⟩] : Heap) = true) ∧ ((AV.int .i64 (((wN (nth t.l (t.pos + 1 - 1)) 1073741824) % n : Nat) : Int)), ([⟨0, 2, [[(AV.sl .any 1 (List.map rI64 t.l)), (AV.int .i64 ((t.pos + 1 : Nat) : Int))]], none⟩] : Heap)) = ((AV.int .i64 ((t.next n : Nat) : Int)), ([⟨0, 2, [(Tp.row (t.step n))], none⟩] : Heap))))) = _) ?_
  refine And.intro (Yes.len _ _ _) ?_
  refine cond_split (fun h1 => ?_) (fun h1 => ?_)
  · have h1' := h1
    try simp at h1'
    refine And.intro (by first | (simp [obsB, AV.bddss, AV.bdds, AV.bdd]; done) | (simp [obsB, AV.bddss, AV.bdds, AV.bdd, -List.map_append]; done) | simp [obsB, AV.bddss, AV.bdds, AV.bdd, -List.map_append, -List.map_set, -List.map_take, -List.map_drop, -List.map_cons, -List.map_map]) ?_
    simp only [Tp.next, Tp.step]
    first | rw [if_pos (by omega), if_pos (by omega)] | rw [if_neg (by omega), if_neg (by omega)]
    first | rfl | simp [Tp.row]
  · have h1' := h1
    try simp at h1'
    refine cond_split (fun h2 => ?_) (fun h2 => ?_)
    · have h2' := h2
      try simp at h2'
      refine And.intro (by first | (simp [obsB, AV.bddss, AV.bdds, AV.bdd]; done) | (simp [obsB, AV.bddss, AV.bdds, AV.bdd, -List.map_append]; done) | simp [obsB, AV.bddss, AV.bdds, AV.bdd, -List.map_append, -List.map_set, -List.map_take, -List.map_drop, -List.map_cons, -List.map_map]) ?_
      simp only [Tp.next, Tp.step]
      first | rw [if_pos (by omega), if_pos (by omega)] | rw [if_neg (by omega), if_neg (by omega)]
      first | rfl | simp [Tp.row]
    · have h2' := h2
      try simp at h2'
      refine And.intro (Yes.add (by omega) (by omega) (by omega)) ?_
      refine And.intro (Yes.add (by omega) (by omega) (by omega)) ?_
      refine And.intro (IdxSl.mk _ (by omega) (by omega)) ?_
      refine And.intro ((within_at (nth t.l (t.pos + 1 - 1)) 1073741824 (by first | omega | assumption | (simp; done) | (simp; omega) | (simp_all; done) | (simp_all; omega)) ([⟨0, 2, [[(AV.sl .any 1 (List.map rI64 t.l)), (AV.int .i64 ((t.pos + 1 : Nat) : Int))]], none⟩] : Heap)).pre ⟨AV.wk_refl_any _, AV.wk_refl_any _, AV.wk_refl_any _, trivial⟩) ?_
      refine And.intro (rem_nat (by omega)) ?_
      refine And.intro (by first | (simp [obsB, AV.bddss, AV.bdds, AV.bdd]; done) | (simp [obsB, AV.bddss, AV.bdds, AV.bdd, -List.map_append]; done) | simp [obsB, AV.bddss, AV.bdds, AV.bdd, -List.map_append, -List.map_set, -List.map_take, -List.map_drop, -List.map_cons, -List.map_map]) ?_
      simp only [Tp.next, Tp.step]
      first | rw [if_pos (by omega), if_pos (by omega)] | rw [if_neg (by omega), if_neg (by omega)]
      first | rfl | simp [Tp.row]
theorem next_at (t : Tp) (n : Nat) (hl : t.l.length < 9223372036854775808) (H : Heap) : ACalls Try.prog 21 [(AV.obj 0 0 0 0), (AV.int .i64 ((n : Nat) : Int))] (([⟨0, 2, [(Tp.row t)], none⟩] : Heap) ++ H) ((AV.int .i64 ((t.next n : Nat) : Int)), ([⟨0, 2, [(Tp.row (t.step n))], none⟩] : Heap) ++ H) := (next_spec t n hl).ext (by kernel_rfl) (by kernel_rfl) (by first | (simp [obsB, AV.bddss, AV.bdds, AV.bdd]; done) | (simp [obsB, AV.bddss, AV.bdds, AV.bdd, -List.map_append]; done) | simp [obsB, AV.bddss, AV.bdds, AV.bdd, -List.map_append, -List.map_set, -List.map_take, -List.map_drop, -List.map_cons, -List.map_map]) (by first | (simp [obsB, AV.bddss, AV.bdds, AV.bdd]; done) | (simp [obsB, AV.bddss, AV.bdds, AV.bdd, -List.map_append]; done) | simp [obsB, AV.bddss, AV.bdds, AV.bdd, -List.map_append, -List.map_set, -List.map_take, -List.map_drop, -List.map_cons, -List.map_map]) (by kernel_rfl) H
end Go.Proofs.Ytpkgpldgoajphaa.AM

set_option maxRecDepth 100000
set_option linter.unusedVariables false
set_option linter.unusedSimpArgs false
namespace Go.Proofs.Ytpkgpldgoajphaa.AM
open Go Go.Proofs.Ytpkgpldgoajphaa
attribute [local irreducible] ACalls funT codeT codeQ LoopTo
theorem Tp.step_l (t : Tp) (n : Nat) : (t.step n).l = t.l := by unfold Tp.step; split <;> rfl
def apps : List ByteArray := [(ByteArray.mk #[97, 112, 112]), (ByteArray.mk #[98]), (ByteArray.mk #[97, 112, 112, 49]), (ByteArray.mk #[122, 57])]
def idsL : List ByteArray := [(ByteArray.mk #[105, 100]), (ByteArray.mk #[97]), (ByteArray.mk #[105, 100, 50]), (ByteArray.mk #[120, 48]), (ByteArray.mk #[109])]
def Tp.key (t : Tp) : Key := ⟨nth apps (t.next 4), nth idsL ((t.step 4).next 5)⟩
def Tp.keyT (t : Tp) : Tp := (t.step 4).step 5
def Tp.stamp (t : Tp) : Stamp := ⟨(t.next 40 : Nat), ((t.step 40).next 6 : Nat), (((t.step 40).step 6).next 9 : Nat)⟩
def Tp.stampT (t : Tp) : Tp := ((t.step 40).step 6).step 9
theorem Tp.keyT_l (t : Tp) : t.keyT.l = t.l := by simp [Tp.keyT, Tp.step_l]
theorem Tp.stampT_l (t : Tp) : t.stampT.l = t.l := by simp [Tp.stampT, Tp.step_l]
def Tp.c1 (t : Tp) : Tp := t.keyT.step 2
def Tp.c2 (t : Tp) : Tp := t.c1.step 7
def Tp.c3 (t : Tp) : Tp := t.c2.step 60
def Tp.c4 (t : Tp) : Tp := t.c3.stampT
def Tp.card (t : Tp) : Card := ⟨t.key, (1 + t.keyT.next 2 : Nat), (t.c1.next 7 / 2 : Nat), (1 + t.c2.next 60 : Nat), t.c3.stamp, ((t.c4.next 4 : Nat) : Int) == 0⟩
def Tp.cardT (t : Tp) : Tp := t.c4.step 4
theorem Tp.cardT_l (t : Tp) : t.cardT.l = t.l := by simp [Tp.cardT, Tp.c4, Tp.c3, Tp.c2, Tp.c1, Tp.keyT_l, Tp.stampT_l, Tp.step_l]
def key_ann : Ann := { base := 1, fin := some 1 }
set_option maxRecDepth 100000 in
theorem key_spec (t : Tp) (hl : t.l.length < 9223372036854775808) : ACalls Try.prog 58 [(AV.obj 0 0 0 0)] ([⟨0, 2, [(Tp.row t)], none⟩] : Heap) ((AV.agg (Key.row t.key)), ([⟨0, 2, [(Tp.row t.keyT)], none⟩] : Heap)) := by
  have h4 := t.next_lt 4 (by omega)
  have h5 := (t.step 4).next_lt 5 (by omega)
  refine spec (fn := Try.f58) (ann := key_ann) (t := (.reg [] [] [] (.reg [(2, ((AV.int .i64 ((t.next 4 : Nat) : Int)), ([⟨0, 2, [(Tp.row (t.step 4))], none⟩, ⟨0, 2, [[(AV.str (ByteArray.mk #[])), (AV.str (ByteArray.mk #[]))]], none⟩] : Heap))), (3, ((AV.ref [(AV.str (nth ([(ByteArray.mk #[97, 112, 112]), (ByteArray.mk #[98]), (ByteArray.mk #[97, 112, 112, 49]), (ByteArray.mk #[122, 57])]) (t.next 4)))] 0), ([⟨0, 2, [(Tp.row (t.step 4))], none⟩, ⟨0, 2, [[(AV.str (ByteArray.mk #[])), (AV.str (ByteArray.mk #[]))]], none⟩] : Heap))), (7, ((AV.int .i64 (((t.step 4).next 5 : Nat) : Int)), ([⟨0, 2, [(Tp.row ((t.step 4).step 5))], none⟩, ⟨0, 2, [[(AV.str (ByteArray.mk #[])), (AV.str (ByteArray.mk #[]))]], none⟩] : Heap))), (8, ((AV.ref [(AV.str (nth ([(ByteArray.mk #[105, 100]), (ByteArray.mk #[97]), (ByteArray.mk #[105, 100, 50]), (ByteArray.mk #[120, 48]), (ByteArray.mk #[109])]) ((t.step 4).next 5)))] 0), ([⟨0, 2, [(Tp.row ((t.step 4).step 5))], none⟩, ⟨0, 2, [[(AV.str (ByteArray.mk #[])), (AV.str (ByteArray.mk #[]))]], none⟩] : Heap)))] [] [] .nil))) (Nat.le_of_ble_eq_true (by kernel_rfl)) ⟨Try.func58, by kernel_rfl, by kernel_rfl, by kernel_rfl⟩ ?_
  refine Eq.mp (by kernel_rfl : ((ACalls Try.prog 21 [(AV.obj 0 0 0 0), (AV.int .i64 4)] ([⟨0, 2, [(Tp.row t)], none⟩, ⟨0, 2, [[(AV.str (ByteArray.mk #[])), (AV.str (ByteArray.mk #[]))]], none⟩] : Heap) ((AV.int .i64 ((t.next 4 : Nat) : Int)), ([⟨0, 2, [(Tp.row (t.step 4))], none⟩, ⟨0, 2, [[(AV.str (ByteArray.mk #[])), (AV.str (ByteArray.mk #[]))]], none⟩] : Heap))) ∧ (IdxSl 1 1 (List.map rStr ([(ByteArray.mk #[97, 112, 112]), (ByteArray.mk #[98]), (ByteArray.mk #[97, 112, 112, 49]), (ByteArray.mk #[122, 57])])) ((t.next 4 : Nat) : Int) ([⟨0, 2, [(Tp.row (t.step 4))], none⟩, ⟨0, 2, [[(AV.str (ByteArray.mk #[])), (AV.str (ByteArray.mk #[]))]], none⟩] : Heap) (rStr (nth ([(ByteArray.mk #[97, 112, 112]), (ByteArray.mk #[98]), (ByteArray.mk #[97, 112, 112, 49]), (ByteArray.mk #[122, 57])]) (t.next 4)))) ∧ (ACalls Try.prog 21 [(AV.obj 0 0 0 0), (AV.int .i64 5)] ([⟨0, 2, [(Tp.row (t.step 4))], none⟩, ⟨0, 2, [[(AV.str (ByteArray.mk #[])), (AV.str (ByteArray.mk #[]))]], none⟩] : Heap) ((AV.int .i64 (((t.step 4).next 5 : Nat) : Int)), ([⟨0, 2, [(Tp.row ((t.step 4).step 5))], none⟩, ⟨0, 2, [[(AV.str (ByteArray.mk #[])), (AV.str (ByteArray.mk #[]))]], none⟩] : Heap))) ∧ (IdxSl 1 1 (List.map rStr ([(ByteArray.mk #[105, 100]), (ByteArray.mk #[97]), (ByteArray.mk #[105, 100, 50]), (ByteArray.mk #[120, 48]), (ByteArray.mk #[109])])) (((t.step 4).next 5 : Nat) : Int) ([⟨0, 2, [(Tp.row ((t.step 4).step 5))], none⟩, ⟨0, 2, [[(AV.str (ByteArray.mk #[])), (AV.str (ByteArray.mk #[]))]], none⟩] : Heap) (rStr (nth ([(ByteArray.mk #[105, 100]), (ByteArray.mk #[97]), (ByteArray.mk #[105, 100, 50]), (ByteArray.mk #[120, 48]), (ByteArray.mk #[109])]) ((t.step 4).next 5)))) ∧ (AV.bdd 1 (AV.agg [(AV.str (nth ([(ByteArray.mk #[97, 112, 112]), (ByteArray.mk #[98]), (ByteArray.mk #[97, 112, 112, 49]), (ByteArray.mk #[122, 57])]) (t.next 4))), (AV.str (nth ([(ByteArray.mk #[105, 100]), (ByteArray.mk #[97]), (ByteArray.mk #[105, 100, 50]), (ByteArray.mk #[120, 48]), (ByteArray.mk #[109])]) ((t.step 4).next 5)))]) = true ∧ obsB 1 ([⟨0, 2, [(Tp.row ((t.step 4).step 5))], none⟩] : Heap) = true) ∧ ((AV.agg [(AV.str (nth ([(ByteArray.mk #[97, 112, 112]), (ByteArray.mk #[98]), (ByteArray.mk #[97, 112, 112, 49]), (ByteArray.mk #[122, 57])]) (t.next 4))), (AV.str (nth ([(ByteArray.mk #[105, 100]), (ByteArray.mk #[97]), (ByteArray.mk #[105, 100, 50]), (ByteArray.mk #[120, 48]), (ByteArray.mk #[109])]) ((t.step 4).next 5)))]), ([⟨0, 2, [(Tp.row ((t.step 4).step 5))], none⟩] : Heap)) = ((AV.agg (Key.row t.key)), ([⟨0, 2, [(Tp.row t.keyT)], none⟩] : Heap))) = _) ?_
  refine And.intro ((next_at t 4 (by first | omega | (simp [Tp.step_l, Tp.keyT_l, Tp.stampT_l, Tp.cardT_l]; omega)) ([⟨0, 2, [[(AV.str (ByteArray.mk #[])), (AV.str (ByteArray.mk #[]))]], none⟩] : Heap)).pre ⟨AV.wk_refl_any _, AV.wk_refl_any _, trivial⟩) ?_
  refine And.intro (IdxSl.mk _ (by omega) (by simp; omega)) ?_
  refine And.intro ((next_at (t.step 4) 5 (by first | omega | (simp [Tp.step_l, Tp.keyT_l, Tp.stampT_l, Tp.cardT_l]; omega)) ([⟨0, 2, [[(AV.str (ByteArray.mk #[])), (AV.str (ByteArray.mk #[]))]], none⟩] : Heap)).pre ⟨AV.wk_refl_any _, AV.wk_refl_any _, trivial⟩) ?_
  refine And.intro (IdxSl.mk _ (by omega) (by simp; omega)) ?_
  refine And.intro (by first | (simp [obsB, AV.bddss, AV.bdds, AV.bdd]; done) | (simp [obsB, AV.bddss, AV.bdds, AV.bdd, -List.map_append]; done) | simp [obsB, AV.bddss, AV.bdds, AV.bdd, -List.map_append, -List.map_set, -List.map_take, -List.map_drop, -List.map_cons, -List.map_map]) ?_
  rfl
theorem key_at (t : Tp) (hl : t.l.length < 9223372036854775808) (H : Heap) : ACalls Try.prog 58 [(AV.obj 0 0 0 0)] (([⟨0, 2, [(Tp.row t)], none⟩] : Heap) ++ H) ((AV.agg (Key.row t.key)), ([⟨0, 2, [(Tp.row t.keyT)], none⟩] : Heap) ++ H) := (key_spec t hl).ext (by kernel_rfl) (by kernel_rfl) (by first | (simp [obsB, AV.bddss, AV.bdds, AV.bdd]; done) | (simp [obsB, AV.bddss, AV.bdds, AV.bdd, -List.map_append]; done) | simp [obsB, AV.bddss, AV.bdds, AV.bdd, -List.map_append, -List.map_set, -List.map_take, -List.map_drop, -List.map_cons, -List.map_map]) (by first | (simp [obsB, AV.bddss, AV.bdds, AV.bdd]; done) | (simp [obsB, AV.bddss, AV.bdds, AV.bdd, -List.map_append]; done) | simp [obsB, AV.bddss, AV.bdds, AV.bdd, -List.map_append, -List.map_set, -List.map_take, -List.map_drop, -List.map_cons, -List.map_map]) (by kernel_rfl) H
def stamp_ann : Ann := { base := 1, fin := some 1 }
set_option maxRecDepth 100000 in
theorem stamp_spec (t : Tp) (hl : t.l.length < 9223372036854775808) : ACalls Try.prog 59 [(AV.obj 0 0 0 0)] ([⟨0, 2, [(Tp.row t)], none⟩] : Heap) ((AV.agg (Stamp.row t.stamp)), ([⟨0, 2, [(Tp.row t.stampT)], none⟩] : Heap)) := by
  refine spec (fn := Try.f59) (ann := stamp_ann) (t := (.reg [] [] [] (.reg [(1, ((AV.int .i64 ((t.next 40 : Nat) : Int)), ([⟨0, 2, [(Tp.row (t.step 40))], none⟩, ⟨0, 3, [[(AV.int .i64 0), (AV.int .i64 0), (AV.int .i64 0)]], none⟩] : Heap))), (3, ((AV.int .i64 (((t.step 40).next 6 : Nat) : Int)), ([⟨0, 2, [(Tp.row ((t.step 40).step 6))], none⟩, ⟨0, 3, [[(AV.int .i64 0), (AV.int .i64 0), (AV.int .i64 0)]], none⟩] : Heap))), (5, ((AV.int .i64 ((((t.step 40).step 6).next 9 : Nat) : Int)), ([⟨0, 2, [(Tp.row (((t.step 40).step 6).step 9))], none⟩, ⟨0, 3, [[(AV.int .i64 0), (AV.int .i64 0), (AV.int .i64 0)]], none⟩] : Heap)))] [] [] .nil))) (Nat.le_of_ble_eq_true (by kernel_rfl)) ⟨Try.func59, by kernel_rfl, by kernel_rfl, by kernel_rfl⟩ ?_
  refine Eq.mp (by kernel_rfl : ((ACalls Try.prog 21 [(AV.obj 0 0 0 0), (AV.int .i64 40)] ([⟨0, 2, [(Tp.row t)], none⟩, ⟨0, 3, [[(AV.int .i64 0), (AV.int .i64 0), (AV.int .i64 0)]], none⟩] : Heap) ((AV.int .i64 ((t.next 40 : Nat) : Int)), ([⟨0, 2, [(Tp.row (t.step 40))], none⟩, ⟨0, 3, [[(AV.int .i64 0), (AV.int .i64 0), (AV.int .i64 0)]], none⟩] : Heap))) ∧ (ACalls Try.prog 21 [(AV.obj 0 0 0 0), (AV.int .i64 6)] ([⟨0, 2, [(Tp.row (t.step 40))], none⟩, ⟨0, 3, [[(AV.int .i64 0), (AV.int .i64 0), (AV.int .i64 0)]], none⟩] : Heap) ((AV.int .i64 (((t.step 40).next 6 : Nat) : Int)), ([⟨0, 2, [(Tp.row ((t.step 40).step 6))], none⟩, ⟨0, 3, [[(AV.int .i64 0), (AV.int .i64 0), (AV.int .i64 0)]], none⟩] : Heap))) ∧ (ACalls Try.prog 21 [(AV.obj 0 0 0 0), (AV.int .i64 9)] ([⟨0, 2, [(Tp.row ((t.step 40).step 6))], none⟩, ⟨0, 3, [[(AV.int .i64 0), (AV.int .i64 0), (AV.int .i64 0)]], none⟩] : Heap) ((AV.int .i64 ((((t.step 40).step 6).next 9 : Nat) : Int)), ([⟨0, 2, [(Tp.row (((t.step 40).step 6).step 9))], none⟩, ⟨0, 3, [[(AV.int .i64 0), (AV.int .i64 0), (AV.int .i64 0)]], none⟩] : Heap))) ∧ (AV.bdd 1 (AV.agg [(AV.int .i64 ((t.next 40 : Nat) : Int)), (AV.int .i64 (((t.step 40).next 6 : Nat) : Int)), (AV.int .i64 ((((t.step 40).step 6).next 9 : Nat) : Int))]) = true ∧ obsB 1 ([⟨0, 2, [(Tp.row (((t.step 40).step 6).step 9))], none⟩] : Heap) = true) ∧ ((AV.agg [(AV.int .i64 ((t.next 40 : Nat) : Int)), (AV.int .i64 (((t.step 40).next 6 : Nat) : Int)), (AV.int .i64 ((((t.step 40).step 6).next 9 : Nat) : Int))]), ([⟨0, 2, [(Tp.row (((t.step 40).step 6).step 9))], none⟩] : Heap)) = ((AV.agg (Stamp.row t.stamp)), ([⟨0, 2, [(Tp.row t.stampT)], none⟩] : Heap))) = _) ?_
  refine And.intro ((next_at t 40 (by first | omega | (simp [Tp.step_l, Tp.keyT_l, Tp.stampT_l, Tp.cardT_l]; omega)) ([⟨0, 3, [[(AV.int .i64 0), (AV.int .i64 0), (AV.int .i64 0)]], none⟩] : Heap)).pre ⟨AV.wk_refl_any _, AV.wk_refl_any _, trivial⟩) ?_
  refine And.intro ((next_at (t.step 40) 6 (by first | omega | (simp [Tp.step_l, Tp.keyT_l, Tp.stampT_l, Tp.cardT_l]; omega)) ([⟨0, 3, [[(AV.int .i64 0), (AV.int .i64 0), (AV.int .i64 0)]], none⟩] : Heap)).pre ⟨AV.wk_refl_any _, AV.wk_refl_any _, trivial⟩) ?_
  refine And.intro ((next_at ((t.step 40).step 6) 9 (by first | omega | (simp [Tp.step_l, Tp.keyT_l, Tp.stampT_l, Tp.cardT_l]; omega)) ([⟨0, 3, [[(AV.int .i64 0), (AV.int .i64 0), (AV.int .i64 0)]], none⟩] : Heap)).pre ⟨AV.wk_refl_any _, AV.wk_refl_any _, trivial⟩) ?_
  refine And.intro (by first | (simp [obsB, AV.bddss, AV.bdds, AV.bdd]; done) | (simp [obsB, AV.bddss, AV.bdds, AV.bdd, -List.map_append]; done) | simp [obsB, AV.bddss, AV.bdds, AV.bdd, -List.map_append, -List.map_set, -List.map_take, -List.map_drop, -List.map_cons, -List.map_map]) ?_
  rfl
theorem stamp_at (t : Tp) (hl : t.l.length < 9223372036854775808) (H : Heap) : ACalls Try.prog 59 [(AV.obj 0 0 0 0)] (([⟨0, 2, [(Tp.row t)], none⟩] : Heap) ++ H) ((AV.agg (Stamp.row t.stamp)), ([⟨0, 2, [(Tp.row t.stampT)], none⟩] : Heap) ++ H) := (stamp_spec t hl).ext (by kernel_rfl) (by kernel_rfl) (by first | (simp [obsB, AV.bddss, AV.bdds, AV.bdd]; done) | (simp [obsB, AV.bddss, AV.bdds, AV.bdd, -List.map_append]; done) | simp [obsB, AV.bddss, AV.bdds, AV.bdd, -List.map_append, -List.map_set, -List.map_take, -List.map_drop, -List.map_cons, -List.map_map]) (by first | (simp [obsB, AV.bddss, AV.bdds, AV.bdd]; done) | (simp [obsB, AV.bddss, AV.bdds, AV.bdd, -List.map_append]; done) | simp [obsB, AV.bddss, AV.bdds, AV.bdd, -List.map_append, -List.map_set, -List.map_take, -List.map_drop, -List.map_cons, -List.map_map]) (by kernel_rfl) H
def tcard_ann : Ann := { base := 1, fin := some 1 }
set_option maxRecDepth 100000 in
theorem tcard_spec (t : Tp) (hl : t.l.length < 9223372036854775808) : ACalls Try.prog 20 [(AV.obj 0 0 0 0)] ([⟨0, 2, [(Tp.row t)], none⟩] : Heap) ((AV.agg (Card.row t.card)), ([⟨0, 2, [(Tp.row t.cardT)], none⟩] : Heap)) := by
  have h2 := t.keyT.next_lt 2 (by omega)
  have h7 := t.c1.next_lt 7 (by omega)
  have h60 := t.c2.next_lt 60 (by omega)
  unfold Tp.c2 Tp.c1 at *
  refine spec (fn := Try.f20) (ann := tcard_ann) (t := (.reg [] [] [] (.reg [(1, ((AV.agg (Key.row t.key)), ([⟨0, 2, [(Tp.row t.keyT)], none⟩, ⟨0, 9, [[(AV.str (ByteArray.mk #[])), (AV.str (ByteArray.mk #[])), (AV.int .i64 0), (AV.int .i64 0), (AV.int .i64 0), (AV.int .i64 0), (AV.int .i64 0), (AV.int .i64 0), (AV.bool false)]], none⟩] : Heap))), (3, ((AV.int .i64 ((t.keyT.next 2 : Nat) : Int)), ([⟨0, 2, [(Tp.row (t.keyT.step 2))], none⟩, ⟨0, 9, [[(AV.str (ByteArray.mk #[])), (AV.str (ByteArray.mk #[])), (AV.int .i64 0), (AV.int .i64 0), (AV.int .i64 0), (AV.int .i64 0), (AV.int .i64 0), (AV.int .i64 0), (AV.bool false)]], none⟩] : Heap))), (4, ((AV.int .i64 ((1 + (t.keyT.next 2) : Nat) : Int)), ([⟨0, 2, [(Tp.row (t.keyT.step 2))], none⟩, ⟨0, 9, [[(AV.str (ByteArray.mk #[])), (AV.str (ByteArray.mk #[])), (AV.int .i64 0), (AV.int .i64 0), (AV.int .i64 0), (AV.int .i64 0), (AV.int .i64 0), (AV.int .i64 0), (AV.bool false)]], none⟩] : Heap))), (6, ((AV.int .i64 (((t.keyT.step 2).next 7 : Nat) : Int)), ([⟨0, 2, [(Tp.row ((t.keyT.step 2).step 7))], none⟩, ⟨0, 9, [[(AV.str (ByteArray.mk #[])), (AV.str (ByteArray.mk #[])), (AV.int .i64 0), (AV.int .i64 0), (AV.int .i64 0), (AV.int .i64 0), (AV.int .i64 0), (AV.int .i64 0), (AV.bool false)]], none⟩] : Heap))), (7, ((AV.int .i64 ((((t.keyT.step 2).next 7) / 2 : Nat) : Int)), ([⟨0, 2, [(Tp.row ((t.keyT.step 2).step 7))], none⟩, ⟨0, 9, [[(AV.str (ByteArray.mk #[])), (AV.str (ByteArray.mk #[])), (AV.int .i64 0), (AV.int .i64 0), (AV.int .i64 0), (AV.int .i64 0), (AV.int .i64 0), (AV.int .i64 0), (AV.bool false)]], none⟩] : Heap))), (9, ((AV.int .i64 ((((t.keyT.step 2).step 7).next 60 : Nat) : Int)), ([⟨0, 2, [(Tp.row (((t.keyT.step 2).step 7).step 60))], none⟩, ⟨0, 9, [[(AV.str (ByteArray.mk #[])), (AV.str (ByteArray.mk #[])), (AV.int .i64 0), (AV.int .i64 0), (AV.int .i64 0), (AV.int .i64 0), (AV.int .i64 0), (AV.int .i64 0), (AV.bool false)]], none⟩] : Heap))), (10, ((AV.int .i64 ((1 + (((t.keyT.step 2).step 7).next 60) : Nat) : Int)), ([⟨0, 2, [(Tp.row (((t.keyT.step 2).step 7).step 60))], none⟩, ⟨0, 9, [[(AV.str (ByteArray.mk #[])), (AV.str (ByteArray.mk #[])), (AV.int .i64 0), (AV.int .i64 0), (AV.int .i64 0), (AV.int .i64 0), (AV.int .i64 0), (AV.int .i64 0), (AV.bool false)]], none⟩] : Heap))), (12, ((AV.agg (Stamp.row (((t.keyT.step 2).step 7).step 60).stamp)), ([⟨0, 2, [(Tp.row (((t.keyT.step 2).step 7).step 60).stampT)], none⟩, ⟨0, 9, [[(AV.str (ByteArray.mk #[])), (AV.str (ByteArray.mk #[])), (AV.int .i64 0), (AV.int .i64 0), (AV.int .i64 0), (AV.int .i64 0), (AV.int .i64 0), (AV.int .i64 0), (AV.bool false)]], none⟩] : Heap))), (14, ((AV.int .i64 (((((t.keyT.step 2).step 7).step 60).stampT.next 4 : Nat) : Int)), ([⟨0, 2, [(Tp.row ((((t.keyT.step 2).step 7).step 60).stampT.step 4))], none⟩, ⟨0, 9, [[(AV.str (ByteArray.mk #[])), (AV.str (ByteArray.mk #[])), (AV.int .i64 0), (AV.int .i64 0), (AV.int .i64 0), (AV.int .i64 0), (AV.int .i64 0), (AV.int .i64 0), (AV.bool false)]], none⟩] : Heap)))] [] [] .nil))) (Nat.le_of_ble_eq_true (by kernel_rfl)) ⟨Try.func20, by kernel_rfl, by kernel_rfl, by kernel_rfl⟩ ?_
  refine Eq.mp (by kernel_rfl : ((ACalls Try.prog 58 [(AV.obj 0 0 0 0)] ([⟨0, 2, [(Tp.row t)], none⟩, ⟨0, 9, [[(AV.str (ByteArray.mk #[])), (AV.str (ByteArray.mk #[])), (AV.int .i64 0), (AV.int .i64 0), (AV.int .i64 0), (AV.int .i64 0), (AV.int .i64 0), (AV.int .i64 0), (AV.bool false)]], none⟩] : Heap) ((AV.agg (Key.row t.key)), ([⟨0, 2, [(Tp.row t.keyT)], none⟩, ⟨0, 9, [[(AV.str (ByteArray.mk #[])), (AV.str (ByteArray.mk #[])), (AV.int .i64 0), (AV.int .i64 0), (AV.int .i64 0), (AV.int .i64 0), (AV.int .i64 0), (AV.int .i64 0), (AV.bool false)]], none⟩] : Heap))) ∧ (ACalls Try.prog 21 [(AV.obj 0 0 0 0), (AV.int .i64 2)] ([⟨0, 2, [(Tp.row t.keyT)], none⟩, ⟨0, 9, [[(AV.str (ByteArray.mk #[])), (AV.str (ByteArray.mk #[])), (AV.int .i64 0), (AV.int .i64 0), (AV.int .i64 0), (AV.int .i64 0), (AV.int .i64 0), (AV.int .i64 0), (AV.bool false)]], none⟩] : Heap) ((AV.int .i64 ((t.keyT.next 2 : Nat) : Int)), ([⟨0, 2, [(Tp.row (t.keyT.step 2))], none⟩, ⟨0, 9, [[(AV.str (ByteArray.mk #[])), (AV.str (ByteArray.mk #[])), (AV.int .i64 0), (AV.int .i64 0), (AV.int .i64 0), (AV.int .i64 0), (AV.int .i64 0), (AV.int .i64 0), (AV.bool false)]], none⟩] : Heap))) ∧ (Yes (.int .i64 (IntKind.i64.wrap (1 + ((t.keyT.next 2 : Nat) : Int)))) ([⟨0, 2, [(Tp.row (t.keyT.step 2))], none⟩, ⟨0, 9, [[(AV.str (ByteArray.mk #[])), (AV.str (ByteArray.mk #[])), (AV.int .i64 0), (AV.int .i64 0), (AV.int .i64 0), (AV.int .i64 0), (AV.int .i64 0), (AV.int .i64 0), (AV.bool false)]], none⟩] : Heap) (AV.int .i64 ((1 + (t.keyT.next 2) : Nat) : Int))) ∧ (ACalls Try.prog 21 [(AV.obj 0 0 0 0), (AV.int .i64 7)] ([⟨0, 2, [(Tp.row (t.keyT.step 2))], none⟩, ⟨0, 9, [[(AV.str (ByteArray.mk #[])), (AV.str (ByteArray.mk #[])), (AV.int .i64 0), (AV.int .i64 0), (AV.int .i64 0), (AV.int .i64 0), (AV.int .i64 0), (AV.int .i64 0), (AV.bool false)]], none⟩] : Heap) ((AV.int .i64 (((t.keyT.step 2).next 7 : Nat) : Int)), ([⟨0, 2, [(Tp.row ((t.keyT.step 2).step 7))], none⟩, ⟨0, 9, [[(AV.str (ByteArray.mk #[])), (AV.str (ByteArray.mk #[])), (AV.int .i64 0), (AV.int .i64 0), (AV.int .i64 0), (AV.int .i64 0), (AV.int .i64 0), (AV.int .i64 0), (AV.bool false)]], none⟩] : Heap))) ∧ (Yes (.int .i64 (IntKind.i64.wrap (Int.tdiv (((t.keyT.step 2).next 7 : Nat) : Int) 2))) ([⟨0, 2, [(Tp.row ((t.keyT.step 2).step 7))], none⟩, ⟨0, 9, [[(AV.str (ByteArray.mk #[])), (AV.str (ByteArray.mk #[])), (AV.int .i64 0), (AV.int .i64 0), (AV.int .i64 0), (AV.int .i64 0), (AV.int .i64 0), (AV.int .i64 0), (AV.bool false)]], none⟩] : Heap) (AV.int .i64 ((((t.keyT.step 2).next 7) / 2 : Nat) : Int))) ∧ (ACalls Try.prog 21 [(AV.obj 0 0 0 0), (AV.int .i64 60)] ([⟨0, 2, [(Tp.row ((t.keyT.step 2).step 7))], none⟩, ⟨0, 9, [[(AV.str (ByteArray.mk #[])), (AV.str (ByteArray.mk #[])), (AV.int .i64 0), (AV.int .i64 0), (AV.int .i64 0), (AV.int .i64 0), (AV.int .i64 0), (AV.int .i64 0), (AV.bool false)]], none⟩] : Heap) ((AV.int .i64 ((((t.keyT.step 2).step 7).next 60 : Nat) : Int)), ([⟨0, 2, [(Tp.row (((t.keyT.step 2).step 7).step 60))], none⟩, ⟨0, 9, [[(AV.str (ByteArray.mk #[])), (AV.str (ByteArray.mk #[])), (AV.int .i64 0), (AV.int .i64 0), (AV.int .i64 0), (AV.int .i64 0), (AV.int .i64 0), (AV.int .i64 0), (AV.bool false)]], none⟩] : Heap))) ∧ (Yes (.int .i64 (IntKind.i64.wrap (1 + ((((t.keyT.step 2).step 7).next 60 : Nat) : Int)))) ([⟨0, 2, [(Tp.row (((t.keyT.step 2).step 7).step 60))], none⟩, ⟨0, 9, [[(AV.str (ByteArray.mk #[])), (AV.str (ByteArray.mk #[])), (AV.int .i64 0), (AV.int .i64 0), (AV.int .i64 0), (AV.int .i64 0), (AV.int .i64 0), (AV.int .i64 0), (AV.bool false)]], none⟩] : Heap) (AV.int .i64 ((1 + (((t.keyT.step 2).step 7).next 60) : Nat) : Int))) ∧ (ACalls Try.prog 59 [(AV.obj 0 0 0 0)] ([⟨0, 2, [(Tp.row (((t.keyT.step 2).step 7).step 60))], none⟩, ⟨0, 9, [[(AV.str (ByteArray.mk #[])), (AV.str (ByteArray.mk #[])), (AV.int .i64 0), (AV.int .i64 0), (AV.int .i64 0), (AV.int .i64 0), (AV.int .i64 0), (AV.int .i64 0), (AV.bool false)]], none⟩] : Heap) ((AV.agg (Stamp.row (((t.keyT.step 2).step 7).step 60).stamp)), ([⟨0, 2, [(Tp.row (((t.keyT.step 2).step 7).step 60).stampT)], none⟩, ⟨0, 9, [[(AV.str (ByteArray.mk #[])), (AV.str (ByteArray.mk #[])), (AV.int .i64 0), (AV.int .i64 0), (AV.int .i64 0), (AV.int .i64 0), (AV.int .i64 0), (AV.int .i64 0), (AV.bool false)]], none⟩] : Heap))) ∧ (ACalls Try.prog 21 [(AV.obj 0 0 0 0), (AV.int .i64 4)] ([⟨0, 2, [(Tp.row (((t.keyT.step 2).step 7).step 60).stampT)], none⟩, ⟨0, 9, [[(AV.str (ByteArray.mk #[])), (AV.str (ByteArray.mk #[])), (AV.int .i64 0), (AV.int .i64 0), (AV.int .i64 0), (AV.int .i64 0), (AV.int .i64 0), (AV.int .i64 0), (AV.bool false)]], none⟩] : Heap) ((AV.int .i64 (((((t.keyT.step 2).step 7).step 60).stampT.next 4 : Nat) : Int)), ([⟨0, 2, [(Tp.row ((((t.keyT.step 2).step 7).step 60).stampT.step 4))], none⟩, ⟨0, 9, [[(AV.str (ByteArray.mk #[])), (AV.str (ByteArray.mk #[])), (AV.int .i64 0), (AV.int .i64 0), (AV.int .i64 0), (AV.int .i64 0), (AV.int .i64 0), (AV.int .i64 0), (AV.bool false)]], none⟩] : Heap))) ∧ (AV.bdd 1 (AV.agg [(AV.str t.key.app), (AV.str t.key.id), (AV.int .i64 ((1 + (t.keyT.next 2) : Nat) : Int)), (AV.int .i64 ((((t.keyT.step 2).next 7) / 2 : Nat) : Int)), (AV.int .i64 ((1 + (((t.keyT.step 2).step 7).next 60) : Nat) : Int)), (AV.int .i64 (((t.keyT.step 2).step 7).step 60).stamp.t), (AV.int .i64 (((t.keyT.step 2).step 7).step 60).stamp.node), (AV.int .i64 (((t.keyT.step 2).step 7).step 60).stamp.n), (AV.bool ((((((t.keyT.step 2).step 7).step 60).stampT.next 4 : Nat) : Int) == 0))]) = true ∧ obsB 1 ([⟨0, 2, [(Tp.row ((((t.keyT.step 2).step 7).step 60).stampT.step 4))], none⟩] : Heap) = true) ∧ ((AV.agg [(AV.str t.key.app), (AV.str t.key.id), (AV.int .i64 ((1 + (t.keyT.next 2) : Nat) : Int)), (AV.int .i64 ((((t.keyT.step 2).next 7) / 2 : Nat) : Int)), (AV.int .i64 ((1 + (((t.keyT.step 2).step 7).next 60) : Nat) : Int)), (AV.int .i64 (((t.keyT.step 2).step 7).step 60).stamp.t), (AV.int .i64 (((t.keyT.step 2).step 7).step 60).stamp.node), (AV.int .i64 (((t.keyT.step 2).step 7).step 60).stamp.n), (AV.bool ((((((t.keyT.step 2).step 7).step 60).stampT.next 4 : Nat) : Int) == 0))]), ([⟨0, 2, [(Tp.row ((((t.keyT.step 2).step 7).step 60).stampT.step 4))], none⟩] : Heap)) = ((AV.agg (Card.row t.card)), ([⟨0, 2, [(Tp.row t.cardT)], none⟩] : Heap))) = _) ?_
  refine And.intro (key_at t (by first | omega | (simp [Tp.c4, Tp.c3, Tp.c2, Tp.c1, Tp.step_l, Tp.keyT_l, Tp.stampT_l, Tp.cardT_l]; omega)) ([⟨0, 9, [[(AV.str (ByteArray.mk #[])), (AV.str (ByteArray.mk #[])), (AV.int .i64 0), (AV.int .i64 0), (AV.int .i64 0), (AV.int .i64 0), (AV.int .i64 0), (AV.int .i64 0), (AV.bool false)]], none⟩] : Heap)) ?_
  refine And.intro ((next_at t.keyT 2 (by first | omega | (simp [Tp.c4, Tp.c3, Tp.c2, Tp.c1, Tp.step_l, Tp.keyT_l, Tp.stampT_l, Tp.cardT_l]; omega)) ([⟨0, 9, [[(AV.str (ByteArray.mk #[])), (AV.str (ByteArray.mk #[])), (AV.int .i64 0), (AV.int .i64 0), (AV.int .i64 0), (AV.int .i64 0), (AV.int .i64 0), (AV.int .i64 0), (AV.bool false)]], none⟩] : Heap)).pre ⟨AV.wk_refl_any _, AV.wk_refl_any _, trivial⟩) ?_
  refine And.intro (Yes.add (by omega) (by omega) (by omega)) ?_
  refine And.intro ((next_at (t.keyT.step 2) 7 (by first | omega | (simp [Tp.c4, Tp.c3, Tp.c2, Tp.c1, Tp.step_l, Tp.keyT_l, Tp.stampT_l, Tp.cardT_l]; omega)) ([⟨0, 9, [[(AV.str (ByteArray.mk #[])), (AV.str (ByteArray.mk #[])), (AV.int .i64 0), (AV.int .i64 0), (AV.int .i64 0), (AV.int .i64 0), (AV.int .i64 0), (AV.int .i64 0), (AV.bool false)]], none⟩] : Heap)).pre ⟨AV.wk_refl_any _, AV.wk_refl_any _, trivial⟩) ?_
  refine And.intro (Yes.quo (by omega)) ?_
  refine And.intro ((next_at ((t.keyT.step 2).step 7) 60 (by first | omega | (simp [Tp.c4, Tp.c3, Tp.c2, Tp.c1, Tp.step_l, Tp.keyT_l, Tp.stampT_l, Tp.cardT_l]; omega)) ([⟨0, 9, [[(AV.str (ByteArray.mk #[])), (AV.str (ByteArray.mk #[])), (AV.int .i64 0), (AV.int .i64 0), (AV.int .i64 0), (AV.int .i64 0), (AV.int .i64 0), (AV.int .i64 0), (AV.bool false)]], none⟩] : Heap)).pre ⟨AV.wk_refl_any _, AV.wk_refl_any _, trivial⟩) ?_
  refine And.intro (Yes.add (by omega) (by omega) (by omega)) ?_
  refine And.intro (stamp_at (((t.keyT.step 2).step 7).step 60) (by first | omega | (simp [Tp.c4, Tp.c3, Tp.c2, Tp.c1, Tp.step_l, Tp.keyT_l, Tp.stampT_l, Tp.cardT_l]; omega)) ([⟨0, 9, [[(AV.str (ByteArray.mk #[])), (AV.str (ByteArray.mk #[])), (AV.int .i64 0), (AV.int .i64 0), (AV.int .i64 0), (AV.int .i64 0), (AV.int .i64 0), (AV.int .i64 0), (AV.bool false)]], none⟩] : Heap)) ?_
  refine And.intro ((next_at (((t.keyT.step 2).step 7).step 60).stampT 4 (by first | omega | (simp [Tp.c4, Tp.c3, Tp.c2, Tp.c1, Tp.step_l, Tp.keyT_l, Tp.stampT_l, Tp.cardT_l]; omega)) ([⟨0, 9, [[(AV.str (ByteArray.mk #[])), (AV.str (ByteArray.mk #[])), (AV.int .i64 0), (AV.int .i64 0), (AV.int .i64 0), (AV.int .i64 0), (AV.int .i64 0), (AV.int .i64 0), (AV.bool false)]], none⟩] : Heap)).pre ⟨AV.wk_refl_any _, AV.wk_refl_any _, trivial⟩) ?_
  refine And.intro (by first | (simp [obsB, AV.bddss, AV.bdds, AV.bdd]; done) | (simp [obsB, AV.bddss, AV.bdds, AV.bdd, -List.map_append]; done) | simp [obsB, AV.bddss, AV.bdds, AV.bdd, -List.map_append, -List.map_set, -List.map_take, -List.map_drop, -List.map_cons, -List.map_map]) ?_
  rfl
theorem tcard_at (t : Tp) (hl : t.l.length < 9223372036854775808) (H : Heap) : ACalls Try.prog 20 [(AV.obj 0 0 0 0)] (([⟨0, 2, [(Tp.row t)], none⟩] : Heap) ++ H) ((AV.agg (Card.row t.card)), ([⟨0, 2, [(Tp.row t.cardT)], none⟩] : Heap) ++ H) := (tcard_spec t hl).ext (by kernel_rfl) (by kernel_rfl) (by first | (simp [obsB, AV.bddss, AV.bdds, AV.bdd]; done) | (simp [obsB, AV.bddss, AV.bdds, AV.bdd, -List.map_append]; done) | simp [obsB, AV.bddss, AV.bdds, AV.bdd, -List.map_append, -List.map_set, -List.map_take, -List.map_drop, -List.map_cons, -List.map_map]) (by first | (simp [obsB, AV.bddss, AV.bdds, AV.bdd]; done) | (simp [obsB, AV.bddss, AV.bdds, AV.bdd, -List.map_append]; done) | simp [obsB, AV.bddss, AV.bdds, AV.bdd, -List.map_append, -List.map_set, -List.map_take, -List.map_drop, -List.map_cons, -List.map_map]) (by kernel_rfl) H
end Go.Proofs.Ytpkgpldgoajphaa.AM

set_option maxRecDepth 100000
set_option linter.unusedVariables false
set_option linter.unusedSimpArgs false
namespace Go.Proofs.Ytpkgpldgoajphaa.AM
open Go Go.Proofs.Ytpkgpldgoajphaa
attribute [local irreducible] ACalls funT codeT codeQ LoopTo
attribute [local irreducible] Tp.card Tp.cardT Tp.next Tp.step
def Tp.cards (t : Tp) : Nat → List Card
  | 0 => []
  | n + 1 => t.card :: t.cardT.cards n
def Tp.cardsT (t : Tp) : Nat → Tp
  | 0 => t
  | n + 1 => t.cardT.cardsT n
theorem Tp.cardsT_l (n : Nat) : ∀ (t : Tp), (t.cardsT n).l = t.l := by
  induction n with
  | zero => intro t; simp only [Tp.cardsT]
  | succ n ih => intro t; simp only [Tp.cardsT]; rw [ih, Tp.cardT_l]
theorem Tp.cards_len (n : Nat) : ∀ (t : Tp), (t.cards n).length = n := by
  induction n with
  | zero => intro t; rfl
  | succ n ih => intro t; simp only [Tp.cards, List.length_cons]; rw [ih]
def cards_ann : Ann := { gha := [(1, .vir 5 9), (6, .frz 4)], base := 1, fin := some 1, live := [(3, [0, 5, 6])], out := [(3, [0, 5, 6])] }
set_option maxRecDepth 100000 in
theorem cards_step (t : Tp) (g m n : Nat) (out : List Card) (hl : t.l.length < 9223372036854775808) (hm : m = out.length) (hb : m < 1099511627776) (hn : n < 1099511627776) {eX : Ex} {FX : Fr} {HX : Heap} (k1 : (decide (((n : Nat) : Int) > 0)) = true → LoopTo (codeQ Try.prog (X cards_ann) (loopOf Try.f29 0)) (some [0, 5, 6]) (some [0, 5, 6]) (mkF 21 [(0, (AV.obj 0 0 0 0)), (5, (AV.osl 1 (g + 1) 9 0 (m + 1))), (6, (AV.int .i64 ((n - 1 : Nat) : Int)))]) ([⟨0, 2, [(Tp.row t.cardT)], none⟩, ⟨(g + 1), 9, (List.map Card.row (out ++ [t.card])), none⟩] : Heap) eX FX HX) (k2 : (decide (((n : Nat) : Int) > 0)) = false → ((.exit 0 : Ex), (mkF 21 [(0, (AV.obj 0 0 0 0)), (5, (AV.osl 1 g 9 0 m)), (6, (AV.int .i64 ((n : Nat) : Int)))]), ([⟨0, 2, [(Tp.row t)], none⟩, ⟨g, 9, (List.map Card.row out), none⟩] : Heap)) = (eX, FX, HX)) : LoopTo (codeQ Try.prog (X cards_ann) (loopOf Try.f29 0)) (some [0, 5, 6]) (some [0, 5, 6]) (mkF 21 [(0, (AV.obj 0 0 0 0)), (5, (AV.osl 1 g 9 0 m)), (6, (AV.int .i64 ((n : Nat) : Int)))]) ([⟨0, 2, [(Tp.row t)], none⟩, ⟨g, 9, (List.map Card.row out), none⟩] : Heap) eX FX HX := by
  refine LoopTo.step (.reg [] [] [] (.two (.reg [(2, ((AV.agg (Card.row t.card)), ([⟨0, 2, [(Tp.row t.cardT)], none⟩, ⟨g, 9, (List.map Card.row out), none⟩] : Heap))), (4, ((AV.osl 1 (g + 1) 9 0 (m + 1)), ([⟨0, 2, [(Tp.row t.cardT)], none⟩, ⟨(g + 1), 9, (List.map Card.row (out ++ [t.card])), none⟩] : Heap)))] [] [] (.reg [(1, ((AV.int .i64 ((n - 1 : Nat) : Int)), ([⟨0, 2, [(Tp.row t.cardT)], none⟩, ⟨(g + 1), 9, (List.map Card.row (out ++ [t.card])), none⟩] : Heap)))] [] [] .nil)) .nil)) ?_
  refine Eq.mp (by kernel_rfl : (cond (decide (((n : Nat) : Int) > 0)) ((ACalls Try.prog 20 [(AV.obj 0 0 0 0)] ([⟨0, 2, [(Tp.row t)], none⟩, ⟨g, 9, (List.map Card.row out), none⟩] : Heap) ((AV.agg (Card.row t.card)), ([⟨0, 2, [(Tp.row t.cardT)], none⟩, ⟨g, 9, (List.map Card.row out), none⟩] : Heap))) ∧ (evAppend tt ([⟨0, 2, [(Tp.row t.cardT)], none⟩, ⟨g, 9, (List.map Card.row out), none⟩] : Heap) 48 (AV.osl 1 g 9 0 m) (AV.sl .clip 9 [(Card.row t.card)]) = some ((AV.osl 1 (g + 1) 9 0 (m + 1)), ([⟨0, 2, [(Tp.row t.cardT)], none⟩, ⟨(g + 1), 9, (List.map Card.row (out ++ [t.card])), none⟩] : Heap))) ∧ (Yes (.int .i64 (IntKind.i64.wrap (((n : Nat) : Int) - 1))) ([⟨0, 2, [(Tp.row t.cardT)], none⟩, ⟨(g + 1), 9, (List.map Card.row (out ++ [t.card])), none⟩] : Heap) (AV.int .i64 ((n - 1 : Nat) : Int))) ∧ LoopTo (codeQ Try.prog (X cards_ann) (loopOf Try.f29 0)) (some [0, 5, 6]) (some [0, 5, 6]) (mkF 21 [(0, (AV.obj 0 0 0 0)), (5, (AV.osl 1 (g + 1) 9 0 (m + 1))), (6, (AV.int .i64 ((n - 1 : Nat) : Int)))]) ([⟨0, 2, [(Tp.row t.cardT)], none⟩, ⟨(g + 1), 9, (List.map Card.row (out ++ [t.card])), none⟩] : Heap) eX FX HX) (((.exit 0 : Ex), (mkF 21 [(0, (AV.obj 0 0 0 0)), (5, (AV.osl 1 g 9 0 m)), (6, (AV.int .i64 ((n : Nat) : Int)))]), ([⟨0, 2, [(Tp.row t)], none⟩, ⟨g, 9, (List.map Card.row out), none⟩] : Heap)) = (eX, FX, HX))) = _) ?_
  refine cond_split (fun h1 => ?_) (fun h1 => ?_)
  · have h1' := h1
    try simp at h1'
    refine And.intro (tcard_at t (by first | omega | assumption | (simp; done) | (simp; omega) | (simp_all; done) | (simp_all; omega)) ([⟨g, 9, (List.map Card.row out), none⟩] : Heap)) ?_
    refine And.intro (evAppend_one (row := Card.row) (l := out) (x := t.card) (T := tt) (e := 34) (te := { d := .struct [(30, 0), (3, 2), (3, 3), (2, 4), (32, 5), (4, 8)], size := 9, bytes := 88, zero := [.str ⟨#[]⟩, .str ⟨#[]⟩, .int .i64 0, .int .i64 0, .int .i64 0, .int .i64 0, .int .i64 0, .int .i64 0, .bool false] }) (z := 1) (b := 24) (y := [.sl .nil 0 []]) (by kernel_rfl) (by kernel_rfl) rfl (by decide) (by decide) (by kernel_rfl) (by first | assumption | omega | (simp; done) | (simp; omega)) rfl rfl (by first | omega | (simp; omega))) ?_
    refine And.intro (Yes.add (by omega) (by omega) (by omega)) ?_
    exact k1 h1
  · have h1' := h1
    try simp at h1'
    exact k2 h1
theorem cards_loop (n : Nat) : ∀ (t : Tp) (g m : Nat) (out : List Card) (gF mF : Nat) (outF : List Card) (tF : Tp), t.l.length < 9223372036854775808 → m = out.length → m + n < 1099511627776 → gF = g + n → mF = m + n → outF = out ++ t.cards n → tF = t.cardsT n →
    LoopTo (codeQ Try.prog (X cards_ann) (loopOf Try.f29 0)) (some [0, 5, 6]) (some [0, 5, 6]) (mkF 21 [(0, (AV.obj 0 0 0 0)), (5, (AV.osl 1 g 9 0 m)), (6, (AV.int .i64 ((n : Nat) : Int)))]) ([⟨0, 2, [(Tp.row t)], none⟩, ⟨g, 9, (List.map Card.row out), none⟩] : Heap) (.exit 0) (mkF 21 [(0, (AV.obj 0 0 0 0)), (5, (AV.osl 1 gF 9 0 mF)), (6, (AV.int .i64 ((0 : Nat) : Int)))]) ([⟨0, 2, [(Tp.row tF)], none⟩, ⟨gF, 9, (List.map Card.row outF), none⟩] : Heap) := by
  induction n with
  | zero =>
    intro t g m out gF mF outF tF hl hm hb h1 h2 h3 h4
    refine cards_step t g m 0 out hl hm (by omega) (by omega) (fun h => by simp at h) fun _ => ?_
    simp [h1, h2, h3, h4, Tp.cards, Tp.cardsT]
  | succ n ih =>
    intro t g m out gF mF outF tF hl hm hb h1 h2 h3 h4
    refine cards_step t g m (n + 1) out hl hm (by omega) (by omega) (fun _ => ?_) fun h => by simp at h
    exact ih t.cardT (g + 1) (m + 1) (out ++ [t.card]) gF mF outF tF (by rw [Tp.cardT_l]; exact hl) (by simp [hm]) (by omega) (by omega) (by omega) (by simp [h3, Tp.cards]) (by simp [h4, Tp.cardsT])
set_option maxRecDepth 100000 in
theorem cards_spec (t : Tp) (n : Nat) (hl : t.l.length < 9223372036854775808) (hn : n < 1048576) : ACalls Try.prog 29 [(AV.obj 0 0 0 0), (AV.int .i64 ((n : Nat) : Int))] ([⟨0, 2, [(Tp.row t)], none⟩] : Heap) ((AV.sl .any 9 (List.map Card.row (t.step (n + 1) |>.cards (t.next (n + 1))))), ([⟨0, 2, [(Tp.row ((t.step (n + 1)).cardsT (t.next (n + 1))))], none⟩] : Heap)) := by
  have hx := t.next_lt (n + 1) (by omega)
  refine spec (fn := Try.f29) (ann := cards_ann) (t := (.reg [] [] [] (.reg [] [] [] (.reg [(2, ((AV.int .i64 ((n + 1 : Nat) : Int)), ([⟨0, 2, [(Tp.row t)], none⟩, ⟨0, 9, (List.map Card.row []), none⟩] : Heap))), (3, ((AV.int .i64 ((t.next (n + 1) : Nat) : Int)), ([⟨0, 2, [(Tp.row (t.step (n + 1)))], none⟩, ⟨0, 9, (List.map Card.row []), none⟩] : Heap)))] [] [] (.loop (.exit 0) (mkF 21 [(0, (AV.obj 0 0 0 0)), (5, (AV.osl 1 (t.next (n + 1)) 9 0 (t.next (n + 1)))), (6, (AV.int .i64 ((0 : Nat) : Int)))]) ([⟨0, 2, [(Tp.row ((t.step (n + 1)).cardsT (t.next (n + 1))))], none⟩, ⟨(t.next (n + 1)), 9, (List.map Card.row ((t.step (n + 1)).cards (t.next (n + 1)))), none⟩] : Heap) (.reg [] [] [(4, (List.map Card.row ((t.step (n + 1)).cards (t.next (n + 1)))))] .nil)))))) (Nat.le_of_ble_eq_true (by kernel_rfl)) ⟨Try.func29, by kernel_rfl, by kernel_rfl, by kernel_rfl⟩ ?_
  refine Eq.mp (by kernel_rfl : ((Yes (.int .i64 (IntKind.i64.wrap (((n : Nat) : Int) + 1))) ([⟨0, 2, [(Tp.row t)], none⟩, ⟨0, 9, (List.map Card.row []), none⟩] : Heap) (AV.int .i64 ((n + 1 : Nat) : Int))) ∧ (ACalls Try.prog 21 [(AV.obj 0 0 0 0), (AV.int .i64 ((n + 1 : Nat) : Int))] ([⟨0, 2, [(Tp.row t)], none⟩, ⟨0, 9, (List.map Card.row []), none⟩] : Heap) ((AV.int .i64 ((t.next (n + 1) : Nat) : Int)), ([⟨0, 2, [(Tp.row (t.step (n + 1)))], none⟩, ⟨0, 9, (List.map Card.row []), none⟩] : Heap))) ∧ (LoopTo (codeQ Try.prog (X cards_ann) (loopOf Try.f29 0)) (some [0, 5, 6]) (some [0, 5, 6]) (mkF 21 [(0, (AV.obj 0 0 0 0)), (5, (AV.osl 1 0 9 0 0)), (6, (AV.int .i64 ((t.next (n + 1) : Nat) : Int)))]) ([⟨0, 2, [(Tp.row (t.step (n + 1)))], none⟩, ⟨0, 9, (List.map Card.row []), none⟩] : Heap) (.exit 0) (mkF 21 [(0, (AV.obj 0 0 0 0)), (5, (AV.osl 1 (t.next (n + 1)) 9 0 (t.next (n + 1)))), (6, (AV.int .i64 ((0 : Nat) : Int)))]) ([⟨0, 2, [(Tp.row ((t.step (n + 1)).cardsT (t.next (n + 1))))], none⟩, ⟨(t.next (n + 1)), 9, (List.map Card.row ((t.step (n + 1)).cards (t.next (n + 1)))), none⟩] : Heap)) ∧ (rowsIn ([⟨0, 2, [(Tp.row ((t.step (n + 1)).cardsT (t.next (n + 1))))], none⟩, ⟨(t.next (n + 1)), 9, (List.map Card.row ((t.step (n + 1)).cards (t.next (n + 1)))), none⟩] : Heap) 9 (AV.osl 1 (t.next (n + 1)) 9 0 (t.next (n + 1))) = some (List.map Card.row ((t.step (n + 1)).cards (t.next (n + 1)))) ∧ AV.bddss 0 (List.map Card.row ((t.step (n + 1)).cards (t.next (n + 1)))) = true) ∧ (AV.bdd 1 (AV.sl .any 9 (List.map Card.row ((t.step (n + 1)).cards (t.next (n + 1))))) = true ∧ obsB 1 ([⟨0, 2, [(Tp.row ((t.step (n + 1)).cardsT (t.next (n + 1))))], none⟩] : Heap) = true) ∧ ((AV.sl .any 9 (List.map Card.row ((t.step (n + 1)).cards (t.next (n + 1))))), ([⟨0, 2, [(Tp.row ((t.step (n + 1)).cardsT (t.next (n + 1))))], none⟩] : Heap)) = ((AV.sl .any 9 (List.map Card.row (t.step (n + 1) |>.cards (t.next (n + 1))))), ([⟨0, 2, [(Tp.row ((t.step (n + 1)).cardsT (t.next (n + 1))))], none⟩] : Heap))) = _) ?_
  refine And.intro (Yes.add (by omega) (by omega) (by omega)) ?_
  refine And.intro ((next_at t (n + 1) (by first | omega | assumption | (simp; done) | (simp; omega) | (simp_all; done) | (simp_all; omega)) ([⟨0, 9, (List.map Card.row []), none⟩] : Heap)).pre ⟨AV.wk_refl_any _, AV.wk_refl_any _, trivial⟩) ?_
  refine And.intro ((cards_loop (t.next (n + 1)) (t.step (n + 1)) 0 0 [] (t.next (n + 1)) (t.next (n + 1)) _ _ (by rw [Tp.step_l]; exact hl) rfl (by omega) (by omega) (by omega) rfl rfl)) ?_
  refine And.intro (And.intro (rowsIn_all (room := none) (by kernel_rfl) (by first | omega | (simp [Tp.cards_len]; done) | (simp [Tp.cards_len]; omega))) (Card.rows_bdd _ _)) ?_
  refine And.intro (by first | (simp [obsB, AV.bddss, AV.bdds, AV.bdd]; done) | (simp [obsB, AV.bddss, AV.bdds, AV.bdd, -List.map_append]; done) | simp [obsB, AV.bddss, AV.bdds, AV.bdd, -List.map_append, -List.map_set, -List.map_take, -List.map_drop, -List.map_cons, -List.map_map]) ?_
  rfl
theorem cards_at (t : Tp) (n : Nat) (hl : t.l.length < 9223372036854775808) (hn : n < 1048576) (H : Heap) : ACalls Try.prog 29 [(AV.obj 0 0 0 0), (AV.int .i64 ((n : Nat) : Int))] (([⟨0, 2, [(Tp.row t)], none⟩] : Heap) ++ H) ((AV.sl .any 9 (List.map Card.row (t.step (n + 1) |>.cards (t.next (n + 1))))), ([⟨0, 2, [(Tp.row ((t.step (n + 1)).cardsT (t.next (n + 1))))], none⟩] : Heap) ++ H) := (cards_spec t n hl hn).ext (by kernel_rfl) (by kernel_rfl) (by first | (simp [obsB, AV.bddss, AV.bdds, AV.bdd]; done) | (simp [obsB, AV.bddss, AV.bdds, AV.bdd, -List.map_append]; done) | simp [obsB, AV.bddss, AV.bdds, AV.bdd, -List.map_append, -List.map_set, -List.map_take, -List.map_drop, -List.map_cons, -List.map_map]) (by first | (simp [obsB, AV.bddss, AV.bdds, AV.bdd]; done) | (simp [obsB, AV.bddss, AV.bdds, AV.bdd, -List.map_append]; done) | simp [obsB, AV.bddss, AV.bdds, AV.bdd, -List.map_append, -List.map_set, -List.map_take, -List.map_drop, -List.map_cons, -List.map_map]) (by kernel_rfl) H
end Go.Proofs.Ytpkgpldgoajphaa.AM

set_option maxRecDepth 100000
set_option linter.unusedVariables false
set_option linter.unusedSimpArgs false
namespace Go.Proofs.Ytpkgpldgoajphaa.AM
open Go Go.Proofs.Ytpkgpldgoajphaa
attribute [local irreducible] ACalls funT codeT codeQ LoopTo
attribute [local irreducible] Tp.card Tp.cardT Tp.next Tp.step Tp.cards Tp.cardsT Tp.key Tp.keyT
section
variable {α : Type} [Inhabited α]
def sink (cmp : α → α → Int) (a : Nat) : Nat → List α → List α
  | 0, l => l
  | j + 1, l => if decide (((j + 1 : Nat) : Int) > (a : Int)) = true then if decide (cmp (nth l (j + 1)) (nth l j) < 0) = true then sink cmp a j ((l.set (j + 1) (nth l j)).set j (nth l (j + 1))) else l else l
def insSort (cmp : α → α → Int) (a : Nat) : Nat → Nat → List α → List α
  | 0, _, l => l
  | k + 1, i, l => insSort cmp a k (i + 1) (sink cmp a i l)
theorem sink_len (cmp : α → α → Int) (a j : Nat) : ∀ (l : List α), (sink cmp a j l).length = l.length := by
  induction j with
  | zero => intro l; simp only [sink]
  | succ j ih =>
    intro l
    simp only [sink]
    split
    · split
      · rw [ih]; simp
      · rfl
    · rfl
theorem insSort_len (cmp : α → α → Int) (a k : Nat) : ∀ (i : Nat) (l : List α), (insSort cmp a k i l).length = l.length := by
  induction k with
  | zero => intro i l; simp only [insSort]
  | succ k ih => intro i l; simp only [insSort]; rw [ih, sink_len]
end
def insC_ann : Ann := { base := 1, fin := some 1, live := [(1, [0, 1, 2, 3, 8]), (4, [0, 1, 2, 3, 8, 9])], out := [(1, [0, 1, 2, 3, 8]), (4, [0, 1, 2, 3, 8])] }
set_option maxRecDepth 100000 in
theorem insC_sink (cmp : Card → Card → Int) (f : Nat) (xs : List AV) (hc : ∀ (x y : Card) (H : Heap), ACalls Try.prog f ([AV.agg (Card.row x), AV.agg (Card.row y)] ++ xs) H (AV.int .i64 (cmp x y), H)) (a b i n g : Nat) (j : Nat) (l : List Card) (hn : n = l.length) (hb : n < 1099511627776) (hbn : b ≤ n) (hj : j < n) {eX : Ex} {FX : Fr} {HX : Heap} (k1 : (decide (((j : Nat) : Int) > ((a : Nat) : Int))) = true → (decide ((cmp (nth l j) (nth l (j - 1))) < 0)) = true → LoopTo (codeQ Try.prog (X insC_ann) (loopOf Try.f139 1)) (some [0, 1, 2, 3, 8, 9]) (some [0, 1, 2, 3, 8]) (mkF 53 [(0, (AV.osl 0 g 9 0 n)), (1, (AV.int .i64 ((a : Nat) : Int))), (2, (AV.int .i64 ((b : Nat) : Int))), (3, (AV.func f xs)), (8, (AV.int .i64 ((i : Nat) : Int))), (9, (AV.int .i64 ((j - 1 : Nat) : Int)))]) ([⟨g, 9, (List.map Card.row ((l.set j (nth l (j - 1))).set (j - 1) (nth l j))), none⟩] : Heap) eX FX HX) (k2 : (decide (((j : Nat) : Int) > ((a : Nat) : Int))) = true → (decide ((cmp (nth l j) (nth l (j - 1))) < 0)) = false → ((.exit 2 : Ex), (mkF 53 [(0, (AV.osl 0 g 9 0 n)), (1, (AV.int .i64 ((a : Nat) : Int))), (2, (AV.int .i64 ((b : Nat) : Int))), (3, (AV.func f xs)), (8, (AV.int .i64 ((i : Nat) : Int)))]), ([⟨g, 9, (List.map Card.row l), none⟩] : Heap)) = (eX, FX, HX)) (k3 : (decide (((j : Nat) : Int) > ((a : Nat) : Int))) = false → ((.exit 2 : Ex), (mkF 53 [(0, (AV.osl 0 g 9 0 n)), (1, (AV.int .i64 ((a : Nat) : Int))), (2, (AV.int .i64 ((b : Nat) : Int))), (3, (AV.func f xs)), (8, (AV.int .i64 ((i : Nat) : Int)))]), ([⟨g, 9, (List.map Card.row l), none⟩] : Heap)) = (eX, FX, HX)) : LoopTo (codeQ Try.prog (X insC_ann) (loopOf Try.f139 1)) (some [0, 1, 2, 3, 8, 9]) (some [0, 1, 2, 3, 8]) (mkF 53 [(0, (AV.osl 0 g 9 0 n)), (1, (AV.int .i64 ((a : Nat) : Int))), (2, (AV.int .i64 ((b : Nat) : Int))), (3, (AV.func f xs)), (8, (AV.int .i64 ((i : Nat) : Int))), (9, (AV.int .i64 ((j : Nat) : Int)))]) ([⟨g, 9, (List.map Card.row l), none⟩] : Heap) eX FX HX := by
  refine LoopTo.step (.reg [(7, ((AV.obj 0 g j 0), ([⟨g, 9, (List.map Card.row l), none⟩] : Heap))), (8, ((AV.agg (Card.row (nth l j))), ([⟨g, 9, (List.map Card.row l), none⟩] : Heap))), (11, ((AV.int .i64 ((j - 1 : Nat) : Int)), ([⟨g, 9, (List.map Card.row l), none⟩] : Heap))), (12, ((AV.obj 0 g (j - 1) 0), ([⟨g, 9, (List.map Card.row l), none⟩] : Heap))), (13, ((AV.agg (Card.row (nth l (j - 1)))), ([⟨g, 9, (List.map Card.row l), none⟩] : Heap))), (14, ((AV.int .i64 (cmp (nth l j) (nth l (j - 1)))), ([⟨g, 9, (List.map Card.row l), none⟩] : Heap)))] [] [] (.two (.two (.two (.two (.two (.two (.two (.two (.two (.two (.two (.two (.two (.reg [(4, ((AV.int .i64 ((j - 1 : Nat) : Int)), ([⟨g, 9, (List.map Card.row l), none⟩] : Heap))), (7, ((AV.int .i64 ((j - 1 : Nat) : Int)), ([⟨g, 9, (List.map Card.row l), none⟩] : Heap))), (8, ((AV.obj 0 g (j - 1) 0), ([⟨g, 9, (List.map Card.row l), none⟩] : Heap))), (9, ((AV.agg (Card.row (nth l (j - 1)))), ([⟨g, 9, (List.map Card.row l), none⟩] : Heap))), (12, ((AV.obj 0 g j 0), ([⟨g, 9, (List.map Card.row l), none⟩] : Heap))), (13, ((AV.agg (Card.row (nth l j))), ([⟨g, 9, (List.map Card.row l), none⟩] : Heap))), (14, ((AV.obj 0 g j 0), ([⟨g, 9, (List.map Card.row l), none⟩] : Heap))), (15, (AV.skip, ([⟨g, 9, (List.map Card.row (l.set j (nth l (j - 1)))), none⟩] : Heap))), (16, ((AV.obj 0 g (j - 1) 0), ([⟨g, 9, (List.map Card.row (l.set j (nth l (j - 1)))), none⟩] : Heap))), (17, (AV.skip, ([⟨g, 9, (List.map Card.row ((l.set j (nth l (j - 1))).set (j - 1) (nth l j))), none⟩] : Heap)))] [] [] (.reg [(1, ((AV.int .i64 ((j - 1 : Nat) : Int)), ([⟨g, 9, (List.map Card.row ((l.set j (nth l (j - 1))).set (j - 1) (nth l j))), none⟩] : Heap)))] [] [] .nil)) .nil) .nil) .nil) .nil) .nil) .nil) .nil) .nil) .nil) .nil) .nil) .nil) (.two .nil (.two .nil (.two .nil (.two .nil (.two .nil (.two .nil (.two .nil (.two .nil (.two .nil (.two .nil (.two .nil (.two .nil .nil)))))))))))))) ?_
  refine Eq.mp (by kernel_rfl : (cond (decide (((j : Nat) : Int) > ((a : Nat) : Int))) ((IdxOsl 0 g 9 9 0 n ((j : Nat) : Int) ([⟨g, 9, (List.map Card.row l), none⟩] : Heap) j) ∧ (LoadTo tt 34 0 ([⟨g, 9, (List.map Card.row l), none⟩] : Heap) (rowAt ([⟨g, 9, (List.map Card.row l), none⟩] : Heap) 0 g j) = some ((AV.agg (Card.row (nth l j))), ([⟨g, 9, (List.map Card.row l), none⟩] : Heap))) ∧ (Yes (.int .i64 (IntKind.i64.wrap (((j : Nat) : Int) - 1))) ([⟨g, 9, (List.map Card.row l), none⟩] : Heap) (AV.int .i64 ((j - 1 : Nat) : Int))) ∧ (IdxOsl 0 g 9 9 0 n ((j - 1 : Nat) : Int) ([⟨g, 9, (List.map Card.row l), none⟩] : Heap) (j - 1)) ∧ (LoadTo tt 34 0 ([⟨g, 9, (List.map Card.row l), none⟩] : Heap) (rowAt ([⟨g, 9, (List.map Card.row l), none⟩] : Heap) 0 g (j - 1)) = some ((AV.agg (Card.row (nth l (j - 1)))), ([⟨g, 9, (List.map Card.row l), none⟩] : Heap))) ∧ (ACalls Try.prog f ([(AV.agg (Card.row (nth l j))), (AV.agg (Card.row (nth l (j - 1))))] ++ xs) ([⟨g, 9, (List.map Card.row l), none⟩] : Heap) ((AV.int .i64 (cmp (nth l j) (nth l (j - 1)))), ([⟨g, 9, (List.map Card.row l), none⟩] : Heap))) ∧ cond (decide ((cmp (nth l j) (nth l (j - 1))) < 0)) ((Yes (.int .i64 (IntKind.i64.wrap (((j : Nat) : Int) - 1))) ([⟨g, 9, (List.map Card.row l), none⟩] : Heap) (AV.int .i64 ((j - 1 : Nat) : Int))) ∧ (Yes (.int .i64 (IntKind.i64.wrap (((j : Nat) : Int) - 1))) ([⟨g, 9, (List.map Card.row l), none⟩] : Heap) (AV.int .i64 ((j - 1 : Nat) : Int))) ∧ (IdxOsl 0 g 9 9 0 n ((j - 1 : Nat) : Int) ([⟨g, 9, (List.map Card.row l), none⟩] : Heap) (j - 1)) ∧ (LoadTo tt 34 0 ([⟨g, 9, (List.map Card.row l), none⟩] : Heap) (rowAt ([⟨g, 9, (List.map Card.row l), none⟩] : Heap) 0 g (j - 1)) = some ((AV.agg (Card.row (nth l (j - 1)))), ([⟨g, 9, (List.map Card.row l), none⟩] : Heap))) ∧ (IdxOsl 0 g 9 9 0 n ((j : Nat) : Int) ([⟨g, 9, (List.map Card.row l), none⟩] : Heap) j) ∧ (LoadTo tt 34 0 ([⟨g, 9, (List.map Card.row l), none⟩] : Heap) (rowAt ([⟨g, 9, (List.map Card.row l), none⟩] : Heap) 0 g j) = some ((AV.agg (Card.row (nth l j))), ([⟨g, 9, (List.map Card.row l), none⟩] : Heap))) ∧ (IdxOsl 0 g 9 9 0 n ((j : Nat) : Int) ([⟨g, 9, (List.map Card.row l), none⟩] : Heap) j) ∧ (StoreTo ([⟨g, 9, (List.map Card.row l), none⟩] : Heap) 0 j 9 0 (rowAt ([⟨g, 9, (List.map Card.row l), none⟩] : Heap) 0 g j) (AV.fit (AV.agg (Card.row (nth l (j - 1)))) 9) = some (AV.skip, ([⟨g, 9, (List.map Card.row (l.set j (nth l (j - 1)))), none⟩] : Heap))) ∧ (IdxOsl 0 g 9 9 0 n ((j - 1 : Nat) : Int) ([⟨g, 9, (List.map Card.row (l.set j (nth l (j - 1)))), none⟩] : Heap) (j - 1)) ∧ (StoreTo ([⟨g, 9, (List.map Card.row (l.set j (nth l (j - 1)))), none⟩] : Heap) 0 (j - 1) 9 0 (rowAt ([⟨g, 9, (List.map Card.row (l.set j (nth l (j - 1)))), none⟩] : Heap) 0 g (j - 1)) (AV.fit (AV.agg (Card.row (nth l j))) 9) = some (AV.skip, ([⟨g, 9, (List.map Card.row ((l.set j (nth l (j - 1))).set (j - 1) (nth l j))), none⟩] : Heap))) ∧ (Yes (.int .i64 (IntKind.i64.wrap (((j : Nat) : Int) - 1))) ([⟨g, 9, (List.map Card.row ((l.set j (nth l (j - 1))).set (j - 1) (nth l j))), none⟩] : Heap) (AV.int .i64 ((j - 1 : Nat) : Int))) ∧ LoopTo (codeQ Try.prog (X insC_ann) (loopOf Try.f139 1)) (some [0, 1, 2, 3, 8, 9]) (some [0, 1, 2, 3, 8]) (mkF 53 [(0, (AV.osl 0 g 9 0 n)), (1, (AV.int .i64 ((a : Nat) : Int))), (2, (AV.int .i64 ((b : Nat) : Int))), (3, (AV.func f xs)), (8, (AV.int .i64 ((i : Nat) : Int))), (9, (AV.int .i64 ((j - 1 : Nat) : Int)))]) ([⟨g, 9, (List.map Card.row ((l.set j (nth l (j - 1))).set (j - 1) (nth l j))), none⟩] : Heap) eX FX HX) (((.exit 2 : Ex), (mkF 53 [(0, (AV.osl 0 g 9 0 n)), (1, (AV.int .i64 ((a : Nat) : Int))), (2, (AV.int .i64 ((b : Nat) : Int))), (3, (AV.func f xs)), (8, (AV.int .i64 ((i : Nat) : Int)))]), ([⟨g, 9, (List.map Card.row l), none⟩] : Heap)) = (eX, FX, HX))) (((.exit 2 : Ex), (mkF 53 [(0, (AV.osl 0 g 9 0 n)), (1, (AV.int .i64 ((a : Nat) : Int))), (2, (AV.int .i64 ((b : Nat) : Int))), (3, (AV.func f xs)), (8, (AV.int .i64 ((i : Nat) : Int)))]), ([⟨g, 9, (List.map Card.row l), none⟩] : Heap)) = (eX, FX, HX))) = _) ?_
  refine cond_split (fun h1 => ?_) (fun h1 => ?_)
  · have h1' := h1
    try simp at h1'
    refine And.intro (IdxOsl.mk _ (by omega) (by omega)) ?_
    refine And.intro (load_row (rowAt_map (row := Card.row) (l := l) (k := 9) (room := none) (by kernel_rfl) (by first | omega | (simp; done) | (simp; omega))) (by kernel_rfl)) ?_
    refine And.intro (Yes.add (by omega) (by omega) (by omega)) ?_
    refine And.intro (IdxOsl.mk _ (by omega) (by omega)) ?_
    refine And.intro (load_row (rowAt_map (row := Card.row) (l := l) (k := 9) (room := none) (by kernel_rfl) (by first | omega | (simp; done) | (simp; omega))) (by kernel_rfl)) ?_
    refine And.intro (hc (nth l j) (nth l (j - 1)) _) ?_
    refine cond_split (fun h2 => ?_) (fun h2 => ?_)
    · have h2' := h2
      try simp at h2'
      refine And.intro (Yes.add (by omega) (by omega) (by omega)) ?_
      refine And.intro (Yes.add (by omega) (by omega) (by omega)) ?_
      refine And.intro (IdxOsl.mk _ (by omega) (by omega)) ?_
      refine And.intro (load_row (rowAt_map (row := Card.row) (l := l) (k := 9) (room := none) (by kernel_rfl) (by first | omega | (simp; done) | (simp; omega))) (by kernel_rfl)) ?_
      refine And.intro (IdxOsl.mk _ (by omega) (by omega)) ?_
      refine And.intro (load_row (rowAt_map (row := Card.row) (l := l) (k := 9) (room := none) (by kernel_rfl) (by first | omega | (simp; done) | (simp; omega))) (by kernel_rfl)) ?_
      refine And.intro (IdxOsl.mk _ (by omega) (by omega)) ?_
      refine And.intro (store_row (us := (Card.row (nth l (j - 1)))) (rowAt_map (row := Card.row) (l := l) (k := 9) (room := none) (by kernel_rfl) (by first | omega | (simp; done) | (simp; omega))) (by kernel_rfl) (by simp [Card.row]) (by simp [setAt, fillAt, List.map_set, Card.row])) ?_
      refine And.intro (IdxOsl.mk _ (by omega) (by omega)) ?_
      refine And.intro (store_row (us := (Card.row (nth l j))) (rowAt_map (row := Card.row) (l := l.set j (nth l (j - 1))) (k := 9) (room := none) (by kernel_rfl) (by first | omega | (simp; done) | (simp; omega))) (by kernel_rfl) (by simp [Card.row]) (by simp [setAt, fillAt, List.map_set, Card.row])) ?_
      refine And.intro (Yes.add (by omega) (by omega) (by omega)) ?_
      exact k1 h1 h2
    · have h2' := h2
      try simp at h2'
      exact k2 h1 h2
  · have h1' := h1
    try simp at h1'
    exact k3 h1
theorem insC_sinks (cmp : Card → Card → Int) (f : Nat) (xs : List AV) (hc : ∀ (x y : Card) (H : Heap), ACalls Try.prog f ([AV.agg (Card.row x), AV.agg (Card.row y)] ++ xs) H (AV.int .i64 (cmp x y), H)) (a b i n g : Nat) (j : Nat) : ∀ (l lF : List Card), n = l.length → n < 1099511627776 → b ≤ n → j < n → lF = sink cmp a j l →
    LoopTo (codeQ Try.prog (X insC_ann) (loopOf Try.f139 1)) (some [0, 1, 2, 3, 8, 9]) (some [0, 1, 2, 3, 8]) (mkF 53 [(0, (AV.osl 0 g 9 0 n)), (1, (AV.int .i64 ((a : Nat) : Int))), (2, (AV.int .i64 ((b : Nat) : Int))), (3, (AV.func f xs)), (8, (AV.int .i64 ((i : Nat) : Int))), (9, (AV.int .i64 ((j : Nat) : Int)))]) ([⟨g, 9, (List.map Card.row l), none⟩] : Heap) (.exit 2) (mkF 53 [(0, (AV.osl 0 g 9 0 n)), (1, (AV.int .i64 ((a : Nat) : Int))), (2, (AV.int .i64 ((b : Nat) : Int))), (3, (AV.func f xs)), (8, (AV.int .i64 ((i : Nat) : Int)))]) ([⟨g, 9, (List.map Card.row lF), none⟩] : Heap) := by
  induction j with
  | zero =>
    intro l lF hn hb hbn hj h
    refine insC_sink cmp f xs hc a b i n g 0 l hn hb hbn hj (fun h1 => ?_) (fun h1 => ?_) (fun h1 => ?_)
    · simp at h1; omega
    · simp at h1; omega
    · rw [h]; rfl
  | succ j ih =>
    intro l lF hn hb hbn hj h
    refine insC_sink cmp f xs hc a b i n g (j + 1) l hn hb hbn hj (fun h1 h2 => ?_) (fun h1 h2 => ?_) (fun h1 => ?_)
    · simp only [Nat.add_sub_cancel] at h2
      exact ih ((l.set (j + 1) (nth l j)).set j (nth l (j + 1))) lF (by simp [hn]) hb hbn (by omega) (by rw [h]; simp only [sink]; rw [if_pos h1, if_pos h2])
    · simp only [Nat.add_sub_cancel] at h2
      rw [h]; simp only [sink]; rw [if_pos h1, if_neg (by rw [h2]; simp)]
    · rw [h]; simp only [sink]; rw [if_neg (by rw [h1]; simp)]
set_option maxRecDepth 100000 in
theorem insC_step (cmp : Card → Card → Int) (f : Nat) (xs : List AV) (hc : ∀ (x y : Card) (H : Heap), ACalls Try.prog f ([AV.agg (Card.row x), AV.agg (Card.row y)] ++ xs) H (AV.int .i64 (cmp x y), H)) (a b i n g : Nat) (l : List Card) (hn : n = l.length) (hb : n < 1099511627776) (hbn : b ≤ n) {eX : Ex} {FX : Fr} {HX : Heap} (k1 : (decide (((i : Nat) : Int) < ((b : Nat) : Int))) = true → LoopTo (codeQ Try.prog (X insC_ann) (loopOf Try.f139 0)) (some [0, 1, 2, 3, 8]) (some [0, 1, 2, 3, 8]) (mkF 53 [(0, (AV.osl 0 g 9 0 n)), (1, (AV.int .i64 ((a : Nat) : Int))), (2, (AV.int .i64 ((b : Nat) : Int))), (3, (AV.func f xs)), (8, (AV.int .i64 ((i + 1 : Nat) : Int)))]) ([⟨g, 9, (List.map Card.row (sink cmp a i l)), none⟩] : Heap) eX FX HX) (k2 : (decide (((i : Nat) : Int) < ((b : Nat) : Int))) = false → ((.exit 0 : Ex), (mkF 53 [(0, (AV.osl 0 g 9 0 n)), (1, (AV.int .i64 ((a : Nat) : Int))), (2, (AV.int .i64 ((b : Nat) : Int))), (3, (AV.func f xs)), (8, (AV.int .i64 ((i : Nat) : Int)))]), ([⟨g, 9, (List.map Card.row l), none⟩] : Heap)) = (eX, FX, HX)) : LoopTo (codeQ Try.prog (X insC_ann) (loopOf Try.f139 0)) (some [0, 1, 2, 3, 8]) (some [0, 1, 2, 3, 8]) (mkF 53 [(0, (AV.osl 0 g 9 0 n)), (1, (AV.int .i64 ((a : Nat) : Int))), (2, (AV.int .i64 ((b : Nat) : Int))), (3, (AV.func f xs)), (8, (AV.int .i64 ((i : Nat) : Int)))]) ([⟨g, 9, (List.map Card.row l), none⟩] : Heap) eX FX HX := by
  refine LoopTo.step (.reg [] [] [] (.two (.reg [] [] [] (.loop (.exit 2) (mkF 53 [(0, (AV.osl 0 g 9 0 n)), (1, (AV.int .i64 ((a : Nat) : Int))), (2, (AV.int .i64 ((b : Nat) : Int))), (3, (AV.func f xs)), (8, (AV.int .i64 ((i : Nat) : Int)))]) ([⟨g, 9, (List.map Card.row (sink cmp a i l)), none⟩] : Heap) (.reg [(1, ((AV.int .i64 ((i + 1 : Nat) : Int)), ([⟨g, 9, (List.map Card.row (sink cmp a i l)), none⟩] : Heap)))] [] [] .nil))) .nil)) ?_
  refine Eq.mp (by kernel_rfl : (cond (decide (((i : Nat) : Int) < ((b : Nat) : Int))) ((LoopTo (codeQ Try.prog (X insC_ann) (loopOf Try.f139 1)) (some [0, 1, 2, 3, 8, 9]) (some [0, 1, 2, 3, 8]) (mkF 53 [(0, (AV.osl 0 g 9 0 n)), (1, (AV.int .i64 ((a : Nat) : Int))), (2, (AV.int .i64 ((b : Nat) : Int))), (3, (AV.func f xs)), (8, (AV.int .i64 ((i : Nat) : Int))), (9, (AV.int .i64 ((i : Nat) : Int)))]) ([⟨g, 9, (List.map Card.row l), none⟩] : Heap) (.exit 2) (mkF 53 [(0, (AV.osl 0 g 9 0 n)), (1, (AV.int .i64 ((a : Nat) : Int))), (2, (AV.int .i64 ((b : Nat) : Int))), (3, (AV.func f xs)), (8, (AV.int .i64 ((i : Nat) : Int)))]) ([⟨g, 9, (List.map Card.row (sink cmp a i l)), none⟩] : Heap)) ∧ (Yes (.int .i64 (IntKind.i64.wrap (((i : Nat) : Int) + 1))) ([⟨g, 9, (List.map Card.row (sink cmp a i l)), none⟩] : Heap) (AV.int .i64 ((i + 1 : Nat) : Int))) ∧ LoopTo (codeQ Try.prog (X insC_ann) (loopOf Try.f139 0)) (some [0, 1, 2, 3, 8]) (some [0, 1, 2, 3, 8]) (mkF 53 [(0, (AV.osl 0 g 9 0 n)), (1, (AV.int .i64 ((a : Nat) : Int))), (2, (AV.int .i64 ((b : Nat) : Int))), (3, (AV.func f xs)), (8, (AV.int .i64 ((i + 1 : Nat) : Int)))]) ([⟨g, 9, (List.map Card.row (sink cmp a i l)), none⟩] : Heap) eX FX HX) (((.exit 0 : Ex), (mkF 53 [(0, (AV.osl 0 g 9 0 n)), (1, (AV.int .i64 ((a : Nat) : Int))), (2, (AV.int .i64 ((b : Nat) : Int))), (3, (AV.func f xs)), (8, (AV.int .i64 ((i : Nat) : Int)))]), ([⟨g, 9, (List.map Card.row l), none⟩] : Heap)) = (eX, FX, HX))) = _) ?_
  refine cond_split (fun h1 => ?_) (fun h1 => ?_)
  · have h1' := h1
    try simp at h1'
    refine And.intro ((insC_sinks cmp f xs hc a b i n g i l _ hn hb hbn (by omega) rfl)) ?_
    refine And.intro (Yes.add (by omega) (by omega) (by omega)) ?_
    exact k1 h1
  · have h1' := h1
    try simp at h1'
    exact k2 h1
theorem insC_loop (cmp : Card → Card → Int) (f : Nat) (xs : List AV) (hc : ∀ (x y : Card) (H : Heap), ACalls Try.prog f ([AV.agg (Card.row x), AV.agg (Card.row y)] ++ xs) H (AV.int .i64 (cmp x y), H)) (a b n g : Nat) (k : Nat)
    : ∀ (i : Nat) (l lF : List Card) (iF : Nat), n = l.length → n < 1099511627776 → b ≤ n → iF = i + k → b ≤ i + k → i + k ≤ max b i → lF = insSort cmp a k i l →
    LoopTo (codeQ Try.prog (X insC_ann) (loopOf Try.f139 0)) (some [0, 1, 2, 3, 8]) (some [0, 1, 2, 3, 8]) (mkF 53 [(0, (AV.osl 0 g 9 0 n)), (1, (AV.int .i64 ((a : Nat) : Int))), (2, (AV.int .i64 ((b : Nat) : Int))), (3, (AV.func f xs)), (8, (AV.int .i64 ((i : Nat) : Int)))]) ([⟨g, 9, (List.map Card.row l), none⟩] : Heap) (.exit 0) (mkF 53 [(0, (AV.osl 0 g 9 0 n)), (1, (AV.int .i64 ((a : Nat) : Int))), (2, (AV.int .i64 ((b : Nat) : Int))), (3, (AV.func f xs)), (8, (AV.int .i64 ((iF : Nat) : Int)))]) ([⟨g, 9, (List.map Card.row lF), none⟩] : Heap) := by
  induction k with
  | zero =>
    intro i l lF iF hn hb hbn h1 h2 h2' h3
    refine insC_step cmp f xs hc a b i n g l hn hb hbn (fun h => ?_) (fun h => ?_)
    · simp at h; omega
    · rw [h3, h1]; simp only [insSort]; rfl
  | succ k ih =>
    intro i l lF iF hn hb hbn h1 h2 h2' h3
    refine insC_step cmp f xs hc a b i n g l hn hb hbn (fun h => ?_) (fun h => ?_)
    · exact ih (i + 1) (sink cmp a i l) lF iF (by rw [sink_len]; exact hn) hb hbn (by omega) (by omega) (by simp at h; omega) (by rw [h3]; simp only [insSort])
    · simp at h; omega
set_option maxRecDepth 100000 in
theorem insC_spec (cmp : Card → Card → Int) (f : Nat) (xs : List AV) (a b n g : Nat) (l : List Card) (hc : ∀ (x y : Card) (H : Heap), ACalls Try.prog f ([AV.agg (Card.row x), AV.agg (Card.row y)] ++ xs) H (AV.int .i64 (cmp x y), H)) (hxs : AV.bdds 1 xs = true) (hn : n = l.length) (hb : n < 1099511627776) (hbn : b ≤ n) (hab : a < 1099511627776) : ACalls Try.prog 139 [(AV.osl 0 g 9 0 n), (AV.int .i64 ((a : Nat) : Int)), (AV.int .i64 ((b : Nat) : Int)), (AV.func f xs)] ([⟨g, 9, (List.map Card.row l), none⟩] : Heap) ((AV.tup []), ([⟨g, 9, (List.map Card.row (insSort cmp a (b - (a + 1)) (a + 1) l)), none⟩] : Heap)) := by
  refine spec (fn := Try.f139) (ann := insC_ann) (t := (.reg [(1, ((AV.int .i64 ((a + 1 : Nat) : Int)), ([⟨g, 9, (List.map Card.row l), none⟩] : Heap)))] [] [] (.loop (.exit 0) (mkF 53 [(0, (AV.osl 0 g 9 0 n)), (1, (AV.int .i64 ((a : Nat) : Int))), (2, (AV.int .i64 ((b : Nat) : Int))), (3, (AV.func f xs)), (8, (AV.int .i64 ((((a + 1) + (b - (a + 1))) : Nat) : Int)))]) ([⟨g, 9, (List.map Card.row (insSort cmp a (b - (a + 1)) (a + 1) l)), none⟩] : Heap) .nil))) (Nat.le_of_ble_eq_true (by kernel_rfl)) ⟨Try.func139, by kernel_rfl, by kernel_rfl, by kernel_rfl⟩ ?_
  refine Eq.mp (by kernel_rfl : ((Yes (.int .i64 (IntKind.i64.wrap (((a : Nat) : Int) + 1))) ([⟨g, 9, (List.map Card.row l), none⟩] : Heap) (AV.int .i64 ((a + 1 : Nat) : Int))) ∧ (LoopTo (codeQ Try.prog (X insC_ann) (loopOf Try.f139 0)) (some [0, 1, 2, 3, 8]) (some [0, 1, 2, 3, 8]) (mkF 53 [(0, (AV.osl 0 g 9 0 n)), (1, (AV.int .i64 ((a : Nat) : Int))), (2, (AV.int .i64 ((b : Nat) : Int))), (3, (AV.func f xs)), (8, (AV.int .i64 ((a + 1 : Nat) : Int)))]) ([⟨g, 9, (List.map Card.row l), none⟩] : Heap) (.exit 0) (mkF 53 [(0, (AV.osl 0 g 9 0 n)), (1, (AV.int .i64 ((a : Nat) : Int))), (2, (AV.int .i64 ((b : Nat) : Int))), (3, (AV.func f xs)), (8, (AV.int .i64 ((((a + 1) + (b - (a + 1))) : Nat) : Int)))]) ([⟨g, 9, (List.map Card.row (insSort cmp a (b - (a + 1)) (a + 1) l)), none⟩] : Heap)) ∧ (AV.bdd 1 (AV.tup []) = true ∧ obsB 1 ([⟨g, 9, (List.map Card.row (insSort cmp a (b - (a + 1)) (a + 1) l)), none⟩] : Heap) = true) ∧ ((AV.tup []), ([⟨g, 9, (List.map Card.row (insSort cmp a (b - (a + 1)) (a + 1) l)), none⟩] : Heap)) = ((AV.tup []), ([⟨g, 9, (List.map Card.row (insSort cmp a (b - (a + 1)) (a + 1) l)), none⟩] : Heap))) = _) ?_
  refine And.intro (Yes.add (by omega) (by omega) (by omega)) ?_
  refine And.intro ((insC_loop cmp f xs hc a b n g (b - (a + 1)) (a + 1) l _ _ hn hb hbn rfl (by omega) (by omega) rfl)) ?_
  refine And.intro (by first | (simp [obsB, AV.bddss, AV.bdds, AV.bdd]; done) | (simp [obsB, AV.bddss, AV.bdds, AV.bdd, -List.map_append]; done) | simp [obsB, AV.bddss, AV.bdds, AV.bdd, -List.map_append, -List.map_set, -List.map_take, -List.map_drop, -List.map_cons, -List.map_map]) ?_
  rfl
theorem insC_at (cmp : Card → Card → Int) (f : Nat) (xs : List AV) (a b n g : Nat) (l : List Card) (hc : ∀ (x y : Card) (H : Heap), ACalls Try.prog f ([AV.agg (Card.row x), AV.agg (Card.row y)] ++ xs) H (AV.int .i64 (cmp x y), H)) (hxs : AV.bdds 1 xs = true) (hn : n = l.length) (hb : n < 1099511627776) (hbn : b ≤ n) (hab : a < 1099511627776) (H : Heap) : ACalls Try.prog 139 [(AV.osl 0 g 9 0 n), (AV.int .i64 ((a : Nat) : Int)), (AV.int .i64 ((b : Nat) : Int)), (AV.func f xs)] (([⟨g, 9, (List.map Card.row l), none⟩] : Heap) ++ H) ((AV.tup []), ([⟨g, 9, (List.map Card.row (insSort cmp a (b - (a + 1)) (a + 1) l)), none⟩] : Heap) ++ H) := (insC_spec cmp f xs a b n g l hc hxs hn hb hbn hab).ext (by simp [AV.bdds, AV.bdd, *]) (by kernel_rfl) (by first | (simp [obsB, AV.bddss, AV.bdds, AV.bdd]; done) | (simp [obsB, AV.bddss, AV.bdds, AV.bdd, -List.map_append]; done) | simp [obsB, AV.bddss, AV.bdds, AV.bdd, -List.map_append, -List.map_set, -List.map_take, -List.map_drop, -List.map_cons, -List.map_map]) (by first | (simp [obsB, AV.bddss, AV.bdds, AV.bdd]; done) | (simp [obsB, AV.bddss, AV.bdds, AV.bdd, -List.map_append]; done) | simp [obsB, AV.bddss, AV.bdds, AV.bdd, -List.map_append, -List.map_set, -List.map_take, -List.map_drop, -List.map_cons, -List.map_map]) (by kernel_rfl) H
end Go.Proofs.Ytpkgpldgoajphaa.AM

set_option maxRecDepth 100000
set_option linter.unusedVariables false
set_option linter.unusedSimpArgs false
namespace Go.Proofs.Ytpkgpldgoajphaa.AM
open Go Go.Proofs.Ytpkgpldgoajphaa
attribute [local irreducible] ACalls funT codeT codeQ LoopTo
attribute [local irreducible] Tp.card Tp.cardT Tp.next Tp.step Tp.cards Tp.cardsT Tp.key Tp.keyT sink insSort
def sortCS_ann : Ann := { base := 1, fin := some 1 }
set_option maxRecDepth 100000 in
theorem sortCS_spec (cmp : Card → Card → Int) (f : Nat) (xs : List AV) (n g : Nat) (l : List Card) (hc : ∀ (x y : Card) (H : Heap), ACalls Try.prog f ([AV.agg (Card.row x), AV.agg (Card.row y)] ++ xs) H (AV.int .i64 (cmp x y), H)) (hxs : AV.bdds 1 xs = true) (hn : n = l.length) (hb : n < 20) : ACalls Try.prog 134 [(AV.osl 0 g 9 0 n), (AV.int .i64 ((n : Nat) : Int)), (AV.func f xs)] ([⟨g, 9, (List.map Card.row l), none⟩] : Heap) ((AV.tup []), ([⟨g, 9, (List.map Card.row (insSort cmp 0 (n - 1) 1 l)), none⟩] : Heap)) := by
  refine spec (fn := Try.f134) (ann := sortCS_ann) (t := (.reg [] [] [] (.reg [] [] [] (.roll 1 (.reg [(2, ((AV.bool false), ([⟨g, 9, (List.map Card.row l), none⟩] : Heap)))] [] [] (.two .nil (.reg [(4, ((AV.tup []), ([⟨g, 9, (List.map Card.row (insSort cmp 0 (n - (0 + 1)) (0 + 1) l)), none⟩] : Heap)))] [] [] (.roll 1 (.reg [(2, ((AV.bool false), ([⟨g, 9, (List.map Card.row (insSort cmp 0 (n - (0 + 1)) (0 + 1) l)), none⟩] : Heap)))] [] [] (.two .nil .nil)))))))))) (Nat.le_of_ble_eq_true (by kernel_rfl)) ⟨Try.func134, by kernel_rfl, by kernel_rfl, by kernel_rfl⟩ ?_
  refine Eq.mp (by kernel_rfl : ((Yes (AV.bool (decide (20 ≤ ((n : Nat) : Int)))) ([⟨g, 9, (List.map Card.row l), none⟩] : Heap) (AV.bool false)) ∧ (ACalls Try.prog 139 [(AV.osl 0 g 9 0 n), (AV.int .i64 0), (AV.int .i64 ((n : Nat) : Int)), (AV.func f xs)] ([⟨g, 9, (List.map Card.row l), none⟩] : Heap) ((AV.tup []), ([⟨g, 9, (List.map Card.row (insSort cmp 0 (n - (0 + 1)) (0 + 1) l)), none⟩] : Heap))) ∧ (Yes (AV.bool (decide (20 < ((n : Nat) : Int)))) ([⟨g, 9, (List.map Card.row (insSort cmp 0 (n - (0 + 1)) (0 + 1) l)), none⟩] : Heap) (AV.bool false)) ∧ (AV.bdd 1 (AV.tup []) = true ∧ obsB 1 ([⟨g, 9, (List.map Card.row (insSort cmp 0 (n - (0 + 1)) (0 + 1) l)), none⟩] : Heap) = true) ∧ ((AV.tup []), ([⟨g, 9, (List.map Card.row (insSort cmp 0 (n - (0 + 1)) (0 + 1) l)), none⟩] : Heap)) = ((AV.tup []), ([⟨g, 9, (List.map Card.row (insSort cmp 0 (n - 1) 1 l)), none⟩] : Heap))) = _) ?_
  refine And.intro (Yes.bool (by first | exact decide_eq_true (by omega) | exact decide_eq_false (by omega) | (simp; omega))) ?_
  refine And.intro ((insC_at _ f xs 0 n n g l (by first | exact hc | exact hxs | omega) (by first | exact hc | exact hxs | omega) (by first | exact hc | exact hxs | omega) (by first | exact hc | exact hxs | omega) (by first | exact hc | exact hxs | omega) (by first | exact hc | exact hxs | omega) ([] : Heap)).pre ⟨AV.wk_refl_any _, AV.wk_refl_any _, AV.wk_refl_any _, AV.wk_refl_any _, trivial⟩) ?_
  refine And.intro (Yes.bool (by first | exact decide_eq_true (by omega) | exact decide_eq_false (by omega) | (simp; omega))) ?_
  refine And.intro (by first | (simp [obsB, AV.bddss, AV.bdds, AV.bdd]; done) | (simp [obsB, AV.bddss, AV.bdds, AV.bdd, -List.map_append]; done) | simp [obsB, AV.bddss, AV.bdds, AV.bdd, -List.map_append, -List.map_set, -List.map_take, -List.map_drop, -List.map_cons, -List.map_map]) ?_
  simp
theorem sortCS_at (cmp : Card → Card → Int) (f : Nat) (xs : List AV) (n g : Nat) (l : List Card) (hc : ∀ (x y : Card) (H : Heap), ACalls Try.prog f ([AV.agg (Card.row x), AV.agg (Card.row y)] ++ xs) H (AV.int .i64 (cmp x y), H)) (hxs : AV.bdds 1 xs = true) (hn : n = l.length) (hb : n < 20) (H : Heap) : ACalls Try.prog 134 [(AV.osl 0 g 9 0 n), (AV.int .i64 ((n : Nat) : Int)), (AV.func f xs)] (([⟨g, 9, (List.map Card.row l), none⟩] : Heap) ++ H) ((AV.tup []), ([⟨g, 9, (List.map Card.row (insSort cmp 0 (n - 1) 1 l)), none⟩] : Heap) ++ H) := (sortCS_spec cmp f xs n g l hc hxs hn hb).ext (by simp [AV.bdds, AV.bdd, *]) (by kernel_rfl) (by first | (simp [obsB, AV.bddss, AV.bdds, AV.bdd]; done) | (simp [obsB, AV.bddss, AV.bdds, AV.bdd, -List.map_append]; done) | simp [obsB, AV.bddss, AV.bdds, AV.bdd, -List.map_append, -List.map_set, -List.map_take, -List.map_drop, -List.map_cons, -List.map_map]) (by first | (simp [obsB, AV.bddss, AV.bdds, AV.bdd]; done) | (simp [obsB, AV.bddss, AV.bdds, AV.bdd, -List.map_append]; done) | simp [obsB, AV.bddss, AV.bdds, AV.bdd, -List.map_append, -List.map_set, -List.map_take, -List.map_drop, -List.map_cons, -List.map_map]) (by kernel_rfl) H
def sortC_ann : Ann := { base := 1, fin := some 1 }
set_option maxRecDepth 100000 in
theorem sortC_spec (cmp : Card → Card → Int) (f : Nat) (xs : List AV) (n g : Nat) (l : List Card) (hc : ∀ (x y : Card) (H : Heap), ACalls Try.prog f ([AV.agg (Card.row x), AV.agg (Card.row y)] ++ xs) H (AV.int .i64 (cmp x y), H)) (hxs : AV.bdds 1 xs = true) (hn : n = l.length) (hb : n < 20) : ACalls Try.prog 118 [(AV.osl 0 g 9 0 n), (AV.func f xs)] ([⟨g, 9, (List.map Card.row l), none⟩] : Heap) ((AV.tup []), ([⟨g, 9, (List.map Card.row (insSort cmp 0 (n - 1) 1 l)), none⟩] : Heap)) := by
  refine spec (fn := Try.f118) (ann := sortC_ann) (t := (.reg [(4, ((AV.tup []), ([⟨g, 9, (List.map Card.row (insSort cmp 0 (n - 1) 1 l)), none⟩] : Heap)))] [] [] .nil)) (Nat.le_of_ble_eq_true (by kernel_rfl)) ⟨Try.func118, by kernel_rfl, by kernel_rfl, by kernel_rfl⟩ ?_
  refine Eq.mp (by kernel_rfl : ((ACalls Try.prog 134 [(AV.osl 0 g 9 0 n), (AV.int .i64 ((n : Nat) : Int)), (AV.func f xs)] ([⟨g, 9, (List.map Card.row l), none⟩] : Heap) ((AV.tup []), ([⟨g, 9, (List.map Card.row (insSort cmp 0 (n - 1) 1 l)), none⟩] : Heap))) ∧ (AV.bdd 1 (AV.tup []) = true ∧ obsB 1 ([⟨g, 9, (List.map Card.row (insSort cmp 0 (n - 1) 1 l)), none⟩] : Heap) = true) ∧ ((AV.tup []), ([⟨g, 9, (List.map Card.row (insSort cmp 0 (n - 1) 1 l)), none⟩] : Heap)) = ((AV.tup []), ([⟨g, 9, (List.map Card.row (insSort cmp 0 (n - 1) 1 l)), none⟩] : Heap))) = _) ?_
  refine And.intro (sortCS_at _ f xs n g l (by first | exact hc | exact hxs | omega) (by first | exact hc | exact hxs | omega) (by first | exact hc | exact hxs | omega) (by first | exact hc | exact hxs | omega) ([] : Heap)) ?_
  refine And.intro (by first | (simp [obsB, AV.bddss, AV.bdds, AV.bdd]; done) | (simp [obsB, AV.bddss, AV.bdds, AV.bdd, -List.map_append]; done) | simp [obsB, AV.bddss, AV.bdds, AV.bdd, -List.map_append, -List.map_set, -List.map_take, -List.map_drop, -List.map_cons, -List.map_map]) ?_
  rfl
theorem sortC_at (cmp : Card → Card → Int) (f : Nat) (xs : List AV) (n g : Nat) (l : List Card) (hc : ∀ (x y : Card) (H : Heap), ACalls Try.prog f ([AV.agg (Card.row x), AV.agg (Card.row y)] ++ xs) H (AV.int .i64 (cmp x y), H)) (hxs : AV.bdds 1 xs = true) (hn : n = l.length) (hb : n < 20) (H : Heap) : ACalls Try.prog 118 [(AV.osl 0 g 9 0 n), (AV.func f xs)] (([⟨g, 9, (List.map Card.row l), none⟩] : Heap) ++ H) ((AV.tup []), ([⟨g, 9, (List.map Card.row (insSort cmp 0 (n - 1) 1 l)), none⟩] : Heap) ++ H) := (sortC_spec cmp f xs n g l hc hxs hn hb).ext (by simp [AV.bdds, AV.bdd, *]) (by kernel_rfl) (by first | (simp [obsB, AV.bddss, AV.bdds, AV.bdd]; done) | (simp [obsB, AV.bddss, AV.bdds, AV.bdd, -List.map_append]; done) | simp [obsB, AV.bddss, AV.bdds, AV.bdd, -List.map_append, -List.map_set, -List.map_take, -List.map_drop, -List.map_cons, -List.map_map]) (by first | (simp [obsB, AV.bddss, AV.bdds, AV.bdd]; done) | (simp [obsB, AV.bddss, AV.bdds, AV.bdd, -List.map_append]; done) | simp [obsB, AV.bddss, AV.bdds, AV.bdd, -List.map_append, -List.map_set, -List.map_take, -List.map_drop, -List.map_cons, -List.map_map]) (by kernel_rfl) H
end Go.Proofs.Ytpkgpldgoajphaa.AM

set_option maxRecDepth 100000
set_option linter.unusedVariables false
set_option linter.unusedSimpArgs false
namespace Go.Proofs.Ytpkgpldgoajphaa.AM
open Go Go.Proofs.Ytpkgpldgoajphaa
attribute [local irreducible] ACalls funT codeT codeQ LoopTo
attribute [local irreducible] Tp.card Tp.cardT Tp.next Tp.step Tp.cards Tp.cardsT Tp.key Tp.keyT sink insSort
theorem drop_nth {α : Type} [Inhabited α] {l : List α} {i : Nat} (h : i < l.length) : l.drop i = nth l i :: l.drop (i + 1) := by
  rw [List.drop_eq_getElem_cons h]
  congr 1
  simp [nth, List.getD_eq_getElem?_getD, List.getElem?_eq_getElem h]
end Go.Proofs.Ytpkgpldgoajphaa.AM

set_option maxRecDepth 100000
set_option linter.unusedVariables false
set_option linter.unusedSimpArgs false
namespace Go.Proofs.Ytpkgpldgoajphaa.AM
open Go Go.Proofs.Ytpkgpldgoajphaa
attribute [local irreducible] ACalls funT codeT codeQ LoopTo
attribute [local irreducible] Tp.card Tp.cardT Tp.next Tp.step Tp.cards Tp.cardsT Tp.key Tp.keyT sink insSort
def beforeK (a b : Key) : Bool := if (!(a.app.toList == b.app.toList)) = true then Op.bytesLess a.app.toList b.app.toList else Op.bytesLess a.id.toList b.id.toList
def before_ann : Ann := { refs := [2, 3], fin := some 0 }
set_option maxRecDepth 100000 in
theorem before_spec (a b : Key)  : ACalls Try.prog 104 [(AV.agg (Key.row a)), (AV.agg (Key.row b))] ([] : Heap) ((AV.bool (beforeK a b)), ([] : Heap)) := by
  refine spec (fn := Try.f104) (ann := before_ann) (t := (.reg [] [] [] (.reg [] [] [] (.two (.reg [] [] [] .nil) (.reg [] [] [] .nil))))) (Nat.le_of_ble_eq_true (by kernel_rfl)) ⟨Try.func104, by kernel_rfl, by kernel_rfl, by kernel_rfl⟩ ?_
  refine Eq.mp (by kernel_rfl : (cond (!(a.app.toList == b.app.toList)) ((AV.bdd 0 (AV.bool (Op.bytesLess a.app.toList b.app.toList)) = true ∧ obsB 0 ([] : Heap) = true) ∧ ((AV.bool (Op.bytesLess a.app.toList b.app.toList)), ([] : Heap)) = ((AV.bool (beforeK a b)), ([] : Heap))) ((AV.bdd 0 (AV.bool (Op.bytesLess a.id.toList b.id.toList)) = true ∧ obsB 0 ([] : Heap) = true) ∧ ((AV.bool (Op.bytesLess a.id.toList b.id.toList)), ([] : Heap)) = ((AV.bool (beforeK a b)), ([] : Heap)))) = _) ?_
  refine cond_split (fun h1 => ?_) (fun h1 => ?_)
  · have h1' := h1
    try simp at h1'
    refine And.intro (by first | (simp [obsB, AV.bddss, AV.bdds, AV.bdd]; done) | (simp [obsB, AV.bddss, AV.bdds, AV.bdd, -List.map_append]; done) | simp [obsB, AV.bddss, AV.bdds, AV.bdd, -List.map_append, -List.map_set, -List.map_take, -List.map_drop, -List.map_cons, -List.map_map]) ?_
    simp_all [beforeK]
  · have h1' := h1
    try simp at h1'
    refine And.intro (by first | (simp [obsB, AV.bddss, AV.bdds, AV.bdd]; done) | (simp [obsB, AV.bddss, AV.bdds, AV.bdd, -List.map_append]; done) | simp [obsB, AV.bddss, AV.bdds, AV.bdd, -List.map_append, -List.map_set, -List.map_take, -List.map_drop, -List.map_cons, -List.map_map]) ?_
    simp_all [beforeK]
theorem before_at (a b : Key)  (H : Heap) : ACalls Try.prog 104 [(AV.agg (Key.row a)), (AV.agg (Key.row b))] H ((AV.bool (beforeK a b)), H) := (before_spec a b ).lift (by kernel_rfl) (by kernel_rfl) H
def posK (c : Card) (out : List Card) : Nat → Nat
  | 0 => 0
  | k + 1 => if beforeK c.key (nth out k).key = true then posK c out k else k + 1
theorem posK_le (c : Card) (out : List Card) (k : Nat) : posK c out k ≤ k := by
  induction k with
  | zero => simp only [posK]; omega
  | succ k ih => simp only [posK]; split <;> omega
def insK (out : List Card) (c : Card) : List Card := (out.take (posK c out out.length) ++ [c]) ++ out.drop (posK c out out.length)
theorem insK_len (out : List Card) (c : Card) : (insK out c).length = out.length + 1 := by
  have := posK_le c out out.length
  simp [insK]; omega
def sortK (l : List Card) : List Card := l.foldl insK []
theorem foldl_insK_len (l : List Card) : ∀ (out : List Card), (l.foldl insK out).length = out.length + l.length := by
  induction l with
  | nil => intro out; simp
  | cons c l ih => intro out; rw [List.foldl_cons, ih, insK_len]; simp; omega
theorem sortK_len (l : List Card) : (sortK l).length = l.length := by rw [sortK, foldl_insK_len]; simp
def rsort_ann : Ann := { own := [34, 41], gha := [(1, .any 3 9), (8, .frz 3), (9, .cut 0)], fin := some 0, live := [(3, [3, 7, 8, 9]), (6, [3, 5, 6, 7, 8, 9])], out := [(3, [3, 7, 8, 9]), (6, [3, 5, 6, 7, 8, 9])] }
set_option maxRecDepth 100000 in
theorem rsort_in (l out : List Card) (i : Nat) (k : Nat) (c : Card) (hk : out.length ≤ 1048576) (hi : i ≤ l.length) (hl : l.length < 1048576) (hk2 : k ≤ out.length) {eX : Ex} {FX : Fr} {HX : Heap} (k1 : (decide (((k : Nat) : Int) > 0)) = true → (beforeK c.key (nth out (k - 1)).key) = true → LoopTo (codeQ Try.prog (X rsort_ann) (loopOf Try.f63 1)) (some [3, 5, 6, 7, 8, 9]) (some [3, 5, 6, 7, 8, 9]) (mkF 44 [(3, (AV.sl .any 9 (List.map Card.row out))), (5, (AV.obj 0 0 0 0)), (6, (AV.int .i64 ((k - 1 : Nat) : Int))), (7, (AV.sl .any 9 (List.map Card.row l))), (8, (AV.int .i64 ((l.length : Nat) : Int))), (9, (AV.int .i64 ((i : Nat) : Int)))]) ([⟨0, 9, [(Card.row c)], none⟩] : Heap) eX FX HX) (k2 : (decide (((k : Nat) : Int) > 0)) = true → (beforeK c.key (nth out (k - 1)).key) = false → ((.exit 2 : Ex), (mkF 44 [(3, (AV.sl .any 9 (List.map Card.row out))), (5, (AV.obj 0 0 0 0)), (6, (AV.int .i64 ((k : Nat) : Int))), (7, (AV.sl .any 9 (List.map Card.row l))), (8, (AV.int .i64 ((l.length : Nat) : Int))), (9, (AV.int .i64 ((i : Nat) : Int)))]), ([⟨0, 9, [(Card.row c)], none⟩] : Heap)) = (eX, FX, HX)) (k3 : (decide (((k : Nat) : Int) > 0)) = false → ((.exit 2 : Ex), (mkF 44 [(3, (AV.sl .any 9 (List.map Card.row out))), (5, (AV.obj 0 0 0 0)), (6, (AV.int .i64 ((k : Nat) : Int))), (7, (AV.sl .any 9 (List.map Card.row l))), (8, (AV.int .i64 ((l.length : Nat) : Int))), (9, (AV.int .i64 ((i : Nat) : Int)))]), ([⟨0, 9, [(Card.row c)], none⟩] : Heap)) = (eX, FX, HX)) : LoopTo (codeQ Try.prog (X rsort_ann) (loopOf Try.f63 1)) (some [3, 5, 6, 7, 8, 9]) (some [3, 5, 6, 7, 8, 9]) (mkF 44 [(3, (AV.sl .any 9 (List.map Card.row out))), (5, (AV.obj 0 0 0 0)), (6, (AV.int .i64 ((k : Nat) : Int))), (7, (AV.sl .any 9 (List.map Card.row l))), (8, (AV.int .i64 ((l.length : Nat) : Int))), (9, (AV.int .i64 ((i : Nat) : Int)))]) ([⟨0, 9, [(Card.row c)], none⟩] : Heap) eX FX HX := by
  refine LoopTo.step (.reg [(7, ((AV.int .i64 ((k - 1 : Nat) : Int)), ([⟨0, 9, [(Card.row c)], none⟩] : Heap))), (8, ((AV.ref (Card.row (nth out (k - 1))) 0), ([⟨0, 9, [(Card.row c)], none⟩] : Heap))), (11, ((AV.bool (beforeK c.key (nth out (k - 1)).key)), ([⟨0, 9, [(Card.row c)], none⟩] : Heap)))] [] [] (.two (.two (.two (.two (.two (.two (.two (.two (.two (.two (.reg [(1, ((AV.int .i64 ((k - 1 : Nat) : Int)), ([⟨0, 9, [(Card.row c)], none⟩] : Heap)))] [] [] .nil) .nil) .nil) .nil) .nil) .nil) .nil) .nil) .nil) .nil) (.two .nil (.two .nil (.two .nil (.two .nil (.two .nil (.two .nil (.two .nil (.two .nil (.two .nil .nil))))))))))) ?_
  refine Eq.mp (by kernel_rfl : (cond (decide (((k : Nat) : Int) > 0)) ((Yes (.int .i64 (IntKind.i64.wrap (((k : Nat) : Int) - 1))) ([⟨0, 9, [(Card.row c)], none⟩] : Heap) (AV.int .i64 ((k - 1 : Nat) : Int))) ∧ (IdxSl 9 9 (List.map Card.row out) ((k - 1 : Nat) : Int) ([⟨0, 9, [(Card.row c)], none⟩] : Heap) (Card.row (nth out (k - 1)))) ∧ (ACalls Try.prog 104 [(AV.agg (Key.row c.key)), (AV.agg (Key.row (nth out (k - 1)).key))] ([⟨0, 9, [(Card.row c)], none⟩] : Heap) ((AV.bool (beforeK c.key (nth out (k - 1)).key)), ([⟨0, 9, [(Card.row c)], none⟩] : Heap))) ∧ cond (beforeK c.key (nth out (k - 1)).key) ((Yes (.int .i64 (IntKind.i64.wrap (((k : Nat) : Int) - 1))) ([⟨0, 9, [(Card.row c)], none⟩] : Heap) (AV.int .i64 ((k - 1 : Nat) : Int))) ∧ LoopTo (codeQ Try.prog (X rsort_ann) (loopOf Try.f63 1)) (some [3, 5, 6, 7, 8, 9]) (some [3, 5, 6, 7, 8, 9]) (mkF 44 [(3, (AV.sl .any 9 (List.map Card.row out))), (5, (AV.obj 0 0 0 0)), (6, (AV.int .i64 ((k - 1 : Nat) : Int))), (7, (AV.sl .any 9 (List.map Card.row l))), (8, (AV.int .i64 ((l.length : Nat) : Int))), (9, (AV.int .i64 ((i : Nat) : Int)))]) ([⟨0, 9, [(Card.row c)], none⟩] : Heap) eX FX HX) (((.exit 2 : Ex), (mkF 44 [(3, (AV.sl .any 9 (List.map Card.row out))), (5, (AV.obj 0 0 0 0)), (6, (AV.int .i64 ((k : Nat) : Int))), (7, (AV.sl .any 9 (List.map Card.row l))), (8, (AV.int .i64 ((l.length : Nat) : Int))), (9, (AV.int .i64 ((i : Nat) : Int)))]), ([⟨0, 9, [(Card.row c)], none⟩] : Heap)) = (eX, FX, HX))) (((.exit 2 : Ex), (mkF 44 [(3, (AV.sl .any 9 (List.map Card.row out))), (5, (AV.obj 0 0 0 0)), (6, (AV.int .i64 ((k : Nat) : Int))), (7, (AV.sl .any 9 (List.map Card.row l))), (8, (AV.int .i64 ((l.length : Nat) : Int))), (9, (AV.int .i64 ((i : Nat) : Int)))]), ([⟨0, 9, [(Card.row c)], none⟩] : Heap)) = (eX, FX, HX))) = _) ?_
  refine cond_split (fun h1 => ?_) (fun h1 => ?_)
  · have h1' := h1
    try simp at h1'
    refine And.intro (Yes.add (by omega) (by omega) (by omega)) ?_
    refine And.intro (IdxSl.mk _ (by omega) (by omega)) ?_
    refine And.intro (before_at c.key (nth out (k - 1)).key  ([⟨0, 9, [(Card.row c)], none⟩] : Heap)) ?_
    refine cond_split (fun h2 => ?_) (fun h2 => ?_)
    · have h2' := h2
      try simp at h2'
      refine And.intro (Yes.add (by omega) (by omega) (by omega)) ?_
      exact k1 h1 h2
    · have h2' := h2
      try simp at h2'
      exact k2 h1 h2
  · have h1' := h1
    try simp at h1'
    exact k3 h1
theorem rsort_ins (l out : List Card) (i : Nat) (c : Card) (hk : out.length ≤ 1048576) (hi : i ≤ l.length) (hl : l.length < 1048576) (k : Nat) : ∀ (kF : Nat), k ≤ out.length → kF = posK c out k →
    LoopTo (codeQ Try.prog (X rsort_ann) (loopOf Try.f63 1)) (some [3, 5, 6, 7, 8, 9]) (some [3, 5, 6, 7, 8, 9]) (mkF 44 [(3, (AV.sl .any 9 (List.map Card.row out))), (5, (AV.obj 0 0 0 0)), (6, (AV.int .i64 ((k : Nat) : Int))), (7, (AV.sl .any 9 (List.map Card.row l))), (8, (AV.int .i64 ((l.length : Nat) : Int))), (9, (AV.int .i64 ((i : Nat) : Int)))]) ([⟨0, 9, [(Card.row c)], none⟩] : Heap) (.exit 2) (mkF 44 [(3, (AV.sl .any 9 (List.map Card.row out))), (5, (AV.obj 0 0 0 0)), (6, (AV.int .i64 ((kF : Nat) : Int))), (7, (AV.sl .any 9 (List.map Card.row l))), (8, (AV.int .i64 ((l.length : Nat) : Int))), (9, (AV.int .i64 ((i : Nat) : Int)))]) ([⟨0, 9, [(Card.row c)], none⟩] : Heap) := by
  induction k with
  | zero =>
    intro kF hk2 h
    refine rsort_in l out i 0 c hk hi hl hk2 (fun h1 => by simp at h1) (fun h1 => by simp at h1) fun _ => ?_
    rw [h]; rfl
  | succ k ih =>
    intro kF hk2 h
    refine rsort_in l out i (k + 1) c hk hi hl hk2 (fun _ h2 => ?_) (fun _ h2 => ?_) fun h1 => by simp at h1 <;> omega
    · simp only [Nat.add_sub_cancel] at h2
      exact ih kF (by omega) (by rw [h]; simp only [posK, h2, if_true])
    · simp only [Nat.add_sub_cancel] at h2
      rw [h]; simp only [posK, h2, Bool.false_eq_true, if_false]
set_option maxRecDepth 100000 in
theorem rsort_step (l out : List Card) (i : Nat) (hk : out.length ≤ 1048576) (hi : i ≤ l.length) (hl : l.length < 1048576) {eX : Ex} {FX : Fr} {HX : Heap} (k1 : (decide (((i : Nat) : Int) < ((l.length : Nat) : Int))) = true → LoopTo (codeQ Try.prog (X rsort_ann) (loopOf Try.f63 0)) (some [3, 7, 8, 9]) (some [3, 7, 8, 9]) (mkF 44 [(3, (AV.sl .any 9 (List.map Card.row (((out.take (posK (nth l i) out out.length)) ++ [(nth l i)]) ++ (out.drop (posK (nth l i) out out.length)))))), (7, (AV.sl .any 9 (List.map Card.row l))), (8, (AV.int .i64 ((l.length : Nat) : Int))), (9, (AV.int .i64 ((i + 1 : Nat) : Int)))]) ([] : Heap) eX FX HX) (k2 : (decide (((i : Nat) : Int) < ((l.length : Nat) : Int))) = false → ((.exit 0 : Ex), (mkF 44 [(3, (AV.sl .any 9 (List.map Card.row out))), (7, (AV.sl .any 9 (List.map Card.row l))), (8, (AV.int .i64 ((l.length : Nat) : Int))), (9, (AV.int .i64 ((i : Nat) : Int)))]), ([] : Heap)) = (eX, FX, HX)) : LoopTo (codeQ Try.prog (X rsort_ann) (loopOf Try.f63 0)) (some [3, 7, 8, 9]) (some [3, 7, 8, 9]) (mkF 44 [(3, (AV.sl .any 9 (List.map Card.row out))), (7, (AV.sl .any 9 (List.map Card.row l))), (8, (AV.int .i64 ((l.length : Nat) : Int))), (9, (AV.int .i64 ((i : Nat) : Int)))]) ([] : Heap) eX FX HX := by
  have hp := posK_le (nth l i) out out.length
  refine LoopTo.step (.reg [] [] [] (.two (.reg [(0, ((AV.ref (Card.row (nth l i)) 0), ([⟨0, 9, [[(AV.str (ByteArray.mk #[])), (AV.str (ByteArray.mk #[])), (AV.int .i64 0), (AV.int .i64 0), (AV.int .i64 0), (AV.int .i64 0), (AV.int .i64 0), (AV.int .i64 0), (AV.bool false)]], none⟩] : Heap)))] [] [] (.reg [(1, ((AV.int .i64 ((out.length : Nat) : Int)), ([⟨0, 9, [(Card.row (nth l i))], none⟩] : Heap)))] [] [] (.loop (.exit 2) (mkF 44 [(3, (AV.sl .any 9 (List.map Card.row out))), (5, (AV.obj 0 0 0 0)), (6, (AV.int .i64 (((posK (nth l i) out out.length) : Nat) : Int))), (7, (AV.sl .any 9 (List.map Card.row l))), (8, (AV.int .i64 ((l.length : Nat) : Int))), (9, (AV.int .i64 ((i : Nat) : Int)))]) ([⟨0, 9, [(Card.row (nth l i))], none⟩] : Heap) (.reg [(3, ((AV.sl .any 9 (List.map Card.row (out.take (posK (nth l i) out out.length)))), ([⟨0, 9, [(Card.row (nth l i))], none⟩] : Heap))), (4, ((AV.osl 1 0 9 0 (out.take (posK (nth l i) out out.length)).length), ([⟨0, 9, [(Card.row (nth l i))], none⟩, ⟨0, 9, (List.map Card.row (out.take (posK (nth l i) out out.length))), none⟩] : Heap))), (7, ((AV.osl 1 1 9 0 ((out.take (posK (nth l i) out out.length)).length + 1)), ([⟨0, 9, [(Card.row (nth l i))], none⟩, ⟨1, 9, (List.map Card.row ((out.take (posK (nth l i) out out.length)) ++ [(nth l i)])), none⟩] : Heap))), (10, ((AV.sl .any 9 (List.map Card.row (out.drop (posK (nth l i) out out.length)))), ([⟨0, 9, [(Card.row (nth l i))], none⟩, ⟨1, 9, (List.map Card.row ((out.take (posK (nth l i) out out.length)) ++ [(nth l i)])), none⟩] : Heap))), (11, ((AV.osl 1 2 9 0 (((out.take (posK (nth l i) out out.length)).length + 1) + (out.drop (posK (nth l i) out out.length)).length)), ([⟨0, 9, [(Card.row (nth l i))], none⟩, ⟨2, 9, (List.map Card.row (((out.take (posK (nth l i) out out.length)) ++ [(nth l i)]) ++ (out.drop (posK (nth l i) out out.length)))), none⟩] : Heap)))] [] [(3, (List.map Card.row (((out.take (posK (nth l i) out out.length)) ++ [(nth l i)]) ++ (out.drop (posK (nth l i) out out.length)))))] (.reg [(0, ((AV.int .i64 ((i + 1 : Nat) : Int)), ([⟨0, 9, [(Card.row (nth l i))], none⟩, ⟨3, 9, [], none⟩] : Heap)))] [] [] .nil))))) .nil)) ?_
  refine Eq.mp (by kernel_rfl : (cond (decide (((i : Nat) : Int) < ((l.length : Nat) : Int))) ((IdxSl 9 9 (List.map Card.row l) ((i : Nat) : Int) ([⟨0, 9, [[(AV.str (ByteArray.mk #[])), (AV.str (ByteArray.mk #[])), (AV.int .i64 0), (AV.int .i64 0), (AV.int .i64 0), (AV.int .i64 0), (AV.int .i64 0), (AV.int .i64 0), (AV.bool false)]], none⟩] : Heap) (Card.row (nth l i))) ∧ (Yes (.int .i64 ((List.length (List.map Card.row out) : Nat) : Int)) ([⟨0, 9, [(Card.row (nth l i))], none⟩] : Heap) (AV.int .i64 ((out.length : Nat) : Int))) ∧ (LoopTo (codeQ Try.prog (X rsort_ann) (loopOf Try.f63 1)) (some [3, 5, 6, 7, 8, 9]) (some [3, 5, 6, 7, 8, 9]) (mkF 44 [(3, (AV.sl .any 9 (List.map Card.row out))), (5, (AV.obj 0 0 0 0)), (6, (AV.int .i64 ((out.length : Nat) : Int))), (7, (AV.sl .any 9 (List.map Card.row l))), (8, (AV.int .i64 ((l.length : Nat) : Int))), (9, (AV.int .i64 ((i : Nat) : Int)))]) ([⟨0, 9, [(Card.row (nth l i))], none⟩] : Heap) (.exit 2) (mkF 44 [(3, (AV.sl .any 9 (List.map Card.row out))), (5, (AV.obj 0 0 0 0)), (6, (AV.int .i64 (((posK (nth l i) out out.length) : Nat) : Int))), (7, (AV.sl .any 9 (List.map Card.row l))), (8, (AV.int .i64 ((l.length : Nat) : Int))), (9, (AV.int .i64 ((i : Nat) : Int)))]) ([⟨0, 9, [(Card.row (nth l i))], none⟩] : Heap)) ∧ (Option.map (fun a => (a, ([⟨0, 9, [(Card.row (nth l i))], none⟩] : Heap))) (if 9 = 9 ∨ ((List.map Card.row out)).isEmpty = true then (bounds 0 (((posK (nth l i) out out.length) : Nat) : Int) (List.length (List.map Card.row out))).map fun p => AV.sl .any 9 ((List.take p.2 (List.map Card.row out)).drop p.1) else none) = some ((AV.sl .any 9 (List.map Card.row (out.take (posK (nth l i) out out.length)))), ([⟨0, 9, [(Card.row (nth l i))], none⟩] : Heap))) ∧ (evAppendO tt ([⟨0, 9, [(Card.row (nth l i))], none⟩] : Heap) 48 (AV.sl .clip 9 []) (AV.sl .any 9 (List.map Card.row (out.take (posK (nth l i) out out.length)))) = some ((AV.osl 1 0 9 0 (out.take (posK (nth l i) out out.length)).length), ([⟨0, 9, [(Card.row (nth l i))], none⟩, ⟨0, 9, (List.map Card.row (out.take (posK (nth l i) out out.length))), none⟩] : Heap))) ∧ (evAppend tt ([⟨0, 9, [(Card.row (nth l i))], none⟩, ⟨0, 9, (List.map Card.row (out.take (posK (nth l i) out out.length))), none⟩] : Heap) 48 (AV.osl 1 0 9 0 (out.take (posK (nth l i) out out.length)).length) (AV.sl .clip 9 [(Card.row (nth l i))]) = some ((AV.osl 1 1 9 0 ((out.take (posK (nth l i) out out.length)).length + 1)), ([⟨0, 9, [(Card.row (nth l i))], none⟩, ⟨1, 9, (List.map Card.row ((out.take (posK (nth l i) out out.length)) ++ [(nth l i)])), none⟩] : Heap))) ∧ (Option.map (fun a => (a, ([⟨0, 9, [(Card.row (nth l i))], none⟩, ⟨1, 9, (List.map Card.row ((out.take (posK (nth l i) out out.length)) ++ [(nth l i)])), none⟩] : Heap))) (if 9 = 9 ∨ ((List.map Card.row out)).isEmpty = true then (bounds (((posK (nth l i) out out.length) : Nat) : Int) ((List.length (List.map Card.row out) : Nat) : Int) (List.length (List.map Card.row out))).map fun p => AV.sl .any 9 ((List.take p.2 (List.map Card.row out)).drop p.1) else none) = some ((AV.sl .any 9 (List.map Card.row (out.drop (posK (nth l i) out out.length)))), ([⟨0, 9, [(Card.row (nth l i))], none⟩, ⟨1, 9, (List.map Card.row ((out.take (posK (nth l i) out out.length)) ++ [(nth l i)])), none⟩] : Heap))) ∧ (evAppendO tt ([⟨0, 9, [(Card.row (nth l i))], none⟩, ⟨1, 9, (List.map Card.row ((out.take (posK (nth l i) out out.length)) ++ [(nth l i)])), none⟩] : Heap) 48 (AV.osl 1 1 9 0 ((out.take (posK (nth l i) out out.length)).length + 1)) (AV.sl .any 9 (List.map Card.row (out.drop (posK (nth l i) out out.length)))) = some ((AV.osl 1 2 9 0 (((out.take (posK (nth l i) out out.length)).length + 1) + (out.drop (posK (nth l i) out out.length)).length)), ([⟨0, 9, [(Card.row (nth l i))], none⟩, ⟨2, 9, (List.map Card.row (((out.take (posK (nth l i) out out.length)) ++ [(nth l i)]) ++ (out.drop (posK (nth l i) out out.length)))), none⟩] : Heap))) ∧ (some ((AV.agg (Card.row (nth l i))), ([⟨0, 9, [(Card.row (nth l i))], none⟩] : Heap)) = some ((AV.agg (Card.row (nth l i))), ([⟨0, 9, [(Card.row (nth l i))], none⟩] : Heap))) ∧ (rowsIn ([⟨0, 9, [(Card.row (nth l i))], none⟩, ⟨2, 9, (List.map Card.row (((out.take (posK (nth l i) out out.length)) ++ [(nth l i)]) ++ (out.drop (posK (nth l i) out out.length)))), none⟩] : Heap) 9 (AV.osl 1 2 9 0 (((out.take (posK (nth l i) out out.length)).length + 1) + (out.drop (posK (nth l i) out out.length)).length)) = some (List.map Card.row (((out.take (posK (nth l i) out out.length)) ++ [(nth l i)]) ++ (out.drop (posK (nth l i) out out.length)))) ∧ AV.bddss 0 (List.map Card.row (((out.take (posK (nth l i) out out.length)) ++ [(nth l i)]) ++ (out.drop (posK (nth l i) out out.length)))) = true) ∧ (Yes (.int .i64 (IntKind.i64.wrap (((i : Nat) : Int) + 1))) ([⟨0, 9, [(Card.row (nth l i))], none⟩, ⟨3, 9, [], none⟩] : Heap) (AV.int .i64 ((i + 1 : Nat) : Int))) ∧ (obsB 0 ([] : Heap) = true) ∧ LoopTo (codeQ Try.prog (X rsort_ann) (loopOf Try.f63 0)) (some [3, 7, 8, 9]) (some [3, 7, 8, 9]) (mkF 44 [(3, (AV.sl .any 9 (List.map Card.row (((out.take (posK (nth l i) out out.length)) ++ [(nth l i)]) ++ (out.drop (posK (nth l i) out out.length)))))), (7, (AV.sl .any 9 (List.map Card.row l))), (8, (AV.int .i64 ((l.length : Nat) : Int))), (9, (AV.int .i64 ((i + 1 : Nat) : Int)))]) ([] : Heap) eX FX HX) (((.exit 0 : Ex), (mkF 44 [(3, (AV.sl .any 9 (List.map Card.row out))), (7, (AV.sl .any 9 (List.map Card.row l))), (8, (AV.int .i64 ((l.length : Nat) : Int))), (9, (AV.int .i64 ((i : Nat) : Int)))]), ([] : Heap)) = (eX, FX, HX))) = _) ?_
  refine cond_split (fun h1 => ?_) (fun h1 => ?_)
  · have h1' := h1
    try simp at h1'
    refine And.intro (IdxSl.mk _ (by omega) (by omega)) ?_
    refine And.intro (Yes.len _ _ _) ?_
    refine And.intro ((rsort_ins l out i (nth l i) hk hi hl (List.length out) _ (by omega) rfl)) ?_
    refine And.intro (slice_sl (l := 0) (h := (posK (nth l i) out out.length)) (by first | omega | (simp; done) | (simp; omega)) (by first | omega | (simp; done) | (simp; omega)) (by first | omega | (simp; done) | (simp; omega)) (by first | omega | (simp; done) | (simp; omega)) (by simp [List.map_take, List.map_drop, List.take_of_length_le])) ?_
    refine And.intro (evAppendO_fresh (T := tt) (e := 34) (te := { d := .struct [(30, 0), (3, 2), (3, 3), (2, 4), (32, 5), (4, 8)], size := 9, bytes := 88, zero := [.str ⟨#[]⟩, .str ⟨#[]⟩, .int .i64 0, .int .i64 0, .int .i64 0, .int .i64 0, .int .i64 0, .int .i64 0, .bool false] }) (z := 1) (b := 24) (y := [.sl .nil 0 []]) (row := Card.row) (by kernel_rfl) (by kernel_rfl) rfl (by decide) (by decide) (by simp) (by first | (simp [rowsIn, List.map_take, List.map_drop, List.take_of_length_le]; done) | simp [rowsIn, rU8, rI64, rStr, rBool]) rfl rfl rfl (by first | omega | (simp; done) | (simp; omega))) ?_
    refine And.intro (evAppend_one (row := Card.row) (l := out.take (posK (nth l i) out out.length)) (x := (nth l i)) (T := tt) (e := 34) (te := { d := .struct [(30, 0), (3, 2), (3, 3), (2, 4), (32, 5), (4, 8)], size := 9, bytes := 88, zero := [.str ⟨#[]⟩, .str ⟨#[]⟩, .int .i64 0, .int .i64 0, .int .i64 0, .int .i64 0, .int .i64 0, .int .i64 0, .bool false] }) (z := 1) (b := 24) (y := [.sl .nil 0 []]) (by kernel_rfl) (by kernel_rfl) rfl (by decide) (by decide) (by kernel_rfl) (by first | assumption | omega | (simp; done) | (simp; omega)) rfl rfl (by first | omega | (simp; omega))) ?_
    refine And.intro (slice_sl (l := (posK (nth l i) out out.length)) (h := (List.length out)) (by first | omega | (simp; done) | (simp; omega)) (by first | omega | (simp; done) | (simp; omega)) (by first | omega | (simp; done) | (simp; omega)) (by first | omega | (simp; done) | (simp; omega)) (by simp [List.map_take, List.map_drop, List.take_of_length_le])) ?_
    refine And.intro (evAppendO_end (T := tt) (e := 34) (te := { d := .struct [(30, 0), (3, 2), (3, 3), (2, 4), (32, 5), (4, 8)], size := 9, bytes := 88, zero := [.str ⟨#[]⟩, .str ⟨#[]⟩, .int .i64 0, .int .i64 0, .int .i64 0, .int .i64 0, .int .i64 0, .int .i64 0, .bool false] }) (z := 1) (b := 24) (y := [.sl .nil 0 []]) (row := Card.row) (l := (out.take (posK (nth l i) out out.length)) ++ [(nth l i)]) (by kernel_rfl) (by kernel_rfl) rfl (by decide) (by decide) (by kernel_rfl) (by first | (simp [rowsIn, List.map_take, List.map_drop, List.take_of_length_le]; done) | simp [rowsIn, rU8, rI64, rStr, rBool]) (by first | omega | (simp; done) | (simp; omega)) rfl rfl (by first | omega | (show _ * 88 ≤ _; omega) | (simp; done) | (simp; omega))) ?_
    refine And.intro (rfl) ?_
    refine And.intro (And.intro (rowsIn_all (room := none) (by kernel_rfl) (by first | omega | (simp; done) | (simp; omega))) (Card.rows_bdd _ _)) ?_
    refine And.intro (Yes.add (by omega) (by omega) (by omega)) ?_
    refine And.intro (by first | (simp [obsB, AV.bddss, AV.bdds, AV.bdd]; done) | (simp [obsB, AV.bddss, AV.bdds, AV.bdd, -List.map_append]; done) | simp [obsB, AV.bddss, AV.bdds, AV.bdd, -List.map_append, -List.map_set, -List.map_take, -List.map_drop, -List.map_cons, -List.map_map]) ?_
    exact k1 h1
  · have h1' := h1
    try simp at h1'
    exact k2 h1
theorem rsort_loop (l : List Card) (r : Nat) : ∀ (i : Nat) (out outF : List Card), i + r = l.length → out.length = i → l.length < 1048576 → outF = (l.drop i).foldl insK out →
    LoopTo (codeQ Try.prog (X rsort_ann) (loopOf Try.f63 0)) (some [3, 7, 8, 9]) (some [3, 7, 8, 9]) (mkF 44 [(3, (AV.sl .any 9 (List.map Card.row out))), (7, (AV.sl .any 9 (List.map Card.row l))), (8, (AV.int .i64 ((l.length : Nat) : Int))), (9, (AV.int .i64 ((i : Nat) : Int)))]) ([] : Heap) (.exit 0) (mkF 44 [(3, (AV.sl .any 9 (List.map Card.row outF))), (7, (AV.sl .any 9 (List.map Card.row l))), (8, (AV.int .i64 ((l.length : Nat) : Int))), (9, (AV.int .i64 ((l.length : Nat) : Int)))]) ([] : Heap) := by
  induction r with
  | zero =>
    intro i out outF hi hk hl h
    refine rsort_step l out i (by omega) (by omega) hl (fun h => by simp at h; omega) fun _ => ?_
    have : l.drop i = [] := List.drop_of_length_le (by omega)
    rw [this] at h
    have e3 : i = l.length := by omega
    rw [h, e3]
    rfl
  | succ r ih =>
    intro i out outF hi hk hl h
    rw [drop_nth (by omega), List.foldl_cons] at h
    refine rsort_step l out i (by omega) (by omega) hl (fun _ => ?_) fun h => by simp at h; omega
    exact ih (i + 1) (insK out (nth l i)) outF (by omega) (by rw [insK_len]; omega) hl h
set_option maxRecDepth 100000 in
theorem rsort_spec (l : List Card) (hl : l.length < 1048576) : ACalls Try.prog 63 [(AV.sl .any 9 (List.map Card.row l))] ([] : Heap) ((AV.sl .any 9 (List.map Card.row (sortK l))), ([] : Heap)) := by
  refine spec (fn := Try.f63) (ann := rsort_ann) (t := (.reg [] [] [] (.reg [] [] [] (.reg [(1, ((AV.int .i64 ((l.length : Nat) : Int)), ([] : Heap)))] [] [] (.loop (.exit 0) (mkF 44 [(3, (AV.sl .any 9 (List.map Card.row (sortK l)))), (7, (AV.sl .any 9 (List.map Card.row l))), (8, (AV.int .i64 ((l.length : Nat) : Int))), (9, (AV.int .i64 ((l.length : Nat) : Int)))]) ([] : Heap) (.reg [] [] [] .nil)))))) (Nat.le_of_ble_eq_true (by kernel_rfl)) ⟨Try.func63, by kernel_rfl, by kernel_rfl, by kernel_rfl⟩ ?_
  refine Eq.mp (by kernel_rfl : ((Yes (.int .i64 ((List.length (List.map Card.row l) : Nat) : Int)) ([] : Heap) (AV.int .i64 ((l.length : Nat) : Int))) ∧ (LoopTo (codeQ Try.prog (X rsort_ann) (loopOf Try.f63 0)) (some [3, 7, 8, 9]) (some [3, 7, 8, 9]) (mkF 44 [(3, (AV.sl .any 9 [])), (7, (AV.sl .any 9 (List.map Card.row l))), (8, (AV.int .i64 ((l.length : Nat) : Int))), (9, (AV.int .i64 0))]) ([] : Heap) (.exit 0) (mkF 44 [(3, (AV.sl .any 9 (List.map Card.row (sortK l)))), (7, (AV.sl .any 9 (List.map Card.row l))), (8, (AV.int .i64 ((l.length : Nat) : Int))), (9, (AV.int .i64 ((l.length : Nat) : Int)))]) ([] : Heap)) ∧ (AV.bdd 0 (AV.sl .any 9 (List.map Card.row (sortK l))) = true ∧ obsB 0 ([] : Heap) = true) ∧ ((AV.sl .any 9 (List.map Card.row (sortK l))), ([] : Heap)) = ((AV.sl .any 9 (List.map Card.row (sortK l))), ([] : Heap))) = _) ?_
  refine And.intro (Yes.len _ _ _) ?_
  refine And.intro ((rsort_loop l (List.length l) 0 [] _ (by omega) rfl hl rfl)) ?_
  refine And.intro (by first | (simp [obsB, AV.bddss, AV.bdds, AV.bdd]; done) | (simp [obsB, AV.bddss, AV.bdds, AV.bdd, -List.map_append]; done) | simp [obsB, AV.bddss, AV.bdds, AV.bdd, -List.map_append, -List.map_set, -List.map_take, -List.map_drop, -List.map_cons, -List.map_map]) ?_
  rfl
theorem rsort_at (l : List Card) (hl : l.length < 1048576) (H : Heap) : ACalls Try.prog 63 [(AV.sl .any 9 (List.map Card.row l))] H ((AV.sl .any 9 (List.map Card.row (sortK l))), H) := (rsort_spec l hl).lift (by kernel_rfl) (by kernel_rfl) H
end Go.Proofs.Ytpkgpldgoajphaa.AM

set_option maxRecDepth 100000
set_option linter.unusedVariables false
set_option linter.unusedSimpArgs false
namespace Go.Proofs.Ytpkgpldgoajphaa.AM
open Go Go.Proofs.Ytpkgpldgoajphaa
attribute [local irreducible] ACalls funT codeT codeQ LoopTo
attribute [local irreducible] Tp.card Tp.cardT Tp.next Tp.step Tp.cards Tp.cardsT Tp.key Tp.keyT sink insSort sortK insK posK beforeK
def onceStep (s : List Card × Nat) (c : Card) : List Card × Nat :=
  if decide ((s.1.length : Int) > 0) = true then if Key.eqb (nth s.1 (s.1.length - 1)).key c.key = true then (s.1.set (s.1.length - 1) c, s.2) else (s.1 ++ [c], s.2 + 1) else (s.1 ++ [c], s.2 + 1)
theorem onceStep_len (s : List Card × Nat) (c : Card) : (onceStep s c).1.length ≤ s.1.length + 1 := by
  unfold onceStep; split
  · split <;> simp
  · simp
theorem onceF_len (l : List Card) : ∀ (s : List Card × Nat), (l.foldl onceStep s).1.length ≤ s.1.length + l.length := by
  induction l with
  | nil => intro s; simp
  | cons c l ih => intro s; have h1 := ih (onceStep s c); have h2 := onceStep_len s c; simp only [List.foldl_cons, List.length_cons]; omega
end Go.Proofs.Ytpkgpldgoajphaa.AM

set_option linter.unusedVariables false
set_option linter.unusedSimpArgs false
namespace Go.Proofs.Ytpkgpldgoajphaa.AM
open Go

theorem ACalls.orNil {P : Program} {f : FuncId} {k : Nat} {xs : List (List AV)} {as_ : List AV} {H : Heap} {r : AV × Heap} (h1 : xs = [] → ACalls P f (.sl .nil 0 [] :: as_) H r) (h2 : ACalls P f (.sl .op k xs :: as_) H r) :
    ACalls P f (.sl .any k xs :: as_) H r := by
  intro G w C vs hsz hargs hH
  have h0 := hargs 0 (by simp)
  have hr : ∀ i, 0 < i → i < as_.length + 1 → ∀ v : AV, (v :: as_).getD i .skip = (AV.sl .any k xs :: as_).getD i .skip := by
    intro i hi _ v
    cases i with
    | zero => omega
    | succ i => rfl
  have key : ∀ v : AV, VR G w C v (vs.getD 0 undef) → ∀ i, i < (v :: as_).length → VR G w C ((v :: as_).getD i .skip) (vs.getD i undef) := by
    intro v hv i hi
    cases i with
    | zero => exact hv
    | succ i =>
      have := hargs (i + 1) (by simpa using hi)
      rw [hr (i + 1) (by omega) (by simpa using hi) v]
      exact this
  simp only [List.getD_cons_zero] at h0
  generalize hv0 : vs.getD 0 undef = v0 at h0
  cases h0 with
  | nils _ _ _ hg => exact h1 rfl G w C vs (by simpa using hsz) (key _ (by rw [hv0]; exact .nils _ _ _ (.inl rfl))) hH
  | sl _ _ _ _ ad cap hg hclip hle hs cv hk hc h1' h => exact h2 G w C vs (by simpa using hsz) (key _ (by rw [hv0]; exact .sl _ _ _ _ ad cap (by simp) (by simp) hle hs cv hk hc h1' h)) hH
theorem slice_max {H : Heap} {k : Nat} {rows xs : List (List AV)} {g : Tg} {lo hi mx : Int} {l h : Nat} (hlo : lo = (l : Int)) (hhi : hi = (h : Int)) (h1 : l ≤ h) (h2 : h ≤ rows.length) (hx : (rows.take h).drop l = xs) (hm : hi = mx) :
    Option.map (fun a => (a, H)) (if k = k ∨ rows.isEmpty = true then (if hi = mx then (bounds lo hi rows.length).map fun p => AV.sl g k ((List.take p.2 rows).drop p.1) else none) else none) = some (.sl g k xs, H) := by
  rw [if_pos hm]
  exact slice_sl hlo hhi h1 h2 hx
/-- The argument as it is, and as the function is told of it. -/
def Br (H : Heap) (a' a : AV) : Prop := (a' = a ∧ AV.bdd 0 a = true) ∨ ∃ id g k e n rows, a' = .osl id g k e n ∧ a = .sl .any k rows ∧ rowsIn H k (.osl id g k e n) = some rows ∧ AV.bddss 0 rows = true
theorem Br.same {H : Heap} {a : AV} (h : AV.bdd 0 a = true) : Br H a a := .inl ⟨rfl, h⟩
theorem Br.osl {H : Heap} {id g k e n : Nat} {rows : List (List AV)} (h : rowsIn H k (.osl id g k e n) = some rows) (hb : AV.bddss 0 rows = true) : Br H (.osl id g k e n) (.sl .any k rows) := .inr ⟨id, g, k, e, n, rows, rfl, rfl, h, hb⟩
def Brs (H : Heap) : List AV → List AV → Prop
  | [], [] => True
  | a :: l, b :: m => Br H a b ∧ Brs H l m
  | _, _ => False
theorem Brs.get {H : Heap} : ∀ {l m : List AV}, Brs H l m → l.length = m.length ∧ ∀ i, i < m.length → Br H (l.getD i .skip) (m.getD i .skip)
  | [], [], _ => ⟨rfl, fun i hi => by simp at hi⟩
  | [], _ :: _, h => h.elim
  | _ :: _, [], h => h.elim
  | a :: l, b :: m, h => by
    obtain ⟨h1, h2⟩ := Brs.get h.2
    refine ⟨by simp [h1], fun i hi => ?_⟩
    cases i with
    | zero => simpa using h.1
    | succ i => simpa using h2 i (by simpa using hi)
end Go.Proofs.Ytpkgpldgoajphaa.AM

set_option maxRecDepth 100000
set_option linter.unusedVariables false
set_option linter.unusedSimpArgs false
namespace Go.Proofs.Ytpkgpldgoajphaa.AM
open Go Go.Proofs.Ytpkgpldgoajphaa
attribute [local irreducible] ACalls funT codeT codeQ LoopTo
attribute [local irreducible] Tp.card Tp.cardT Tp.next Tp.step Tp.cards Tp.cardsT Tp.key Tp.keyT sink insSort sortK insK posK beforeK onceStep
def cloneCN_ann : Ann := { gha := [(2, .vir 2 9)], fin := some 1 }
set_option maxRecDepth 100000 in
theorem cloneCN_spec   : ACalls Try.prog 98 [(AV.sl .nil 0 [])] ([] : Heap) ((AV.osl 0 0 9 0 0), ([⟨0, 9, (List.map Card.row []), none⟩] : Heap)) := by
  refine spec (fn := Try.f98) (ann := cloneCN_ann) (t := (.reg [] [] [] (.reg [] [] [] (.two (.reg [] [] [] .nil) .nil)))) (Nat.le_of_ble_eq_true (by kernel_rfl)) ⟨Try.func98, by kernel_rfl, by kernel_rfl, by kernel_rfl⟩ ?_
  refine Eq.mp (by kernel_rfl : ((AV.bdd 1 (AV.osl 0 0 9 0 0) = true ∧ obsB 1 ([⟨0, 9, (List.map Card.row []), none⟩] : Heap) = true) ∧ ((AV.osl 0 0 9 0 0), ([⟨0, 9, (List.map Card.row []), none⟩] : Heap)) = ((AV.osl 0 0 9 0 0), ([⟨0, 9, (List.map Card.row []), none⟩] : Heap))) = _) ?_
  refine And.intro (by first | (simp [obsB, AV.bddss, AV.bdds, AV.bdd]; done) | (simp [obsB, AV.bddss, AV.bdds, AV.bdd, -List.map_append]; done) | simp [obsB, AV.bddss, AV.bdds, AV.bdd, -List.map_append, -List.map_set, -List.map_take, -List.map_drop, -List.map_cons, -List.map_map]) ?_
  rfl
def cloneCO_ann : Ann := { own := [7], fin := some 1 }
set_option maxRecDepth 100000 in
theorem cloneCO_spec (l : List Card) (hl : l.length < 1099511627776) : ACalls Try.prog 98 [(AV.sl .op 9 (List.map Card.row l))] ([] : Heap) ((AV.osl 0 0 9 0 l.length), ([⟨0, 9, (List.map Card.row l), none⟩] : Heap)) := by
  refine spec (fn := Try.f98) (ann := cloneCO_ann) (t := (.reg [] [] [] (.reg [] [] [] (.two .nil (.reg [(2, ((AV.osl 0 0 9 0 l.length), ([⟨0, 9, (List.map Card.row l), none⟩] : Heap)))] [] [] .nil))))) (Nat.le_of_ble_eq_true (by kernel_rfl)) ⟨Try.func98, by kernel_rfl, by kernel_rfl, by kernel_rfl⟩ ?_
  refine Eq.mp (by kernel_rfl : ((evAppendO tt ([] : Heap) 48 (AV.sl .clip 9 []) (AV.sl .op 9 (List.map Card.row l)) = some ((AV.osl 0 0 9 0 l.length), ([⟨0, 9, (List.map Card.row l), none⟩] : Heap))) ∧ (AV.bdd 1 (AV.osl 0 0 9 0 l.length) = true ∧ obsB 1 ([⟨0, 9, (List.map Card.row l), none⟩] : Heap) = true) ∧ ((AV.osl 0 0 9 0 l.length), ([⟨0, 9, (List.map Card.row l), none⟩] : Heap)) = ((AV.osl 0 0 9 0 l.length), ([⟨0, 9, (List.map Card.row l), none⟩] : Heap))) = _) ?_
  refine And.intro (evAppendO_fresh (T := tt) (e := 34) (te := { d := .struct [(30, 0), (3, 2), (3, 3), (2, 4), (32, 5), (4, 8)], size := 9, bytes := 88, zero := [.str ⟨#[]⟩, .str ⟨#[]⟩, .int .i64 0, .int .i64 0, .int .i64 0, .int .i64 0, .int .i64 0, .int .i64 0, .bool false] }) (z := 1) (b := 24) (y := [.sl .nil 0 []]) (row := Card.row) (by kernel_rfl) (by kernel_rfl) rfl (by decide) (by decide) (by simp) (by first | (simp [rowsIn, List.map_take, List.map_drop, List.take_of_length_le]; done) | simp [rowsIn, rU8, rI64, rStr, rBool]) rfl rfl rfl (by first | omega | (simp; done) | (simp; omega))) ?_
  refine And.intro (by first | (simp [obsB, AV.bddss, AV.bdds, AV.bdd]; done) | (simp [obsB, AV.bddss, AV.bdds, AV.bdd, -List.map_append]; done) | simp [obsB, AV.bddss, AV.bdds, AV.bdd, -List.map_append, -List.map_set, -List.map_take, -List.map_drop, -List.map_cons, -List.map_map]) ?_
  rfl
theorem cloneC_spec (l : List Card) (hl : l.length < 1099511627776) : ACalls Try.prog 98 [(AV.sl .any 9 (List.map Card.row l))] ([] : Heap) ((AV.osl 0 0 9 0 l.length), ([⟨0, 9, (List.map Card.row l), none⟩] : Heap)) := ACalls.orNil (fun h => by
    have h2 : l = [] := by simpa using h
    subst h2; exact cloneCN_spec) (cloneCO_spec l hl)
theorem cloneC_at (l : List Card) (hl : l.length < 1099511627776) (H : Heap) : ACalls Try.prog 98 [(AV.sl .any 9 (List.map Card.row l))] H (.osl H.length 0 9 0 l.length, H ++ ([⟨0, 9, (List.map Card.row l), none⟩] : Heap)) := (cloneC_spec l hl).lift_osl (by kernel_rfl) (by simp [AV.bddss, Card.rows_bdd]) H
def sortcmp_ann : Ann := { refs := [2, 3], fin := some 0 }
set_option maxRecDepth 100000 in
theorem sortcmp_spec (a b : Card)  : ACalls Try.prog 119 [(AV.agg (Card.row a)), (AV.agg (Card.row b))] ([] : Heap) ((AV.int .i64 (cmpK a.key b.key)), ([] : Heap)) := by
  refine spec (fn := Try.f119) (ann := sortcmp_ann) (t := (.reg [] [] [] (.reg [(4, ((AV.int .i64 (cmpK a.key b.key)), ([] : Heap)))] [] [] .nil))) (Nat.le_of_ble_eq_true (by kernel_rfl)) ⟨Try.func119, by kernel_rfl, by kernel_rfl, by kernel_rfl⟩ ?_
  refine Eq.mp (by kernel_rfl : ((ACalls Try.prog 120 [(AV.agg (Key.row a.key)), (AV.agg (Key.row b.key))] ([] : Heap) ((AV.int .i64 (cmpK a.key b.key)), ([] : Heap))) ∧ (AV.bdd 0 (AV.int .i64 (cmpK a.key b.key)) = true ∧ obsB 0 ([] : Heap) = true) ∧ ((AV.int .i64 (cmpK a.key b.key)), ([] : Heap)) = ((AV.int .i64 (cmpK a.key b.key)), ([] : Heap))) = _) ?_
  refine And.intro (keyCmp_at a.key b.key  ([] : Heap)) ?_
  refine And.intro (by first | (simp [obsB, AV.bddss, AV.bdds, AV.bdd]; done) | (simp [obsB, AV.bddss, AV.bdds, AV.bdd, -List.map_append]; done) | simp [obsB, AV.bddss, AV.bdds, AV.bdd, -List.map_append, -List.map_set, -List.map_take, -List.map_drop, -List.map_cons, -List.map_map]) ?_
  rfl
theorem sortcmp_at (a b : Card)  (H : Heap) : ACalls Try.prog 119 [(AV.agg (Card.row a)), (AV.agg (Card.row b))] H ((AV.int .i64 (cmpK a.key b.key)), H) := (sortcmp_spec a b ).lift (by kernel_rfl) (by kernel_rfl) H
def clipC_ann : Ann := { fin := some 0 }
set_option maxRecDepth 100000 in
theorem clipC_spec (l : List Card) (hl : l.length < 1099511627776) : ACalls Try.prog 121 [(AV.sl .any 9 (List.map Card.row l))] ([] : Heap) ((AV.sl .cn 9 (List.map Card.row l)), ([] : Heap)) := by
  refine spec (fn := Try.f121) (ann := clipC_ann) (t := (.reg [] [] [] (.reg [(2, ((AV.int .i64 ((l.length : Nat) : Int)), ([] : Heap))), (4, ((AV.int .i64 ((l.length : Nat) : Int)), ([] : Heap))), (5, ((AV.sl .cn 9 (List.map Card.row l)), ([] : Heap)))] [] [] .nil))) (Nat.le_of_ble_eq_true (by kernel_rfl)) ⟨Try.func121, by kernel_rfl, by kernel_rfl, by kernel_rfl⟩ ?_
  refine Eq.mp (by kernel_rfl : ((Yes (.int .i64 ((List.length (List.map Card.row l) : Nat) : Int)) ([] : Heap) (AV.int .i64 ((l.length : Nat) : Int))) ∧ (Yes (.int .i64 ((List.length (List.map Card.row l) : Nat) : Int)) ([] : Heap) (AV.int .i64 ((l.length : Nat) : Int))) ∧ (Option.map (fun a => (a, ([] : Heap))) (if 9 = 9 ∨ ((List.map Card.row l)).isEmpty = true then (if ((l.length : Nat) : Int) = ((l.length : Nat) : Int) then (bounds 0 ((l.length : Nat) : Int) (List.length (List.map Card.row l))).map fun p => AV.sl .cn 9 ((List.take p.2 (List.map Card.row l)).drop p.1) else none) else none) = some ((AV.sl .cn 9 (List.map Card.row l)), ([] : Heap))) ∧ (AV.bdd 0 (AV.sl .cn 9 (List.map Card.row l)) = true ∧ obsB 0 ([] : Heap) = true) ∧ ((AV.sl .cn 9 (List.map Card.row l)), ([] : Heap)) = ((AV.sl .cn 9 (List.map Card.row l)), ([] : Heap))) = _) ?_
  refine And.intro (Yes.len _ _ _) ?_
  refine And.intro (Yes.len _ _ _) ?_
  refine And.intro (slice_max (l := 0) (h := l.length) (by first | omega | (simp; done) | (simp; omega)) (by first | omega | (simp; done) | (simp; omega)) (by first | omega | (simp; done) | (simp; omega)) (by first | omega | (simp; done) | (simp; omega)) (by simp [List.map_take, List.map_drop, List.take_of_length_le]) (by first | rfl | omega | (simp; done) | (simp; omega))) ?_
  refine And.intro (by first | (simp [obsB, AV.bddss, AV.bdds, AV.bdd]; done) | (simp [obsB, AV.bddss, AV.bdds, AV.bdd, -List.map_append]; done) | simp [obsB, AV.bddss, AV.bdds, AV.bdd, -List.map_append, -List.map_set, -List.map_take, -List.map_drop, -List.map_cons, -List.map_map]) ?_
  rfl
theorem clipC_at (l : List Card) (hl : l.length < 1099511627776) (H : Heap) : ACalls Try.prog 121 [(AV.sl .any 9 (List.map Card.row l))] H ((AV.sl .cn 9 (List.map Card.row l)), H) := (clipC_spec l hl).lift (by kernel_rfl) (by kernel_rfl) H
def sortP (l : List Card) : List Card := insSort (fun a b => cmpK a.key b.key) 0 (l.length - 1) 1 l
theorem sortP_len (l : List Card) : (sortP l).length = l.length := by unfold sortP; rw [insSort_len]
def sortCard0_ann : Ann := { gha := [(2, .frz 3)], fin := some 0 }
set_option maxRecDepth 100000 in
theorem sortCard0_spec (l : List Card) (hl : l.length < 20) : ACalls Try.prog 87 [(AV.sl .any 9 (List.map Card.row l))] ([] : Heap) ((AV.sl .cn 9 (List.map Card.row (sortP l))), ([] : Heap)) := by
  have hpl := sortP_len l
  refine spec (fn := Try.f87) (ann := sortCard0_ann) (t := (.reg [] [] [] (.reg [(1, ((AV.osl 0 0 9 0 l.length), ([⟨0, 9, (List.map Card.row l), none⟩] : Heap)))] [] [] (.reg [(1, ((AV.tup []), ([⟨0, 9, (List.map Card.row (insSort (fun a b => cmpK a.key b.key) 0 (l.length - 1) 1 l)), none⟩] : Heap)))] [] [(3, (List.map Card.row (insSort (fun a b => cmpK a.key b.key) 0 (l.length - 1) 1 l)))] (.reg [(1, ((AV.sl .cn 9 (List.map Card.row (insSort (fun a b => cmpK a.key b.key) 0 (l.length - 1) 1 l))), ([⟨1, 9, [], none⟩] : Heap)))] [] [] .nil))))) (Nat.le_of_ble_eq_true (by kernel_rfl)) ⟨Try.func87, by kernel_rfl, by kernel_rfl, by kernel_rfl⟩ ?_
  refine Eq.mp (by kernel_rfl : ((ACalls Try.prog 98 [(AV.sl .any 9 (List.map Card.row l))] ([] : Heap) ((AV.osl 0 0 9 0 l.length), ([⟨0, 9, (List.map Card.row l), none⟩] : Heap))) ∧ (ACalls Try.prog 118 [(AV.osl 0 0 9 0 l.length), (AV.func 119 [])] ([⟨0, 9, (List.map Card.row l), none⟩] : Heap) ((AV.tup []), ([⟨0, 9, (List.map Card.row (insSort (fun a b => cmpK a.key b.key) 0 (l.length - 1) 1 l)), none⟩] : Heap))) ∧ (rowsIn ([⟨0, 9, (List.map Card.row (insSort (fun a b => cmpK a.key b.key) 0 (l.length - 1) 1 l)), none⟩] : Heap) 9 (AV.osl 0 0 9 0 l.length) = some (List.map Card.row (insSort (fun a b => cmpK a.key b.key) 0 (l.length - 1) 1 l)) ∧ AV.bddss 0 (List.map Card.row (insSort (fun a b => cmpK a.key b.key) 0 (l.length - 1) 1 l)) = true) ∧ (ACalls Try.prog 121 [(AV.sl .any 9 (List.map Card.row (insSort (fun a b => cmpK a.key b.key) 0 (l.length - 1) 1 l)))] ([⟨1, 9, [], none⟩] : Heap) ((AV.sl .cn 9 (List.map Card.row (insSort (fun a b => cmpK a.key b.key) 0 (l.length - 1) 1 l))), ([⟨1, 9, [], none⟩] : Heap))) ∧ (AV.bdd 0 (AV.sl .cn 9 (List.map Card.row (insSort (fun a b => cmpK a.key b.key) 0 (l.length - 1) 1 l))) = true ∧ obsB 0 ([] : Heap) = true) ∧ ((AV.sl .cn 9 (List.map Card.row (insSort (fun a b => cmpK a.key b.key) 0 (l.length - 1) 1 l))), ([] : Heap)) = ((AV.sl .cn 9 (List.map Card.row (sortP l))), ([] : Heap))) = _) ?_
  refine And.intro (cloneC_at l (by first | omega | assumption | (simp; done) | (simp; omega) | (simp_all; done) | (simp_all; omega)) ([] : Heap)) ?_
  refine And.intro (sortC_at (fun a b => cmpK a.key b.key) 119 [] l.length 0 l (fun x y H => sortcmp_at x y H) (rfl) (by first | omega | assumption | (simp; done) | (simp; omega) | (simp_all; done) | (simp_all; omega)) (by first | omega | assumption | (simp; done) | (simp; omega) | (simp_all; done) | (simp_all; omega)) ([] : Heap)) ?_
  refine And.intro (And.intro (rowsIn_all (room := none) (by kernel_rfl) (by first | omega | (simp [insSort_len]; done) | (simp [insSort_len]; omega))) (Card.rows_bdd _ _)) ?_
  refine And.intro (clipC_at (insSort (fun a b => cmpK a.key b.key) 0 (l.length - 1) 1 l) (by rw [insSort_len]; omega) ([⟨1, 9, [], none⟩] : Heap)) ?_
  refine And.intro (by first | (simp [obsB, AV.bddss, AV.bdds, AV.bdd]; done) | (simp [obsB, AV.bddss, AV.bdds, AV.bdd, -List.map_append]; done) | simp [obsB, AV.bddss, AV.bdds, AV.bdd, -List.map_append, -List.map_set, -List.map_take, -List.map_drop, -List.map_cons, -List.map_map]) ?_
  rfl
theorem sortCard_spec (l : List Card) (hl : l.length < 20) : ACalls Try.prog 87 [(AV.sl .any 9 (List.map Card.row l))] ([] : Heap) ((AV.sl .any 9 (List.map Card.row (sortP l))), ([] : Heap)) := (sortCard0_spec l hl).post ⟨rfl, rfl, .inl rfl⟩
theorem sortCard_at (l : List Card) (hl : l.length < 20) (H : Heap) : ACalls Try.prog 87 [(AV.sl .any 9 (List.map Card.row l))] H ((AV.sl .any 9 (List.map Card.row (sortP l))), H) := (sortCard_spec l hl).lift (by kernel_rfl) (by kernel_rfl) H
def lastS (s : List Card) : List Card × Nat := s.foldl onceStep ([], 0)
def lastK (l : List Card) : List Card := (lastS (sortP l)).1
theorem lastK_len (l : List Card) : (lastK l).length ≤ l.length := by
  have := onceF_len (sortP l) ([], 0)
  rw [sortP_len] at this
  simpa [lastK, lastS] using this
def last_ann : Ann := { gha := [(1, .vir 3 9), (9, .cut 1), (10, .frz 2)], fin := some 0, live := [(3, [3, 8, 9, 10])], out := [(3, [3, 8, 9, 10])] }
set_option maxRecDepth 100000 in
theorem last_step (s out : List Card) (i k g : Nat) (hk : k = out.length) (hki : k ≤ s.length) (hl : s.length < 1048576) {eX : Ex} {FX : Fr} {HX : Heap} (k1 : (decide (((i : Nat) : Int) < ((s.length : Nat) : Int))) = true → (decide (((k : Nat) : Int) > 0)) = true → (Key.eqb (nth out (k - 1)).key (nth s i).key) = true → LoopTo (codeQ Try.prog (X last_ann) (loopOf Try.f96 0)) (some [3, 8, 9, 10]) (some [3, 8, 9, 10]) (mkF 40 [(3, (AV.osl 0 g 9 0 k)), (8, (AV.sl .any 9 (List.map Card.row s))), (9, (AV.int .i64 ((s.length : Nat) : Int))), (10, (AV.int .i64 ((i + 1 : Nat) : Int)))]) ([⟨g, 9, (List.map Card.row (out.set (k - 1) (nth s i))), none⟩] : Heap) eX FX HX) (k2 : (decide (((i : Nat) : Int) < ((s.length : Nat) : Int))) = true → (decide (((k : Nat) : Int) > 0)) = true → (Key.eqb (nth out (k - 1)).key (nth s i).key) = false → LoopTo (codeQ Try.prog (X last_ann) (loopOf Try.f96 0)) (some [3, 8, 9, 10]) (some [3, 8, 9, 10]) (mkF 40 [(3, (AV.osl 0 (g + 1) 9 0 (k + 1))), (8, (AV.sl .any 9 (List.map Card.row s))), (9, (AV.int .i64 ((s.length : Nat) : Int))), (10, (AV.int .i64 ((i + 1 : Nat) : Int)))]) ([⟨(g + 1), 9, (List.map Card.row (out ++ [(nth s i)])), none⟩] : Heap) eX FX HX) (k3 : (decide (((i : Nat) : Int) < ((s.length : Nat) : Int))) = true → (decide (((k : Nat) : Int) > 0)) = false → LoopTo (codeQ Try.prog (X last_ann) (loopOf Try.f96 0)) (some [3, 8, 9, 10]) (some [3, 8, 9, 10]) (mkF 40 [(3, (AV.osl 0 (g + 1) 9 0 (k + 1))), (8, (AV.sl .any 9 (List.map Card.row s))), (9, (AV.int .i64 ((s.length : Nat) : Int))), (10, (AV.int .i64 ((i + 1 : Nat) : Int)))]) ([⟨(g + 1), 9, (List.map Card.row (out ++ [(nth s i)])), none⟩] : Heap) eX FX HX) (k4 : (decide (((i : Nat) : Int) < ((s.length : Nat) : Int))) = false → ((.exit 0 : Ex), (mkF 40 [(3, (AV.osl 0 g 9 0 k)), (8, (AV.sl .any 9 (List.map Card.row s))), (9, (AV.int .i64 ((s.length : Nat) : Int))), (10, (AV.int .i64 ((i : Nat) : Int)))]), ([⟨g, 9, (List.map Card.row out), none⟩] : Heap)) = (eX, FX, HX)) : LoopTo (codeQ Try.prog (X last_ann) (loopOf Try.f96 0)) (some [3, 8, 9, 10]) (some [3, 8, 9, 10]) (mkF 40 [(3, (AV.osl 0 g 9 0 k)), (8, (AV.sl .any 9 (List.map Card.row s))), (9, (AV.int .i64 ((s.length : Nat) : Int))), (10, (AV.int .i64 ((i : Nat) : Int)))]) ([⟨g, 9, (List.map Card.row out), none⟩] : Heap) eX FX HX := by
  refine LoopTo.step (.reg [] [] [] (.two (.reg [(0, ((AV.ref (Card.row (nth s i)) 0), ([⟨g, 9, (List.map Card.row out), none⟩, ⟨0, 9, [[(AV.str (ByteArray.mk #[])), (AV.str (ByteArray.mk #[])), (AV.int .i64 0), (AV.int .i64 0), (AV.int .i64 0), (AV.int .i64 0), (AV.int .i64 0), (AV.int .i64 0), (AV.bool false)]], none⟩] : Heap)))] [] [] (.reg [] [] [] (.reg [(5, ((AV.int .i64 ((k - 1 : Nat) : Int)), ([⟨g, 9, (List.map Card.row out), none⟩, ⟨0, 9, [(Card.row (nth s i))], none⟩] : Heap))), (6, ((AV.obj 0 g (k - 1) 0), ([⟨g, 9, (List.map Card.row out), none⟩, ⟨0, 9, [(Card.row (nth s i))], none⟩] : Heap))), (8, ((AV.agg (Key.row (nth out (k - 1)).key)), ([⟨g, 9, (List.map Card.row out), none⟩, ⟨0, 9, [(Card.row (nth s i))], none⟩] : Heap)))] [] [] (.two (.two (.two (.two (.two (.two (.two (.two (.two (.two (.reg [(2, ((AV.int .i64 ((k - 1 : Nat) : Int)), ([⟨g, 9, (List.map Card.row out), none⟩, ⟨0, 9, [(Card.row (nth s i))], none⟩] : Heap))), (4, ((AV.obj 0 g (k - 1) 0), ([⟨g, 9, (List.map Card.row out), none⟩, ⟨0, 9, [(Card.row (nth s i))], none⟩] : Heap))), (5, (AV.skip, ([⟨g, 9, (List.map Card.row (out.set (k - 1) (nth s i))), none⟩, ⟨0, 9, [(Card.row (nth s i))], none⟩] : Heap)))] [] [] (.reg [(0, ((AV.int .i64 ((i + 1 : Nat) : Int)), ([⟨g, 9, (List.map Card.row (out.set (k - 1) (nth s i))), none⟩, ⟨0, 9, [(Card.row (nth s i))], none⟩] : Heap)))] [] [] .nil)) (.reg [(3, ((AV.osl 0 (g + 1) 9 0 (k + 1)), ([⟨(g + 1), 9, (List.map Card.row (out ++ [(nth s i)])), none⟩, ⟨0, 9, [(Card.row (nth s i))], none⟩] : Heap)))] [] [] (.reg [(0, ((AV.int .i64 ((i + 1 : Nat) : Int)), ([⟨(g + 1), 9, (List.map Card.row (out ++ [(nth s i)])), none⟩, ⟨0, 9, [(Card.row (nth s i))], none⟩] : Heap)))] [] [] .nil))) .nil) .nil) .nil) .nil) .nil) .nil) .nil) .nil) (.two .nil (.two .nil (.two .nil (.two .nil (.two .nil (.two .nil (.two .nil (.two .nil (.two .nil (.reg [(3, ((AV.osl 0 (g + 1) 9 0 (k + 1)), ([⟨(g + 1), 9, (List.map Card.row (out ++ [(nth s i)])), none⟩, ⟨0, 9, [(Card.row (nth s i))], none⟩] : Heap)))] [] [] (.reg [(0, ((AV.int .i64 ((i + 1 : Nat) : Int)), ([⟨(g + 1), 9, (List.map Card.row (out ++ [(nth s i)])), none⟩, ⟨0, 9, [(Card.row (nth s i))], none⟩] : Heap)))] [] [] .nil))))))))))))))) .nil)) ?_
  refine Eq.mp (by kernel_rfl : (cond (decide (((i : Nat) : Int) < ((s.length : Nat) : Int))) ((IdxSl 9 9 (List.map Card.row s) ((i : Nat) : Int) ([⟨g, 9, (List.map Card.row out), none⟩, ⟨0, 9, [[(AV.str (ByteArray.mk #[])), (AV.str (ByteArray.mk #[])), (AV.int .i64 0), (AV.int .i64 0), (AV.int .i64 0), (AV.int .i64 0), (AV.int .i64 0), (AV.int .i64 0), (AV.bool false)]], none⟩] : Heap) (Card.row (nth s i))) ∧ cond (decide (((k : Nat) : Int) > 0)) ((Yes (.int .i64 (IntKind.i64.wrap (((k : Nat) : Int) - 1))) ([⟨g, 9, (List.map Card.row out), none⟩, ⟨0, 9, [(Card.row (nth s i))], none⟩] : Heap) (AV.int .i64 ((k - 1 : Nat) : Int))) ∧ (IdxOsl 0 g 9 9 0 k ((k - 1 : Nat) : Int) ([⟨g, 9, (List.map Card.row out), none⟩, ⟨0, 9, [(Card.row (nth s i))], none⟩] : Heap) (k - 1)) ∧ (LoadTo tt 30 0 ([⟨g, 9, (List.map Card.row out), none⟩, ⟨0, 9, [(Card.row (nth s i))], none⟩] : Heap) (rowAt ([⟨g, 9, (List.map Card.row out), none⟩, ⟨0, 9, [(Card.row (nth s i))], none⟩] : Heap) 0 g (k - 1)) = some ((AV.agg (Key.row (nth out (k - 1)).key)), ([⟨g, 9, (List.map Card.row out), none⟩, ⟨0, 9, [(Card.row (nth s i))], none⟩] : Heap))) ∧ cond (Key.eqb (nth out (k - 1)).key (nth s i).key) ((Yes (.int .i64 (IntKind.i64.wrap (((k : Nat) : Int) - 1))) ([⟨g, 9, (List.map Card.row out), none⟩, ⟨0, 9, [(Card.row (nth s i))], none⟩] : Heap) (AV.int .i64 ((k - 1 : Nat) : Int))) ∧ (IdxOsl 0 g 9 9 0 k ((k - 1 : Nat) : Int) ([⟨g, 9, (List.map Card.row out), none⟩, ⟨0, 9, [(Card.row (nth s i))], none⟩] : Heap) (k - 1)) ∧ (StoreTo ([⟨g, 9, (List.map Card.row out), none⟩, ⟨0, 9, [(Card.row (nth s i))], none⟩] : Heap) 0 (k - 1) 9 0 (rowAt ([⟨g, 9, (List.map Card.row out), none⟩, ⟨0, 9, [(Card.row (nth s i))], none⟩] : Heap) 0 g (k - 1)) (AV.fit (AV.agg (Card.row (nth s i))) 9) = some (AV.skip, ([⟨g, 9, (List.map Card.row (out.set (k - 1) (nth s i))), none⟩, ⟨0, 9, [(Card.row (nth s i))], none⟩] : Heap))) ∧ (Yes (.int .i64 (IntKind.i64.wrap (((i : Nat) : Int) + 1))) ([⟨g, 9, (List.map Card.row (out.set (k - 1) (nth s i))), none⟩, ⟨0, 9, [(Card.row (nth s i))], none⟩] : Heap) (AV.int .i64 ((i + 1 : Nat) : Int))) ∧ (obsB 1 ([⟨g, 9, (List.map Card.row (out.set (k - 1) (nth s i))), none⟩] : Heap) = true) ∧ LoopTo (codeQ Try.prog (X last_ann) (loopOf Try.f96 0)) (some [3, 8, 9, 10]) (some [3, 8, 9, 10]) (mkF 40 [(3, (AV.osl 0 g 9 0 k)), (8, (AV.sl .any 9 (List.map Card.row s))), (9, (AV.int .i64 ((s.length : Nat) : Int))), (10, (AV.int .i64 ((i + 1 : Nat) : Int)))]) ([⟨g, 9, (List.map Card.row (out.set (k - 1) (nth s i))), none⟩] : Heap) eX FX HX) ((evAppend tt ([⟨g, 9, (List.map Card.row out), none⟩, ⟨0, 9, [(Card.row (nth s i))], none⟩] : Heap) 48 (AV.osl 0 g 9 0 k) (AV.sl .clip 9 [(Card.row (nth s i))]) = some ((AV.osl 0 (g + 1) 9 0 (k + 1)), ([⟨(g + 1), 9, (List.map Card.row (out ++ [(nth s i)])), none⟩, ⟨0, 9, [(Card.row (nth s i))], none⟩] : Heap))) ∧ (Yes (.int .i64 (IntKind.i64.wrap (((i : Nat) : Int) + 1))) ([⟨(g + 1), 9, (List.map Card.row (out ++ [(nth s i)])), none⟩, ⟨0, 9, [(Card.row (nth s i))], none⟩] : Heap) (AV.int .i64 ((i + 1 : Nat) : Int))) ∧ (obsB 1 ([⟨(g + 1), 9, (List.map Card.row (out ++ [(nth s i)])), none⟩] : Heap) = true) ∧ LoopTo (codeQ Try.prog (X last_ann) (loopOf Try.f96 0)) (some [3, 8, 9, 10]) (some [3, 8, 9, 10]) (mkF 40 [(3, (AV.osl 0 (g + 1) 9 0 (k + 1))), (8, (AV.sl .any 9 (List.map Card.row s))), (9, (AV.int .i64 ((s.length : Nat) : Int))), (10, (AV.int .i64 ((i + 1 : Nat) : Int)))]) ([⟨(g + 1), 9, (List.map Card.row (out ++ [(nth s i)])), none⟩] : Heap) eX FX HX)) ((evAppend tt ([⟨g, 9, (List.map Card.row out), none⟩, ⟨0, 9, [(Card.row (nth s i))], none⟩] : Heap) 48 (AV.osl 0 g 9 0 k) (AV.sl .clip 9 [(Card.row (nth s i))]) = some ((AV.osl 0 (g + 1) 9 0 (k + 1)), ([⟨(g + 1), 9, (List.map Card.row (out ++ [(nth s i)])), none⟩, ⟨0, 9, [(Card.row (nth s i))], none⟩] : Heap))) ∧ (Yes (.int .i64 (IntKind.i64.wrap (((i : Nat) : Int) + 1))) ([⟨(g + 1), 9, (List.map Card.row (out ++ [(nth s i)])), none⟩, ⟨0, 9, [(Card.row (nth s i))], none⟩] : Heap) (AV.int .i64 ((i + 1 : Nat) : Int))) ∧ (obsB 1 ([⟨(g + 1), 9, (List.map Card.row (out ++ [(nth s i)])), none⟩] : Heap) = true) ∧ LoopTo (codeQ Try.prog (X last_ann) (loopOf Try.f96 0)) (some [3, 8, 9, 10]) (some [3, 8, 9, 10]) (mkF 40 [(3, (AV.osl 0 (g + 1) 9 0 (k + 1))), (8, (AV.sl .any 9 (List.map Card.row s))), (9, (AV.int .i64 ((s.length : Nat) : Int))), (10, (AV.int .i64 ((i + 1 : Nat) : Int)))]) ([⟨(g + 1), 9, (List.map Card.row (out ++ [(nth s i)])), none⟩] : Heap) eX FX HX)) (((.exit 0 : Ex), (mkF 40 [(3, (AV.osl 0 g 9 0 k)), (8, (AV.sl .any 9 (List.map Card.row s))), (9, (AV.int .i64 ((s.length : Nat) : Int))), (10, (AV.int .i64 ((i : Nat) : Int)))]), ([⟨g, 9, (List.map Card.row out), none⟩] : Heap)) = (eX, FX, HX))) = _) ?_
  refine cond_split (fun h1 => ?_) (fun h1 => ?_)
  · have h1' := h1
    try simp at h1'
    refine And.intro (IdxSl.mk _ (by omega) (by omega)) ?_
    refine cond_split (fun h2 => ?_) (fun h2 => ?_)
    · have h2' := h2
      try simp at h2'
      refine And.intro (Yes.add (by omega) (by omega) (by omega)) ?_
      refine And.intro (IdxOsl.mk _ (by omega) (by omega)) ?_
      refine And.intro (load_row (rowAt_map (row := Card.row) (l := out) (k := 9) (room := none) (by kernel_rfl) (by first | omega | (simp; done) | (simp; omega))) (by kernel_rfl)) ?_
      refine cond_split (fun h3 => ?_) (fun h3 => ?_)
      · have h3' := h3
        try simp at h3'
        refine And.intro (Yes.add (by omega) (by omega) (by omega)) ?_
        refine And.intro (IdxOsl.mk _ (by omega) (by omega)) ?_
        refine And.intro (store_row (us := (Card.row (nth s i))) (rowAt_map (row := Card.row) (l := out) (k := 9) (room := none) (by kernel_rfl) (by first | omega | (simp; done) | (simp; omega))) (by kernel_rfl) (by simp [Card.row]) (by simp [setAt, fillAt, List.map_set, Card.row])) ?_
        refine And.intro (Yes.add (by omega) (by omega) (by omega)) ?_
        refine And.intro (by first | (simp [obsB, AV.bddss, AV.bdds, AV.bdd]; done) | (simp [obsB, AV.bddss, AV.bdds, AV.bdd, -List.map_append]; done) | simp [obsB, AV.bddss, AV.bdds, AV.bdd, -List.map_append, -List.map_set, -List.map_take, -List.map_drop, -List.map_cons, -List.map_map]) ?_
        exact k1 h1 h2 h3
      · have h3' := h3
        try simp at h3'
        refine And.intro (evAppend_one (row := Card.row) (l := out) (x := (nth s i)) (T := tt) (e := 34) (te := { d := .struct [(30, 0), (3, 2), (3, 3), (2, 4), (32, 5), (4, 8)], size := 9, bytes := 88, zero := [.str ⟨#[]⟩, .str ⟨#[]⟩, .int .i64 0, .int .i64 0, .int .i64 0, .int .i64 0, .int .i64 0, .int .i64 0, .bool false] }) (z := 1) (b := 24) (y := [.sl .nil 0 []]) (by kernel_rfl) (by kernel_rfl) rfl (by decide) (by decide) (by kernel_rfl) (by first | assumption | omega | (simp; done) | (simp; omega)) rfl rfl (by first | omega | (simp; omega))) ?_
        refine And.intro (Yes.add (by omega) (by omega) (by omega)) ?_
        refine And.intro (by first | (simp [obsB, AV.bddss, AV.bdds, AV.bdd]; done) | (simp [obsB, AV.bddss, AV.bdds, AV.bdd, -List.map_append]; done) | simp [obsB, AV.bddss, AV.bdds, AV.bdd, -List.map_append, -List.map_set, -List.map_take, -List.map_drop, -List.map_cons, -List.map_map]) ?_
        exact k2 h1 h2 h3
    · have h2' := h2
      try simp at h2'
      refine And.intro (evAppend_one (row := Card.row) (l := out) (x := (nth s i)) (T := tt) (e := 34) (te := { d := .struct [(30, 0), (3, 2), (3, 3), (2, 4), (32, 5), (4, 8)], size := 9, bytes := 88, zero := [.str ⟨#[]⟩, .str ⟨#[]⟩, .int .i64 0, .int .i64 0, .int .i64 0, .int .i64 0, .int .i64 0, .int .i64 0, .bool false] }) (z := 1) (b := 24) (y := [.sl .nil 0 []]) (by kernel_rfl) (by kernel_rfl) rfl (by decide) (by decide) (by kernel_rfl) (by first | assumption | omega | (simp; done) | (simp; omega)) rfl rfl (by first | omega | (simp; omega))) ?_
      refine And.intro (Yes.add (by omega) (by omega) (by omega)) ?_
      refine And.intro (by first | (simp [obsB, AV.bddss, AV.bdds, AV.bdd]; done) | (simp [obsB, AV.bddss, AV.bdds, AV.bdd, -List.map_append]; done) | simp [obsB, AV.bddss, AV.bdds, AV.bdd, -List.map_append, -List.map_set, -List.map_take, -List.map_drop, -List.map_cons, -List.map_map]) ?_
      exact k3 h1 h2
  · have h1' := h1
    try simp at h1'
    exact k4 h1
theorem last_loop (s : List Card) (r : Nat) : ∀ (out : List Card) (i k g : Nat) (sF : List Card × Nat), i + r = s.length → k = out.length → k ≤ i → s.length < 1048576 → sF = (s.drop i).foldl onceStep (out, g) →
    LoopTo (codeQ Try.prog (X last_ann) (loopOf Try.f96 0)) (some [3, 8, 9, 10]) (some [3, 8, 9, 10]) (mkF 40 [(3, (AV.osl 0 g 9 0 k)), (8, (AV.sl .any 9 (List.map Card.row s))), (9, (AV.int .i64 ((s.length : Nat) : Int))), (10, (AV.int .i64 ((i : Nat) : Int)))]) ([⟨g, 9, (List.map Card.row out), none⟩] : Heap) (.exit 0) (mkF 40 [(3, (AV.osl 0 sF.2 9 0 sF.1.length)), (8, (AV.sl .any 9 (List.map Card.row s))), (9, (AV.int .i64 ((s.length : Nat) : Int))), (10, (AV.int .i64 ((s.length : Nat) : Int)))]) ([⟨sF.2, 9, (List.map Card.row sF.1), none⟩] : Heap) := by
  induction r with
  | zero =>
    intro out i k g sF hi hk hki hl h
    refine last_step s out i k g hk (by omega) hl (fun h => by simp at h; omega) (fun h => by simp at h; omega) (fun h => by simp at h; omega) fun _ => ?_
    have : s.drop i = [] := List.drop_of_length_le (by omega)
    rw [this] at h
    have e3 : i = s.length := by omega
    rw [h, e3, hk]
    rfl
  | succ r ih =>
    intro out i k g sF hi hk hki hl h
    rw [drop_nth (by omega), List.foldl_cons] at h
    refine last_step s out i k g hk (by omega) hl (fun _ h2 h3 => ?_) (fun _ h2 h3 => ?_) (fun _ h2 => ?_) fun h => by simp at h; omega
    · rw [hk] at h2 h3
      exact ih (out.set (k - 1) (nth s i)) (i + 1) k g sF (by omega) (by simp [hk]) (by omega) hl (by rw [h, hk]; simp only [onceStep]; rw [if_pos h2, if_pos h3])
    · rw [hk] at h2 h3
      exact ih (out ++ [nth s i]) (i + 1) (k + 1) (g + 1) sF (by omega) (by simp [hk]) (by omega) hl (by rw [h]; simp only [onceStep]; rw [if_pos h2, if_neg (by rw [h3]; simp)])
    · rw [hk] at h2
      exact ih (out ++ [nth s i]) (i + 1) (k + 1) (g + 1) sF (by omega) (by simp [hk]) (by omega) hl (by rw [h]; simp only [onceStep]; rw [if_neg (by rw [h2]; simp)])
set_option maxRecDepth 100000 in
theorem last_spec (l : List Card) (hl : l.length < 20) : ACalls Try.prog 96 [(AV.sl .any 9 (List.map Card.row l))] ([] : Heap) ((AV.sl .any 9 (List.map Card.row (lastK l))), ([] : Heap)) := by
  have hs := sortP_len l
  refine spec (fn := Try.f96) (ann := last_ann) (t := (.reg [] [] [] (.reg [] [] [] (.reg [(1, ((AV.sl .any 9 (List.map Card.row (sortP l))), ([⟨0, 9, (List.map Card.row []), none⟩] : Heap))), (2, ((AV.int .i64 (((sortP l).length : Nat) : Int)), ([⟨0, 9, (List.map Card.row []), none⟩] : Heap)))] [] [] (.loop (.exit 0) (mkF 40 [(3, (AV.osl 0 ((lastS (sortP l)).2) 9 0 ((lastS (sortP l)).1.length))), (8, (AV.sl .any 9 (List.map Card.row (sortP l)))), (9, (AV.int .i64 (((sortP l).length : Nat) : Int))), (10, (AV.int .i64 (((sortP l).length : Nat) : Int)))]) ([⟨((lastS (sortP l)).2), 9, (List.map Card.row ((lastS (sortP l)).1)), none⟩] : Heap) (.reg [] [] [(2, (List.map Card.row ((lastS (sortP l)).1)))] .nil)))))) (Nat.le_of_ble_eq_true (by kernel_rfl)) ⟨Try.func96, by kernel_rfl, by kernel_rfl, by kernel_rfl⟩ ?_
  refine Eq.mp (by kernel_rfl : ((ACalls Try.prog 87 [(AV.sl .any 9 (List.map Card.row l))] ([⟨0, 9, (List.map Card.row []), none⟩] : Heap) ((AV.sl .any 9 (List.map Card.row (sortP l))), ([⟨0, 9, (List.map Card.row []), none⟩] : Heap))) ∧ (Yes (.int .i64 ((List.length (List.map Card.row (sortP l)) : Nat) : Int)) ([⟨0, 9, (List.map Card.row []), none⟩] : Heap) (AV.int .i64 (((sortP l).length : Nat) : Int))) ∧ (LoopTo (codeQ Try.prog (X last_ann) (loopOf Try.f96 0)) (some [3, 8, 9, 10]) (some [3, 8, 9, 10]) (mkF 40 [(3, (AV.osl 0 0 9 0 0)), (8, (AV.sl .any 9 (List.map Card.row (sortP l)))), (9, (AV.int .i64 (((sortP l).length : Nat) : Int))), (10, (AV.int .i64 0))]) ([⟨0, 9, (List.map Card.row []), none⟩] : Heap) (.exit 0) (mkF 40 [(3, (AV.osl 0 ((lastS (sortP l)).2) 9 0 ((lastS (sortP l)).1.length))), (8, (AV.sl .any 9 (List.map Card.row (sortP l)))), (9, (AV.int .i64 (((sortP l).length : Nat) : Int))), (10, (AV.int .i64 (((sortP l).length : Nat) : Int)))]) ([⟨((lastS (sortP l)).2), 9, (List.map Card.row ((lastS (sortP l)).1)), none⟩] : Heap)) ∧ (rowsIn ([⟨((lastS (sortP l)).2), 9, (List.map Card.row ((lastS (sortP l)).1)), none⟩] : Heap) 9 (AV.osl 0 ((lastS (sortP l)).2) 9 0 ((lastS (sortP l)).1.length)) = some (List.map Card.row ((lastS (sortP l)).1)) ∧ AV.bddss 0 (List.map Card.row ((lastS (sortP l)).1)) = true) ∧ (AV.bdd 0 (AV.sl .any 9 (List.map Card.row ((lastS (sortP l)).1))) = true ∧ obsB 0 ([] : Heap) = true) ∧ ((AV.sl .any 9 (List.map Card.row ((lastS (sortP l)).1))), ([] : Heap)) = ((AV.sl .any 9 (List.map Card.row (lastK l))), ([] : Heap))) = _) ?_
  refine And.intro (sortCard_at l (by first | omega | assumption | (simp; done) | (simp; omega) | (simp_all; done) | (simp_all; omega)) ([⟨0, 9, (List.map Card.row []), none⟩] : Heap)) ?_
  refine And.intro (Yes.len _ _ _) ?_
  refine And.intro ((last_loop (sortP l) (List.length (sortP l)) [] 0 0 0 _ (by omega) rfl (by omega) (by omega) rfl)) ?_
  refine And.intro (And.intro (rowsIn_all (room := none) (by kernel_rfl) (by first | omega | (simp; done) | (simp; omega))) (Card.rows_bdd _ _)) ?_
  refine And.intro (by first | (simp [obsB, AV.bddss, AV.bdds, AV.bdd]; done) | (simp [obsB, AV.bddss, AV.bdds, AV.bdd, -List.map_append]; done) | simp [obsB, AV.bddss, AV.bdds, AV.bdd, -List.map_append, -List.map_set, -List.map_take, -List.map_drop, -List.map_cons, -List.map_map]) ?_
  rfl
theorem last_at (l : List Card) (hl : l.length < 20) (H : Heap) : ACalls Try.prog 96 [(AV.sl .any 9 (List.map Card.row l))] H ((AV.sl .any 9 (List.map Card.row (lastK l))), H) := (last_spec l hl).lift (by kernel_rfl) (by kernel_rfl) H
def Stamp.eqb (a b : Stamp) : Bool := (a.t == b.t) && ((a.node == b.node) && ((a.n == b.n) && true))
def Card.eqb (a b : Card) : Bool := (Key.eqb a.key b.key) && ((a.status == b.status) && ((a.over == b.over) && ((a.lease == b.lease) && ((Stamp.eqb a.stamp b.stamp) && ((a.gone == b.gone) && true)))))
theorem Key.eqb_refl (a : Key) : Key.eqb a a = true := by simp [Key.eqb]
theorem Card.eqb_refl (a : Card) : Card.eqb a a = true := by simp [Card.eqb, Stamp.eqb, Key.eqb]
def sameC_ann : Ann := { fin := some 0, live := [(4, [0, 1, 12, 13])], out := [(4, [0, 1, 12, 13])] }
set_option maxRecDepth 100000 in
theorem sameC_step (a : List Card) (b : List Card)  (i : Nat) (hl : a.length < 1099511627776) (hb : a.length = b.length) (hle_ : i ≤ a.length) {eX : Ex} {FX : Fr} {HX : Heap} (k1 : (decide (((i : Nat) : Int) < ((a.length : Nat) : Int))) = true → (!(Card.eqb (nth a i) (nth b i))) = true → ((.ret : Ex), (mkF 26 [(0, (AV.sl .any 9 (List.map Card.row a))), (1, (AV.sl .any 9 (List.map Card.row b))), (12, (AV.int .i64 ((a.length : Nat) : Int))), (13, (AV.int .i64 ((i : Nat) : Int)))]), ([] : Heap)) = (eX, FX, HX)) (k2 : (decide (((i : Nat) : Int) < ((a.length : Nat) : Int))) = true → (!(Card.eqb (nth a i) (nth b i))) = false → LoopTo (codeQ Try.prog (X sameC_ann) (loopOf Try.f55 0)) (some [0, 1, 12, 13]) (some [0, 1, 12, 13]) (mkF 26 [(0, (AV.sl .any 9 (List.map Card.row a))), (1, (AV.sl .any 9 (List.map Card.row b))), (12, (AV.int .i64 ((a.length : Nat) : Int))), (13, (AV.int .i64 ((i + 1 : Nat) : Int)))]) ([] : Heap) eX FX HX) (k3 : (decide (((i : Nat) : Int) < ((a.length : Nat) : Int))) = false → ((.exit 0 : Ex), (mkF 26 [(0, (AV.sl .any 9 (List.map Card.row a))), (1, (AV.sl .any 9 (List.map Card.row b))), (12, (AV.int .i64 ((a.length : Nat) : Int))), (13, (AV.int .i64 ((i : Nat) : Int)))]), ([] : Heap)) = (eX, FX, HX)) : LoopTo (codeQ Try.prog (X sameC_ann) (loopOf Try.f55 0)) (some [0, 1, 12, 13]) (some [0, 1, 12, 13]) (mkF 26 [(0, (AV.sl .any 9 (List.map Card.row a))), (1, (AV.sl .any 9 (List.map Card.row b))), (12, (AV.int .i64 ((a.length : Nat) : Int))), (13, (AV.int .i64 ((i : Nat) : Int)))]) ([] : Heap) eX FX HX := by
  refine LoopTo.step (.reg [] [] [] (.two (.reg [] [] [] (.reg [(2, ((AV.ref (Card.row (nth a i)) 0), ([] : Heap))), (6, ((AV.ref (Card.row (nth b i)) 0), ([] : Heap)))] [] [] (.two (.reg [] [] [] .nil) (.reg [(0, ((AV.int .i64 ((i + 1 : Nat) : Int)), ([] : Heap)))] [] [] .nil)))) .nil)) ?_
  refine Eq.mp (by kernel_rfl : (cond (decide (((i : Nat) : Int) < ((a.length : Nat) : Int))) ((IdxSl 9 9 (List.map Card.row a) ((i : Nat) : Int) ([] : Heap) (Card.row (nth a i))) ∧ (IdxSl 9 9 (List.map Card.row b) ((i : Nat) : Int) ([] : Heap) (Card.row (nth b i))) ∧ cond (!(Card.eqb (nth a i) (nth b i))) (((.ret : Ex), (mkF 26 [(0, (AV.sl .any 9 (List.map Card.row a))), (1, (AV.sl .any 9 (List.map Card.row b))), (12, (AV.int .i64 ((a.length : Nat) : Int))), (13, (AV.int .i64 ((i : Nat) : Int)))]), ([] : Heap)) = (eX, FX, HX)) ((Yes (.int .i64 (IntKind.i64.wrap (((i : Nat) : Int) + 1))) ([] : Heap) (AV.int .i64 ((i + 1 : Nat) : Int))) ∧ LoopTo (codeQ Try.prog (X sameC_ann) (loopOf Try.f55 0)) (some [0, 1, 12, 13]) (some [0, 1, 12, 13]) (mkF 26 [(0, (AV.sl .any 9 (List.map Card.row a))), (1, (AV.sl .any 9 (List.map Card.row b))), (12, (AV.int .i64 ((a.length : Nat) : Int))), (13, (AV.int .i64 ((i + 1 : Nat) : Int)))]) ([] : Heap) eX FX HX)) (((.exit 0 : Ex), (mkF 26 [(0, (AV.sl .any 9 (List.map Card.row a))), (1, (AV.sl .any 9 (List.map Card.row b))), (12, (AV.int .i64 ((a.length : Nat) : Int))), (13, (AV.int .i64 ((i : Nat) : Int)))]), ([] : Heap)) = (eX, FX, HX))) = _) ?_
  refine cond_split (fun h1 => ?_) (fun h1 => ?_)
  · have h1' := h1
    try simp at h1'
    refine And.intro (IdxSl.mk _ (by omega) (by omega)) ?_
    refine And.intro (IdxSl.mk _ (by omega) (by omega)) ?_
    refine cond_split (fun h2 => ?_) (fun h2 => ?_)
    · have h2' := h2
      try simp at h2'
      exact k1 h1 h2
    · have h2' := h2
      try simp at h2'
      refine And.intro (Yes.add (by omega) (by omega) (by omega)) ?_
      exact k2 h1 h2
  · have h1' := h1
    try simp at h1'
    exact k3 h1
def sameC_f (a : List Card) (b : List Card) (i : Nat) (s : Unit) : Unit := ()
def sameC_bad (a : List Card) (b : List Card)  (i : Nat) : Prop := (((decide (((i : Nat) : Int) < ((a.length : Nat) : Int))) = true) ∧ ((!(Card.eqb (nth a i) (nth b i))) = true))
theorem sameC_loop (a : List Card) (b : List Card) (hl : a.length < 1099511627776) (hb : a.length = b.length)  (hbad : ∀ (i : Nat), i < a.length → ¬ sameC_bad a b  i) (r_ : Nat) : ∀  (i : Nat) (sF : Unit), i + r_ = a.length → () = (iter (sameC_f a b) i 0 ()) → sF = iter (sameC_f a b) r_ i () →
    LoopTo (codeQ Try.prog (X sameC_ann) (loopOf Try.f55 0)) (some [0, 1, 12, 13]) (some [0, 1, 12, 13]) (mkF 26 [(0, (AV.sl .any 9 (List.map Card.row a))), (1, (AV.sl .any 9 (List.map Card.row b))), (12, (AV.int .i64 ((a.length : Nat) : Int))), (13, (AV.int .i64 ((i : Nat) : Int)))]) ([] : Heap) (.exit 0) (mkF 26 [(0, (AV.sl .any 9 (List.map Card.row a))), (1, (AV.sl .any 9 (List.map Card.row b))), (12, (AV.int .i64 ((a.length : Nat) : Int))), (13, (AV.int .i64 ((a.length : Nat) : Int)))]) ([] : Heap) := by
  induction r_ with
  | zero =>
    intro  i sF hi_  hs_ hF
    obtain rfl : a.length = i := by omega
    have e_ : sF = () := hF
    refine sameC_step a b  a.length hl hb (Nat.le_refl _) (fun h _ => by simp at h <;> omega) (fun h _ => by simp at h <;> omega) (fun _ => ?_)
    first | done | rfl | (rw [e_]; done) | (rw [e_]; rfl)
  | succ r_ ih =>
    intro  i sF hi_  hs_ hF
    refine sameC_step a b  i hl hb (by omega) (fun h1 h2 => ?_) (fun h1 h2 => ?_) (fun h => by simp at h <;> omega)
    · exact False.elim (by
        have hb_ := hbad i (by omega)
        try rw [← hs_] at hb_
        exact hb_ (⟨h1, h2⟩))
    · exact ih  (i + 1) sF (by omega)  (by rw [iter_succ, ← hs_] <;> simp only [sameC_f, h2, if_true, Bool.false_eq_true, if_false]) (by rw [hF] <;> simp only [iter, sameC_f, h2, if_true, Bool.false_eq_true, if_false])
set_option maxRecDepth 100000 in
theorem sameC_spec (a b : List Card) (hl : a.length < 1099511627776) (h : a = b) : ACalls Try.prog 55 [(AV.sl .any 9 (List.map Card.row a)), (AV.sl .any 9 (List.map Card.row b))] ([] : Heap) ((AV.bool true), ([] : Heap)) := by
  have hb : a.length = b.length := by rw [h]
  refine spec (fn := Try.f55) (ann := sameC_ann) (t := (.reg [] [] [] (.reg [(1, ((AV.int .i64 ((a.length : Nat) : Int)), ([] : Heap))), (3, ((AV.int .i64 ((b.length : Nat) : Int)), ([] : Heap))), (4, ((AV.bool false), ([] : Heap)))] [] [] (.two .nil (.reg [(1, ((AV.int .i64 ((a.length : Nat) : Int)), ([] : Heap)))] [] [] (.loop (.exit 0) (mkF 26 [(0, (AV.sl .any 9 (List.map Card.row a))), (1, (AV.sl .any 9 (List.map Card.row b))), (12, (AV.int .i64 ((a.length : Nat) : Int))), (13, (AV.int .i64 ((a.length : Nat) : Int)))]) ([] : Heap) (.reg [] [] [] .nil))))))) (Nat.le_of_ble_eq_true (by kernel_rfl)) ⟨Try.func55, by kernel_rfl, by kernel_rfl, by kernel_rfl⟩ ?_
  refine Eq.mp (by kernel_rfl : ((Yes (.int .i64 ((List.length (List.map Card.row a) : Nat) : Int)) ([] : Heap) (AV.int .i64 ((a.length : Nat) : Int))) ∧ (Yes (.int .i64 ((List.length (List.map Card.row b) : Nat) : Int)) ([] : Heap) (AV.int .i64 ((b.length : Nat) : Int))) ∧ (Yes (AV.bool (((a.length : Nat) : Int) != ((b.length : Nat) : Int))) ([] : Heap) (AV.bool false)) ∧ (Yes (.int .i64 ((List.length (List.map Card.row a) : Nat) : Int)) ([] : Heap) (AV.int .i64 ((a.length : Nat) : Int))) ∧ (LoopTo (codeQ Try.prog (X sameC_ann) (loopOf Try.f55 0)) (some [0, 1, 12, 13]) (some [0, 1, 12, 13]) (mkF 26 [(0, (AV.sl .any 9 (List.map Card.row a))), (1, (AV.sl .any 9 (List.map Card.row b))), (12, (AV.int .i64 ((a.length : Nat) : Int))), (13, (AV.int .i64 0))]) ([] : Heap) (.exit 0) (mkF 26 [(0, (AV.sl .any 9 (List.map Card.row a))), (1, (AV.sl .any 9 (List.map Card.row b))), (12, (AV.int .i64 ((a.length : Nat) : Int))), (13, (AV.int .i64 ((a.length : Nat) : Int)))]) ([] : Heap)) ∧ (AV.bdd 0 (AV.bool true) = true ∧ obsB 0 ([] : Heap) = true) ∧ ((AV.bool true), ([] : Heap)) = ((AV.bool true), ([] : Heap))) = _) ?_
  refine And.intro (Yes.len _ _ _) ?_
  refine And.intro (Yes.len _ _ _) ?_
  refine And.intro (Yes.bool (by rw [hb]; simp)) ?_
  refine And.intro (Yes.len _ _ _) ?_
  refine And.intro ((sameC_loop a b hl hb (fun i hi => by subst h; simp [sameC_bad, Card.eqb_refl]) (List.length a) 0 () (by omega) rfl rfl)) ?_
  refine And.intro (by first | (simp [obsB, AV.bddss, AV.bdds, AV.bdd]; done) | (simp [obsB, AV.bddss, AV.bdds, AV.bdd, -List.map_append]; done) | simp [obsB, AV.bddss, AV.bdds, AV.bdd, -List.map_append, -List.map_set, -List.map_take, -List.map_drop, -List.map_cons, -List.map_map]) ?_
  rfl
theorem sameC_at (a b : List Card) (hl : a.length < 1099511627776) (h : a = b) (H : Heap) : ACalls Try.prog 55 [(AV.sl .any 9 (List.map Card.row a)), (AV.sl .any 9 (List.map Card.row b))] H ((AV.bool true), H) := (sameC_spec a b hl h).lift (by kernel_rfl) (by kernel_rfl) H
def sameK_ann : Ann := { fin := some 0, live := [(4, [0, 1, 12, 13])], out := [(4, [0, 1, 12, 13])] }
set_option maxRecDepth 100000 in
theorem sameK_step (a : List Key) (b : List Key)  (i : Nat) (hl : a.length < 1099511627776) (hb : a.length = b.length) (hle_ : i ≤ a.length) {eX : Ex} {FX : Fr} {HX : Heap} (k1 : (decide (((i : Nat) : Int) < ((a.length : Nat) : Int))) = true → (!(Key.eqb (nth a i) (nth b i))) = true → ((.ret : Ex), (mkF 26 [(0, (AV.sl .any 2 (List.map Key.row a))), (1, (AV.sl .any 2 (List.map Key.row b))), (12, (AV.int .i64 ((a.length : Nat) : Int))), (13, (AV.int .i64 ((i : Nat) : Int)))]), ([] : Heap)) = (eX, FX, HX)) (k2 : (decide (((i : Nat) : Int) < ((a.length : Nat) : Int))) = true → (!(Key.eqb (nth a i) (nth b i))) = false → LoopTo (codeQ Try.prog (X sameK_ann) (loopOf Try.f57 0)) (some [0, 1, 12, 13]) (some [0, 1, 12, 13]) (mkF 26 [(0, (AV.sl .any 2 (List.map Key.row a))), (1, (AV.sl .any 2 (List.map Key.row b))), (12, (AV.int .i64 ((a.length : Nat) : Int))), (13, (AV.int .i64 ((i + 1 : Nat) : Int)))]) ([] : Heap) eX FX HX) (k3 : (decide (((i : Nat) : Int) < ((a.length : Nat) : Int))) = false → ((.exit 0 : Ex), (mkF 26 [(0, (AV.sl .any 2 (List.map Key.row a))), (1, (AV.sl .any 2 (List.map Key.row b))), (12, (AV.int .i64 ((a.length : Nat) : Int))), (13, (AV.int .i64 ((i : Nat) : Int)))]), ([] : Heap)) = (eX, FX, HX)) : LoopTo (codeQ Try.prog (X sameK_ann) (loopOf Try.f57 0)) (some [0, 1, 12, 13]) (some [0, 1, 12, 13]) (mkF 26 [(0, (AV.sl .any 2 (List.map Key.row a))), (1, (AV.sl .any 2 (List.map Key.row b))), (12, (AV.int .i64 ((a.length : Nat) : Int))), (13, (AV.int .i64 ((i : Nat) : Int)))]) ([] : Heap) eX FX HX := by
  refine LoopTo.step (.reg [] [] [] (.two (.reg [] [] [] (.reg [(2, ((AV.ref (Key.row (nth a i)) 0), ([] : Heap))), (6, ((AV.ref (Key.row (nth b i)) 0), ([] : Heap)))] [] [] (.two (.reg [] [] [] .nil) (.reg [(0, ((AV.int .i64 ((i + 1 : Nat) : Int)), ([] : Heap)))] [] [] .nil)))) .nil)) ?_
  refine Eq.mp (by kernel_rfl : (cond (decide (((i : Nat) : Int) < ((a.length : Nat) : Int))) ((IdxSl 2 2 (List.map Key.row a) ((i : Nat) : Int) ([] : Heap) (Key.row (nth a i))) ∧ (IdxSl 2 2 (List.map Key.row b) ((i : Nat) : Int) ([] : Heap) (Key.row (nth b i))) ∧ cond (!(Key.eqb (nth a i) (nth b i))) (((.ret : Ex), (mkF 26 [(0, (AV.sl .any 2 (List.map Key.row a))), (1, (AV.sl .any 2 (List.map Key.row b))), (12, (AV.int .i64 ((a.length : Nat) : Int))), (13, (AV.int .i64 ((i : Nat) : Int)))]), ([] : Heap)) = (eX, FX, HX)) ((Yes (.int .i64 (IntKind.i64.wrap (((i : Nat) : Int) + 1))) ([] : Heap) (AV.int .i64 ((i + 1 : Nat) : Int))) ∧ LoopTo (codeQ Try.prog (X sameK_ann) (loopOf Try.f57 0)) (some [0, 1, 12, 13]) (some [0, 1, 12, 13]) (mkF 26 [(0, (AV.sl .any 2 (List.map Key.row a))), (1, (AV.sl .any 2 (List.map Key.row b))), (12, (AV.int .i64 ((a.length : Nat) : Int))), (13, (AV.int .i64 ((i + 1 : Nat) : Int)))]) ([] : Heap) eX FX HX)) (((.exit 0 : Ex), (mkF 26 [(0, (AV.sl .any 2 (List.map Key.row a))), (1, (AV.sl .any 2 (List.map Key.row b))), (12, (AV.int .i64 ((a.length : Nat) : Int))), (13, (AV.int .i64 ((i : Nat) : Int)))]), ([] : Heap)) = (eX, FX, HX))) = _) ?_
  refine cond_split (fun h1 => ?_) (fun h1 => ?_)
  · have h1' := h1
    try simp at h1'
    refine And.intro (IdxSl.mk _ (by omega) (by omega)) ?_
    refine And.intro (IdxSl.mk _ (by omega) (by omega)) ?_
    refine cond_split (fun h2 => ?_) (fun h2 => ?_)
    · have h2' := h2
      try simp at h2'
      exact k1 h1 h2
    · have h2' := h2
      try simp at h2'
      refine And.intro (Yes.add (by omega) (by omega) (by omega)) ?_
      exact k2 h1 h2
  · have h1' := h1
    try simp at h1'
    exact k3 h1
def sameK_f (a : List Key) (b : List Key) (i : Nat) (s : Unit) : Unit := ()
def sameK_bad (a : List Key) (b : List Key)  (i : Nat) : Prop := (((decide (((i : Nat) : Int) < ((a.length : Nat) : Int))) = true) ∧ ((!(Key.eqb (nth a i) (nth b i))) = true))
theorem sameK_loop (a : List Key) (b : List Key) (hl : a.length < 1099511627776) (hb : a.length = b.length)  (hbad : ∀ (i : Nat), i < a.length → ¬ sameK_bad a b  i) (r_ : Nat) : ∀  (i : Nat) (sF : Unit), i + r_ = a.length → () = (iter (sameK_f a b) i 0 ()) → sF = iter (sameK_f a b) r_ i () →
    LoopTo (codeQ Try.prog (X sameK_ann) (loopOf Try.f57 0)) (some [0, 1, 12, 13]) (some [0, 1, 12, 13]) (mkF 26 [(0, (AV.sl .any 2 (List.map Key.row a))), (1, (AV.sl .any 2 (List.map Key.row b))), (12, (AV.int .i64 ((a.length : Nat) : Int))), (13, (AV.int .i64 ((i : Nat) : Int)))]) ([] : Heap) (.exit 0) (mkF 26 [(0, (AV.sl .any 2 (List.map Key.row a))), (1, (AV.sl .any 2 (List.map Key.row b))), (12, (AV.int .i64 ((a.length : Nat) : Int))), (13, (AV.int .i64 ((a.length : Nat) : Int)))]) ([] : Heap) := by
  induction r_ with
  | zero =>
    intro  i sF hi_  hs_ hF
    obtain rfl : a.length = i := by omega
    have e_ : sF = () := hF
    refine sameK_step a b  a.length hl hb (Nat.le_refl _) (fun h _ => by simp at h <;> omega) (fun h _ => by simp at h <;> omega) (fun _ => ?_)
    first | done | rfl | (rw [e_]; done) | (rw [e_]; rfl)
  | succ r_ ih =>
    intro  i sF hi_  hs_ hF
    refine sameK_step a b  i hl hb (by omega) (fun h1 h2 => ?_) (fun h1 h2 => ?_) (fun h => by simp at h <;> omega)
    · exact False.elim (by
        have hb_ := hbad i (by omega)
        try rw [← hs_] at hb_
        exact hb_ (⟨h1, h2⟩))
    · exact ih  (i + 1) sF (by omega)  (by rw [iter_succ, ← hs_] <;> simp only [sameK_f, h2, if_true, Bool.false_eq_true, if_false]) (by rw [hF] <;> simp only [iter, sameK_f, h2, if_true, Bool.false_eq_true, if_false])
set_option maxRecDepth 100000 in
theorem sameK_spec (a b : List Key) (hl : a.length < 1099511627776) (h : a = b) : ACalls Try.prog 57 [(AV.sl .any 2 (List.map Key.row a)), (AV.sl .any 2 (List.map Key.row b))] ([] : Heap) ((AV.bool true), ([] : Heap)) := by
  have hb : a.length = b.length := by rw [h]
  refine spec (fn := Try.f57) (ann := sameK_ann) (t := (.reg [] [] [] (.reg [(1, ((AV.int .i64 ((a.length : Nat) : Int)), ([] : Heap))), (3, ((AV.int .i64 ((b.length : Nat) : Int)), ([] : Heap))), (4, ((AV.bool false), ([] : Heap)))] [] [] (.two .nil (.reg [(1, ((AV.int .i64 ((a.length : Nat) : Int)), ([] : Heap)))] [] [] (.loop (.exit 0) (mkF 26 [(0, (AV.sl .any 2 (List.map Key.row a))), (1, (AV.sl .any 2 (List.map Key.row b))), (12, (AV.int .i64 ((a.length : Nat) : Int))), (13, (AV.int .i64 ((a.length : Nat) : Int)))]) ([] : Heap) (.reg [] [] [] .nil))))))) (Nat.le_of_ble_eq_true (by kernel_rfl)) ⟨Try.func57, by kernel_rfl, by kernel_rfl, by kernel_rfl⟩ ?_
  refine Eq.mp (by kernel_rfl : ((Yes (.int .i64 ((List.length (List.map Key.row a) : Nat) : Int)) ([] : Heap) (AV.int .i64 ((a.length : Nat) : Int))) ∧ (Yes (.int .i64 ((List.length (List.map Key.row b) : Nat) : Int)) ([] : Heap) (AV.int .i64 ((b.length : Nat) : Int))) ∧ (Yes (AV.bool (((a.length : Nat) : Int) != ((b.length : Nat) : Int))) ([] : Heap) (AV.bool false)) ∧ (Yes (.int .i64 ((List.length (List.map Key.row a) : Nat) : Int)) ([] : Heap) (AV.int .i64 ((a.length : Nat) : Int))) ∧ (LoopTo (codeQ Try.prog (X sameK_ann) (loopOf Try.f57 0)) (some [0, 1, 12, 13]) (some [0, 1, 12, 13]) (mkF 26 [(0, (AV.sl .any 2 (List.map Key.row a))), (1, (AV.sl .any 2 (List.map Key.row b))), (12, (AV.int .i64 ((a.length : Nat) : Int))), (13, (AV.int .i64 0))]) ([] : Heap) (.exit 0) (mkF 26 [(0, (AV.sl .any 2 (List.map Key.row a))), (1, (AV.sl .any 2 (List.map Key.row b))), (12, (AV.int .i64 ((a.length : Nat) : Int))), (13, (AV.int .i64 ((a.length : Nat) : Int)))]) ([] : Heap)) ∧ (AV.bdd 0 (AV.bool true) = true ∧ obsB 0 ([] : Heap) = true) ∧ ((AV.bool true), ([] : Heap)) = ((AV.bool true), ([] : Heap))) = _) ?_
  refine And.intro (Yes.len _ _ _) ?_
  refine And.intro (Yes.len _ _ _) ?_
  refine And.intro (Yes.bool (by rw [hb]; simp)) ?_
  refine And.intro (Yes.len _ _ _) ?_
  refine And.intro ((sameK_loop a b hl hb (fun i hi => by subst h; simp [sameK_bad, Key.eqb_refl]) (List.length a) 0 () (by omega) rfl rfl)) ?_
  refine And.intro (by first | (simp [obsB, AV.bddss, AV.bdds, AV.bdd]; done) | (simp [obsB, AV.bddss, AV.bdds, AV.bdd, -List.map_append]; done) | simp [obsB, AV.bddss, AV.bdds, AV.bdd, -List.map_append, -List.map_set, -List.map_take, -List.map_drop, -List.map_cons, -List.map_map]) ?_
  rfl
theorem sameK_at (a b : List Key) (hl : a.length < 1099511627776) (h : a = b) (H : Heap) : ACalls Try.prog 57 [(AV.sl .any 2 (List.map Key.row a)), (AV.sl .any 2 (List.map Key.row b))] H ((AV.bool true), H) := (sameK_spec a b hl h).lift (by kernel_rfl) (by kernel_rfl) H
theorem iter_push {α : Type} (f : Nat → List α × Nat × Nat → List α × Nat × Nat) (h : Nat → List α × Nat × Nat → α) (hf : ∀ i s, f i s = (s.1 ++ [h i s], s.2.1 + 1, s.2.2 + 1)) (r : Nat) : ∀ (i : Nat) (s : List α × Nat × Nat),
    (iter f r i s).1.length = s.1.length + r ∧ (iter f r i s).2 = (s.2.1 + r, s.2.2 + r) := by
  induction r with
  | zero => intro i s; simp [iter]
  | succ r ih => intro i s; obtain ⟨h1, h2⟩ := ih (i + 1) (f i s); simp only [iter]; rw [h1, h2, hf]; simp; omega
end Go.Proofs.Ytpkgpldgoajphaa.AM

set_option maxRecDepth 100000
set_option linter.unusedVariables false
set_option linter.unusedSimpArgs false
namespace Go.Proofs.Ytpkgpldgoajphaa.AM
open Go Go.Proofs.Ytpkgpldgoajphaa
attribute [local irreducible] ACalls funT codeT codeQ LoopTo
attribute [local irreducible] Tp.card Tp.cardT Tp.next Tp.step Tp.cards Tp.cardsT Tp.key Tp.keyT sink insSort sortK insK posK beforeK onceStep sortP lastS lastK cmpK
/-- The place of the first that is liked; -1: none is. -/
def ixOf {α : Type} (p : α → Bool) : List α → Nat → Option Nat
  | [], _ => none
  | x :: xs, i => if p x = true then some i else ixOf p xs (i + 1)
def ixI {α : Type} (p : α → Bool) (l : List α) : Int := match ixOf p l 0 with | some n => (n : Int) | none => -1
theorem ixOf_some {α : Type} [Inhabited α] {p : α → Bool} (l : List α) : ∀ (i n : Nat), ixOf p l i = some n → i ≤ n ∧ n < i + l.length ∧ p (nth l (n - i)) = true ∧ ∀ j, j < n - i → p (nth l j) = false := by
  induction l with
  | nil => intro i n h; simp [ixOf] at h
  | cons x xs ih =>
    intro i n h
    simp only [ixOf] at h
    by_cases hx : p x = true
    · rw [if_pos hx] at h
      obtain rfl : i = n := by simpa using h
      refine ⟨Nat.le_refl _, by simp, by simpa [nth] using hx, fun j hj => by omega⟩
    · rw [if_neg hx] at h
      obtain ⟨h1, h2, h3, h4⟩ := ih (i + 1) n h
      have e1 : n - i = (n - (i + 1)) + 1 := by omega
      refine ⟨by omega, by simp only [List.length_cons]; omega, by rw [e1]; simpa [nth] using h3, fun j hj => ?_⟩
      cases j with
      | zero => simpa [nth] using hx
      | succ j => simpa [nth] using h4 j (by omega)
theorem ixOf_none {α : Type} [Inhabited α] {p : α → Bool} (l : List α) : ∀ (i : Nat), ixOf p l i = none → ∀ j, j < l.length → p (nth l j) = false := by
  induction l with
  | nil => intro i h j hj; simp at hj
  | cons x xs ih =>
    intro i h j hj
    simp only [ixOf] at h
    by_cases hx : p x = true
    · rw [if_pos hx] at h; simp at h
    · rw [if_neg hx] at h
      cases j with
      | zero => simpa [nth] using hx
      | succ j => simpa [nth] using ih (i + 1) h j (by simpa using hj)
def ixC_ann : Ann := { fin := some 0, live := [(2, [0, 1, 7, 8])], out := [(2, [4])] }
set_option maxRecDepth 100000 in
theorem ixC_step (p : Card → Bool) (f : Nat) (xs : List AV) (l : List Card) (i : Nat) (hc : ∀ (x : Card) (H : Heap), ACalls Try.prog f ([AV.agg (Card.row x)] ++ xs) H (AV.bool (p x), H)) (hl : l.length < 1099511627776) (hi : i ≤ l.length) {eX : Ex} {FX : Fr} {HX : Heap} (k1 : (decide (((i : Nat) : Int) < ((l.length : Nat) : Int))) = true → (p (nth l i)) = true → ((.ret : Ex), (mkF 19 [(4, (AV.int .i64 ((i : Nat) : Int)))]), ([] : Heap)) = (eX, FX, HX)) (k2 : (decide (((i : Nat) : Int) < ((l.length : Nat) : Int))) = true → (p (nth l i)) = false → LoopTo (codeQ Try.prog (X ixC_ann) (loopOf Try.f128 0)) (some [0, 1, 7, 8]) (some [4]) (mkF 19 [(0, (AV.sl .any 9 (List.map Card.row l))), (1, (AV.func f xs)), (7, (AV.int .i64 ((l.length : Nat) : Int))), (8, (AV.int .i64 ((i + 1 : Nat) : Int)))]) ([] : Heap) eX FX HX) (k3 : (decide (((i : Nat) : Int) < ((l.length : Nat) : Int))) = false → ((.exit 0 : Ex), (mkF 19 []), ([] : Heap)) = (eX, FX, HX)) : LoopTo (codeQ Try.prog (X ixC_ann) (loopOf Try.f128 0)) (some [0, 1, 7, 8]) (some [4]) (mkF 19 [(0, (AV.sl .any 9 (List.map Card.row l))), (1, (AV.func f xs)), (7, (AV.int .i64 ((l.length : Nat) : Int))), (8, (AV.int .i64 ((i : Nat) : Int)))]) ([] : Heap) eX FX HX := by
  refine LoopTo.step (.reg [] [] [] (.two (.reg [] [] [] (.reg [(3, ((AV.ref (Card.row (nth l i)) 0), ([] : Heap))), (5, ((AV.bool (p (nth l i))), ([] : Heap)))] [] [] (.two (.reg [] [] [] .nil) (.reg [(0, ((AV.int .i64 ((i + 1 : Nat) : Int)), ([] : Heap)))] [] [] .nil)))) .nil)) ?_
  refine Eq.mp (by kernel_rfl : (cond (decide (((i : Nat) : Int) < ((l.length : Nat) : Int))) ((IdxSl 9 9 (List.map Card.row l) ((i : Nat) : Int) ([] : Heap) (Card.row (nth l i))) ∧ (ACalls Try.prog f ([(AV.agg (Card.row (nth l i)))] ++ xs) ([] : Heap) ((AV.bool (p (nth l i))), ([] : Heap))) ∧ cond (p (nth l i)) (((.ret : Ex), (mkF 19 [(4, (AV.int .i64 ((i : Nat) : Int)))]), ([] : Heap)) = (eX, FX, HX)) ((Yes (.int .i64 (IntKind.i64.wrap (((i : Nat) : Int) + 1))) ([] : Heap) (AV.int .i64 ((i + 1 : Nat) : Int))) ∧ LoopTo (codeQ Try.prog (X ixC_ann) (loopOf Try.f128 0)) (some [0, 1, 7, 8]) (some [4]) (mkF 19 [(0, (AV.sl .any 9 (List.map Card.row l))), (1, (AV.func f xs)), (7, (AV.int .i64 ((l.length : Nat) : Int))), (8, (AV.int .i64 ((i + 1 : Nat) : Int)))]) ([] : Heap) eX FX HX)) (((.exit 0 : Ex), (mkF 19 []), ([] : Heap)) = (eX, FX, HX))) = _) ?_
  refine cond_split (fun h1 => ?_) (fun h1 => ?_)
  · have h1' := h1
    try simp at h1'
    refine And.intro (IdxSl.mk _ (by omega) (by omega)) ?_
    refine And.intro (hc (nth l i) _) ?_
    refine cond_split (fun h2 => ?_) (fun h2 => ?_)
    · have h2' := h2
      try simp at h2'
      exact k1 h1 h2
    · have h2' := h2
      try simp at h2'
      refine And.intro (Yes.add (by omega) (by omega) (by omega)) ?_
      exact k2 h1 h2
  · have h1' := h1
    try simp at h1'
    exact k3 h1
theorem ixC_some (p : Card → Bool) (f : Nat) (xs : List AV) (l : List Card) (hc : ∀ (x : Card) (H : Heap), ACalls Try.prog f ([AV.agg (Card.row x)] ++ xs) H (AV.bool (p x), H)) (hl : l.length < 1099511627776) (n : Nat) (hn : n < l.length) (hp : p (nth l n) = true) (r : Nat) : ∀ (i : Nat), i + r = n → (∀ j, i ≤ j → j < n → p (nth l j) = false) →
    LoopTo (codeQ Try.prog (X ixC_ann) (loopOf Try.f128 0)) (some [0, 1, 7, 8]) (some [4]) (mkF 19 [(0, (AV.sl .any 9 (List.map Card.row l))), (1, (AV.func f xs)), (7, (AV.int .i64 ((l.length : Nat) : Int))), (8, (AV.int .i64 ((i : Nat) : Int)))]) ([] : Heap) (.ret) (mkF 19 [(4, (AV.int .i64 ((n : Nat) : Int)))]) ([] : Heap) := by
  induction r with
  | zero =>
    intro i hi h
    obtain rfl : i = n := by omega
    refine ixC_step p f xs l i hc hl (by omega) (fun _ _ => rfl) (fun _ h2 => ?_) (fun h1 => ?_)
    · rw [hp] at h2; simp at h2
    · simp at h1; omega
  | succ r ih =>
    intro i hi h
    refine ixC_step p f xs l i hc hl (by omega) (fun _ h2 => ?_) (fun _ h2 => ?_) (fun h1 => ?_)
    · rw [h i (Nat.le_refl _) (by omega)] at h2; simp at h2
    · exact ih (i + 1) (by omega) (fun j h3 h4 => h j (by omega) h4)
    · simp at h1; omega
theorem ixC_none (p : Card → Bool) (f : Nat) (xs : List AV) (l : List Card) (hc : ∀ (x : Card) (H : Heap), ACalls Try.prog f ([AV.agg (Card.row x)] ++ xs) H (AV.bool (p x), H)) (hl : l.length < 1099511627776) (r : Nat) : ∀ (i : Nat), i + r = l.length → (∀ j, i ≤ j → j < l.length → p (nth l j) = false) →
    LoopTo (codeQ Try.prog (X ixC_ann) (loopOf Try.f128 0)) (some [0, 1, 7, 8]) (some [4]) (mkF 19 [(0, (AV.sl .any 9 (List.map Card.row l))), (1, (AV.func f xs)), (7, (AV.int .i64 ((l.length : Nat) : Int))), (8, (AV.int .i64 ((i : Nat) : Int)))]) ([] : Heap) (.exit 0) (mkF 19 []) ([] : Heap) := by
  induction r with
  | zero =>
    intro i hi h
    refine ixC_step p f xs l i hc hl (by omega) (fun h1 _ => ?_) (fun h1 h2 => ?_) (fun h1 => rfl)
    · simp at h1; omega
    · simp at h1; omega
  | succ r ih =>
    intro i hi h
    refine ixC_step p f xs l i hc hl (by omega) (fun _ h2 => ?_) (fun _ h2 => ?_) (fun h1 => ?_)
    · rw [h i (Nat.le_refl _) (by omega)] at h2; simp at h2
    · exact ih (i + 1) (by omega) (fun j h3 h4 => h j (by omega) h4)
    · simp at h1; omega
set_option maxRecDepth 100000 in
theorem ixCS_spec (p : Card → Bool) (f : Nat) (xs : List AV) (l : List Card) (n : Nat) (hc : ∀ (x : Card) (H : Heap), ACalls Try.prog f ([AV.agg (Card.row x)] ++ xs) H (AV.bool (p x), H)) (hxs : AV.bdds 0 xs = true) (hl : l.length < 1099511627776) (hn : n < l.length) (hp : p (nth l n) = true) (h : ∀ j, 0 ≤ j → j < n → p (nth l j) = false) : ACalls Try.prog 128 [(AV.sl .any 9 (List.map Card.row l)), (AV.func f xs)] ([] : Heap) ((AV.int .i64 ((n : Nat) : Int)), ([] : Heap)) := by
  refine spec (fn := Try.f128) (ann := ixC_ann) (t := (.reg [] [] [] (.reg [(1, ((AV.int .i64 ((l.length : Nat) : Int)), ([] : Heap)))] [] [] (.loop (.ret) (mkF 19 [(4, (AV.int .i64 ((n : Nat) : Int)))]) ([] : Heap) .nil)))) (Nat.le_of_ble_eq_true (by kernel_rfl)) ⟨Try.func128, by kernel_rfl, by kernel_rfl, by kernel_rfl⟩ ?_
  refine Eq.mp (by kernel_rfl : ((Yes (.int .i64 ((List.length (List.map Card.row l) : Nat) : Int)) ([] : Heap) (AV.int .i64 ((l.length : Nat) : Int))) ∧ (LoopTo (codeQ Try.prog (X ixC_ann) (loopOf Try.f128 0)) (some [0, 1, 7, 8]) (some [4]) (mkF 19 [(0, (AV.sl .any 9 (List.map Card.row l))), (1, (AV.func f xs)), (7, (AV.int .i64 ((l.length : Nat) : Int))), (8, (AV.int .i64 0))]) ([] : Heap) (.ret) (mkF 19 [(4, (AV.int .i64 ((n : Nat) : Int)))]) ([] : Heap)) ∧ (AV.bdd 0 (AV.int .i64 ((n : Nat) : Int)) = true ∧ obsB 0 ([] : Heap) = true) ∧ ((AV.int .i64 ((n : Nat) : Int)), ([] : Heap)) = ((AV.int .i64 ((n : Nat) : Int)), ([] : Heap))) = _) ?_
  refine And.intro (Yes.len _ _ _) ?_
  refine And.intro ((ixC_some p f xs l hc hl n hn hp n 0 (by omega) h)) ?_
  refine And.intro (by first | (simp [obsB, AV.bddss, AV.bdds, AV.bdd]; done) | (simp [obsB, AV.bddss, AV.bdds, AV.bdd, -List.map_append]; done) | simp [obsB, AV.bddss, AV.bdds, AV.bdd, -List.map_append, -List.map_set, -List.map_take, -List.map_drop, -List.map_cons, -List.map_map]) ?_
  rfl
set_option maxRecDepth 100000 in
theorem ixCN_spec (p : Card → Bool) (f : Nat) (xs : List AV) (l : List Card) (hc : ∀ (x : Card) (H : Heap), ACalls Try.prog f ([AV.agg (Card.row x)] ++ xs) H (AV.bool (p x), H)) (hxs : AV.bdds 0 xs = true) (hl : l.length < 1099511627776) (h : ∀ j, 0 ≤ j → j < l.length → p (nth l j) = false) : ACalls Try.prog 128 [(AV.sl .any 9 (List.map Card.row l)), (AV.func f xs)] ([] : Heap) ((AV.int .i64 (-1)), ([] : Heap)) := by
  refine spec (fn := Try.f128) (ann := ixC_ann) (t := (.reg [] [] [] (.reg [(1, ((AV.int .i64 ((l.length : Nat) : Int)), ([] : Heap)))] [] [] (.loop (.exit 0) (mkF 19 []) ([] : Heap) (.reg [] [] [] .nil))))) (Nat.le_of_ble_eq_true (by kernel_rfl)) ⟨Try.func128, by kernel_rfl, by kernel_rfl, by kernel_rfl⟩ ?_
  refine Eq.mp (by kernel_rfl : ((Yes (.int .i64 ((List.length (List.map Card.row l) : Nat) : Int)) ([] : Heap) (AV.int .i64 ((l.length : Nat) : Int))) ∧ (LoopTo (codeQ Try.prog (X ixC_ann) (loopOf Try.f128 0)) (some [0, 1, 7, 8]) (some [4]) (mkF 19 [(0, (AV.sl .any 9 (List.map Card.row l))), (1, (AV.func f xs)), (7, (AV.int .i64 ((l.length : Nat) : Int))), (8, (AV.int .i64 0))]) ([] : Heap) (.exit 0) (mkF 19 []) ([] : Heap)) ∧ (AV.bdd 0 (AV.int .i64 (-1)) = true ∧ obsB 0 ([] : Heap) = true) ∧ ((AV.int .i64 (-1)), ([] : Heap)) = ((AV.int .i64 (-1)), ([] : Heap))) = _) ?_
  refine And.intro (Yes.len _ _ _) ?_
  refine And.intro ((ixC_none p f xs l hc hl l.length 0 (by omega) h)) ?_
  refine And.intro (by first | (simp [obsB, AV.bddss, AV.bdds, AV.bdd]; done) | (simp [obsB, AV.bddss, AV.bdds, AV.bdd, -List.map_append]; done) | simp [obsB, AV.bddss, AV.bdds, AV.bdd, -List.map_append, -List.map_set, -List.map_take, -List.map_drop, -List.map_cons, -List.map_map]) ?_
  rfl
theorem ixC_spec (p : Card → Bool) (f : Nat) (xs : List AV) (l : List Card) (hc : ∀ (x : Card) (H : Heap), ACalls Try.prog f ([AV.agg (Card.row x)] ++ xs) H (AV.bool (p x), H)) (hxs : AV.bdds 0 xs = true) (hl : l.length < 1099511627776) : ACalls Try.prog 128 [(AV.sl .any 9 (List.map Card.row l)), (AV.func f xs)] ([] : Heap) ((AV.int .i64 (ixI p l)), ([] : Heap)) := by
  unfold ixI
  cases h : ixOf p l 0 with
  | none => exact ixCN_spec p f xs l hc hxs hl (fun j _ hj => ixOf_none l 0 h j hj)
  | some n =>
    obtain ⟨_, h2, h3, h4⟩ := ixOf_some l 0 n h
    exact ixCS_spec p f xs l n hc hxs hl (by omega) h3 (fun j _ hj => h4 j hj)
theorem ixC_at (p : Card → Bool) (f : Nat) (xs : List AV) (l : List Card) (hc : ∀ (x : Card) (H : Heap), ACalls Try.prog f ([AV.agg (Card.row x)] ++ xs) H (AV.bool (p x), H)) (hxs : AV.bdds 0 xs = true) (hl : l.length < 1099511627776) (H : Heap) : ACalls Try.prog 128 [(AV.sl .any 9 (List.map Card.row l)), (AV.func f xs)] H ((AV.int .i64 (ixI p l)), H) := (ixC_spec p f xs l hc hxs hl).lift (by simp [AV.bdds, AV.bdd, *]) (by kernel_rfl) H
def zeroC : Card := ⟨⟨⟨#[]⟩, ⟨#[]⟩⟩, 0, 0, 0, ⟨0, 0, 0⟩, false⟩
def isKey (k : Key) (x : Card) : Bool := Key.eqb x.key k
def findC (l : List Card) (k : Key) : Card := if ixI (isKey k) l < 0 then zeroC else nth l (ixI (isKey k) l).toNat
def inC (l : List Card) (k : Key) : Bool := !decide (ixI (isKey k) l < 0)
theorem ixI_lt {α : Type} [Inhabited α] (p : α → Bool) (l : List α) : ixI p l < l.length := by
  unfold ixI
  cases h : ixOf p l 0 with
  | none => simp <;> omega
  | some n => have := ixOf_some l 0 n h; simp; omega
theorem ixI_ge {α : Type} (p : α → Bool) (l : List α) : -1 ≤ ixI p l := by
  unfold ixI
  cases h : ixOf p l 0 with
  | none => simp
  | some n => simp <;> omega
def findp_ann : Ann := { refs := [2], fin := some 0 }
set_option maxRecDepth 100000 in
theorem findp_spec (x : Card) (k : Key)  : ACalls Try.prog 129 [(AV.agg (Card.row x)), (AV.ref (Key.row k) 0)] ([] : Heap) ((AV.bool (isKey k x)), ([] : Heap)) := by
  refine spec (fn := Try.f129) (ann := findp_ann) (t := (.reg [] [] [] (.reg [] [] [] .nil))) (Nat.le_of_ble_eq_true (by kernel_rfl)) ⟨Try.func129, by kernel_rfl, by kernel_rfl, by kernel_rfl⟩ ?_
  refine Eq.mp (by kernel_rfl : ((AV.bdd 0 (AV.bool (Key.eqb x.key k)) = true ∧ obsB 0 ([] : Heap) = true) ∧ ((AV.bool (Key.eqb x.key k)), ([] : Heap)) = ((AV.bool (isKey k x)), ([] : Heap))) = _) ?_
  refine And.intro (by first | (simp [obsB, AV.bddss, AV.bdds, AV.bdd]; done) | (simp [obsB, AV.bddss, AV.bdds, AV.bdd, -List.map_append]; done) | simp [obsB, AV.bddss, AV.bdds, AV.bdd, -List.map_append, -List.map_set, -List.map_take, -List.map_drop, -List.map_cons, -List.map_map]) ?_
  rfl
theorem findp_at (x : Card) (k : Key)  (H : Heap) : ACalls Try.prog 129 [(AV.agg (Card.row x)), (AV.ref (Key.row k) 0)] H ((AV.bool (isKey k x)), H) := (findp_spec x k ).lift (by kernel_rfl) (by kernel_rfl) H
def find_ann : Ann := { refs := [3], fin := some 0 }
set_option maxRecDepth 100000 in
theorem find_spec (l : List Card) (k : Key) (hl : l.length < 1099511627776) : ACalls Try.prog 99 [(AV.sl .any 9 (List.map Card.row l)), (AV.agg (Key.row k))] ([] : Heap) ((AV.tup [(AV.agg (Card.row (findC l k))), (AV.bool (inC l k))]), ([] : Heap)) := by
  have h1 := ixI_lt (isKey k) l
  have h2 := ixI_ge (isKey k) l
  refine spec (fn := Try.f99) (ann := find_ann) (t := (.reg [] [] [] (.reg [(2, ((AV.int .i64 (ixI (isKey k) l)), ([⟨0, 9, [[(AV.str (ByteArray.mk #[])), (AV.str (ByteArray.mk #[])), (AV.int .i64 0), (AV.int .i64 0), (AV.int .i64 0), (AV.int .i64 0), (AV.int .i64 0), (AV.int .i64 0), (AV.bool false)]], none⟩] : Heap)))] [] [] (.reg [] [] [] (.two (.reg [] [] [] .nil) (.reg [(2, ((AV.ref (Card.row (nth l (Int.toNat (ixI (isKey k) l)))) 0), ([⟨0, 9, [[(AV.str (ByteArray.mk #[])), (AV.str (ByteArray.mk #[])), (AV.int .i64 0), (AV.int .i64 0), (AV.int .i64 0), (AV.int .i64 0), (AV.int .i64 0), (AV.int .i64 0), (AV.bool false)]], none⟩] : Heap)))] [] [] .nil)))))) (Nat.le_of_ble_eq_true (by kernel_rfl)) ⟨Try.func99, by kernel_rfl, by kernel_rfl, by kernel_rfl⟩ ?_
  refine Eq.mp (by kernel_rfl : ((ACalls Try.prog 128 [(AV.sl .any 9 (List.map Card.row l)), (AV.func 129 [(AV.ref (Key.row k) 0)])] ([⟨0, 9, [[(AV.str (ByteArray.mk #[])), (AV.str (ByteArray.mk #[])), (AV.int .i64 0), (AV.int .i64 0), (AV.int .i64 0), (AV.int .i64 0), (AV.int .i64 0), (AV.int .i64 0), (AV.bool false)]], none⟩] : Heap) ((AV.int .i64 (ixI (isKey k) l)), ([⟨0, 9, [[(AV.str (ByteArray.mk #[])), (AV.str (ByteArray.mk #[])), (AV.int .i64 0), (AV.int .i64 0), (AV.int .i64 0), (AV.int .i64 0), (AV.int .i64 0), (AV.int .i64 0), (AV.bool false)]], none⟩] : Heap))) ∧ cond (decide ((ixI (isKey k) l) < 0)) ((AV.bdd 0 (AV.tup [(AV.agg [(AV.str (ByteArray.mk #[])), (AV.str (ByteArray.mk #[])), (AV.int .i64 0), (AV.int .i64 0), (AV.int .i64 0), (AV.int .i64 0), (AV.int .i64 0), (AV.int .i64 0), (AV.bool false)]), (AV.bool false)]) = true ∧ obsB 0 ([] : Heap) = true) ∧ ((AV.tup [(AV.agg [(AV.str (ByteArray.mk #[])), (AV.str (ByteArray.mk #[])), (AV.int .i64 0), (AV.int .i64 0), (AV.int .i64 0), (AV.int .i64 0), (AV.int .i64 0), (AV.int .i64 0), (AV.bool false)]), (AV.bool false)]), ([] : Heap)) = ((AV.tup [(AV.agg (Card.row (findC l k))), (AV.bool (inC l k))]), ([] : Heap))) ((IdxSl 9 9 (List.map Card.row l) (ixI (isKey k) l) ([⟨0, 9, [[(AV.str (ByteArray.mk #[])), (AV.str (ByteArray.mk #[])), (AV.int .i64 0), (AV.int .i64 0), (AV.int .i64 0), (AV.int .i64 0), (AV.int .i64 0), (AV.int .i64 0), (AV.bool false)]], none⟩] : Heap) (Card.row (nth l (Int.toNat (ixI (isKey k) l))))) ∧ (AV.bdd 0 (AV.tup [(AV.agg (Card.row (nth l (Int.toNat (ixI (isKey k) l))))), (AV.bool true)]) = true ∧ obsB 0 ([] : Heap) = true) ∧ ((AV.tup [(AV.agg (Card.row (nth l (Int.toNat (ixI (isKey k) l))))), (AV.bool true)]), ([] : Heap)) = ((AV.tup [(AV.agg (Card.row (findC l k))), (AV.bool (inC l k))]), ([] : Heap)))) = _) ?_
  refine And.intro (ixC_at (isKey k) 129 [(AV.ref (Key.row k) 0)] l (fun x H => findp_at x k H) (rfl) (by first | omega | assumption | (simp; done) | (simp; omega) | (simp_all; done) | (simp_all; omega)) ([⟨0, 9, [[(AV.str (ByteArray.mk #[])), (AV.str (ByteArray.mk #[])), (AV.int .i64 0), (AV.int .i64 0), (AV.int .i64 0), (AV.int .i64 0), (AV.int .i64 0), (AV.int .i64 0), (AV.bool false)]], none⟩] : Heap)) ?_
  refine cond_split (fun h1 => ?_) (fun h1 => ?_)
  · have h1' := h1
    try simp at h1'
    refine And.intro (by first | (simp [obsB, AV.bddss, AV.bdds, AV.bdd]; done) | (simp [obsB, AV.bddss, AV.bdds, AV.bdd, -List.map_append]; done) | simp [obsB, AV.bddss, AV.bdds, AV.bdd, -List.map_append, -List.map_set, -List.map_take, -List.map_drop, -List.map_cons, -List.map_map]) ?_
    by_cases h0 : ixI (isKey k) l < 0 <;> first | (simp_all [findC, inC, Card.row, Key.row, Stamp.row, zeroC]; done) | (exfalso; omega) | (simp only [findC, inC, if_neg h0, decide_eq_false h0]; rfl)
  · have h1' := h1
    try simp at h1'
    refine And.intro (IdxSl.mk _ (by omega) (by omega)) ?_
    refine And.intro (by first | (simp [obsB, AV.bddss, AV.bdds, AV.bdd]; done) | (simp [obsB, AV.bddss, AV.bdds, AV.bdd, -List.map_append]; done) | simp [obsB, AV.bddss, AV.bdds, AV.bdd, -List.map_append, -List.map_set, -List.map_take, -List.map_drop, -List.map_cons, -List.map_map]) ?_
    by_cases h0 : ixI (isKey k) l < 0 <;> first | (simp_all [findC, inC, Card.row, Key.row, Stamp.row, zeroC]; done) | (exfalso; omega) | (simp only [findC, inC, if_neg h0, decide_eq_false h0]; rfl)
theorem find_at (l : List Card) (k : Key) (hl : l.length < 1099511627776) (H : Heap) : ACalls Try.prog 99 [(AV.sl .any 9 (List.map Card.row l)), (AV.agg (Key.row k))] H ((AV.tup [(AV.agg (Card.row (findC l k))), (AV.bool (inC l k))]), H) := (find_spec l k hl).lift (by kernel_rfl) (by kernel_rfl) H
def isNaNn_ann : Ann := { fin := some 0 }
set_option maxRecDepth 100000 in
theorem isNaNn_spec (n : Int)  : ACalls Try.prog 142 [(AV.int .i64 n)] ([] : Heap) ((AV.bool false), ([] : Heap)) := by
  refine spec (fn := Try.f142) (ann := isNaNn_ann) (t := (.reg [] [] [] (.reg [] [] [] .nil))) (Nat.le_of_ble_eq_true (by kernel_rfl)) ⟨Try.func142, by kernel_rfl, by kernel_rfl, by kernel_rfl⟩ ?_
  refine Eq.mp (by kernel_rfl : ((AV.bdd 0 (AV.bool (n != n)) = true ∧ obsB 0 ([] : Heap) = true) ∧ ((AV.bool (n != n)), ([] : Heap)) = ((AV.bool false), ([] : Heap))) = _) ?_
  refine And.intro (by first | (simp [obsB, AV.bddss, AV.bdds, AV.bdd]; done) | (simp [obsB, AV.bddss, AV.bdds, AV.bdd, -List.map_append]; done) | simp [obsB, AV.bddss, AV.bdds, AV.bdd, -List.map_append, -List.map_set, -List.map_take, -List.map_drop, -List.map_cons, -List.map_map]) ?_
  simp
theorem isNaNn_at (n : Int)  (H : Heap) : ACalls Try.prog 142 [(AV.int .i64 n)] H ((AV.bool false), H) := (isNaNn_spec n ).lift (by kernel_rfl) (by kernel_rfl) H
def compareN_ann : Ann := { fin := some 0 }
set_option maxRecDepth 100000 in
theorem compareN_spec (a b : Int)  : ACalls Try.prog 136 [(AV.int .i64 a), (AV.int .i64 b)] ([] : Heap) ((AV.int .i64 (cmpI a b)), ([] : Heap)) := by
  refine spec (fn := Try.f136) (ann := compareN_ann) (t := (.reg [] [] [] (.reg [(1, ((AV.bool false), ([] : Heap)))] [] [] (.reg [(1, ((AV.bool false), ([] : Heap)))] [] [] (.reg [] [] [] (.two .nil (.reg [] [] [] (.two .nil (.reg [] [] [] (.two (.reg [] [] [] .nil) (.reg [] [] [] (.two (.reg [] [] [] .nil) (.reg [] [] [] .nil))))))))))))) (Nat.le_of_ble_eq_true (by kernel_rfl)) ⟨Try.func136, by kernel_rfl, by kernel_rfl, by kernel_rfl⟩ ?_
  refine Eq.mp (by kernel_rfl : ((ACalls Try.prog 142 [(AV.int .i64 a)] ([] : Heap) ((AV.bool false), ([] : Heap))) ∧ (ACalls Try.prog 142 [(AV.int .i64 b)] ([] : Heap) ((AV.bool false), ([] : Heap))) ∧ cond (decide (a < b)) ((AV.bdd 0 (AV.int .i64 (-1)) = true ∧ obsB 0 ([] : Heap) = true) ∧ ((AV.int .i64 (-1)), ([] : Heap)) = ((AV.int .i64 (cmpI a b)), ([] : Heap))) (cond (decide (a > b)) ((AV.bdd 0 (AV.int .i64 1) = true ∧ obsB 0 ([] : Heap) = true) ∧ ((AV.int .i64 1), ([] : Heap)) = ((AV.int .i64 (cmpI a b)), ([] : Heap))) ((AV.bdd 0 (AV.int .i64 0) = true ∧ obsB 0 ([] : Heap) = true) ∧ ((AV.int .i64 0), ([] : Heap)) = ((AV.int .i64 (cmpI a b)), ([] : Heap))))) = _) ?_
  refine And.intro (isNaNn_at a  ([] : Heap)) ?_
  refine And.intro (isNaNn_at b  ([] : Heap)) ?_
  refine cond_split (fun h1 => ?_) (fun h1 => ?_)
  · have h1' := h1
    try simp at h1'
    refine And.intro (by first | (simp [obsB, AV.bddss, AV.bdds, AV.bdd]; done) | (simp [obsB, AV.bddss, AV.bdds, AV.bdd, -List.map_append]; done) | simp [obsB, AV.bddss, AV.bdds, AV.bdd, -List.map_append, -List.map_set, -List.map_take, -List.map_drop, -List.map_cons, -List.map_map]) ?_
    simp_all [cmpI] <;> omega
  · have h1' := h1
    try simp at h1'
    refine cond_split (fun h2 => ?_) (fun h2 => ?_)
    · have h2' := h2
      try simp at h2'
      refine And.intro (by first | (simp [obsB, AV.bddss, AV.bdds, AV.bdd]; done) | (simp [obsB, AV.bddss, AV.bdds, AV.bdd, -List.map_append]; done) | simp [obsB, AV.bddss, AV.bdds, AV.bdd, -List.map_append, -List.map_set, -List.map_take, -List.map_drop, -List.map_cons, -List.map_map]) ?_
      simp_all [cmpI] <;> omega
    · have h2' := h2
      try simp at h2'
      refine And.intro (by first | (simp [obsB, AV.bddss, AV.bdds, AV.bdd]; done) | (simp [obsB, AV.bddss, AV.bdds, AV.bdd, -List.map_append]; done) | simp [obsB, AV.bddss, AV.bdds, AV.bdd, -List.map_append, -List.map_set, -List.map_take, -List.map_drop, -List.map_cons, -List.map_map]) ?_
      simp_all [cmpI] <;> omega
theorem compareN_at (a b : Int)  (H : Heap) : ACalls Try.prog 136 [(AV.int .i64 a), (AV.int .i64 b)] H ((AV.int .i64 (cmpI a b)), H) := (compareN_spec a b ).lift (by kernel_rfl) (by kernel_rfl) H
def or3_ann : Ann := { fin := some 0 }
set_option maxRecDepth 100000 in
theorem or3_spec (x y z : Int)  : ACalls Try.prog 77 [(AV.sl .any 1 [[(AV.int .i64 x)], [(AV.int .i64 y)], [(AV.int .i64 z)]])] ([] : Heap) ((AV.int .i64 (if x = 0 then if y = 0 then z else y else x)), ([] : Heap)) := by
  refine spec (fn := Try.f77) (ann := or3_ann) (t := (.reg [] [] [] (.reg [] [] [] (.reg [] [] [] (.roll 4 (.reg [] [] [] (.two (.reg [] [] [] (.reg [] [] [] (.two (.reg [] [] [] .nil) (.reg [] [] [] (.reg [] [] [] (.two (.reg [] [] [] (.reg [] [] [] (.two (.reg [] [] [] .nil) (.reg [] [] [] (.reg [] [] [] (.two (.reg [] [] [] (.reg [] [] [] (.two (.reg [] [] [] .nil) (.reg [] [] [] (.reg [] [] [] (.two .nil (.reg [] [] [] .nil))))))) .nil)))))) .nil)))))) .nil))))))) (Nat.le_of_ble_eq_true (by kernel_rfl)) ⟨Try.func77, by kernel_rfl, by kernel_rfl, by kernel_rfl⟩ ?_
  refine Eq.mp (by kernel_rfl : (cond (x != 0) ((AV.bdd 0 (AV.int .i64 x) = true ∧ obsB 0 ([] : Heap) = true) ∧ ((AV.int .i64 x), ([] : Heap)) = ((AV.int .i64 (if x = 0 then if y = 0 then z else y else x)), ([] : Heap))) (cond (y != 0) ((AV.bdd 0 (AV.int .i64 y) = true ∧ obsB 0 ([] : Heap) = true) ∧ ((AV.int .i64 y), ([] : Heap)) = ((AV.int .i64 (if x = 0 then if y = 0 then z else y else x)), ([] : Heap))) (cond (z != 0) ((AV.bdd 0 (AV.int .i64 z) = true ∧ obsB 0 ([] : Heap) = true) ∧ ((AV.int .i64 z), ([] : Heap)) = ((AV.int .i64 (if x = 0 then if y = 0 then z else y else x)), ([] : Heap))) ((AV.bdd 0 (AV.int .i64 0) = true ∧ obsB 0 ([] : Heap) = true) ∧ ((AV.int .i64 0), ([] : Heap)) = ((AV.int .i64 (if x = 0 then if y = 0 then z else y else x)), ([] : Heap)))))) = _) ?_
  refine cond_split (fun h1 => ?_) (fun h1 => ?_)
  · have h1' := h1
    try simp at h1'
    refine And.intro (by first | (simp [obsB, AV.bddss, AV.bdds, AV.bdd]; done) | (simp [obsB, AV.bddss, AV.bdds, AV.bdd, -List.map_append]; done) | simp [obsB, AV.bddss, AV.bdds, AV.bdd, -List.map_append, -List.map_set, -List.map_take, -List.map_drop, -List.map_cons, -List.map_map]) ?_
    simp_all
  · have h1' := h1
    try simp at h1'
    refine cond_split (fun h2 => ?_) (fun h2 => ?_)
    · have h2' := h2
      try simp at h2'
      refine And.intro (by first | (simp [obsB, AV.bddss, AV.bdds, AV.bdd]; done) | (simp [obsB, AV.bddss, AV.bdds, AV.bdd, -List.map_append]; done) | simp [obsB, AV.bddss, AV.bdds, AV.bdd, -List.map_append, -List.map_set, -List.map_take, -List.map_drop, -List.map_cons, -List.map_map]) ?_
      simp_all
    · have h2' := h2
      try simp at h2'
      refine cond_split (fun h3 => ?_) (fun h3 => ?_)
      · have h3' := h3
        try simp at h3'
        refine And.intro (by first | (simp [obsB, AV.bddss, AV.bdds, AV.bdd]; done) | (simp [obsB, AV.bddss, AV.bdds, AV.bdd, -List.map_append]; done) | simp [obsB, AV.bddss, AV.bdds, AV.bdd, -List.map_append, -List.map_set, -List.map_take, -List.map_drop, -List.map_cons, -List.map_map]) ?_
        simp_all
      · have h3' := h3
        try simp at h3'
        refine And.intro (by first | (simp [obsB, AV.bddss, AV.bdds, AV.bdd]; done) | (simp [obsB, AV.bddss, AV.bdds, AV.bdd, -List.map_append]; done) | simp [obsB, AV.bddss, AV.bdds, AV.bdd, -List.map_append, -List.map_set, -List.map_take, -List.map_drop, -List.map_cons, -List.map_map]) ?_
        simp_all
theorem or3_at (x y z : Int)  (H : Heap) : ACalls Try.prog 77 [(AV.sl .any 1 [[(AV.int .i64 x)], [(AV.int .i64 y)], [(AV.int .i64 z)]])] H ((AV.int .i64 (if x = 0 then if y = 0 then z else y else x)), H) := (or3_spec x y z ).lift (by kernel_rfl) (by kernel_rfl) H
def cmpSt (a b : Stamp) : Int := if cmpI a.t b.t = 0 then if cmpI a.n b.n = 0 then cmpI a.node b.node else cmpI a.n b.n else cmpI a.t b.t
def stLess_ann : Ann := { refs := [2, 3], fin := some 0 }
set_option maxRecDepth 100000 in
theorem stLess_spec (a b : Stamp)  : ACalls Try.prog 127 [(AV.agg (Stamp.row a)), (AV.agg (Stamp.row b))] ([] : Heap) ((AV.bool (decide (cmpSt a b < 0))), ([] : Heap)) := by
  refine spec (fn := Try.f127) (ann := stLess_ann) (t := (.reg [] [] [] (.reg [(4, ((AV.int .i64 (cmpI a.t b.t)), ([] : Heap))), (9, ((AV.int .i64 (cmpI a.n b.n)), ([] : Heap))), (14, ((AV.int .i64 (cmpI a.node b.node)), ([] : Heap))), (16, ((AV.int .i64 (if (cmpI a.t b.t) = 0 then if (cmpI a.n b.n) = 0 then (cmpI a.node b.node) else (cmpI a.n b.n) else (cmpI a.t b.t))), ([] : Heap)))] [] [] .nil))) (Nat.le_of_ble_eq_true (by kernel_rfl)) ⟨Try.func127, by kernel_rfl, by kernel_rfl, by kernel_rfl⟩ ?_
  refine Eq.mp (by kernel_rfl : ((ACalls Try.prog 78 [(AV.int .i64 a.t), (AV.int .i64 b.t)] ([] : Heap) ((AV.int .i64 (cmpI a.t b.t)), ([] : Heap))) ∧ (ACalls Try.prog 78 [(AV.int .i64 a.n), (AV.int .i64 b.n)] ([] : Heap) ((AV.int .i64 (cmpI a.n b.n)), ([] : Heap))) ∧ (ACalls Try.prog 136 [(AV.int .i64 a.node), (AV.int .i64 b.node)] ([] : Heap) ((AV.int .i64 (cmpI a.node b.node)), ([] : Heap))) ∧ (ACalls Try.prog 77 [(AV.sl .clip 1 [[(AV.int .i64 (cmpI a.t b.t))], [(AV.int .i64 (cmpI a.n b.n))], [(AV.int .i64 (cmpI a.node b.node))]])] ([] : Heap) ((AV.int .i64 (if (cmpI a.t b.t) = 0 then if (cmpI a.n b.n) = 0 then (cmpI a.node b.node) else (cmpI a.n b.n) else (cmpI a.t b.t))), ([] : Heap))) ∧ (AV.bdd 0 (AV.bool (decide ((if (cmpI a.t b.t) = 0 then if (cmpI a.n b.n) = 0 then (cmpI a.node b.node) else (cmpI a.n b.n) else (cmpI a.t b.t)) < 0))) = true ∧ obsB 0 ([] : Heap) = true) ∧ ((AV.bool (decide ((if (cmpI a.t b.t) = 0 then if (cmpI a.n b.n) = 0 then (cmpI a.node b.node) else (cmpI a.n b.n) else (cmpI a.t b.t)) < 0))), ([] : Heap)) = ((AV.bool (decide (cmpSt a b < 0))), ([] : Heap))) = _) ?_
  refine And.intro (compareI_at a.t b.t  ([] : Heap)) ?_
  refine And.intro (compareI_at a.n b.n  ([] : Heap)) ?_
  refine And.intro (compareN_at a.node b.node  ([] : Heap)) ?_
  refine And.intro ((or3_at (cmpI a.t b.t) (cmpI a.n b.n) (cmpI a.node b.node)  ([] : Heap)).pre ⟨⟨rfl, rfl, .inl rfl⟩, trivial⟩) ?_
  refine And.intro (by first | (simp [obsB, AV.bddss, AV.bdds, AV.bdd]; done) | (simp [obsB, AV.bddss, AV.bdds, AV.bdd, -List.map_append]; done) | simp [obsB, AV.bddss, AV.bdds, AV.bdd, -List.map_append, -List.map_set, -List.map_take, -List.map_drop, -List.map_cons, -List.map_map]) ?_
  rfl
theorem stLess_at (a b : Stamp)  (H : Heap) : ACalls Try.prog 127 [(AV.agg (Stamp.row a)), (AV.agg (Stamp.row b))] H ((AV.bool (decide (cmpSt a b < 0))), H) := (stLess_spec a b ).lift (by kernel_rfl) (by kernel_rfl) H
end Go.Proofs.Ytpkgpldgoajphaa.AM
