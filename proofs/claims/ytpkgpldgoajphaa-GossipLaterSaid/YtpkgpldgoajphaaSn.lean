/-
  looking for cards; gossip.
-/
import Derived.Test.YtpkgpldgoajphaaSm
set_option maxRecDepth 100000
set_option linter.unusedVariables false
set_option linter.unusedSimpArgs false
namespace Go.Proofs.Ytpkgpldgoajphaa.AM
open Go Go.Proofs.Ytpkgpldgoajphaa
attribute [local irreducible] ACalls funT codeT codeQ LoopTo
attribute [local irreducible] Tp.card Tp.cardT Tp.next Tp.step Tp.cards Tp.cardsT Tp.key Tp.keyT sink insSort pickS pickL pickN pickK mostN cmpL lateE orderK sortK insK posK beforeK onceStep onceS onceK sortP lastS lastK cmpK
/-- The place of the first that is liked; -1: none is. -/
def ixOf {α : Type} (p : α → Bool) : List α → Nat → Option Nat
  | [], _ => none
  | x :: xs, i => if p x = true then some i else ixOf p xs (i + 1)
def ixI {α : Type} (p : α → Bool) (l : List α) : Int := match ixOf p l 0 with | some n => (n : Int) | none => -1
theorem ixOf_some {α : Type} [Inhabited α] {p : α → Bool} (l : List α) : ∀ (i n : Nat), ixOf p l i = some n → i ≤ n ∧ n < i + l.length ∧ p (nth l (n - i)) = true ∧ ∀ j, j < n - i → p (nth l j) = false := by
  induction l with
  | nil => intro i n h; simp [ixOf] at h
  | cons x xs ih =>
    intro i n h
    simp only [ixOf] at h
    by_cases hx : p x = true
    · rw [if_pos hx] at h
      obtain rfl : i = n := by simpa using h
      refine ⟨Nat.le_refl _, by simp, by simpa [nth] using hx, fun j hj => by omega⟩
    · rw [if_neg hx] at h
      obtain ⟨h1, h2, h3, h4⟩ := ih (i + 1) n h
      have e1 : n - i = (n - (i + 1)) + 1 := by omega
      refine ⟨by omega, by simp only [List.length_cons]; omega, by rw [e1]; simpa [nth] using h3, fun j hj => ?_⟩
      cases j with
      | zero => simpa [nth] using hx
      | succ j => simpa [nth] using h4 j (by omega)
theorem ixOf_none {α : Type} [Inhabited α] {p : α → Bool} (l : List α) : ∀ (i : Nat), ixOf p l i = none → ∀ j, j < l.length → p (nth l j) = false := by
  induction l with
  | nil => intro i h j hj; simp at hj
  | cons x xs ih =>
    intro i h j hj
    simp only [ixOf] at h
    by_cases hx : p x = true
    · rw [if_pos hx] at h; simp at h
    · rw [if_neg hx] at h
      cases j with
      | zero => simpa [nth] using hx
      | succ j => simpa [nth] using ih (i + 1) h j (by simpa using hj)
def ixC_ann : Ann := { fin := some 0, live := [(2, [0, 1, 7, 8])], out := [(2, [4])] }
set_option maxRecDepth 100000 in
theorem ixC_step (p : Card → Bool) (f : Nat) (xs : List AV) (l : List Card) (i : Nat) (hc : ∀ (x : Card) (H : Heap), ACalls Try.prog f ([AV.agg (Card.row x)] ++ xs) H (AV.bool (p x), H)) (hl : l.length < 1099511627776) (hi : i ≤ l.length) {eX : Ex} {FX : Fr} {HX : Heap} (k1 : (decide (((i : Nat) : Int) < ((l.length : Nat) : Int))) = true → (p (nth l i)) = true → ((.ret : Ex), (mkF 19 [(4, (AV.int .i64 ((i : Nat) : Int)))]), ([] : Heap)) = (eX, FX, HX)) (k2 : (decide (((i : Nat) : Int) < ((l.length : Nat) : Int))) = true → (p (nth l i)) = false → LoopTo (codeQ Try.prog (X ixC_ann) (loopOf Try.f128 0)) (some [0, 1, 7, 8]) (some [4]) (mkF 19 [(0, (AV.sl .any 9 (List.map Card.row l))), (1, (AV.func f xs)), (7, (AV.int .i64 ((l.length : Nat) : Int))), (8, (AV.int .i64 ((i + 1 : Nat) : Int)))]) ([] : Heap) eX FX HX) (k3 : (decide (((i : Nat) : Int) < ((l.length : Nat) : Int))) = false → ((.exit 0 : Ex), (mkF 19 []), ([] : Heap)) = (eX, FX, HX)) : LoopTo (codeQ Try.prog (X ixC_ann) (loopOf Try.f128 0)) (some [0, 1, 7, 8]) (some [4]) (mkF 19 [(0, (AV.sl .any 9 (List.map Card.row l))), (1, (AV.func f xs)), (7, (AV.int .i64 ((l.length : Nat) : Int))), (8, (AV.int .i64 ((i : Nat) : Int)))]) ([] : Heap) eX FX HX := by
  refine LoopTo.step (.reg [] [] [] (.two (.reg [] [] [] (.reg [(3, ((AV.ref (Card.row (nth l i)) 0), ([] : Heap))), (5, ((AV.bool (p (nth l i))), ([] : Heap)))] [] [] (.two (.reg [] [] [] .nil) (.reg [(0, ((AV.int .i64 ((i + 1 : Nat) : Int)), ([] : Heap)))] [] [] .nil)))) .nil)) ?_
  refine Eq.mp (by kernel_rfl : (cond (decide (((i : Nat) : Int) < ((l.length : Nat) : Int))) ((IdxSl 9 9 (List.map Card.row l) ((i : Nat) : Int) ([] : Heap) (Card.row (nth l i))) ∧ (ACalls Try.prog f ([(AV.agg (Card.row (nth l i)))] ++ xs) ([] : Heap) ((AV.bool (p (nth l i))), ([] : Heap))) ∧ cond (p (nth l i)) (((.ret : Ex), (mkF 19 [(4, (AV.int .i64 ((i : Nat) : Int)))]), ([] : Heap)) = (eX, FX, HX)) ((Yes (.int .i64 (IntKind.i64.wrap (((i : Nat) : Int) + 1))) ([] : Heap) (AV.int .i64 ((i + 1 : Nat) : Int))) ∧ LoopTo (codeQ Try.prog (X ixC_ann) (loopOf Try.f128 0)) (some [0, 1, 7, 8]) (some [4]) (mkF 19 [(0, (AV.sl .any 9 (List.map Card.row l))), (1, (AV.func f xs)), (7, (AV.int .i64 ((l.length : Nat) : Int))), (8, (AV.int .i64 ((i + 1 : Nat) : Int)))]) ([] : Heap) eX FX HX)) (((.exit 0 : Ex), (mkF 19 []), ([] : Heap)) = (eX, FX, HX))) = _) ?_
  refine cond_split (fun h1 => ?_) (fun h1 => ?_)
  · have h1' := h1
    try simp at h1'
    refine And.intro (IdxSl.mk _ (by omega) (by omega)) ?_
    refine And.intro (hc (nth l i) _) ?_
    refine cond_split (fun h2 => ?_) (fun h2 => ?_)
    · have h2' := h2
      try simp at h2'
      exact k1 h1 h2
    · have h2' := h2
      try simp at h2'
      refine And.intro (Yes.add (by omega) (by omega) (by omega)) ?_
      exact k2 h1 h2
  · have h1' := h1
    try simp at h1'
    exact k3 h1
theorem ixC_some (p : Card → Bool) (f : Nat) (xs : List AV) (l : List Card) (hc : ∀ (x : Card) (H : Heap), ACalls Try.prog f ([AV.agg (Card.row x)] ++ xs) H (AV.bool (p x), H)) (hl : l.length < 1099511627776) (n : Nat) (hn : n < l.length) (hp : p (nth l n) = true) (r : Nat) : ∀ (i : Nat), i + r = n → (∀ j, i ≤ j → j < n → p (nth l j) = false) →
    LoopTo (codeQ Try.prog (X ixC_ann) (loopOf Try.f128 0)) (some [0, 1, 7, 8]) (some [4]) (mkF 19 [(0, (AV.sl .any 9 (List.map Card.row l))), (1, (AV.func f xs)), (7, (AV.int .i64 ((l.length : Nat) : Int))), (8, (AV.int .i64 ((i : Nat) : Int)))]) ([] : Heap) (.ret) (mkF 19 [(4, (AV.int .i64 ((n : Nat) : Int)))]) ([] : Heap) := by
  induction r with
  | zero =>
    intro i hi h
    obtain rfl : i = n := by omega
    refine ixC_step p f xs l i hc hl (by omega) (fun _ _ => rfl) (fun _ h2 => ?_) (fun h1 => ?_)
    · rw [hp] at h2; simp at h2
    · simp at h1; omega
  | succ r ih =>
    intro i hi h
    refine ixC_step p f xs l i hc hl (by omega) (fun _ h2 => ?_) (fun _ h2 => ?_) (fun h1 => ?_)
    · rw [h i (Nat.le_refl _) (by omega)] at h2; simp at h2
    · exact ih (i + 1) (by omega) (fun j h3 h4 => h j (by omega) h4)
    · simp at h1; omega
theorem ixC_none (p : Card → Bool) (f : Nat) (xs : List AV) (l : List Card) (hc : ∀ (x : Card) (H : Heap), ACalls Try.prog f ([AV.agg (Card.row x)] ++ xs) H (AV.bool (p x), H)) (hl : l.length < 1099511627776) (r : Nat) : ∀ (i : Nat), i + r = l.length → (∀ j, i ≤ j → j < l.length → p (nth l j) = false) →
    LoopTo (codeQ Try.prog (X ixC_ann) (loopOf Try.f128 0)) (some [0, 1, 7, 8]) (some [4]) (mkF 19 [(0, (AV.sl .any 9 (List.map Card.row l))), (1, (AV.func f xs)), (7, (AV.int .i64 ((l.length : Nat) : Int))), (8, (AV.int .i64 ((i : Nat) : Int)))]) ([] : Heap) (.exit 0) (mkF 19 []) ([] : Heap) := by
  induction r with
  | zero =>
    intro i hi h
    refine ixC_step p f xs l i hc hl (by omega) (fun h1 _ => ?_) (fun h1 h2 => ?_) (fun h1 => rfl)
    · simp at h1; omega
    · simp at h1; omega
  | succ r ih =>
    intro i hi h
    refine ixC_step p f xs l i hc hl (by omega) (fun _ h2 => ?_) (fun _ h2 => ?_) (fun h1 => ?_)
    · rw [h i (Nat.le_refl _) (by omega)] at h2; simp at h2
    · exact ih (i + 1) (by omega) (fun j h3 h4 => h j (by omega) h4)
    · simp at h1; omega
set_option maxRecDepth 100000 in
theorem ixCS_spec (p : Card → Bool) (f : Nat) (xs : List AV) (l : List Card) (n : Nat) (hc : ∀ (x : Card) (H : Heap), ACalls Try.prog f ([AV.agg (Card.row x)] ++ xs) H (AV.bool (p x), H)) (hxs : AV.bdds 0 xs = true) (hl : l.length < 1099511627776) (hn : n < l.length) (hp : p (nth l n) = true) (h : ∀ j, 0 ≤ j → j < n → p (nth l j) = false) : ACalls Try.prog 128 [(AV.sl .any 9 (List.map Card.row l)), (AV.func f xs)] ([] : Heap) ((AV.int .i64 ((n : Nat) : Int)), ([] : Heap)) := by
  refine spec (fn := Try.f128) (ann := ixC_ann) (t := (.reg [] [] [] (.reg [(1, ((AV.int .i64 ((l.length : Nat) : Int)), ([] : Heap)))] [] [] (.loop (.ret) (mkF 19 [(4, (AV.int .i64 ((n : Nat) : Int)))]) ([] : Heap) .nil)))) (Nat.le_of_ble_eq_true (by kernel_rfl)) ⟨Try.func128, by kernel_rfl, by kernel_rfl, by kernel_rfl⟩ ?_
  refine Eq.mp (by kernel_rfl : ((Yes (.int .i64 ((List.length (List.map Card.row l) : Nat) : Int)) ([] : Heap) (AV.int .i64 ((l.length : Nat) : Int))) ∧ (LoopTo (codeQ Try.prog (X ixC_ann) (loopOf Try.f128 0)) (some [0, 1, 7, 8]) (some [4]) (mkF 19 [(0, (AV.sl .any 9 (List.map Card.row l))), (1, (AV.func f xs)), (7, (AV.int .i64 ((l.length : Nat) : Int))), (8, (AV.int .i64 0))]) ([] : Heap) (.ret) (mkF 19 [(4, (AV.int .i64 ((n : Nat) : Int)))]) ([] : Heap)) ∧ (AV.bdd 0 (AV.int .i64 ((n : Nat) : Int)) = true ∧ obsB 0 ([] : Heap) = true) ∧ ((AV.int .i64 ((n : Nat) : Int)), ([] : Heap)) = ((AV.int .i64 ((n : Nat) : Int)), ([] : Heap))) = _) ?_
  refine And.intro (Yes.len _ _ _) ?_
  refine And.intro ((ixC_some p f xs l hc hl n hn hp n 0 (by omega) h)) ?_
  refine And.intro (by first | (simp only [obsB, Key.rows_bdd, Key.row_bdd, Stamp.rows_bdd, Stamp.row_bdd, Card.rows_bdd, Card.row_bdd, Entry.rows_bdd, Entry.row_bdd, Tp.rows_bdd, Tp.row_bdd, rI64_bdd, rStr_bdd, rBool_bdd, rU8_bdd, Bool.and_self, Bool.and_true, AV.bdds, AV.bddss, AV.bdd, decide_true, and_self]; done) | simp [obsB, AV.bddss, AV.bdds, AV.bdd, Key.rows_bdd, Key.row_bdd, Stamp.rows_bdd, Stamp.row_bdd, Card.rows_bdd, Card.row_bdd, Entry.rows_bdd, Entry.row_bdd, Tp.rows_bdd, Tp.row_bdd, rI64_bdd, rStr_bdd, rBool_bdd, rU8_bdd]) ?_
  rfl
set_option maxRecDepth 100000 in
theorem ixCN_spec (p : Card → Bool) (f : Nat) (xs : List AV) (l : List Card) (hc : ∀ (x : Card) (H : Heap), ACalls Try.prog f ([AV.agg (Card.row x)] ++ xs) H (AV.bool (p x), H)) (hxs : AV.bdds 0 xs = true) (hl : l.length < 1099511627776) (h : ∀ j, 0 ≤ j → j < l.length → p (nth l j) = false) : ACalls Try.prog 128 [(AV.sl .any 9 (List.map Card.row l)), (AV.func f xs)] ([] : Heap) ((AV.int .i64 (-1)), ([] : Heap)) := by
  refine spec (fn := Try.f128) (ann := ixC_ann) (t := (.reg [] [] [] (.reg [(1, ((AV.int .i64 ((l.length : Nat) : Int)), ([] : Heap)))] [] [] (.loop (.exit 0) (mkF 19 []) ([] : Heap) (.reg [] [] [] .nil))))) (Nat.le_of_ble_eq_true (by kernel_rfl)) ⟨Try.func128, by kernel_rfl, by kernel_rfl, by kernel_rfl⟩ ?_
  refine Eq.mp (by kernel_rfl : ((Yes (.int .i64 ((List.length (List.map Card.row l) : Nat) : Int)) ([] : Heap) (AV.int .i64 ((l.length : Nat) : Int))) ∧ (LoopTo (codeQ Try.prog (X ixC_ann) (loopOf Try.f128 0)) (some [0, 1, 7, 8]) (some [4]) (mkF 19 [(0, (AV.sl .any 9 (List.map Card.row l))), (1, (AV.func f xs)), (7, (AV.int .i64 ((l.length : Nat) : Int))), (8, (AV.int .i64 0))]) ([] : Heap) (.exit 0) (mkF 19 []) ([] : Heap)) ∧ (AV.bdd 0 (AV.int .i64 (-1)) = true ∧ obsB 0 ([] : Heap) = true) ∧ ((AV.int .i64 (-1)), ([] : Heap)) = ((AV.int .i64 (-1)), ([] : Heap))) = _) ?_
  refine And.intro (Yes.len _ _ _) ?_
  refine And.intro ((ixC_none p f xs l hc hl l.length 0 (by omega) h)) ?_
  refine And.intro (by first | (simp only [obsB, Key.rows_bdd, Key.row_bdd, Stamp.rows_bdd, Stamp.row_bdd, Card.rows_bdd, Card.row_bdd, Entry.rows_bdd, Entry.row_bdd, Tp.rows_bdd, Tp.row_bdd, rI64_bdd, rStr_bdd, rBool_bdd, rU8_bdd, Bool.and_self, Bool.and_true, AV.bdds, AV.bddss, AV.bdd, decide_true, and_self]; done) | simp [obsB, AV.bddss, AV.bdds, AV.bdd, Key.rows_bdd, Key.row_bdd, Stamp.rows_bdd, Stamp.row_bdd, Card.rows_bdd, Card.row_bdd, Entry.rows_bdd, Entry.row_bdd, Tp.rows_bdd, Tp.row_bdd, rI64_bdd, rStr_bdd, rBool_bdd, rU8_bdd]) ?_
  rfl
theorem ixC_spec (p : Card → Bool) (f : Nat) (xs : List AV) (l : List Card) (hc : ∀ (x : Card) (H : Heap), ACalls Try.prog f ([AV.agg (Card.row x)] ++ xs) H (AV.bool (p x), H)) (hxs : AV.bdds 0 xs = true) (hl : l.length < 1099511627776) : ACalls Try.prog 128 [(AV.sl .any 9 (List.map Card.row l)), (AV.func f xs)] ([] : Heap) ((AV.int .i64 (ixI p l)), ([] : Heap)) := by
  unfold ixI
  cases h : ixOf p l 0 with
  | none => exact ixCN_spec p f xs l hc hxs hl (fun j _ hj => ixOf_none l 0 h j hj)
  | some n =>
    obtain ⟨_, h2, h3, h4⟩ := ixOf_some l 0 n h
    exact ixCS_spec p f xs l n hc hxs hl (by omega) h3 (fun j _ hj => h4 j hj)
theorem ixC_at (p : Card → Bool) (f : Nat) (xs : List AV) (l : List Card) (hc : ∀ (x : Card) (H : Heap), ACalls Try.prog f ([AV.agg (Card.row x)] ++ xs) H (AV.bool (p x), H)) (hxs : AV.bdds 0 xs = true) (hl : l.length < 1099511627776) (H : Heap) : ACalls Try.prog 128 [(AV.sl .any 9 (List.map Card.row l)), (AV.func f xs)] H ((AV.int .i64 (ixI p l)), H) := (ixC_spec p f xs l hc hxs hl).lift (by simp [AV.bdds, AV.bdd, *]) (by kernel_rfl) H
def zeroC : Card := ⟨⟨⟨#[]⟩, ⟨#[]⟩⟩, 0, 0, 0, ⟨0, 0, 0⟩, false⟩
def isKey (k : Key) (x : Card) : Bool := Key.eqb x.key k
def findC (l : List Card) (k : Key) : Card := if ixI (isKey k) l < 0 then zeroC else nth l (ixI (isKey k) l).toNat
def inC (l : List Card) (k : Key) : Bool := !decide (ixI (isKey k) l < 0)
theorem ixI_lt {α : Type} [Inhabited α] (p : α → Bool) (l : List α) : ixI p l < l.length := by
  unfold ixI
  cases h : ixOf p l 0 with
  | none => simp <;> omega
  | some n => have := ixOf_some l 0 n h; simp; omega
theorem ixI_ge {α : Type} (p : α → Bool) (l : List α) : -1 ≤ ixI p l := by
  unfold ixI
  cases h : ixOf p l 0 with
  | none => simp
  | some n => simp <;> omega
def findp_ann : Ann := { refs := [2], fin := some 0 }
set_option maxRecDepth 100000 in
theorem findp_spec (x : Card) (k : Key)  : ACalls Try.prog 129 [(AV.agg (Card.row x)), (AV.ref (Key.row k) 0)] ([] : Heap) ((AV.bool (isKey k x)), ([] : Heap)) := by
  refine spec (fn := Try.f129) (ann := findp_ann) (t := (.reg [] [] [] (.reg [] [] [] .nil))) (Nat.le_of_ble_eq_true (by kernel_rfl)) ⟨Try.func129, by kernel_rfl, by kernel_rfl, by kernel_rfl⟩ ?_
  refine Eq.mp (by kernel_rfl : ((AV.bdd 0 (AV.bool (Key.eqb x.key k)) = true ∧ obsB 0 ([] : Heap) = true) ∧ ((AV.bool (Key.eqb x.key k)), ([] : Heap)) = ((AV.bool (isKey k x)), ([] : Heap))) = _) ?_
  refine And.intro (by first | (simp only [obsB, Key.rows_bdd, Key.row_bdd, Stamp.rows_bdd, Stamp.row_bdd, Card.rows_bdd, Card.row_bdd, Entry.rows_bdd, Entry.row_bdd, Tp.rows_bdd, Tp.row_bdd, rI64_bdd, rStr_bdd, rBool_bdd, rU8_bdd, Bool.and_self, Bool.and_true, AV.bdds, AV.bddss, AV.bdd, decide_true, and_self]; done) | simp [obsB, AV.bddss, AV.bdds, AV.bdd, Key.rows_bdd, Key.row_bdd, Stamp.rows_bdd, Stamp.row_bdd, Card.rows_bdd, Card.row_bdd, Entry.rows_bdd, Entry.row_bdd, Tp.rows_bdd, Tp.row_bdd, rI64_bdd, rStr_bdd, rBool_bdd, rU8_bdd]) ?_
  rfl
theorem findp_at (x : Card) (k : Key)  (H : Heap) : ACalls Try.prog 129 [(AV.agg (Card.row x)), (AV.ref (Key.row k) 0)] H ((AV.bool (isKey k x)), H) := (findp_spec x k ).lift (by kernel_rfl) (by kernel_rfl) H
def find_ann : Ann := { refs := [3], fin := some 0 }
set_option maxRecDepth 100000 in
theorem find_spec (l : List Card) (k : Key) (hl : l.length < 1099511627776) : ACalls Try.prog 99 [(AV.sl .any 9 (List.map Card.row l)), (AV.agg (Key.row k))] ([] : Heap) ((AV.tup [(AV.agg (Card.row (findC l k))), (AV.bool (inC l k))]), ([] : Heap)) := by
  have h1 := ixI_lt (isKey k) l
  have h2 := ixI_ge (isKey k) l
  refine spec (fn := Try.f99) (ann := find_ann) (t := (.reg [] [] [] (.reg [(2, ((AV.int .i64 (ixI (isKey k) l)), ([⟨0, 9, [[(AV.str (ByteArray.mk #[])), (AV.str (ByteArray.mk #[])), (AV.int .i64 0), (AV.int .i64 0), (AV.int .i64 0), (AV.int .i64 0), (AV.int .i64 0), (AV.int .i64 0), (AV.bool false)]], none⟩] : Heap)))] [] [] (.reg [] [] [] (.two (.reg [] [] [] .nil) (.reg [(2, ((AV.ref (Card.row (nth l (Int.toNat (ixI (isKey k) l)))) 0), ([⟨0, 9, [[(AV.str (ByteArray.mk #[])), (AV.str (ByteArray.mk #[])), (AV.int .i64 0), (AV.int .i64 0), (AV.int .i64 0), (AV.int .i64 0), (AV.int .i64 0), (AV.int .i64 0), (AV.bool false)]], none⟩] : Heap)))] [] [] .nil)))))) (Nat.le_of_ble_eq_true (by kernel_rfl)) ⟨Try.func99, by kernel_rfl, by kernel_rfl, by kernel_rfl⟩ ?_
  refine Eq.mp (by kernel_rfl : ((ACalls Try.prog 128 [(AV.sl .any 9 (List.map Card.row l)), (AV.func 129 [(AV.ref (Key.row k) 0)])] ([⟨0, 9, [[(AV.str (ByteArray.mk #[])), (AV.str (ByteArray.mk #[])), (AV.int .i64 0), (AV.int .i64 0), (AV.int .i64 0), (AV.int .i64 0), (AV.int .i64 0), (AV.int .i64 0), (AV.bool false)]], none⟩] : Heap) ((AV.int .i64 (ixI (isKey k) l)), ([⟨0, 9, [[(AV.str (ByteArray.mk #[])), (AV.str (ByteArray.mk #[])), (AV.int .i64 0), (AV.int .i64 0), (AV.int .i64 0), (AV.int .i64 0), (AV.int .i64 0), (AV.int .i64 0), (AV.bool false)]], none⟩] : Heap))) ∧ cond (decide ((ixI (isKey k) l) < 0)) ((AV.bdd 0 (AV.tup [(AV.agg [(AV.str (ByteArray.mk #[])), (AV.str (ByteArray.mk #[])), (AV.int .i64 0), (AV.int .i64 0), (AV.int .i64 0), (AV.int .i64 0), (AV.int .i64 0), (AV.int .i64 0), (AV.bool false)]), (AV.bool false)]) = true ∧ obsB 0 ([] : Heap) = true) ∧ ((AV.tup [(AV.agg [(AV.str (ByteArray.mk #[])), (AV.str (ByteArray.mk #[])), (AV.int .i64 0), (AV.int .i64 0), (AV.int .i64 0), (AV.int .i64 0), (AV.int .i64 0), (AV.int .i64 0), (AV.bool false)]), (AV.bool false)]), ([] : Heap)) = ((AV.tup [(AV.agg (Card.row (findC l k))), (AV.bool (inC l k))]), ([] : Heap))) ((IdxSl 9 9 (List.map Card.row l) (ixI (isKey k) l) ([⟨0, 9, [[(AV.str (ByteArray.mk #[])), (AV.str (ByteArray.mk #[])), (AV.int .i64 0), (AV.int .i64 0), (AV.int .i64 0), (AV.int .i64 0), (AV.int .i64 0), (AV.int .i64 0), (AV.bool false)]], none⟩] : Heap) (Card.row (nth l (Int.toNat (ixI (isKey k) l))))) ∧ (AV.bdd 0 (AV.tup [(AV.agg (Card.row (nth l (Int.toNat (ixI (isKey k) l))))), (AV.bool true)]) = true ∧ obsB 0 ([] : Heap) = true) ∧ ((AV.tup [(AV.agg (Card.row (nth l (Int.toNat (ixI (isKey k) l))))), (AV.bool true)]), ([] : Heap)) = ((AV.tup [(AV.agg (Card.row (findC l k))), (AV.bool (inC l k))]), ([] : Heap)))) = _) ?_
  refine And.intro (ixC_at (isKey k) 129 [(AV.ref (Key.row k) 0)] l (fun x H => findp_at x k H) (rfl) (by first | omega | assumption | (simp; done) | (simp; omega) | (simp_all; done) | (simp_all; omega)) ([⟨0, 9, [[(AV.str (ByteArray.mk #[])), (AV.str (ByteArray.mk #[])), (AV.int .i64 0), (AV.int .i64 0), (AV.int .i64 0), (AV.int .i64 0), (AV.int .i64 0), (AV.int .i64 0), (AV.bool false)]], none⟩] : Heap)) ?_
  refine cond_split (fun h1 => ?_) (fun h1 => ?_)
  · have h1' := h1
    try simp at h1'
    refine And.intro (by first | (simp only [obsB, Key.rows_bdd, Key.row_bdd, Stamp.rows_bdd, Stamp.row_bdd, Card.rows_bdd, Card.row_bdd, Entry.rows_bdd, Entry.row_bdd, Tp.rows_bdd, Tp.row_bdd, rI64_bdd, rStr_bdd, rBool_bdd, rU8_bdd, Bool.and_self, Bool.and_true, AV.bdds, AV.bddss, AV.bdd, decide_true, and_self]; done) | simp [obsB, AV.bddss, AV.bdds, AV.bdd, Key.rows_bdd, Key.row_bdd, Stamp.rows_bdd, Stamp.row_bdd, Card.rows_bdd, Card.row_bdd, Entry.rows_bdd, Entry.row_bdd, Tp.rows_bdd, Tp.row_bdd, rI64_bdd, rStr_bdd, rBool_bdd, rU8_bdd]) ?_
    by_cases h0 : ixI (isKey k) l < 0 <;> first | (simp_all [findC, inC, Card.row, Key.row, Stamp.row, zeroC]; done) | (exfalso; omega) | (simp only [findC, inC, if_neg h0, decide_eq_false h0]; rfl)
  · have h1' := h1
    try simp at h1'
    refine And.intro (IdxSl.mk _ (by omega) (by omega)) ?_
    refine And.intro (by first | (simp only [obsB, Key.rows_bdd, Key.row_bdd, Stamp.rows_bdd, Stamp.row_bdd, Card.rows_bdd, Card.row_bdd, Entry.rows_bdd, Entry.row_bdd, Tp.rows_bdd, Tp.row_bdd, rI64_bdd, rStr_bdd, rBool_bdd, rU8_bdd, Bool.and_self, Bool.and_true, AV.bdds, AV.bddss, AV.bdd, decide_true, and_self]; done) | simp [obsB, AV.bddss, AV.bdds, AV.bdd, Key.rows_bdd, Key.row_bdd, Stamp.rows_bdd, Stamp.row_bdd, Card.rows_bdd, Card.row_bdd, Entry.rows_bdd, Entry.row_bdd, Tp.rows_bdd, Tp.row_bdd, rI64_bdd, rStr_bdd, rBool_bdd, rU8_bdd]) ?_
    by_cases h0 : ixI (isKey k) l < 0 <;> first | (simp_all [findC, inC, Card.row, Key.row, Stamp.row, zeroC]; done) | (exfalso; omega) | (simp only [findC, inC, if_neg h0, decide_eq_false h0]; rfl)
theorem find_at (l : List Card) (k : Key) (hl : l.length < 1099511627776) (H : Heap) : ACalls Try.prog 99 [(AV.sl .any 9 (List.map Card.row l)), (AV.agg (Key.row k))] H ((AV.tup [(AV.agg (Card.row (findC l k))), (AV.bool (inC l k))]), H) := (find_spec l k hl).lift (by kernel_rfl) (by kernel_rfl) H
def isNaNn_ann : Ann := { fin := some 0 }
set_option maxRecDepth 100000 in
theorem isNaNn_spec (n : Int)  : ACalls Try.prog 142 [(AV.int .i64 n)] ([] : Heap) ((AV.bool false), ([] : Heap)) := by
  refine spec (fn := Try.f142) (ann := isNaNn_ann) (t := (.reg [] [] [] (.reg [] [] [] .nil))) (Nat.le_of_ble_eq_true (by kernel_rfl)) ⟨Try.func142, by kernel_rfl, by kernel_rfl, by kernel_rfl⟩ ?_
  refine Eq.mp (by kernel_rfl : ((AV.bdd 0 (AV.bool (n != n)) = true ∧ obsB 0 ([] : Heap) = true) ∧ ((AV.bool (n != n)), ([] : Heap)) = ((AV.bool false), ([] : Heap))) = _) ?_
  refine And.intro (by first | (simp only [obsB, Key.rows_bdd, Key.row_bdd, Stamp.rows_bdd, Stamp.row_bdd, Card.rows_bdd, Card.row_bdd, Entry.rows_bdd, Entry.row_bdd, Tp.rows_bdd, Tp.row_bdd, rI64_bdd, rStr_bdd, rBool_bdd, rU8_bdd, Bool.and_self, Bool.and_true, AV.bdds, AV.bddss, AV.bdd, decide_true, and_self]; done) | simp [obsB, AV.bddss, AV.bdds, AV.bdd, Key.rows_bdd, Key.row_bdd, Stamp.rows_bdd, Stamp.row_bdd, Card.rows_bdd, Card.row_bdd, Entry.rows_bdd, Entry.row_bdd, Tp.rows_bdd, Tp.row_bdd, rI64_bdd, rStr_bdd, rBool_bdd, rU8_bdd]) ?_
  simp
theorem isNaNn_at (n : Int)  (H : Heap) : ACalls Try.prog 142 [(AV.int .i64 n)] H ((AV.bool false), H) := (isNaNn_spec n ).lift (by kernel_rfl) (by kernel_rfl) H
def compareN_ann : Ann := { fin := some 0 }
set_option maxRecDepth 100000 in
theorem compareN_spec (a b : Int)  : ACalls Try.prog 136 [(AV.int .i64 a), (AV.int .i64 b)] ([] : Heap) ((AV.int .i64 (cmpI a b)), ([] : Heap)) := by
  refine spec (fn := Try.f136) (ann := compareN_ann) (t := (.reg [] [] [] (.reg [(1, ((AV.bool false), ([] : Heap)))] [] [] (.reg [(1, ((AV.bool false), ([] : Heap)))] [] [] (.reg [] [] [] (.two .nil (.reg [] [] [] (.two .nil (.reg [] [] [] (.two (.reg [] [] [] .nil) (.reg [] [] [] (.two (.reg [] [] [] .nil) (.reg [] [] [] .nil))))))))))))) (Nat.le_of_ble_eq_true (by kernel_rfl)) ⟨Try.func136, by kernel_rfl, by kernel_rfl, by kernel_rfl⟩ ?_
  refine Eq.mp (by kernel_rfl : ((ACalls Try.prog 142 [(AV.int .i64 a)] ([] : Heap) ((AV.bool false), ([] : Heap))) ∧ (ACalls Try.prog 142 [(AV.int .i64 b)] ([] : Heap) ((AV.bool false), ([] : Heap))) ∧ cond (decide (a < b)) ((AV.bdd 0 (AV.int .i64 (-1)) = true ∧ obsB 0 ([] : Heap) = true) ∧ ((AV.int .i64 (-1)), ([] : Heap)) = ((AV.int .i64 (cmpI a b)), ([] : Heap))) (cond (decide (a > b)) ((AV.bdd 0 (AV.int .i64 1) = true ∧ obsB 0 ([] : Heap) = true) ∧ ((AV.int .i64 1), ([] : Heap)) = ((AV.int .i64 (cmpI a b)), ([] : Heap))) ((AV.bdd 0 (AV.int .i64 0) = true ∧ obsB 0 ([] : Heap) = true) ∧ ((AV.int .i64 0), ([] : Heap)) = ((AV.int .i64 (cmpI a b)), ([] : Heap))))) = _) ?_
  refine And.intro (isNaNn_at a  ([] : Heap)) ?_
  refine And.intro (isNaNn_at b  ([] : Heap)) ?_
  refine cond_split (fun h1 => ?_) (fun h1 => ?_)
  · have h1' := h1
    try simp at h1'
    refine And.intro (by first | (simp only [obsB, Key.rows_bdd, Key.row_bdd, Stamp.rows_bdd, Stamp.row_bdd, Card.rows_bdd, Card.row_bdd, Entry.rows_bdd, Entry.row_bdd, Tp.rows_bdd, Tp.row_bdd, rI64_bdd, rStr_bdd, rBool_bdd, rU8_bdd, Bool.and_self, Bool.and_true, AV.bdds, AV.bddss, AV.bdd, decide_true, and_self]; done) | simp [obsB, AV.bddss, AV.bdds, AV.bdd, Key.rows_bdd, Key.row_bdd, Stamp.rows_bdd, Stamp.row_bdd, Card.rows_bdd, Card.row_bdd, Entry.rows_bdd, Entry.row_bdd, Tp.rows_bdd, Tp.row_bdd, rI64_bdd, rStr_bdd, rBool_bdd, rU8_bdd]) ?_
    simp_all [cmpI] <;> omega
  · have h1' := h1
    try simp at h1'
    refine cond_split (fun h2 => ?_) (fun h2 => ?_)
    · have h2' := h2
      try simp at h2'
      refine And.intro (by first | (simp only [obsB, Key.rows_bdd, Key.row_bdd, Stamp.rows_bdd, Stamp.row_bdd, Card.rows_bdd, Card.row_bdd, Entry.rows_bdd, Entry.row_bdd, Tp.rows_bdd, Tp.row_bdd, rI64_bdd, rStr_bdd, rBool_bdd, rU8_bdd, Bool.and_self, Bool.and_true, AV.bdds, AV.bddss, AV.bdd, decide_true, and_self]; done) | simp [obsB, AV.bddss, AV.bdds, AV.bdd, Key.rows_bdd, Key.row_bdd, Stamp.rows_bdd, Stamp.row_bdd, Card.rows_bdd, Card.row_bdd, Entry.rows_bdd, Entry.row_bdd, Tp.rows_bdd, Tp.row_bdd, rI64_bdd, rStr_bdd, rBool_bdd, rU8_bdd]) ?_
      simp_all [cmpI] <;> omega
    · have h2' := h2
      try simp at h2'
      refine And.intro (by first | (simp only [obsB, Key.rows_bdd, Key.row_bdd, Stamp.rows_bdd, Stamp.row_bdd, Card.rows_bdd, Card.row_bdd, Entry.rows_bdd, Entry.row_bdd, Tp.rows_bdd, Tp.row_bdd, rI64_bdd, rStr_bdd, rBool_bdd, rU8_bdd, Bool.and_self, Bool.and_true, AV.bdds, AV.bddss, AV.bdd, decide_true, and_self]; done) | simp [obsB, AV.bddss, AV.bdds, AV.bdd, Key.rows_bdd, Key.row_bdd, Stamp.rows_bdd, Stamp.row_bdd, Card.rows_bdd, Card.row_bdd, Entry.rows_bdd, Entry.row_bdd, Tp.rows_bdd, Tp.row_bdd, rI64_bdd, rStr_bdd, rBool_bdd, rU8_bdd]) ?_
      simp_all [cmpI] <;> omega
theorem compareN_at (a b : Int)  (H : Heap) : ACalls Try.prog 136 [(AV.int .i64 a), (AV.int .i64 b)] H ((AV.int .i64 (cmpI a b)), H) := (compareN_spec a b ).lift (by kernel_rfl) (by kernel_rfl) H
def or3_ann : Ann := { fin := some 0 }
set_option maxRecDepth 100000 in
theorem or3_spec (x y z : Int)  : ACalls Try.prog 77 [(AV.sl .any 1 [[(AV.int .i64 x)], [(AV.int .i64 y)], [(AV.int .i64 z)]])] ([] : Heap) ((AV.int .i64 (if x = 0 then if y = 0 then z else y else x)), ([] : Heap)) := by
  refine spec (fn := Try.f77) (ann := or3_ann) (t := (.reg [] [] [] (.reg [] [] [] (.reg [] [] [] (.roll 4 (.reg [] [] [] (.two (.reg [] [] [] (.reg [] [] [] (.two (.reg [] [] [] .nil) (.reg [] [] [] (.reg [] [] [] (.two (.reg [] [] [] (.reg [] [] [] (.two (.reg [] [] [] .nil) (.reg [] [] [] (.reg [] [] [] (.two (.reg [] [] [] (.reg [] [] [] (.two (.reg [] [] [] .nil) (.reg [] [] [] (.reg [] [] [] (.two .nil (.reg [] [] [] .nil))))))) .nil)))))) .nil)))))) .nil))))))) (Nat.le_of_ble_eq_true (by kernel_rfl)) ⟨Try.func77, by kernel_rfl, by kernel_rfl, by kernel_rfl⟩ ?_
  refine Eq.mp (by kernel_rfl : (cond (x != 0) ((AV.bdd 0 (AV.int .i64 x) = true ∧ obsB 0 ([] : Heap) = true) ∧ ((AV.int .i64 x), ([] : Heap)) = ((AV.int .i64 (if x = 0 then if y = 0 then z else y else x)), ([] : Heap))) (cond (y != 0) ((AV.bdd 0 (AV.int .i64 y) = true ∧ obsB 0 ([] : Heap) = true) ∧ ((AV.int .i64 y), ([] : Heap)) = ((AV.int .i64 (if x = 0 then if y = 0 then z else y else x)), ([] : Heap))) (cond (z != 0) ((AV.bdd 0 (AV.int .i64 z) = true ∧ obsB 0 ([] : Heap) = true) ∧ ((AV.int .i64 z), ([] : Heap)) = ((AV.int .i64 (if x = 0 then if y = 0 then z else y else x)), ([] : Heap))) ((AV.bdd 0 (AV.int .i64 0) = true ∧ obsB 0 ([] : Heap) = true) ∧ ((AV.int .i64 0), ([] : Heap)) = ((AV.int .i64 (if x = 0 then if y = 0 then z else y else x)), ([] : Heap)))))) = _) ?_
  refine cond_split (fun h1 => ?_) (fun h1 => ?_)
  · have h1' := h1
    try simp at h1'
    refine And.intro (by first | (simp only [obsB, Key.rows_bdd, Key.row_bdd, Stamp.rows_bdd, Stamp.row_bdd, Card.rows_bdd, Card.row_bdd, Entry.rows_bdd, Entry.row_bdd, Tp.rows_bdd, Tp.row_bdd, rI64_bdd, rStr_bdd, rBool_bdd, rU8_bdd, Bool.and_self, Bool.and_true, AV.bdds, AV.bddss, AV.bdd, decide_true, and_self]; done) | simp [obsB, AV.bddss, AV.bdds, AV.bdd, Key.rows_bdd, Key.row_bdd, Stamp.rows_bdd, Stamp.row_bdd, Card.rows_bdd, Card.row_bdd, Entry.rows_bdd, Entry.row_bdd, Tp.rows_bdd, Tp.row_bdd, rI64_bdd, rStr_bdd, rBool_bdd, rU8_bdd]) ?_
    simp_all
  · have h1' := h1
    try simp at h1'
    refine cond_split (fun h2 => ?_) (fun h2 => ?_)
    · have h2' := h2
      try simp at h2'
      refine And.intro (by first | (simp only [obsB, Key.rows_bdd, Key.row_bdd, Stamp.rows_bdd, Stamp.row_bdd, Card.rows_bdd, Card.row_bdd, Entry.rows_bdd, Entry.row_bdd, Tp.rows_bdd, Tp.row_bdd, rI64_bdd, rStr_bdd, rBool_bdd, rU8_bdd, Bool.and_self, Bool.and_true, AV.bdds, AV.bddss, AV.bdd, decide_true, and_self]; done) | simp [obsB, AV.bddss, AV.bdds, AV.bdd, Key.rows_bdd, Key.row_bdd, Stamp.rows_bdd, Stamp.row_bdd, Card.rows_bdd, Card.row_bdd, Entry.rows_bdd, Entry.row_bdd, Tp.rows_bdd, Tp.row_bdd, rI64_bdd, rStr_bdd, rBool_bdd, rU8_bdd]) ?_
      simp_all
    · have h2' := h2
      try simp at h2'
      refine cond_split (fun h3 => ?_) (fun h3 => ?_)
      · have h3' := h3
        try simp at h3'
        refine And.intro (by first | (simp only [obsB, Key.rows_bdd, Key.row_bdd, Stamp.rows_bdd, Stamp.row_bdd, Card.rows_bdd, Card.row_bdd, Entry.rows_bdd, Entry.row_bdd, Tp.rows_bdd, Tp.row_bdd, rI64_bdd, rStr_bdd, rBool_bdd, rU8_bdd, Bool.and_self, Bool.and_true, AV.bdds, AV.bddss, AV.bdd, decide_true, and_self]; done) | simp [obsB, AV.bddss, AV.bdds, AV.bdd, Key.rows_bdd, Key.row_bdd, Stamp.rows_bdd, Stamp.row_bdd, Card.rows_bdd, Card.row_bdd, Entry.rows_bdd, Entry.row_bdd, Tp.rows_bdd, Tp.row_bdd, rI64_bdd, rStr_bdd, rBool_bdd, rU8_bdd]) ?_
        simp_all
      · have h3' := h3
        try simp at h3'
        refine And.intro (by first | (simp only [obsB, Key.rows_bdd, Key.row_bdd, Stamp.rows_bdd, Stamp.row_bdd, Card.rows_bdd, Card.row_bdd, Entry.rows_bdd, Entry.row_bdd, Tp.rows_bdd, Tp.row_bdd, rI64_bdd, rStr_bdd, rBool_bdd, rU8_bdd, Bool.and_self, Bool.and_true, AV.bdds, AV.bddss, AV.bdd, decide_true, and_self]; done) | simp [obsB, AV.bddss, AV.bdds, AV.bdd, Key.rows_bdd, Key.row_bdd, Stamp.rows_bdd, Stamp.row_bdd, Card.rows_bdd, Card.row_bdd, Entry.rows_bdd, Entry.row_bdd, Tp.rows_bdd, Tp.row_bdd, rI64_bdd, rStr_bdd, rBool_bdd, rU8_bdd]) ?_
        simp_all
theorem or3_at (x y z : Int)  (H : Heap) : ACalls Try.prog 77 [(AV.sl .any 1 [[(AV.int .i64 x)], [(AV.int .i64 y)], [(AV.int .i64 z)]])] H ((AV.int .i64 (if x = 0 then if y = 0 then z else y else x)), H) := (or3_spec x y z ).lift (by kernel_rfl) (by kernel_rfl) H
def cmpSt (a b : Stamp) : Int := if cmpI a.t b.t = 0 then if cmpI a.n b.n = 0 then cmpI a.node b.node else cmpI a.n b.n else cmpI a.t b.t
def stLess_ann : Ann := { refs := [2, 3], fin := some 0 }
set_option maxRecDepth 100000 in
theorem stLess_spec (a b : Stamp)  : ACalls Try.prog 127 [(AV.agg (Stamp.row a)), (AV.agg (Stamp.row b))] ([] : Heap) ((AV.bool (decide (cmpSt a b < 0))), ([] : Heap)) := by
  refine spec (fn := Try.f127) (ann := stLess_ann) (t := (.reg [] [] [] (.reg [(4, ((AV.int .i64 (cmpI a.t b.t)), ([] : Heap))), (9, ((AV.int .i64 (cmpI a.n b.n)), ([] : Heap))), (14, ((AV.int .i64 (cmpI a.node b.node)), ([] : Heap))), (16, ((AV.int .i64 (if (cmpI a.t b.t) = 0 then if (cmpI a.n b.n) = 0 then (cmpI a.node b.node) else (cmpI a.n b.n) else (cmpI a.t b.t))), ([] : Heap)))] [] [] .nil))) (Nat.le_of_ble_eq_true (by kernel_rfl)) ⟨Try.func127, by kernel_rfl, by kernel_rfl, by kernel_rfl⟩ ?_
  refine Eq.mp (by kernel_rfl : ((ACalls Try.prog 78 [(AV.int .i64 a.t), (AV.int .i64 b.t)] ([] : Heap) ((AV.int .i64 (cmpI a.t b.t)), ([] : Heap))) ∧ (ACalls Try.prog 78 [(AV.int .i64 a.n), (AV.int .i64 b.n)] ([] : Heap) ((AV.int .i64 (cmpI a.n b.n)), ([] : Heap))) ∧ (ACalls Try.prog 136 [(AV.int .i64 a.node), (AV.int .i64 b.node)] ([] : Heap) ((AV.int .i64 (cmpI a.node b.node)), ([] : Heap))) ∧ (ACalls Try.prog 77 [(AV.sl .clip 1 [[(AV.int .i64 (cmpI a.t b.t))], [(AV.int .i64 (cmpI a.n b.n))], [(AV.int .i64 (cmpI a.node b.node))]])] ([] : Heap) ((AV.int .i64 (if (cmpI a.t b.t) = 0 then if (cmpI a.n b.n) = 0 then (cmpI a.node b.node) else (cmpI a.n b.n) else (cmpI a.t b.t))), ([] : Heap))) ∧ (AV.bdd 0 (AV.bool (decide ((if (cmpI a.t b.t) = 0 then if (cmpI a.n b.n) = 0 then (cmpI a.node b.node) else (cmpI a.n b.n) else (cmpI a.t b.t)) < 0))) = true ∧ obsB 0 ([] : Heap) = true) ∧ ((AV.bool (decide ((if (cmpI a.t b.t) = 0 then if (cmpI a.n b.n) = 0 then (cmpI a.node b.node) else (cmpI a.n b.n) else (cmpI a.t b.t)) < 0))), ([] : Heap)) = ((AV.bool (decide (cmpSt a b < 0))), ([] : Heap))) = _) ?_
  refine And.intro (compareI_at a.t b.t  ([] : Heap)) ?_
  refine And.intro (compareI_at a.n b.n  ([] : Heap)) ?_
  refine And.intro (compareN_at a.node b.node  ([] : Heap)) ?_
  refine And.intro ((or3_at (cmpI a.t b.t) (cmpI a.n b.n) (cmpI a.node b.node)  ([] : Heap)).pre ⟨⟨rfl, rfl, .inl rfl⟩, trivial⟩) ?_
  refine And.intro (by first | (simp only [obsB, Key.rows_bdd, Key.row_bdd, Stamp.rows_bdd, Stamp.row_bdd, Card.rows_bdd, Card.row_bdd, Entry.rows_bdd, Entry.row_bdd, Tp.rows_bdd, Tp.row_bdd, rI64_bdd, rStr_bdd, rBool_bdd, rU8_bdd, Bool.and_self, Bool.and_true, AV.bdds, AV.bddss, AV.bdd, decide_true, and_self]; done) | simp [obsB, AV.bddss, AV.bdds, AV.bdd, Key.rows_bdd, Key.row_bdd, Stamp.rows_bdd, Stamp.row_bdd, Card.rows_bdd, Card.row_bdd, Entry.rows_bdd, Entry.row_bdd, Tp.rows_bdd, Tp.row_bdd, rI64_bdd, rStr_bdd, rBool_bdd, rU8_bdd]) ?_
  rfl
theorem stLess_at (a b : Stamp)  (H : Heap) : ACalls Try.prog 127 [(AV.agg (Stamp.row a)), (AV.agg (Stamp.row b))] H ((AV.bool (decide (cmpSt a b < 0))), H) := (stLess_spec a b ).lift (by kernel_rfl) (by kernel_rfl) H
end Go.Proofs.Ytpkgpldgoajphaa.AM
