/-
  lists that the tape makes.
-/
import Derived.Test.YtpkgpldgoajphaaSc
set_option maxRecDepth 100000
set_option linter.unusedVariables false
set_option linter.unusedSimpArgs false
namespace Go.Proofs.Ytpkgpldgoajphaa.AM
open Go Go.Proofs.Ytpkgpldgoajphaa
attribute [local irreducible] ACalls funT codeT codeQ LoopTo
attribute [local irreducible] Tp.card Tp.cardT Tp.next Tp.step
def Tp.cards (t : Tp) : Nat → List Card
  | 0 => []
  | n + 1 => t.card :: t.cardT.cards n
def Tp.cardsT (t : Tp) : Nat → Tp
  | 0 => t
  | n + 1 => t.cardT.cardsT n
theorem Tp.cardsT_l (n : Nat) : ∀ (t : Tp), (t.cardsT n).l = t.l := by
  induction n with
  | zero => intro t; simp only [Tp.cardsT]
  | succ n ih => intro t; simp only [Tp.cardsT]; rw [ih, Tp.cardT_l]
theorem Tp.cards_len (n : Nat) : ∀ (t : Tp), (t.cards n).length = n := by
  induction n with
  | zero => intro t; rfl
  | succ n ih => intro t; simp only [Tp.cards, List.length_cons]; rw [ih]
def cards_ann : Ann := { gha := [(1, .vir 5 9), (6, .frz 4)], base := 1, fin := some 1, live := [(3, [0, 5, 6])], out := [(3, [0, 5, 6])] }
set_option maxRecDepth 100000 in
theorem cards_step (t : Tp) (g m n : Nat) (out : List Card) (hl : t.l.length < 9223372036854775808) (hm : m = out.length) (hb : m < 1099511627776) (hn : n < 1099511627776) {eX : Ex} {FX : Fr} {HX : Heap} (k1 : (decide (((n : Nat) : Int) > 0)) = true → LoopTo (codeQ Try.prog (X cards_ann) (loopOf Try.f29 0)) (some [0, 5, 6]) (some [0, 5, 6]) (mkF 21 [(0, (AV.obj 0 0 0 0)), (5, (AV.osl 1 (g + 1) 9 0 (m + 1))), (6, (AV.int .i64 ((n - 1 : Nat) : Int)))]) ([⟨0, 2, [(Tp.row t.cardT)], none⟩, ⟨(g + 1), 9, (List.map Card.row (out ++ [t.card])), none⟩] : Heap) eX FX HX) (k2 : (decide (((n : Nat) : Int) > 0)) = false → ((.exit 0 : Ex), (mkF 21 [(0, (AV.obj 0 0 0 0)), (5, (AV.osl 1 g 9 0 m)), (6, (AV.int .i64 ((n : Nat) : Int)))]), ([⟨0, 2, [(Tp.row t)], none⟩, ⟨g, 9, (List.map Card.row out), none⟩] : Heap)) = (eX, FX, HX)) : LoopTo (codeQ Try.prog (X cards_ann) (loopOf Try.f29 0)) (some [0, 5, 6]) (some [0, 5, 6]) (mkF 21 [(0, (AV.obj 0 0 0 0)), (5, (AV.osl 1 g 9 0 m)), (6, (AV.int .i64 ((n : Nat) : Int)))]) ([⟨0, 2, [(Tp.row t)], none⟩, ⟨g, 9, (List.map Card.row out), none⟩] : Heap) eX FX HX := by
  refine LoopTo.step (.reg [] [] [] (.two (.reg [(2, ((AV.agg (Card.row t.card)), ([⟨0, 2, [(Tp.row t.cardT)], none⟩, ⟨g, 9, (List.map Card.row out), none⟩] : Heap))), (4, ((AV.osl 1 (g + 1) 9 0 (m + 1)), ([⟨0, 2, [(Tp.row t.cardT)], none⟩, ⟨(g + 1), 9, (List.map Card.row (out ++ [t.card])), none⟩] : Heap)))] [] [] (.reg [(1, ((AV.int .i64 ((n - 1 : Nat) : Int)), ([⟨0, 2, [(Tp.row t.cardT)], none⟩, ⟨(g + 1), 9, (List.map Card.row (out ++ [t.card])), none⟩] : Heap)))] [] [] .nil)) .nil)) ?_
  refine Eq.mp (by kernel_rfl : (cond (decide (((n : Nat) : Int) > 0)) ((ACalls Try.prog 20 [(AV.obj 0 0 0 0)] ([⟨0, 2, [(Tp.row t)], none⟩, ⟨g, 9, (List.map Card.row out), none⟩] : Heap) ((AV.agg (Card.row t.card)), ([⟨0, 2, [(Tp.row t.cardT)], none⟩, ⟨g, 9, (List.map Card.row out), none⟩] : Heap))) ∧ (evAppend tt ([⟨0, 2, [(Tp.row t.cardT)], none⟩, ⟨g, 9, (List.map Card.row out), none⟩] : Heap) 48 (AV.osl 1 g 9 0 m) (AV.sl .clip 9 [(Card.row t.card)]) = some ((AV.osl 1 (g + 1) 9 0 (m + 1)), ([⟨0, 2, [(Tp.row t.cardT)], none⟩, ⟨(g + 1), 9, (List.map Card.row (out ++ [t.card])), none⟩] : Heap))) ∧ (Yes (.int .i64 (IntKind.i64.wrap (((n : Nat) : Int) - 1))) ([⟨0, 2, [(Tp.row t.cardT)], none⟩, ⟨(g + 1), 9, (List.map Card.row (out ++ [t.card])), none⟩] : Heap) (AV.int .i64 ((n - 1 : Nat) : Int))) ∧ LoopTo (codeQ Try.prog (X cards_ann) (loopOf Try.f29 0)) (some [0, 5, 6]) (some [0, 5, 6]) (mkF 21 [(0, (AV.obj 0 0 0 0)), (5, (AV.osl 1 (g + 1) 9 0 (m + 1))), (6, (AV.int .i64 ((n - 1 : Nat) : Int)))]) ([⟨0, 2, [(Tp.row t.cardT)], none⟩, ⟨(g + 1), 9, (List.map Card.row (out ++ [t.card])), none⟩] : Heap) eX FX HX) (((.exit 0 : Ex), (mkF 21 [(0, (AV.obj 0 0 0 0)), (5, (AV.osl 1 g 9 0 m)), (6, (AV.int .i64 ((n : Nat) : Int)))]), ([⟨0, 2, [(Tp.row t)], none⟩, ⟨g, 9, (List.map Card.row out), none⟩] : Heap)) = (eX, FX, HX))) = _) ?_
  refine cond_split (fun h1 => ?_) (fun h1 => ?_)
  · have h1' := h1
    try simp at h1'
    refine And.intro (tcard_at t (by first | omega | assumption | (simp; done) | (simp; omega) | (simp_all; done) | (simp_all; omega)) ([⟨g, 9, (List.map Card.row out), none⟩] : Heap)) ?_
    refine And.intro (evAppend_one (row := Card.row) (l := out) (x := t.card) (T := tt) (e := 34) (te := { d := .struct [(30, 0), (3, 2), (3, 3), (2, 4), (32, 5), (4, 8)], size := 9, bytes := 88, zero := [.str ⟨#[]⟩, .str ⟨#[]⟩, .int .i64 0, .int .i64 0, .int .i64 0, .int .i64 0, .int .i64 0, .int .i64 0, .bool false] }) (z := 1) (b := 24) (y := [.sl .nil 0 []]) (by kernel_rfl) (by kernel_rfl) rfl (by decide) (by decide) (by kernel_rfl) (by first | assumption | omega | (simp; done) | (simp; omega)) rfl rfl (by first | omega | (simp; omega))) ?_
    refine And.intro (Yes.add (by omega) (by omega) (by omega)) ?_
    exact k1 h1
  · have h1' := h1
    try simp at h1'
    exact k2 h1
theorem cards_loop (n : Nat) : ∀ (t : Tp) (g m : Nat) (out : List Card) (gF mF : Nat) (outF : List Card) (tF : Tp), t.l.length < 9223372036854775808 → m = out.length → m + n < 1099511627776 → gF = g + n → mF = m + n → outF = out ++ t.cards n → tF = t.cardsT n →
    LoopTo (codeQ Try.prog (X cards_ann) (loopOf Try.f29 0)) (some [0, 5, 6]) (some [0, 5, 6]) (mkF 21 [(0, (AV.obj 0 0 0 0)), (5, (AV.osl 1 g 9 0 m)), (6, (AV.int .i64 ((n : Nat) : Int)))]) ([⟨0, 2, [(Tp.row t)], none⟩, ⟨g, 9, (List.map Card.row out), none⟩] : Heap) (.exit 0) (mkF 21 [(0, (AV.obj 0 0 0 0)), (5, (AV.osl 1 gF 9 0 mF)), (6, (AV.int .i64 ((0 : Nat) : Int)))]) ([⟨0, 2, [(Tp.row tF)], none⟩, ⟨gF, 9, (List.map Card.row outF), none⟩] : Heap) := by
  induction n with
  | zero =>
    intro t g m out gF mF outF tF hl hm hb h1 h2 h3 h4
    refine cards_step t g m 0 out hl hm (by omega) (by omega) (fun h => by simp at h) fun _ => ?_
    simp [h1, h2, h3, h4, Tp.cards, Tp.cardsT]
  | succ n ih =>
    intro t g m out gF mF outF tF hl hm hb h1 h2 h3 h4
    refine cards_step t g m (n + 1) out hl hm (by omega) (by omega) (fun _ => ?_) fun h => by simp at h
    exact ih t.cardT (g + 1) (m + 1) (out ++ [t.card]) gF mF outF tF (by rw [Tp.cardT_l]; exact hl) (by simp [hm]) (by omega) (by omega) (by omega) (by simp [h3, Tp.cards]) (by simp [h4, Tp.cardsT])
set_option maxRecDepth 100000 in
theorem cards_spec (t : Tp) (n : Nat) (hl : t.l.length < 9223372036854775808) (hn : n < 1048576) : ACalls Try.prog 29 [(AV.obj 0 0 0 0), (AV.int .i64 ((n : Nat) : Int))] ([⟨0, 2, [(Tp.row t)], none⟩] : Heap) ((AV.sl .any 9 (List.map Card.row (t.step (n + 1) |>.cards (t.next (n + 1))))), ([⟨0, 2, [(Tp.row ((t.step (n + 1)).cardsT (t.next (n + 1))))], none⟩] : Heap)) := by
  have hx := t.next_lt (n + 1) (by omega)
  refine spec (fn := Try.f29) (ann := cards_ann) (t := (.reg [] [] [] (.reg [] [] [] (.reg [(2, ((AV.int .i64 ((n + 1 : Nat) : Int)), ([⟨0, 2, [(Tp.row t)], none⟩, ⟨0, 9, (List.map Card.row []), none⟩] : Heap))), (3, ((AV.int .i64 ((t.next (n + 1) : Nat) : Int)), ([⟨0, 2, [(Tp.row (t.step (n + 1)))], none⟩, ⟨0, 9, (List.map Card.row []), none⟩] : Heap)))] [] [] (.loop (.exit 0) (mkF 21 [(0, (AV.obj 0 0 0 0)), (5, (AV.osl 1 (t.next (n + 1)) 9 0 (t.next (n + 1)))), (6, (AV.int .i64 ((0 : Nat) : Int)))]) ([⟨0, 2, [(Tp.row ((t.step (n + 1)).cardsT (t.next (n + 1))))], none⟩, ⟨(t.next (n + 1)), 9, (List.map Card.row ((t.step (n + 1)).cards (t.next (n + 1)))), none⟩] : Heap) (.reg [] [] [(4, (List.map Card.row ((t.step (n + 1)).cards (t.next (n + 1)))))] .nil)))))) (Nat.le_of_ble_eq_true (by kernel_rfl)) ⟨Try.func29, by kernel_rfl, by kernel_rfl, by kernel_rfl⟩ ?_
  refine Eq.mp (by kernel_rfl : ((Yes (.int .i64 (IntKind.i64.wrap (((n : Nat) : Int) + 1))) ([⟨0, 2, [(Tp.row t)], none⟩, ⟨0, 9, (List.map Card.row []), none⟩] : Heap) (AV.int .i64 ((n + 1 : Nat) : Int))) ∧ (ACalls Try.prog 21 [(AV.obj 0 0 0 0), (AV.int .i64 ((n + 1 : Nat) : Int))] ([⟨0, 2, [(Tp.row t)], none⟩, ⟨0, 9, (List.map Card.row []), none⟩] : Heap) ((AV.int .i64 ((t.next (n + 1) : Nat) : Int)), ([⟨0, 2, [(Tp.row (t.step (n + 1)))], none⟩, ⟨0, 9, (List.map Card.row []), none⟩] : Heap))) ∧ (LoopTo (codeQ Try.prog (X cards_ann) (loopOf Try.f29 0)) (some [0, 5, 6]) (some [0, 5, 6]) (mkF 21 [(0, (AV.obj 0 0 0 0)), (5, (AV.osl 1 0 9 0 0)), (6, (AV.int .i64 ((t.next (n + 1) : Nat) : Int)))]) ([⟨0, 2, [(Tp.row (t.step (n + 1)))], none⟩, ⟨0, 9, (List.map Card.row []), none⟩] : Heap) (.exit 0) (mkF 21 [(0, (AV.obj 0 0 0 0)), (5, (AV.osl 1 (t.next (n + 1)) 9 0 (t.next (n + 1)))), (6, (AV.int .i64 ((0 : Nat) : Int)))]) ([⟨0, 2, [(Tp.row ((t.step (n + 1)).cardsT (t.next (n + 1))))], none⟩, ⟨(t.next (n + 1)), 9, (List.map Card.row ((t.step (n + 1)).cards (t.next (n + 1)))), none⟩] : Heap)) ∧ (rowsIn ([⟨0, 2, [(Tp.row ((t.step (n + 1)).cardsT (t.next (n + 1))))], none⟩, ⟨(t.next (n + 1)), 9, (List.map Card.row ((t.step (n + 1)).cards (t.next (n + 1)))), none⟩] : Heap) 9 (AV.osl 1 (t.next (n + 1)) 9 0 (t.next (n + 1))) = some (List.map Card.row ((t.step (n + 1)).cards (t.next (n + 1)))) ∧ AV.bddss 0 (List.map Card.row ((t.step (n + 1)).cards (t.next (n + 1)))) = true) ∧ (AV.bdd 1 (AV.sl .any 9 (List.map Card.row ((t.step (n + 1)).cards (t.next (n + 1))))) = true ∧ obsB 1 ([⟨0, 2, [(Tp.row ((t.step (n + 1)).cardsT (t.next (n + 1))))], none⟩] : Heap) = true) ∧ ((AV.sl .any 9 (List.map Card.row ((t.step (n + 1)).cards (t.next (n + 1))))), ([⟨0, 2, [(Tp.row ((t.step (n + 1)).cardsT (t.next (n + 1))))], none⟩] : Heap)) = ((AV.sl .any 9 (List.map Card.row (t.step (n + 1) |>.cards (t.next (n + 1))))), ([⟨0, 2, [(Tp.row ((t.step (n + 1)).cardsT (t.next (n + 1))))], none⟩] : Heap))) = _) ?_
  refine And.intro (Yes.add (by omega) (by omega) (by omega)) ?_
  refine And.intro ((next_at t (n + 1) (by first | omega | assumption | (simp; done) | (simp; omega) | (simp_all; done) | (simp_all; omega)) ([⟨0, 9, (List.map Card.row []), none⟩] : Heap)).pre ⟨AV.wk_refl_any _, AV.wk_refl_any _, trivial⟩) ?_
  refine And.intro ((cards_loop (t.next (n + 1)) (t.step (n + 1)) 0 0 [] (t.next (n + 1)) (t.next (n + 1)) _ _ (by rw [Tp.step_l]; exact hl) rfl (by omega) (by omega) (by omega) rfl rfl)) ?_
  refine And.intro (And.intro (rowsIn_all (room := none) (by kernel_rfl) (by first | omega | (simp [Tp.cards_len]; done) | (simp [Tp.cards_len]; omega))) (Card.rows_bdd _ _)) ?_
  refine And.intro (by first | (simp only [obsB, Key.rows_bdd, Key.row_bdd, Stamp.rows_bdd, Stamp.row_bdd, Card.rows_bdd, Card.row_bdd, Entry.rows_bdd, Entry.row_bdd, Tp.rows_bdd, Tp.row_bdd, rI64_bdd, rStr_bdd, rBool_bdd, rU8_bdd, Bool.and_self, Bool.and_true, AV.bdds, AV.bddss, AV.bdd, decide_true, and_self]; done) | simp [obsB, AV.bddss, AV.bdds, AV.bdd, Key.rows_bdd, Key.row_bdd, Stamp.rows_bdd, Stamp.row_bdd, Card.rows_bdd, Card.row_bdd, Entry.rows_bdd, Entry.row_bdd, Tp.rows_bdd, Tp.row_bdd, rI64_bdd, rStr_bdd, rBool_bdd, rU8_bdd]) ?_
  rfl
theorem cards_at (t : Tp) (n : Nat) (hl : t.l.length < 9223372036854775808) (hn : n < 1048576) (H : Heap) : ACalls Try.prog 29 [(AV.obj 0 0 0 0), (AV.int .i64 ((n : Nat) : Int))] (([⟨0, 2, [(Tp.row t)], none⟩] : Heap) ++ H) ((AV.sl .any 9 (List.map Card.row (t.step (n + 1) |>.cards (t.next (n + 1))))), ([⟨0, 2, [(Tp.row ((t.step (n + 1)).cardsT (t.next (n + 1))))], none⟩] : Heap) ++ H) := (cards_spec t n hl hn).ext (by kernel_rfl) (by kernel_rfl) (by first | (simp only [obsB, Key.rows_bdd, Key.row_bdd, Stamp.rows_bdd, Stamp.row_bdd, Card.rows_bdd, Card.row_bdd, Entry.rows_bdd, Entry.row_bdd, Tp.rows_bdd, Tp.row_bdd, rI64_bdd, rStr_bdd, rBool_bdd, rU8_bdd, Bool.and_self, Bool.and_true, AV.bdds, AV.bddss, AV.bdd, decide_true, and_self]; done) | simp [obsB, AV.bddss, AV.bdds, AV.bdd, Key.rows_bdd, Key.row_bdd, Stamp.rows_bdd, Stamp.row_bdd, Card.rows_bdd, Card.row_bdd, Entry.rows_bdd, Entry.row_bdd, Tp.rows_bdd, Tp.row_bdd, rI64_bdd, rStr_bdd, rBool_bdd, rU8_bdd]) (by first | (simp only [obsB, Key.rows_bdd, Key.row_bdd, Stamp.rows_bdd, Stamp.row_bdd, Card.rows_bdd, Card.row_bdd, Entry.rows_bdd, Entry.row_bdd, Tp.rows_bdd, Tp.row_bdd, rI64_bdd, rStr_bdd, rBool_bdd, rU8_bdd, Bool.and_self, Bool.and_true, AV.bdds, AV.bddss, AV.bdd, decide_true, and_self]; done) | simp [obsB, AV.bddss, AV.bdds, AV.bdd, Key.rows_bdd, Key.row_bdd, Stamp.rows_bdd, Stamp.row_bdd, Card.rows_bdd, Card.row_bdd, Entry.rows_bdd, Entry.row_bdd, Tp.rows_bdd, Tp.row_bdd, rI64_bdd, rStr_bdd, rBool_bdd, rU8_bdd]) (by kernel_rfl) H
end Go.Proofs.Ytpkgpldgoajphaa.AM
