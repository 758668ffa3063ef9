/-
  Texts of this claim, part 4 of 7: an abstract machine over the model; what functions come to; plain laws.
-/
import Derived.Test.YtpkgpldgoajphaaMGossipNumbers3
set_option maxRecDepth 100000
set_option linter.unusedVariables false
set_option linter.unusedSimpArgs false
namespace Go.Proofs.Ytpkgpldgoajphaa.AM
open Go Go.Proofs.Ytpkgpldgoajphaa
attribute [local irreducible] ACalls funT codeT codeQ LoopTo
attribute [local irreducible] Tp.card Tp.cardT Tp.next Tp.step Tp.cards Tp.cardsT Tp.key Tp.keyT sink insSort sortK insK posK beforeK onceStep sortP lastS lastK cmpK ixI findC inC isKey cmpSt
theorem fold_fmap {α β : Type} (p : α → Bool) (f : α → β) (l : List α) : ∀ (out : List β) (k g : Nat),
    l.foldl (fun (s : List β × Nat × Nat) c => if p c = true then (s.1 ++ [f c], s.2.1 + 1, s.2.2 + 1) else s) (out, k, g) = (out ++ (l.filter p).map f, k + ((l.filter p).map f).length, g + ((l.filter p).map f).length) := by
  induction l with
  | nil => intro out k g; simp
  | cons c l ih =>
    intro out k g
    rw [List.foldl_cons]
    by_cases h : p c = true
    · rw [if_pos h, ih]; simp [List.filter_cons, h]; omega
    · rw [if_neg h, ih]; simp [List.filter_cons, h]
def aheadB (other : List Card) (c : Card) : Bool := !(inC other c.key) || decide (cmpSt (findC other c.key).stamp c.stamp < 0)
def aheadK (l other : List Card) : List Card := l.filter (aheadB other)
theorem aheadK_len (l other : List Card) : (aheadK l other).length ≤ l.length := List.length_filter_le _ _
def ahead_ann : Ann := { gha := [(1, .vir 5 9), (8, .cut 1), (9, .frz 4)], fin := some 0, live := [(3, [1, 5, 10, 11, 12])], out := [(3, [1, 5, 10, 11, 12])] }
set_option maxRecDepth 100000 in
theorem ahead_step (l : List Card) (other : List Card) (out : List Card) (k : Nat) (g : Nat) (i : Nat) (hl : l.length < 1048576) (ho : other.length < 1048576) (hk : k = out.length) (hki : k ≤ i) (hle_ : i ≤ l.length) {eX : Ex} {FX : Fr} {HX : Heap} (k1 : (decide (((i : Nat) : Int) < ((l.length : Nat) : Int))) = true → (!(inC other (nth l i).key)) = true → LoopTo (codeQ Try.prog (X ahead_ann) (loopOf Try.f97 0)) (some [1, 5, 10, 11, 12]) (some [1, 5, 10, 11, 12]) (mkF 38 [(1, (AV.sl .any 9 (List.map Card.row other))), (5, (AV.osl 0 (g + 1) 9 0 (k + 1))), (10, (AV.sl .any 9 (List.map Card.row l))), (11, (AV.int .i64 ((l.length : Nat) : Int))), (12, (AV.int .i64 ((i + 1 : Nat) : Int)))]) ([⟨(g + 1), 9, (List.map Card.row (out ++ [(nth l i)])), none⟩] : Heap) eX FX HX) (k2 : (decide (((i : Nat) : Int) < ((l.length : Nat) : Int))) = true → (!(inC other (nth l i).key)) = false → (decide (cmpSt (findC other (nth l i).key).stamp (nth l i).stamp < 0)) = true → LoopTo (codeQ Try.prog (X ahead_ann) (loopOf Try.f97 0)) (some [1, 5, 10, 11, 12]) (some [1, 5, 10, 11, 12]) (mkF 38 [(1, (AV.sl .any 9 (List.map Card.row other))), (5, (AV.osl 0 (g + 1) 9 0 (k + 1))), (10, (AV.sl .any 9 (List.map Card.row l))), (11, (AV.int .i64 ((l.length : Nat) : Int))), (12, (AV.int .i64 ((i + 1 : Nat) : Int)))]) ([⟨(g + 1), 9, (List.map Card.row (out ++ [(nth l i)])), none⟩] : Heap) eX FX HX) (k3 : (decide (((i : Nat) : Int) < ((l.length : Nat) : Int))) = true → (!(inC other (nth l i).key)) = false → (decide (cmpSt (findC other (nth l i).key).stamp (nth l i).stamp < 0)) = false → LoopTo (codeQ Try.prog (X ahead_ann) (loopOf Try.f97 0)) (some [1, 5, 10, 11, 12]) (some [1, 5, 10, 11, 12]) (mkF 38 [(1, (AV.sl .any 9 (List.map Card.row other))), (5, (AV.osl 0 g 9 0 k)), (10, (AV.sl .any 9 (List.map Card.row l))), (11, (AV.int .i64 ((l.length : Nat) : Int))), (12, (AV.int .i64 ((i + 1 : Nat) : Int)))]) ([⟨g, 9, (List.map Card.row out), none⟩] : Heap) eX FX HX) (k4 : (decide (((i : Nat) : Int) < ((l.length : Nat) : Int))) = false → ((.exit 0 : Ex), (mkF 38 [(1, (AV.sl .any 9 (List.map Card.row other))), (5, (AV.osl 0 g 9 0 k)), (10, (AV.sl .any 9 (List.map Card.row l))), (11, (AV.int .i64 ((l.length : Nat) : Int))), (12, (AV.int .i64 ((i : Nat) : Int)))]), ([⟨g, 9, (List.map Card.row out), none⟩] : Heap)) = (eX, FX, HX)) : LoopTo (codeQ Try.prog (X ahead_ann) (loopOf Try.f97 0)) (some [1, 5, 10, 11, 12]) (some [1, 5, 10, 11, 12]) (mkF 38 [(1, (AV.sl .any 9 (List.map Card.row other))), (5, (AV.osl 0 g 9 0 k)), (10, (AV.sl .any 9 (List.map Card.row l))), (11, (AV.int .i64 ((l.length : Nat) : Int))), (12, (AV.int .i64 ((i : Nat) : Int)))]) ([⟨g, 9, (List.map Card.row out), none⟩] : Heap) eX FX HX := by
  refine LoopTo.step (.reg [] [] [] (.two (.reg [(0, ((AV.ref (Card.row (nth l i)) 0), ([⟨g, 9, (List.map Card.row out), none⟩, ⟨0, 9, [[(AV.str (ByteArray.mk #[])), (AV.str (ByteArray.mk #[])), (AV.int .i64 0), (AV.int .i64 0), (AV.int .i64 0), (AV.int .i64 0), (AV.int .i64 0), (AV.int .i64 0), (AV.bool false)]], none⟩] : Heap)))] [] [] (.reg [(3, ((AV.tup [(AV.agg (Card.row (findC other (nth l i).key))), (AV.bool (inC other (nth l i).key))]), ([⟨g, 9, (List.map Card.row out), none⟩, ⟨0, 9, [(Card.row (nth l i))], none⟩, ⟨0, 9, [[(AV.str (ByteArray.mk #[])), (AV.str (ByteArray.mk #[])), (AV.int .i64 0), (AV.int .i64 0), (AV.int .i64 0), (AV.int .i64 0), (AV.int .i64 0), (AV.int .i64 0), (AV.bool false)]], none⟩] : Heap)))] [] [] (.reg [(7, ((AV.bool (decide (cmpSt (findC other (nth l i).key).stamp (nth l i).stamp < 0))), ([⟨g, 9, (List.map Card.row out), none⟩, ⟨0, 9, [(Card.row (nth l i))], none⟩, ⟨0, 9, [(Card.row (findC other (nth l i).key))], none⟩] : Heap)))] [] [] (.two (.two (.two (.two (.two (.two (.reg [(3, ((AV.osl 0 (g + 1) 9 0 (k + 1)), ([⟨(g + 1), 9, (List.map Card.row (out ++ [(nth l i)])), none⟩, ⟨0, 9, [(Card.row (nth l i))], none⟩, ⟨0, 9, [(Card.row (findC other (nth l i).key))], none⟩] : Heap)))] [] [] (.reg [(0, ((AV.int .i64 ((i + 1 : Nat) : Int)), ([⟨(g + 1), 9, (List.map Card.row (out ++ [(nth l i)])), none⟩, ⟨0, 9, [(Card.row (nth l i))], none⟩, ⟨0, 9, [(Card.row (findC other (nth l i).key))], none⟩] : Heap)))] [] [] .nil)) .nil) .nil) .nil) .nil) .nil) (.two .nil (.two .nil (.two .nil (.two .nil (.two (.reg [(3, ((AV.osl 0 (g + 1) 9 0 (k + 1)), ([⟨(g + 1), 9, (List.map Card.row (out ++ [(nth l i)])), none⟩, ⟨0, 9, [(Card.row (nth l i))], none⟩, ⟨0, 9, [(Card.row (findC other (nth l i).key))], none⟩] : Heap)))] [] [] (.reg [(0, ((AV.int .i64 ((i + 1 : Nat) : Int)), ([⟨(g + 1), 9, (List.map Card.row (out ++ [(nth l i)])), none⟩, ⟨0, 9, [(Card.row (nth l i))], none⟩, ⟨0, 9, [(Card.row (findC other (nth l i).key))], none⟩] : Heap)))] [] [] .nil)) (.reg [(0, ((AV.int .i64 ((i + 1 : Nat) : Int)), ([⟨g, 9, (List.map Card.row out), none⟩, ⟨0, 9, [(Card.row (nth l i))], none⟩, ⟨0, 9, [(Card.row (findC other (nth l i).key))], none⟩] : Heap)))] [] [] .nil)))))))))) .nil)) ?_
  refine Eq.mp (by kernel_rfl : (cond (decide (((i : Nat) : Int) < ((l.length : Nat) : Int))) ((IdxSl 9 9 (List.map Card.row l) ((i : Nat) : Int) ([⟨g, 9, (List.map Card.row out), none⟩, ⟨0, 9, [[(AV.str (ByteArray.mk #[])), (AV.str (ByteArray.mk #[])), (AV.int .i64 0), (AV.int .i64 0), (AV.int .i64 0), (AV.int .i64 0), (AV.int .i64 0), (AV.int .i64 0), (AV.bool false)]], none⟩] : Heap) (Card.row (nth l i))) ∧ (ACalls Try.prog 99 [(AV.sl .any 9 (List.map Card.row other)), (AV.agg (Key.row (nth l i).key))] ([⟨g, 9, (List.map Card.row out), none⟩, ⟨0, 9, [(Card.row (nth l i))], none⟩, ⟨0, 9, [[(AV.str (ByteArray.mk #[])), (AV.str (ByteArray.mk #[])), (AV.int .i64 0), (AV.int .i64 0), (AV.int .i64 0), (AV.int .i64 0), (AV.int .i64 0), (AV.int .i64 0), (AV.bool false)]], none⟩] : Heap) ((AV.tup [(AV.agg (Card.row (findC other (nth l i).key))), (AV.bool (inC other (nth l i).key))]), ([⟨g, 9, (List.map Card.row out), none⟩, ⟨0, 9, [(Card.row (nth l i))], none⟩, ⟨0, 9, [[(AV.str (ByteArray.mk #[])), (AV.str (ByteArray.mk #[])), (AV.int .i64 0), (AV.int .i64 0), (AV.int .i64 0), (AV.int .i64 0), (AV.int .i64 0), (AV.int .i64 0), (AV.bool false)]], none⟩] : Heap))) ∧ cond (!(inC other (nth l i).key)) ((evAppend tt ([⟨g, 9, (List.map Card.row out), none⟩, ⟨0, 9, [(Card.row (nth l i))], none⟩, ⟨0, 9, [(Card.row (findC other (nth l i).key))], none⟩] : Heap) 48 (AV.osl 0 g 9 0 k) (AV.sl .clip 9 [(Card.row (nth l i))]) = some ((AV.osl 0 (g + 1) 9 0 (k + 1)), ([⟨(g + 1), 9, (List.map Card.row (out ++ [(nth l i)])), none⟩, ⟨0, 9, [(Card.row (nth l i))], none⟩, ⟨0, 9, [(Card.row (findC other (nth l i).key))], none⟩] : Heap))) ∧ (Yes (.int .i64 (IntKind.i64.wrap (((i : Nat) : Int) + 1))) ([⟨(g + 1), 9, (List.map Card.row (out ++ [(nth l i)])), none⟩, ⟨0, 9, [(Card.row (nth l i))], none⟩, ⟨0, 9, [(Card.row (findC other (nth l i).key))], none⟩] : Heap) (AV.int .i64 ((i + 1 : Nat) : Int))) ∧ (obsB 1 ([⟨(g + 1), 9, (List.map Card.row (out ++ [(nth l i)])), none⟩] : Heap) = true) ∧ LoopTo (codeQ Try.prog (X ahead_ann) (loopOf Try.f97 0)) (some [1, 5, 10, 11, 12]) (some [1, 5, 10, 11, 12]) (mkF 38 [(1, (AV.sl .any 9 (List.map Card.row other))), (5, (AV.osl 0 (g + 1) 9 0 (k + 1))), (10, (AV.sl .any 9 (List.map Card.row l))), (11, (AV.int .i64 ((l.length : Nat) : Int))), (12, (AV.int .i64 ((i + 1 : Nat) : Int)))]) ([⟨(g + 1), 9, (List.map Card.row (out ++ [(nth l i)])), none⟩] : Heap) eX FX HX) ((ACalls Try.prog 127 [(AV.agg (Stamp.row (findC other (nth l i).key).stamp)), (AV.agg (Stamp.row (nth l i).stamp))] ([⟨g, 9, (List.map Card.row out), none⟩, ⟨0, 9, [(Card.row (nth l i))], none⟩, ⟨0, 9, [(Card.row (findC other (nth l i).key))], none⟩] : Heap) ((AV.bool (decide (cmpSt (findC other (nth l i).key).stamp (nth l i).stamp < 0))), ([⟨g, 9, (List.map Card.row out), none⟩, ⟨0, 9, [(Card.row (nth l i))], none⟩, ⟨0, 9, [(Card.row (findC other (nth l i).key))], none⟩] : Heap))) ∧ cond (decide (cmpSt (findC other (nth l i).key).stamp (nth l i).stamp < 0)) ((evAppend tt ([⟨g, 9, (List.map Card.row out), none⟩, ⟨0, 9, [(Card.row (nth l i))], none⟩, ⟨0, 9, [(Card.row (findC other (nth l i).key))], none⟩] : Heap) 48 (AV.osl 0 g 9 0 k) (AV.sl .clip 9 [(Card.row (nth l i))]) = some ((AV.osl 0 (g + 1) 9 0 (k + 1)), ([⟨(g + 1), 9, (List.map Card.row (out ++ [(nth l i)])), none⟩, ⟨0, 9, [(Card.row (nth l i))], none⟩, ⟨0, 9, [(Card.row (findC other (nth l i).key))], none⟩] : Heap))) ∧ (Yes (.int .i64 (IntKind.i64.wrap (((i : Nat) : Int) + 1))) ([⟨(g + 1), 9, (List.map Card.row (out ++ [(nth l i)])), none⟩, ⟨0, 9, [(Card.row (nth l i))], none⟩, ⟨0, 9, [(Card.row (findC other (nth l i).key))], none⟩] : Heap) (AV.int .i64 ((i + 1 : Nat) : Int))) ∧ (obsB 1 ([⟨(g + 1), 9, (List.map Card.row (out ++ [(nth l i)])), none⟩] : Heap) = true) ∧ LoopTo (codeQ Try.prog (X ahead_ann) (loopOf Try.f97 0)) (some [1, 5, 10, 11, 12]) (some [1, 5, 10, 11, 12]) (mkF 38 [(1, (AV.sl .any 9 (List.map Card.row other))), (5, (AV.osl 0 (g + 1) 9 0 (k + 1))), (10, (AV.sl .any 9 (List.map Card.row l))), (11, (AV.int .i64 ((l.length : Nat) : Int))), (12, (AV.int .i64 ((i + 1 : Nat) : Int)))]) ([⟨(g + 1), 9, (List.map Card.row (out ++ [(nth l i)])), none⟩] : Heap) eX FX HX) ((Yes (.int .i64 (IntKind.i64.wrap (((i : Nat) : Int) + 1))) ([⟨g, 9, (List.map Card.row out), none⟩, ⟨0, 9, [(Card.row (nth l i))], none⟩, ⟨0, 9, [(Card.row (findC other (nth l i).key))], none⟩] : Heap) (AV.int .i64 ((i + 1 : Nat) : Int))) ∧ (obsB 1 ([⟨g, 9, (List.map Card.row out), none⟩] : Heap) = true) ∧ LoopTo (codeQ Try.prog (X ahead_ann) (loopOf Try.f97 0)) (some [1, 5, 10, 11, 12]) (some [1, 5, 10, 11, 12]) (mkF 38 [(1, (AV.sl .any 9 (List.map Card.row other))), (5, (AV.osl 0 g 9 0 k)), (10, (AV.sl .any 9 (List.map Card.row l))), (11, (AV.int .i64 ((l.length : Nat) : Int))), (12, (AV.int .i64 ((i + 1 : Nat) : Int)))]) ([⟨g, 9, (List.map Card.row out), none⟩] : Heap) eX FX HX))) (((.exit 0 : Ex), (mkF 38 [(1, (AV.sl .any 9 (List.map Card.row other))), (5, (AV.osl 0 g 9 0 k)), (10, (AV.sl .any 9 (List.map Card.row l))), (11, (AV.int .i64 ((l.length : Nat) : Int))), (12, (AV.int .i64 ((i : Nat) : Int)))]), ([⟨g, 9, (List.map Card.row out), none⟩] : Heap)) = (eX, FX, HX))) = _) ?_
  refine cond_split (fun h1 => ?_) (fun h1 => ?_)
  · have h1' := h1
    try simp at h1'
    refine And.intro (IdxSl.mk _ (by omega) (by omega)) ?_
    refine And.intro (find_at other (nth l i).key (by first | omega | assumption | (simp; done) | (simp; omega) | (simp_all; done) | (simp_all; omega)) ([⟨g, 9, (List.map Card.row out), none⟩, ⟨0, 9, [(Card.row (nth l i))], none⟩, ⟨0, 9, [[(AV.str (ByteArray.mk #[])), (AV.str (ByteArray.mk #[])), (AV.int .i64 0), (AV.int .i64 0), (AV.int .i64 0), (AV.int .i64 0), (AV.int .i64 0), (AV.int .i64 0), (AV.bool false)]], none⟩] : Heap)) ?_
    refine cond_split (fun h2 => ?_) (fun h2 => ?_)
    · have h2' := h2
      try simp at h2'
      refine And.intro (evAppend_one (row := Card.row) (l := out) (x := (nth l i)) (T := tt) (e := 34) (te := { d := .struct [(30, 0), (3, 2), (3, 3), (2, 4), (32, 5), (4, 8)], size := 9, bytes := 88, zero := [.str ⟨#[]⟩, .str ⟨#[]⟩, .int .i64 0, .int .i64 0, .int .i64 0, .int .i64 0, .int .i64 0, .int .i64 0, .bool false] }) (z := 1) (b := 24) (y := [.sl .nil 0 []]) (by kernel_rfl) (by kernel_rfl) rfl (by decide) (by decide) (by kernel_rfl) (by first | assumption | omega | (simp; done) | (simp; omega)) rfl rfl (by first | omega | (show _ * 88 ≤ _; omega) | (simp; omega))) ?_
      refine And.intro (Yes.add (by omega) (by omega) (by omega)) ?_
      refine And.intro (by first | (simp [obsB, AV.bddss, AV.bdds, AV.bdd]; done) | (simp [obsB, AV.bddss, AV.bdds, AV.bdd, -List.map_append]; done) | simp [obsB, AV.bddss, AV.bdds, AV.bdd, -List.map_append, -List.map_set, -List.map_take, -List.map_drop, -List.map_cons, -List.map_map]) ?_
      exact k1 h1 h2
    · have h2' := h2
      try simp at h2'
      refine And.intro (stLess_at (findC other (nth l i).key).stamp (nth l i).stamp  ([⟨g, 9, (List.map Card.row out), none⟩, ⟨0, 9, [(Card.row (nth l i))], none⟩, ⟨0, 9, [(Card.row (findC other (nth l i).key))], none⟩] : Heap)) ?_
      refine cond_split (fun h3 => ?_) (fun h3 => ?_)
      · have h3' := h3
        try simp at h3'
        refine And.intro (evAppend_one (row := Card.row) (l := out) (x := (nth l i)) (T := tt) (e := 34) (te := { d := .struct [(30, 0), (3, 2), (3, 3), (2, 4), (32, 5), (4, 8)], size := 9, bytes := 88, zero := [.str ⟨#[]⟩, .str ⟨#[]⟩, .int .i64 0, .int .i64 0, .int .i64 0, .int .i64 0, .int .i64 0, .int .i64 0, .bool false] }) (z := 1) (b := 24) (y := [.sl .nil 0 []]) (by kernel_rfl) (by kernel_rfl) rfl (by decide) (by decide) (by kernel_rfl) (by first | assumption | omega | (simp; done) | (simp; omega)) rfl rfl (by first | omega | (show _ * 88 ≤ _; omega) | (simp; omega))) ?_
        refine And.intro (Yes.add (by omega) (by omega) (by omega)) ?_
        refine And.intro (by first | (simp [obsB, AV.bddss, AV.bdds, AV.bdd]; done) | (simp [obsB, AV.bddss, AV.bdds, AV.bdd, -List.map_append]; done) | simp [obsB, AV.bddss, AV.bdds, AV.bdd, -List.map_append, -List.map_set, -List.map_take, -List.map_drop, -List.map_cons, -List.map_map]) ?_
        exact k2 h1 h2 h3
      · have h3' := h3
        try simp at h3'
        refine And.intro (Yes.add (by omega) (by omega) (by omega)) ?_
        refine And.intro (by first | (simp [obsB, AV.bddss, AV.bdds, AV.bdd]; done) | (simp [obsB, AV.bddss, AV.bdds, AV.bdd, -List.map_append]; done) | simp [obsB, AV.bddss, AV.bdds, AV.bdd, -List.map_append, -List.map_set, -List.map_take, -List.map_drop, -List.map_cons, -List.map_map]) ?_
        exact k3 h1 h2 h3
  · have h1' := h1
    try simp at h1'
    exact k4 h1
def ahead_f (l : List Card) (other : List Card) (i : Nat) (s : (List Card) × Nat × Nat) : (List Card) × Nat × Nat := (if (!(inC other (nth l i).key)) = true then (s.1 ++ [(nth l i)], (s.2.1 + 1), (s.2.2 + 1)) else (if (decide (cmpSt (findC other (nth l i).key).stamp (nth l i).stamp < 0)) = true then (s.1 ++ [(nth l i)], (s.2.1 + 1), (s.2.2 + 1)) else (s.1, s.2.1, s.2.2)))
theorem ahead_loop (l : List Card) (other : List Card) (hl : l.length < 1048576) (ho : other.length < 1048576)  (r_ : Nat) : ∀ (out : List Card) (k : Nat) (g : Nat) (i : Nat) (sF : (List Card) × Nat × Nat), i + r_ = l.length → k = out.length → k ≤ i → sF = iter (ahead_f l other) r_ i (out, k, g) →
    LoopTo (codeQ Try.prog (X ahead_ann) (loopOf Try.f97 0)) (some [1, 5, 10, 11, 12]) (some [1, 5, 10, 11, 12]) (mkF 38 [(1, (AV.sl .any 9 (List.map Card.row other))), (5, (AV.osl 0 g 9 0 k)), (10, (AV.sl .any 9 (List.map Card.row l))), (11, (AV.int .i64 ((l.length : Nat) : Int))), (12, (AV.int .i64 ((i : Nat) : Int)))]) ([⟨g, 9, (List.map Card.row out), none⟩] : Heap) (.exit 0) (mkF 38 [(1, (AV.sl .any 9 (List.map Card.row other))), (5, (AV.osl 0 sF.2.2 9 0 sF.2.1)), (10, (AV.sl .any 9 (List.map Card.row l))), (11, (AV.int .i64 ((l.length : Nat) : Int))), (12, (AV.int .i64 ((l.length : Nat) : Int)))]) ([⟨sF.2.2, 9, (List.map Card.row sF.1), none⟩] : Heap) := by
  induction r_ with
  | zero =>
    intro out k g i sF hi_ hk hki  hF
    obtain rfl : l.length = i := by omega
    have e_ : sF = (out, k, g) := hF
    refine ahead_step l other out k g l.length hl ho hk hki (Nat.le_refl _) (fun h _ => by simp at h <;> omega) (fun h _ _ => by simp at h <;> omega) (fun h _ _ => by simp at h <;> omega) (fun _ => ?_)
    first | done | rfl | (rw [e_]; done) | (rw [e_]; rfl)
  | succ r_ ih =>
    intro out k g i sF hi_ hk hki  hF
    refine ahead_step l other out k g i hl ho hk hki (by omega) (fun h1 h2 => ?_) (fun h1 h2 h3 => ?_) (fun h1 h2 h3 => ?_) (fun h => by simp at h <;> omega)
    · exact ih (out ++ [(nth l i)]) (k + 1) (g + 1) (i + 1) sF (by omega) (by first | omega | assumption | (simp; done) | (simp; omega) | (simp [*]; done) | (simp [*]; omega)) (by first | omega | assumption | (simp; done) | (simp; omega) | (simp [*]; done) | (simp [*]; omega))  (by rw [hF] <;> simp only [iter, ahead_f, h2, if_true, Bool.false_eq_true, if_false])
    · exact ih (out ++ [(nth l i)]) (k + 1) (g + 1) (i + 1) sF (by omega) (by first | omega | assumption | (simp; done) | (simp; omega) | (simp [*]; done) | (simp [*]; omega)) (by first | omega | assumption | (simp; done) | (simp; omega) | (simp [*]; done) | (simp [*]; omega))  (by rw [hF] <;> simp only [iter, ahead_f, h2, h3, if_true, Bool.false_eq_true, if_false])
    · exact ih out k g (i + 1) sF (by omega) (by first | omega | assumption | (simp; done) | (simp; omega) | (simp [*]; done) | (simp [*]; omega)) (by first | omega | assumption | (simp; done) | (simp; omega) | (simp [*]; done) | (simp [*]; omega))  (by rw [hF] <;> simp only [iter, ahead_f, h2, h3, if_true, Bool.false_eq_true, if_false])
theorem ahead_iter (l other : List Card) : (aheadK l other, (aheadK l other).length, (aheadK l other).length) = iter (ahead_f l other) l.length 0 ([], 0, 0) := by
  rw [iter_all (ahead_f l other) (fun s c => if aheadB other c = true then (s.1 ++ [c], s.2.1 + 1, s.2.2 + 1) else s) l (fun i s hi => ?_)]
  · rw [fold_fmap (aheadB other) (fun c => c) l]; simp [aheadK]
  · simp only [ahead_f, aheadB]
    by_cases h1 : inC other (nth l i).key = true <;> by_cases h2 : cmpSt (findC other (nth l i).key).stamp (nth l i).stamp < 0 <;> simp [h1, h2]
set_option maxRecDepth 100000 in
theorem ahead_spec (l other : List Card) (hl : l.length < 1048576) (ho : other.length < 1048576) : ACalls Try.prog 97 [(AV.sl .any 9 (List.map Card.row l)), (AV.sl .any 9 (List.map Card.row other))] ([] : Heap) ((AV.sl .any 9 (List.map Card.row (aheadK l other))), ([] : Heap)) := by
  have hk := aheadK_len l other
  refine spec (fn := Try.f97) (ann := ahead_ann) (t := (.reg [] [] [] (.reg [] [] [] (.reg [(1, ((AV.int .i64 ((l.length : Nat) : Int)), ([⟨0, 9, (List.map Card.row []), none⟩] : Heap)))] [] [] (.loop (.exit 0) (mkF 38 [(1, (AV.sl .any 9 (List.map Card.row other))), (5, (AV.osl 0 (aheadK l other).length 9 0 (aheadK l other).length)), (10, (AV.sl .any 9 (List.map Card.row l))), (11, (AV.int .i64 ((l.length : Nat) : Int))), (12, (AV.int .i64 ((l.length : Nat) : Int)))]) ([⟨(aheadK l other).length, 9, (List.map Card.row (aheadK l other)), none⟩] : Heap) (.reg [] [] [(4, (List.map Card.row (aheadK l other)))] .nil)))))) (Nat.le_of_ble_eq_true (by kernel_rfl)) ⟨Try.func97, by kernel_rfl, by kernel_rfl, by kernel_rfl⟩ ?_
  refine Eq.mp (by kernel_rfl : ((Yes (.int .i64 ((List.length (List.map Card.row l) : Nat) : Int)) ([⟨0, 9, (List.map Card.row []), none⟩] : Heap) (AV.int .i64 ((l.length : Nat) : Int))) ∧ (LoopTo (codeQ Try.prog (X ahead_ann) (loopOf Try.f97 0)) (some [1, 5, 10, 11, 12]) (some [1, 5, 10, 11, 12]) (mkF 38 [(1, (AV.sl .any 9 (List.map Card.row other))), (5, (AV.osl 0 0 9 0 0)), (10, (AV.sl .any 9 (List.map Card.row l))), (11, (AV.int .i64 ((l.length : Nat) : Int))), (12, (AV.int .i64 0))]) ([⟨0, 9, (List.map Card.row []), none⟩] : Heap) (.exit 0) (mkF 38 [(1, (AV.sl .any 9 (List.map Card.row other))), (5, (AV.osl 0 (aheadK l other).length 9 0 (aheadK l other).length)), (10, (AV.sl .any 9 (List.map Card.row l))), (11, (AV.int .i64 ((l.length : Nat) : Int))), (12, (AV.int .i64 ((l.length : Nat) : Int)))]) ([⟨(aheadK l other).length, 9, (List.map Card.row (aheadK l other)), none⟩] : Heap)) ∧ (rowsIn ([⟨(aheadK l other).length, 9, (List.map Card.row (aheadK l other)), none⟩] : Heap) 9 (AV.osl 0 (aheadK l other).length 9 0 (aheadK l other).length) = some (List.map Card.row (aheadK l other)) ∧ AV.bddss 0 (List.map Card.row (aheadK l other)) = true) ∧ (AV.bdd 0 (AV.sl .any 9 (List.map Card.row (aheadK l other))) = true ∧ obsB 0 ([] : Heap) = true) ∧ ((AV.sl .any 9 (List.map Card.row (aheadK l other))), ([] : Heap)) = ((AV.sl .any 9 (List.map Card.row (aheadK l other))), ([] : Heap))) = _) ?_
  refine And.intro (Yes.len _ _ _) ?_
  refine And.intro ((ahead_loop l other hl ho (List.length l) [] 0 0 0 ((aheadK l other), (aheadK l other).length, (aheadK l other).length) (by omega) rfl (by omega) (ahead_iter l other))) ?_
  refine And.intro (And.intro (rowsIn_all (room := none) (by kernel_rfl) (by first | omega | (simp; done) | (simp; omega))) (Card.rows_bdd _ _)) ?_
  refine And.intro (by first | (simp [obsB, AV.bddss, AV.bdds, AV.bdd]; done) | (simp [obsB, AV.bddss, AV.bdds, AV.bdd, -List.map_append]; done) | simp [obsB, AV.bddss, AV.bdds, AV.bdd, -List.map_append, -List.map_set, -List.map_take, -List.map_drop, -List.map_cons, -List.map_map]) ?_
  rfl
theorem ahead_at (l other : List Card) (hl : l.length < 1048576) (ho : other.length < 1048576) (H : Heap) : ACalls Try.prog 97 [(AV.sl .any 9 (List.map Card.row l)), (AV.sl .any 9 (List.map Card.row other))] H ((AV.sl .any 9 (List.map Card.row (aheadK l other))), H) := (ahead_spec l other hl ho).lift (by kernel_rfl) (by kernel_rfl) H
theorem cloneCF_spec (l : List Card) (hl : l.length < 1099511627776) : ACalls Try.prog 98 [(AV.sl .any 9 (List.map Card.row l))] ([] : Heap) ((AV.sl .any 9 (List.map Card.row l)), ([] : Heap)) := by
  have h1 := (cloneC_spec l hl).frz_osl (xs := l.map Card.row) (rowsIn_all (room := none) (by kernel_rfl) (by first | omega | simp)) (Card.rows_bdd _ _)
  exact ACalls.forget (H2 := []) (X := [⟨1, 9, [], none⟩]) h1 rfl (by kernel_rfl) (fun id o ho => by simp at ho)
theorem cloneCF_at (l : List Card) (hl : l.length < 1099511627776) (H : Heap) : ACalls Try.prog 98 [(AV.sl .any 9 (List.map Card.row l))] H ((AV.sl .any 9 (List.map Card.row l)), H) := (cloneCF_spec l hl).lift (by kernel_rfl) (by kernel_rfl) H
def cmpG_ann : Ann := { gh := [(8, .frz 8)], gha := [(2, .vir 8 2), (7, .cut 1)], fin := some 0, live := [(4, [6, 7, 8, 17, 18, 19])], out := [(4, [6, 7, 8, 17, 18, 19])] }
set_option maxRecDepth 100000 in
theorem cmpG_step (l : List Card) (a : List Card) (b : List Card) (out : List Key) (k : Nat) (g : Nat) (i : Nat) (hl : l.length < 1048576) (hk : k = out.length) (hki : k ≤ i) (hle_ : i ≤ l.length) {eX : Ex} {FX : Fr} {HX : Heap} (k1 : (decide (((i : Nat) : Int) < ((l.length : Nat) : Int))) = true → LoopTo (codeQ Try.prog (X cmpG_ann) (loopOf Try.f53 0)) (some [6, 7, 8, 17, 18, 19]) (some [6, 7, 8, 17, 18, 19]) (mkF 33 [(6, (AV.sl .any 9 (List.map Card.row a))), (7, (AV.sl .any 9 (List.map Card.row b))), (8, (AV.osl 0 (g + 1) 2 0 (k + 1))), (17, (AV.sl .any 9 (List.map Card.row l))), (18, (AV.int .i64 ((l.length : Nat) : Int))), (19, (AV.int .i64 ((i + 1 : Nat) : Int)))]) ([⟨(g + 1), 2, (List.map Key.row (out ++ [(nth l i).key])), none⟩] : Heap) eX FX HX) (k2 : (decide (((i : Nat) : Int) < ((l.length : Nat) : Int))) = false → ((.exit 0 : Ex), (mkF 33 [(6, (AV.sl .any 9 (List.map Card.row a))), (7, (AV.sl .any 9 (List.map Card.row b))), (8, (AV.osl 0 g 2 0 k)), (17, (AV.sl .any 9 (List.map Card.row l))), (18, (AV.int .i64 ((l.length : Nat) : Int))), (19, (AV.int .i64 ((i : Nat) : Int)))]), ([⟨g, 2, (List.map Key.row out), none⟩] : Heap)) = (eX, FX, HX)) : LoopTo (codeQ Try.prog (X cmpG_ann) (loopOf Try.f53 0)) (some [6, 7, 8, 17, 18, 19]) (some [6, 7, 8, 17, 18, 19]) (mkF 33 [(6, (AV.sl .any 9 (List.map Card.row a))), (7, (AV.sl .any 9 (List.map Card.row b))), (8, (AV.osl 0 g 2 0 k)), (17, (AV.sl .any 9 (List.map Card.row l))), (18, (AV.int .i64 ((l.length : Nat) : Int))), (19, (AV.int .i64 ((i : Nat) : Int)))]) ([⟨g, 2, (List.map Key.row out), none⟩] : Heap) eX FX HX := by
  refine LoopTo.step (.reg [] [] [] (.two (.reg [(0, ((AV.ref (Card.row (nth l i)) 0), ([⟨g, 2, (List.map Key.row out), none⟩, ⟨0, 9, [[(AV.str (ByteArray.mk #[])), (AV.str (ByteArray.mk #[])), (AV.int .i64 0), (AV.int .i64 0), (AV.int .i64 0), (AV.int .i64 0), (AV.int .i64 0), (AV.int .i64 0), (AV.bool false)]], none⟩] : Heap)))] [] [] (.reg [(4, ((AV.osl 0 (g + 1) 2 0 (k + 1)), ([⟨(g + 1), 2, (List.map Key.row (out ++ [(nth l i).key])), none⟩, ⟨0, 9, [(Card.row (nth l i))], none⟩] : Heap)))] [] [] (.reg [(0, ((AV.int .i64 ((i + 1 : Nat) : Int)), ([⟨(g + 1), 2, (List.map Key.row (out ++ [(nth l i).key])), none⟩, ⟨0, 9, [(Card.row (nth l i))], none⟩] : Heap)))] [] [] .nil))) .nil)) ?_
  refine Eq.mp (by kernel_rfl : (cond (decide (((i : Nat) : Int) < ((l.length : Nat) : Int))) ((IdxSl 9 9 (List.map Card.row l) ((i : Nat) : Int) ([⟨g, 2, (List.map Key.row out), none⟩, ⟨0, 9, [[(AV.str (ByteArray.mk #[])), (AV.str (ByteArray.mk #[])), (AV.int .i64 0), (AV.int .i64 0), (AV.int .i64 0), (AV.int .i64 0), (AV.int .i64 0), (AV.int .i64 0), (AV.bool false)]], none⟩] : Heap) (Card.row (nth l i))) ∧ (evAppend tt ([⟨g, 2, (List.map Key.row out), none⟩, ⟨0, 9, [(Card.row (nth l i))], none⟩] : Heap) 66 (AV.osl 0 g 2 0 k) (AV.sl .clip 2 [(Key.row (nth l i).key)]) = some ((AV.osl 0 (g + 1) 2 0 (k + 1)), ([⟨(g + 1), 2, (List.map Key.row (out ++ [(nth l i).key])), none⟩, ⟨0, 9, [(Card.row (nth l i))], none⟩] : Heap))) ∧ (Yes (.int .i64 (IntKind.i64.wrap (((i : Nat) : Int) + 1))) ([⟨(g + 1), 2, (List.map Key.row (out ++ [(nth l i).key])), none⟩, ⟨0, 9, [(Card.row (nth l i))], none⟩] : Heap) (AV.int .i64 ((i + 1 : Nat) : Int))) ∧ (obsB 1 ([⟨(g + 1), 2, (List.map Key.row (out ++ [(nth l i).key])), none⟩] : Heap) = true) ∧ LoopTo (codeQ Try.prog (X cmpG_ann) (loopOf Try.f53 0)) (some [6, 7, 8, 17, 18, 19]) (some [6, 7, 8, 17, 18, 19]) (mkF 33 [(6, (AV.sl .any 9 (List.map Card.row a))), (7, (AV.sl .any 9 (List.map Card.row b))), (8, (AV.osl 0 (g + 1) 2 0 (k + 1))), (17, (AV.sl .any 9 (List.map Card.row l))), (18, (AV.int .i64 ((l.length : Nat) : Int))), (19, (AV.int .i64 ((i + 1 : Nat) : Int)))]) ([⟨(g + 1), 2, (List.map Key.row (out ++ [(nth l i).key])), none⟩] : Heap) eX FX HX) (((.exit 0 : Ex), (mkF 33 [(6, (AV.sl .any 9 (List.map Card.row a))), (7, (AV.sl .any 9 (List.map Card.row b))), (8, (AV.osl 0 g 2 0 k)), (17, (AV.sl .any 9 (List.map Card.row l))), (18, (AV.int .i64 ((l.length : Nat) : Int))), (19, (AV.int .i64 ((i : Nat) : Int)))]), ([⟨g, 2, (List.map Key.row out), none⟩] : Heap)) = (eX, FX, HX))) = _) ?_
  refine cond_split (fun h1 => ?_) (fun h1 => ?_)
  · have h1' := h1
    try simp at h1'
    refine And.intro (IdxSl.mk _ (by omega) (by omega)) ?_
    refine And.intro (evAppend_one (row := Key.row) (l := out) (x := (nth l i).key) (T := tt) (e := 30) (te := { d := .struct [(9, 0), (9, 1)], size := 2, bytes := 32, zero := [.str ⟨#[]⟩, .str ⟨#[]⟩] }) (z := 1) (b := 24) (y := [.sl .nil 0 []]) (by kernel_rfl) (by kernel_rfl) rfl (by decide) (by decide) (by kernel_rfl) (by first | assumption | omega | (simp; done) | (simp; omega)) rfl rfl (by first | omega | (show _ * 32 ≤ _; omega) | (simp; omega))) ?_
    refine And.intro (Yes.add (by omega) (by omega) (by omega)) ?_
    refine And.intro (by first | (simp [obsB, AV.bddss, AV.bdds, AV.bdd]; done) | (simp [obsB, AV.bddss, AV.bdds, AV.bdd, -List.map_append]; done) | simp [obsB, AV.bddss, AV.bdds, AV.bdd, -List.map_append, -List.map_set, -List.map_take, -List.map_drop, -List.map_cons, -List.map_map]) ?_
    exact k1 h1
  · have h1' := h1
    try simp at h1'
    exact k2 h1
def cmpG_f (l : List Card) (a : List Card) (b : List Card) (i : Nat) (s : (List Key) × Nat × Nat) : (List Key) × Nat × Nat := (s.1 ++ [(nth l i).key], (s.2.1 + 1), (s.2.2 + 1))
theorem cmpG_loop (l : List Card) (a : List Card) (b : List Card) (hl : l.length < 1048576)  (r_ : Nat) : ∀ (out : List Key) (k : Nat) (g : Nat) (i : Nat) (sF : (List Key) × Nat × Nat), i + r_ = l.length → k = out.length → k ≤ i → sF = iter (cmpG_f l a b) r_ i (out, k, g) →
    LoopTo (codeQ Try.prog (X cmpG_ann) (loopOf Try.f53 0)) (some [6, 7, 8, 17, 18, 19]) (some [6, 7, 8, 17, 18, 19]) (mkF 33 [(6, (AV.sl .any 9 (List.map Card.row a))), (7, (AV.sl .any 9 (List.map Card.row b))), (8, (AV.osl 0 g 2 0 k)), (17, (AV.sl .any 9 (List.map Card.row l))), (18, (AV.int .i64 ((l.length : Nat) : Int))), (19, (AV.int .i64 ((i : Nat) : Int)))]) ([⟨g, 2, (List.map Key.row out), none⟩] : Heap) (.exit 0) (mkF 33 [(6, (AV.sl .any 9 (List.map Card.row a))), (7, (AV.sl .any 9 (List.map Card.row b))), (8, (AV.osl 0 sF.2.2 2 0 sF.2.1)), (17, (AV.sl .any 9 (List.map Card.row l))), (18, (AV.int .i64 ((l.length : Nat) : Int))), (19, (AV.int .i64 ((l.length : Nat) : Int)))]) ([⟨sF.2.2, 2, (List.map Key.row sF.1), none⟩] : Heap) := by
  induction r_ with
  | zero =>
    intro out k g i sF hi_ hk hki  hF
    obtain rfl : l.length = i := by omega
    have e_ : sF = (out, k, g) := hF
    refine cmpG_step l a b out k g l.length hl hk hki (Nat.le_refl _) (fun h => by simp at h <;> omega) (fun _ => ?_)
    first | done | rfl | (rw [e_]; done) | (rw [e_]; rfl)
  | succ r_ ih =>
    intro out k g i sF hi_ hk hki  hF
    refine cmpG_step l a b out k g i hl hk hki (by omega) (fun h1 => ?_) (fun h => by simp at h <;> omega)
    · exact ih (out ++ [(nth l i).key]) (k + 1) (g + 1) (i + 1) sF (by omega) (by first | omega | assumption | (simp; done) | (simp; omega) | (simp [*]; done) | (simp [*]; omega)) (by first | omega | assumption | (simp; done) | (simp; omega) | (simp [*]; done) | (simp [*]; omega))  (by rw [hF] <;> simp only [iter, cmpG_f, if_true, Bool.false_eq_true, if_false])
theorem filter_true {α : Type} (l : List α) : l.filter (fun _ => true) = l := by induction l with | nil => rfl | cons x l ih => simp [List.filter_cons]
def keysC (l : List Card) : List Key := l.map (·.key)
theorem keysC_len (l : List Card) : (keysC l).length = l.length := by simp [keysC]
theorem cmpG_iter (l a b : List Card) : (keysC l, (keysC l).length, (keysC l).length) = iter (cmpG_f l a b) l.length 0 ([], 0, 0) := by
  rw [iter_all (cmpG_f l a b) (fun s c => if (fun _ => true) c = true then (s.1 ++ [c.key], s.2.1 + 1, s.2.2 + 1) else s) l (fun i s hi => by simp [cmpG_f])]
  rw [fold_fmap (fun _ => true) (fun c : Card => c.key) l, filter_true]; simp [keysC]
def wantK (mine dig : List Card) : List Key := keysC (aheadK (lastK dig) (lastK mine))
def tellK (mine dig : List Card) : List Card := aheadK (lastK mine) (lastK dig)
set_option maxRecDepth 100000 in
theorem cmpG_spec (mine dig : List Card) (hm : mine.length < 20) (hd : dig.length < 20) : ACalls Try.prog 53 [(AV.sl .any 9 (List.map Card.row mine)), (AV.sl .any 9 (List.map Card.row dig))] ([] : Heap) ((AV.tup [(AV.sl .any 2 (List.map Key.row (wantK mine dig))), (AV.sl .any 9 (List.map Card.row (tellK mine dig)))]), ([] : Heap)) := by
  have h1 := lastK_len mine
  have h2 := lastK_len dig
  have h3 := aheadK_len (lastK dig) (lastK mine)
  have h4 := keysC_len (aheadK (lastK dig) (lastK mine))
  refine spec (fn := Try.f53) (ann := cmpG_ann) (t := (.reg [] [] [] (.reg [(1, ((AV.sl .any 9 (List.map Card.row (lastK mine))), ([] : Heap))), (3, ((AV.sl .any 9 (List.map Card.row (lastK dig))), ([] : Heap)))] [] [] (.reg [] [] [] (.reg [(2, ((AV.sl .any 9 (List.map Card.row (aheadK (lastK dig) (lastK mine)))), ([⟨0, 2, (List.map Key.row []), none⟩] : Heap))), (3, ((AV.int .i64 (((aheadK (lastK dig) (lastK mine)).length : Nat) : Int)), ([⟨0, 2, (List.map Key.row []), none⟩] : Heap)))] [] [] (.loop (.exit 0) (mkF 33 [(6, (AV.sl .any 9 (List.map Card.row (lastK mine)))), (7, (AV.sl .any 9 (List.map Card.row (lastK dig)))), (8, (AV.osl 0 (keysC (aheadK (lastK dig) (lastK mine))).length 2 0 (keysC (aheadK (lastK dig) (lastK mine))).length)), (17, (AV.sl .any 9 (List.map Card.row (aheadK (lastK dig) (lastK mine))))), (18, (AV.int .i64 (((aheadK (lastK dig) (lastK mine)).length : Nat) : Int))), (19, (AV.int .i64 (((aheadK (lastK dig) (lastK mine)).length : Nat) : Int)))]) ([⟨(keysC (aheadK (lastK dig) (lastK mine))).length, 2, (List.map Key.row (keysC (aheadK (lastK dig) (lastK mine)))), none⟩] : Heap) (.reg [(3, ((AV.sl .any 9 (List.map Card.row (aheadK (lastK mine) (lastK dig)))), ([⟨((keysC (aheadK (lastK dig) (lastK mine))).length + 1), 2, [], none⟩] : Heap)))] [(8, (List.map Key.row (keysC (aheadK (lastK dig) (lastK mine)))))] [] .nil))))))) (Nat.le_of_ble_eq_true (by kernel_rfl)) ⟨Try.func53, by kernel_rfl, by kernel_rfl, by kernel_rfl⟩ ?_
  refine Eq.mp (by kernel_rfl : ((ACalls Try.prog 96 [(AV.sl .any 9 (List.map Card.row mine))] ([] : Heap) ((AV.sl .any 9 (List.map Card.row (lastK mine))), ([] : Heap))) ∧ (ACalls Try.prog 96 [(AV.sl .any 9 (List.map Card.row dig))] ([] : Heap) ((AV.sl .any 9 (List.map Card.row (lastK dig))), ([] : Heap))) ∧ (ACalls Try.prog 97 [(AV.sl .any 9 (List.map Card.row (lastK dig))), (AV.sl .any 9 (List.map Card.row (lastK mine)))] ([⟨0, 2, (List.map Key.row []), none⟩] : Heap) ((AV.sl .any 9 (List.map Card.row (aheadK (lastK dig) (lastK mine)))), ([⟨0, 2, (List.map Key.row []), none⟩] : Heap))) ∧ (Yes (.int .i64 ((List.length (List.map Card.row (aheadK (lastK dig) (lastK mine))) : Nat) : Int)) ([⟨0, 2, (List.map Key.row []), none⟩] : Heap) (AV.int .i64 (((aheadK (lastK dig) (lastK mine)).length : Nat) : Int))) ∧ (LoopTo (codeQ Try.prog (X cmpG_ann) (loopOf Try.f53 0)) (some [6, 7, 8, 17, 18, 19]) (some [6, 7, 8, 17, 18, 19]) (mkF 33 [(6, (AV.sl .any 9 (List.map Card.row (lastK mine)))), (7, (AV.sl .any 9 (List.map Card.row (lastK dig)))), (8, (AV.osl 0 0 2 0 0)), (17, (AV.sl .any 9 (List.map Card.row (aheadK (lastK dig) (lastK mine))))), (18, (AV.int .i64 (((aheadK (lastK dig) (lastK mine)).length : Nat) : Int))), (19, (AV.int .i64 0))]) ([⟨0, 2, (List.map Key.row []), none⟩] : Heap) (.exit 0) (mkF 33 [(6, (AV.sl .any 9 (List.map Card.row (lastK mine)))), (7, (AV.sl .any 9 (List.map Card.row (lastK dig)))), (8, (AV.osl 0 (keysC (aheadK (lastK dig) (lastK mine))).length 2 0 (keysC (aheadK (lastK dig) (lastK mine))).length)), (17, (AV.sl .any 9 (List.map Card.row (aheadK (lastK dig) (lastK mine))))), (18, (AV.int .i64 (((aheadK (lastK dig) (lastK mine)).length : Nat) : Int))), (19, (AV.int .i64 (((aheadK (lastK dig) (lastK mine)).length : Nat) : Int)))]) ([⟨(keysC (aheadK (lastK dig) (lastK mine))).length, 2, (List.map Key.row (keysC (aheadK (lastK dig) (lastK mine)))), none⟩] : Heap)) ∧ (rowsIn ([⟨(keysC (aheadK (lastK dig) (lastK mine))).length, 2, (List.map Key.row (keysC (aheadK (lastK dig) (lastK mine)))), none⟩] : Heap) 2 (AV.osl 0 (keysC (aheadK (lastK dig) (lastK mine))).length 2 0 (keysC (aheadK (lastK dig) (lastK mine))).length) = some (List.map Key.row (keysC (aheadK (lastK dig) (lastK mine)))) ∧ AV.bddss 0 (List.map Key.row (keysC (aheadK (lastK dig) (lastK mine)))) = true) ∧ (ACalls Try.prog 97 [(AV.sl .any 9 (List.map Card.row (lastK mine))), (AV.sl .any 9 (List.map Card.row (lastK dig)))] ([⟨((keysC (aheadK (lastK dig) (lastK mine))).length + 1), 2, [], none⟩] : Heap) ((AV.sl .any 9 (List.map Card.row (aheadK (lastK mine) (lastK dig)))), ([⟨((keysC (aheadK (lastK dig) (lastK mine))).length + 1), 2, [], none⟩] : Heap))) ∧ (AV.bdd 0 (AV.tup [(AV.sl .any 2 (List.map Key.row (keysC (aheadK (lastK dig) (lastK mine))))), (AV.sl .any 9 (List.map Card.row (aheadK (lastK mine) (lastK dig))))]) = true ∧ obsB 0 ([] : Heap) = true) ∧ ((AV.tup [(AV.sl .any 2 (List.map Key.row (keysC (aheadK (lastK dig) (lastK mine))))), (AV.sl .any 9 (List.map Card.row (aheadK (lastK mine) (lastK dig))))]), ([] : Heap)) = ((AV.tup [(AV.sl .any 2 (List.map Key.row (wantK mine dig))), (AV.sl .any 9 (List.map Card.row (tellK mine dig)))]), ([] : Heap))) = _) ?_
  refine And.intro (last_at mine (by first | omega | assumption | (simp; done) | (simp; omega) | (simp_all; done) | (simp_all; omega)) ([] : Heap)) ?_
  refine And.intro (last_at dig (by first | omega | assumption | (simp; done) | (simp; omega) | (simp_all; done) | (simp_all; omega)) ([] : Heap)) ?_
  refine And.intro (ahead_at (lastK dig) (lastK mine) (by first | omega | assumption | (simp; done) | (simp; omega) | (simp_all; done) | (simp_all; omega)) (by first | omega | assumption | (simp; done) | (simp; omega) | (simp_all; done) | (simp_all; omega)) ([⟨0, 2, (List.map Key.row []), none⟩] : Heap)) ?_
  refine And.intro (Yes.len _ _ _) ?_
  refine And.intro ((cmpG_loop (aheadK (lastK dig) (lastK mine)) (lastK mine) (lastK dig) (by omega) (List.length (aheadK (lastK dig) (lastK mine))) [] 0 0 0 (keysC (aheadK (lastK dig) (lastK mine)), (keysC (aheadK (lastK dig) (lastK mine))).length, (keysC (aheadK (lastK dig) (lastK mine))).length) (by omega) rfl (by omega) (cmpG_iter _ _ _))) ?_
  refine And.intro (And.intro (rowsIn_all (room := none) (by kernel_rfl) (by first | omega | (simp; done) | (simp; omega))) (Key.rows_bdd _ _)) ?_
  refine And.intro (ahead_at (lastK mine) (lastK dig) (by first | omega | assumption | (simp; done) | (simp; omega) | (simp_all; done) | (simp_all; omega)) (by first | omega | assumption | (simp; done) | (simp; omega) | (simp_all; done) | (simp_all; omega)) ([⟨((keysC (aheadK (lastK dig) (lastK mine))).length + 1), 2, [], none⟩] : Heap)) ?_
  refine And.intro (by first | (simp [obsB, AV.bddss, AV.bdds, AV.bdd]; done) | (simp [obsB, AV.bddss, AV.bdds, AV.bdd, -List.map_append]; done) | simp [obsB, AV.bddss, AV.bdds, AV.bdd, -List.map_append, -List.map_set, -List.map_take, -List.map_drop, -List.map_cons, -List.map_map]) ?_
  rfl
theorem cmpG_at (mine dig : List Card) (hm : mine.length < 20) (hd : dig.length < 20) (H : Heap) : ACalls Try.prog 53 [(AV.sl .any 9 (List.map Card.row mine)), (AV.sl .any 9 (List.map Card.row dig))] H ((AV.tup [(AV.sl .any 2 (List.map Key.row (wantK mine dig))), (AV.sl .any 9 (List.map Card.row (tellK mine dig)))]), H) := (cmpG_spec mine dig hm hd).lift (by kernel_rfl) (by kernel_rfl) H
def digK (l : List Card) : List Card := (sortP l).take (min (sortP l).length 64)
def digest_ann : Ann := { fin := some 0 }
set_option maxRecDepth 100000 in
theorem digest_spec (l : List Card) (hl : l.length < 20) : ACalls Try.prog 54 [(AV.sl .any 9 (List.map Card.row l))] ([] : Heap) ((AV.agg [(AV.int .i64 4), (AV.int .i64 0), (AV.int .i64 0), (AV.int .i64 0), (AV.int .i64 0), (AV.int .i64 0), (AV.int .i64 0), (AV.str (ByteArray.mk #[])), (AV.str (ByteArray.mk #[])), (AV.bool false), (AV.int .u32 0), (AV.sl .any 9 (List.map Card.row (digK l))), (AV.sl .nil 0 [])]), ([] : Heap)) := by
  have h1 := sortP_len l
  refine spec (fn := Try.f54) (ann := digest_ann) (t := (.reg [] [] [] (.reg [(1, ((AV.sl .any 9 (List.map Card.row (sortP l))), ([⟨0, 13, [[(AV.int .i64 0), (AV.int .i64 0), (AV.int .i64 0), (AV.int .i64 0), (AV.int .i64 0), (AV.int .i64 0), (AV.int .i64 0), (AV.str (ByteArray.mk #[])), (AV.str (ByteArray.mk #[])), (AV.bool false), (AV.int .u32 0), (AV.sl .nil 0 []), (AV.sl .nil 0 [])]], none⟩] : Heap)))] [] [] (.reg [(2, ((AV.int .i64 (((sortP l).length : Nat) : Int)), ([⟨0, 13, [[(AV.int .i64 0), (AV.int .i64 0), (AV.int .i64 0), (AV.int .i64 0), (AV.int .i64 0), (AV.int .i64 0), (AV.int .i64 0), (AV.str (ByteArray.mk #[])), (AV.str (ByteArray.mk #[])), (AV.bool false), (AV.int .u32 0), (AV.sl .nil 0 []), (AV.sl .nil 0 [])]], none⟩] : Heap))), (3, ((AV.int .i64 ((min (sortP l).length 64 : Nat) : Int)), ([⟨0, 13, [[(AV.int .i64 0), (AV.int .i64 0), (AV.int .i64 0), (AV.int .i64 0), (AV.int .i64 0), (AV.int .i64 0), (AV.int .i64 0), (AV.str (ByteArray.mk #[])), (AV.str (ByteArray.mk #[])), (AV.bool false), (AV.int .u32 0), (AV.sl .nil 0 []), (AV.sl .nil 0 [])]], none⟩] : Heap))), (4, ((AV.sl .any 9 (List.map Card.row ((sortP l).take (min (sortP l).length 64)))), ([⟨0, 13, [[(AV.int .i64 0), (AV.int .i64 0), (AV.int .i64 0), (AV.int .i64 0), (AV.int .i64 0), (AV.int .i64 0), (AV.int .i64 0), (AV.str (ByteArray.mk #[])), (AV.str (ByteArray.mk #[])), (AV.bool false), (AV.int .u32 0), (AV.sl .nil 0 []), (AV.sl .nil 0 [])]], none⟩] : Heap))), (5, ((AV.sl .any 9 (List.map Card.row ((sortP l).take (min (sortP l).length 64)))), ([⟨0, 13, [[(AV.int .i64 0), (AV.int .i64 0), (AV.int .i64 0), (AV.int .i64 0), (AV.int .i64 0), (AV.int .i64 0), (AV.int .i64 0), (AV.str (ByteArray.mk #[])), (AV.str (ByteArray.mk #[])), (AV.bool false), (AV.int .u32 0), (AV.sl .nil 0 []), (AV.sl .nil 0 [])]], none⟩] : Heap)))] [] [] .nil)))) (Nat.le_of_ble_eq_true (by kernel_rfl)) ⟨Try.func54, by kernel_rfl, by kernel_rfl, by kernel_rfl⟩ ?_
  refine Eq.mp (by kernel_rfl : ((ACalls Try.prog 87 [(AV.sl .any 9 (List.map Card.row l))] ([⟨0, 13, [[(AV.int .i64 0), (AV.int .i64 0), (AV.int .i64 0), (AV.int .i64 0), (AV.int .i64 0), (AV.int .i64 0), (AV.int .i64 0), (AV.str (ByteArray.mk #[])), (AV.str (ByteArray.mk #[])), (AV.bool false), (AV.int .u32 0), (AV.sl .nil 0 []), (AV.sl .nil 0 [])]], none⟩] : Heap) ((AV.sl .any 9 (List.map Card.row (sortP l))), ([⟨0, 13, [[(AV.int .i64 0), (AV.int .i64 0), (AV.int .i64 0), (AV.int .i64 0), (AV.int .i64 0), (AV.int .i64 0), (AV.int .i64 0), (AV.str (ByteArray.mk #[])), (AV.str (ByteArray.mk #[])), (AV.bool false), (AV.int .u32 0), (AV.sl .nil 0 []), (AV.sl .nil 0 [])]], none⟩] : Heap))) ∧ (Yes (.int .i64 ((List.length (List.map Card.row (sortP l)) : Nat) : Int)) ([⟨0, 13, [[(AV.int .i64 0), (AV.int .i64 0), (AV.int .i64 0), (AV.int .i64 0), (AV.int .i64 0), (AV.int .i64 0), (AV.int .i64 0), (AV.str (ByteArray.mk #[])), (AV.str (ByteArray.mk #[])), (AV.bool false), (AV.int .u32 0), (AV.sl .nil 0 []), (AV.sl .nil 0 [])]], none⟩] : Heap) (AV.int .i64 (((sortP l).length : Nat) : Int))) ∧ (Yes (.int .i64 (if 64 < (((sortP l).length : Nat) : Int) then 64 else (((sortP l).length : Nat) : Int))) ([⟨0, 13, [[(AV.int .i64 0), (AV.int .i64 0), (AV.int .i64 0), (AV.int .i64 0), (AV.int .i64 0), (AV.int .i64 0), (AV.int .i64 0), (AV.str (ByteArray.mk #[])), (AV.str (ByteArray.mk #[])), (AV.bool false), (AV.int .u32 0), (AV.sl .nil 0 []), (AV.sl .nil 0 [])]], none⟩] : Heap) (AV.int .i64 ((min (sortP l).length 64 : Nat) : Int))) ∧ (Option.map (fun a => (a, ([⟨0, 13, [[(AV.int .i64 0), (AV.int .i64 0), (AV.int .i64 0), (AV.int .i64 0), (AV.int .i64 0), (AV.int .i64 0), (AV.int .i64 0), (AV.str (ByteArray.mk #[])), (AV.str (ByteArray.mk #[])), (AV.bool false), (AV.int .u32 0), (AV.sl .nil 0 []), (AV.sl .nil 0 [])]], none⟩] : Heap))) (if 9 = 9 ∨ ((List.map Card.row (sortP l))).isEmpty = true then (bounds 0 ((min (sortP l).length 64 : Nat) : Int) (List.length (List.map Card.row (sortP l)))).map fun p => AV.sl .any 9 ((List.take p.2 (List.map Card.row (sortP l))).drop p.1) else none) = some ((AV.sl .any 9 (List.map Card.row ((sortP l).take (min (sortP l).length 64)))), ([⟨0, 13, [[(AV.int .i64 0), (AV.int .i64 0), (AV.int .i64 0), (AV.int .i64 0), (AV.int .i64 0), (AV.int .i64 0), (AV.int .i64 0), (AV.str (ByteArray.mk #[])), (AV.str (ByteArray.mk #[])), (AV.bool false), (AV.int .u32 0), (AV.sl .nil 0 []), (AV.sl .nil 0 [])]], none⟩] : Heap))) ∧ (ACalls Try.prog 98 [(AV.sl .any 9 (List.map Card.row ((sortP l).take (min (sortP l).length 64))))] ([⟨0, 13, [[(AV.int .i64 0), (AV.int .i64 0), (AV.int .i64 0), (AV.int .i64 0), (AV.int .i64 0), (AV.int .i64 0), (AV.int .i64 0), (AV.str (ByteArray.mk #[])), (AV.str (ByteArray.mk #[])), (AV.bool false), (AV.int .u32 0), (AV.sl .nil 0 []), (AV.sl .nil 0 [])]], none⟩] : Heap) ((AV.sl .any 9 (List.map Card.row ((sortP l).take (min (sortP l).length 64)))), ([⟨0, 13, [[(AV.int .i64 0), (AV.int .i64 0), (AV.int .i64 0), (AV.int .i64 0), (AV.int .i64 0), (AV.int .i64 0), (AV.int .i64 0), (AV.str (ByteArray.mk #[])), (AV.str (ByteArray.mk #[])), (AV.bool false), (AV.int .u32 0), (AV.sl .nil 0 []), (AV.sl .nil 0 [])]], none⟩] : Heap))) ∧ (AV.bdd 0 (AV.agg [(AV.int .i64 4), (AV.int .i64 0), (AV.int .i64 0), (AV.int .i64 0), (AV.int .i64 0), (AV.int .i64 0), (AV.int .i64 0), (AV.str (ByteArray.mk #[])), (AV.str (ByteArray.mk #[])), (AV.bool false), (AV.int .u32 0), (AV.sl .any 9 (List.map Card.row ((sortP l).take (min (sortP l).length 64)))), (AV.sl .nil 0 [])]) = true ∧ obsB 0 ([] : Heap) = true) ∧ ((AV.agg [(AV.int .i64 4), (AV.int .i64 0), (AV.int .i64 0), (AV.int .i64 0), (AV.int .i64 0), (AV.int .i64 0), (AV.int .i64 0), (AV.str (ByteArray.mk #[])), (AV.str (ByteArray.mk #[])), (AV.bool false), (AV.int .u32 0), (AV.sl .any 9 (List.map Card.row ((sortP l).take (min (sortP l).length 64)))), (AV.sl .nil 0 [])]), ([] : Heap)) = ((AV.agg [(AV.int .i64 4), (AV.int .i64 0), (AV.int .i64 0), (AV.int .i64 0), (AV.int .i64 0), (AV.int .i64 0), (AV.int .i64 0), (AV.str (ByteArray.mk #[])), (AV.str (ByteArray.mk #[])), (AV.bool false), (AV.int .u32 0), (AV.sl .any 9 (List.map Card.row (digK l))), (AV.sl .nil 0 [])]), ([] : Heap))) = _) ?_
  refine And.intro (sortCard_at l (by first | omega | assumption | (simp; done) | (simp; omega) | (simp_all; done) | (simp_all; omega)) ([⟨0, 13, [[(AV.int .i64 0), (AV.int .i64 0), (AV.int .i64 0), (AV.int .i64 0), (AV.int .i64 0), (AV.int .i64 0), (AV.int .i64 0), (AV.str (ByteArray.mk #[])), (AV.str (ByteArray.mk #[])), (AV.bool false), (AV.int .u32 0), (AV.sl .nil 0 []), (AV.sl .nil 0 [])]], none⟩] : Heap)) ?_
  refine And.intro (Yes.len _ _ _) ?_
  refine And.intro (Yes.int (by split <;> omega)) ?_
  refine And.intro (slice_sl (l := 0) (h := min (sortP l).length 64) (by first | omega | (simp; done) | (simp; omega)) (by first | omega | (simp; done) | (simp; omega)) (by first | omega | (simp; done) | (simp; omega)) (by first | omega | (simp; done) | (simp; omega)) (by simp [List.map_take, List.map_drop, List.take_of_length_le])) ?_
  refine And.intro (cloneCF_at ((sortP l).take (min (sortP l).length 64)) (by first | omega | assumption | (simp; done) | (simp; omega) | (simp_all; done) | (simp_all; omega)) ([⟨0, 13, [[(AV.int .i64 0), (AV.int .i64 0), (AV.int .i64 0), (AV.int .i64 0), (AV.int .i64 0), (AV.int .i64 0), (AV.int .i64 0), (AV.str (ByteArray.mk #[])), (AV.str (ByteArray.mk #[])), (AV.bool false), (AV.int .u32 0), (AV.sl .nil 0 []), (AV.sl .nil 0 [])]], none⟩] : Heap)) ?_
  refine And.intro (by first | (simp [obsB, AV.bddss, AV.bdds, AV.bdd]; done) | (simp [obsB, AV.bddss, AV.bdds, AV.bdd, -List.map_append]; done) | simp [obsB, AV.bddss, AV.bdds, AV.bdd, -List.map_append, -List.map_set, -List.map_take, -List.map_drop, -List.map_cons, -List.map_map]) ?_
  rfl
theorem digest_at (l : List Card) (hl : l.length < 20) (H : Heap) : ACalls Try.prog 54 [(AV.sl .any 9 (List.map Card.row l))] H ((AV.agg [(AV.int .i64 4), (AV.int .i64 0), (AV.int .i64 0), (AV.int .i64 0), (AV.int .i64 0), (AV.int .i64 0), (AV.int .i64 0), (AV.str (ByteArray.mk #[])), (AV.str (ByteArray.mk #[])), (AV.bool false), (AV.int .u32 0), (AV.sl .any 9 (List.map Card.row (digK l))), (AV.sl .nil 0 [])]), H) := (digest_spec l hl).lift (by kernel_rfl) (by kernel_rfl) H
def ixKey_ann : Ann := { refs := [3], fin := some 0, live := [(2, [0, 3, 7, 8])], out := [(2, [4])] }
set_option maxRecDepth 100000 in
theorem ixKey_step (v : Key) (l : List Key) (i : Nat) (hl : l.length < 1099511627776) (hi : i ≤ l.length) {eX : Ex} {FX : Fr} {HX : Heap} (k1 : (decide (((i : Nat) : Int) < ((l.length : Nat) : Int))) = true → (Key.eqb v (nth l i)) = true → ((.ret : Ex), (mkF 19 [(4, (AV.int .i64 ((i : Nat) : Int)))]), ([] : Heap)) = (eX, FX, HX)) (k2 : (decide (((i : Nat) : Int) < ((l.length : Nat) : Int))) = true → (Key.eqb v (nth l i)) = false → LoopTo (codeQ Try.prog (X ixKey_ann) (loopOf Try.f130 0)) (some [0, 3, 7, 8]) (some [4]) (mkF 19 [(0, (AV.sl .any 2 (List.map Key.row l))), (3, (AV.ref (Key.row v) 0)), (7, (AV.int .i64 ((l.length : Nat) : Int))), (8, (AV.int .i64 ((i + 1 : Nat) : Int)))]) ([] : Heap) eX FX HX) (k3 : (decide (((i : Nat) : Int) < ((l.length : Nat) : Int))) = false → ((.exit 0 : Ex), (mkF 19 []), ([] : Heap)) = (eX, FX, HX)) : LoopTo (codeQ Try.prog (X ixKey_ann) (loopOf Try.f130 0)) (some [0, 3, 7, 8]) (some [4]) (mkF 19 [(0, (AV.sl .any 2 (List.map Key.row l))), (3, (AV.ref (Key.row v) 0)), (7, (AV.int .i64 ((l.length : Nat) : Int))), (8, (AV.int .i64 ((i : Nat) : Int)))]) ([] : Heap) eX FX HX := by
  refine LoopTo.step (.reg [] [] [] (.two (.reg [] [] [] (.reg [(3, ((AV.ref (Key.row (nth l i)) 0), ([] : Heap)))] [] [] (.two (.reg [] [] [] .nil) (.reg [(0, ((AV.int .i64 ((i + 1 : Nat) : Int)), ([] : Heap)))] [] [] .nil)))) .nil)) ?_
  refine Eq.mp (by kernel_rfl : (cond (decide (((i : Nat) : Int) < ((l.length : Nat) : Int))) ((IdxSl 2 2 (List.map Key.row l) ((i : Nat) : Int) ([] : Heap) (Key.row (nth l i))) ∧ cond (Key.eqb v (nth l i)) (((.ret : Ex), (mkF 19 [(4, (AV.int .i64 ((i : Nat) : Int)))]), ([] : Heap)) = (eX, FX, HX)) ((Yes (.int .i64 (IntKind.i64.wrap (((i : Nat) : Int) + 1))) ([] : Heap) (AV.int .i64 ((i + 1 : Nat) : Int))) ∧ LoopTo (codeQ Try.prog (X ixKey_ann) (loopOf Try.f130 0)) (some [0, 3, 7, 8]) (some [4]) (mkF 19 [(0, (AV.sl .any 2 (List.map Key.row l))), (3, (AV.ref (Key.row v) 0)), (7, (AV.int .i64 ((l.length : Nat) : Int))), (8, (AV.int .i64 ((i + 1 : Nat) : Int)))]) ([] : Heap) eX FX HX)) (((.exit 0 : Ex), (mkF 19 []), ([] : Heap)) = (eX, FX, HX))) = _) ?_
  refine cond_split (fun h1 => ?_) (fun h1 => ?_)
  · have h1' := h1
    try simp at h1'
    refine And.intro (IdxSl.mk _ (by omega) (by omega)) ?_
    refine cond_split (fun h2 => ?_) (fun h2 => ?_)
    · have h2' := h2
      try simp at h2'
      exact k1 h1 h2
    · have h2' := h2
      try simp at h2'
      refine And.intro (Yes.add (by omega) (by omega) (by omega)) ?_
      exact k2 h1 h2
  · have h1' := h1
    try simp at h1'
    exact k3 h1
theorem ixKey_some (v : Key) (l : List Key) (hl : l.length < 1099511627776) (n : Nat) (hn : n < l.length) (hp : Key.eqb v (nth l n) = true) (r : Nat) : ∀ (i : Nat), i + r = n → (∀ j, i ≤ j → j < n → Key.eqb v (nth l j) = false) →
    LoopTo (codeQ Try.prog (X ixKey_ann) (loopOf Try.f130 0)) (some [0, 3, 7, 8]) (some [4]) (mkF 19 [(0, (AV.sl .any 2 (List.map Key.row l))), (3, (AV.ref (Key.row v) 0)), (7, (AV.int .i64 ((l.length : Nat) : Int))), (8, (AV.int .i64 ((i : Nat) : Int)))]) ([] : Heap) (.ret) (mkF 19 [(4, (AV.int .i64 ((n : Nat) : Int)))]) ([] : Heap) := by
  induction r with
  | zero =>
    intro i hi h
    obtain rfl : i = n := by omega
    refine ixKey_step v l i hl (by omega) (fun _ _ => rfl) (fun _ h2 => ?_) (fun h1 => ?_)
    · rw [hp] at h2; simp at h2
    · simp at h1; omega
  | succ r ih =>
    intro i hi h
    refine ixKey_step v l i hl (by omega) (fun _ h2 => ?_) (fun _ h2 => ?_) (fun h1 => ?_)
    · rw [h i (Nat.le_refl _) (by omega)] at h2; simp at h2
    · exact ih (i + 1) (by omega) (fun j h3 h4 => h j (by omega) h4)
    · simp at h1; omega
theorem ixKey_none (v : Key) (l : List Key) (hl : l.length < 1099511627776) (r : Nat) : ∀ (i : Nat), i + r = l.length → (∀ j, i ≤ j → j < l.length → Key.eqb v (nth l j) = false) →
    LoopTo (codeQ Try.prog (X ixKey_ann) (loopOf Try.f130 0)) (some [0, 3, 7, 8]) (some [4]) (mkF 19 [(0, (AV.sl .any 2 (List.map Key.row l))), (3, (AV.ref (Key.row v) 0)), (7, (AV.int .i64 ((l.length : Nat) : Int))), (8, (AV.int .i64 ((i : Nat) : Int)))]) ([] : Heap) (.exit 0) (mkF 19 []) ([] : Heap) := by
  induction r with
  | zero =>
    intro i hi h
    refine ixKey_step v l i hl (by omega) (fun h1 _ => ?_) (fun h1 h2 => ?_) (fun h1 => rfl)
    · simp at h1; omega
    · simp at h1; omega
  | succ r ih =>
    intro i hi h
    refine ixKey_step v l i hl (by omega) (fun _ h2 => ?_) (fun _ h2 => ?_) (fun h1 => ?_)
    · rw [h i (Nat.le_refl _) (by omega)] at h2; simp at h2
    · exact ih (i + 1) (by omega) (fun j h3 h4 => h j (by omega) h4)
    · simp at h1; omega
set_option maxRecDepth 100000 in
theorem ixKeyS_spec (v : Key) (l : List Key) (n : Nat) (hl : l.length < 1099511627776) (hn : n < l.length) (hp : Key.eqb v (nth l n) = true) (h : ∀ j, 0 ≤ j → j < n → Key.eqb v (nth l j) = false) : ACalls Try.prog 130 [(AV.sl .any 2 (List.map Key.row l)), (AV.agg (Key.row v))] ([] : Heap) ((AV.int .i64 ((n : Nat) : Int)), ([] : Heap)) := by
  refine spec (fn := Try.f130) (ann := ixKey_ann) (t := (.reg [] [] [] (.reg [(1, ((AV.int .i64 ((l.length : Nat) : Int)), ([] : Heap)))] [] [] (.loop (.ret) (mkF 19 [(4, (AV.int .i64 ((n : Nat) : Int)))]) ([] : Heap) .nil)))) (Nat.le_of_ble_eq_true (by kernel_rfl)) ⟨Try.func130, by kernel_rfl, by kernel_rfl, by kernel_rfl⟩ ?_
  refine Eq.mp (by kernel_rfl : ((Yes (.int .i64 ((List.length (List.map Key.row l) : Nat) : Int)) ([] : Heap) (AV.int .i64 ((l.length : Nat) : Int))) ∧ (LoopTo (codeQ Try.prog (X ixKey_ann) (loopOf Try.f130 0)) (some [0, 3, 7, 8]) (some [4]) (mkF 19 [(0, (AV.sl .any 2 (List.map Key.row l))), (3, (AV.ref (Key.row v) 0)), (7, (AV.int .i64 ((l.length : Nat) : Int))), (8, (AV.int .i64 0))]) ([] : Heap) (.ret) (mkF 19 [(4, (AV.int .i64 ((n : Nat) : Int)))]) ([] : Heap)) ∧ (AV.bdd 0 (AV.int .i64 ((n : Nat) : Int)) = true ∧ obsB 0 ([] : Heap) = true) ∧ ((AV.int .i64 ((n : Nat) : Int)), ([] : Heap)) = ((AV.int .i64 ((n : Nat) : Int)), ([] : Heap))) = _) ?_
  refine And.intro (Yes.len _ _ _) ?_
  refine And.intro ((ixKey_some v l hl n hn hp n 0 (by omega) h)) ?_
  refine And.intro (by first | (simp [obsB, AV.bddss, AV.bdds, AV.bdd]; done) | (simp [obsB, AV.bddss, AV.bdds, AV.bdd, -List.map_append]; done) | simp [obsB, AV.bddss, AV.bdds, AV.bdd, -List.map_append, -List.map_set, -List.map_take, -List.map_drop, -List.map_cons, -List.map_map]) ?_
  rfl
set_option maxRecDepth 100000 in
theorem ixKeyN_spec (v : Key) (l : List Key) (hl : l.length < 1099511627776) (h : ∀ j, 0 ≤ j → j < l.length → Key.eqb v (nth l j) = false) : ACalls Try.prog 130 [(AV.sl .any 2 (List.map Key.row l)), (AV.agg (Key.row v))] ([] : Heap) ((AV.int .i64 (-1)), ([] : Heap)) := by
  refine spec (fn := Try.f130) (ann := ixKey_ann) (t := (.reg [] [] [] (.reg [(1, ((AV.int .i64 ((l.length : Nat) : Int)), ([] : Heap)))] [] [] (.loop (.exit 0) (mkF 19 []) ([] : Heap) (.reg [] [] [] .nil))))) (Nat.le_of_ble_eq_true (by kernel_rfl)) ⟨Try.func130, by kernel_rfl, by kernel_rfl, by kernel_rfl⟩ ?_
  refine Eq.mp (by kernel_rfl : ((Yes (.int .i64 ((List.length (List.map Key.row l) : Nat) : Int)) ([] : Heap) (AV.int .i64 ((l.length : Nat) : Int))) ∧ (LoopTo (codeQ Try.prog (X ixKey_ann) (loopOf Try.f130 0)) (some [0, 3, 7, 8]) (some [4]) (mkF 19 [(0, (AV.sl .any 2 (List.map Key.row l))), (3, (AV.ref (Key.row v) 0)), (7, (AV.int .i64 ((l.length : Nat) : Int))), (8, (AV.int .i64 0))]) ([] : Heap) (.exit 0) (mkF 19 []) ([] : Heap)) ∧ (AV.bdd 0 (AV.int .i64 (-1)) = true ∧ obsB 0 ([] : Heap) = true) ∧ ((AV.int .i64 (-1)), ([] : Heap)) = ((AV.int .i64 (-1)), ([] : Heap))) = _) ?_
  refine And.intro (Yes.len _ _ _) ?_
  refine And.intro ((ixKey_none v l hl l.length 0 (by omega) h)) ?_
  refine And.intro (by first | (simp [obsB, AV.bddss, AV.bdds, AV.bdd]; done) | (simp [obsB, AV.bddss, AV.bdds, AV.bdd, -List.map_append]; done) | simp [obsB, AV.bddss, AV.bdds, AV.bdd, -List.map_append, -List.map_set, -List.map_take, -List.map_drop, -List.map_cons, -List.map_map]) ?_
  rfl
theorem ixKey_spec (v : Key) (l : List Key) (hl : l.length < 1099511627776) : ACalls Try.prog 130 [(AV.sl .any 2 (List.map Key.row l)), (AV.agg (Key.row v))] ([] : Heap) ((AV.int .i64 (ixI (Key.eqb v) l)), ([] : Heap)) := by
  unfold ixI
  cases h : ixOf (Key.eqb v) l 0 with
  | none => exact ixKeyN_spec v l hl (fun j _ hj => ixOf_none l 0 h j hj)
  | some n =>
    obtain ⟨_, h2, h3, h4⟩ := ixOf_some l 0 n h
    exact ixKeyS_spec v l n hl (by omega) h3 (fun j _ hj => h4 j hj)
theorem ixKey_at (v : Key) (l : List Key) (hl : l.length < 1099511627776) (H : Heap) : ACalls Try.prog 130 [(AV.sl .any 2 (List.map Key.row l)), (AV.agg (Key.row v))] H ((AV.int .i64 (ixI (Key.eqb v) l)), H) := (ixKey_spec v l hl).lift (by kernel_rfl) (by kernel_rfl) H
def hasK (l : List Key) (v : Key) : Bool := decide (ixI (Key.eqb v) l ≥ 0)
def hasKey_ann : Ann := { refs := [3], fin := some 0 }
set_option maxRecDepth 100000 in
theorem hasKey_spec (l : List Key) (v : Key) (hl : l.length < 1099511627776) : ACalls Try.prog 100 [(AV.sl .any 2 (List.map Key.row l)), (AV.agg (Key.row v))] ([] : Heap) ((AV.bool (hasK l v)), ([] : Heap)) := by
  refine spec (fn := Try.f100) (ann := hasKey_ann) (t := (.reg [] [] [] (.reg [(2, ((AV.int .i64 (ixI (Key.eqb v) l)), ([] : Heap)))] [] [] .nil))) (Nat.le_of_ble_eq_true (by kernel_rfl)) ⟨Try.func100, by kernel_rfl, by kernel_rfl, by kernel_rfl⟩ ?_
  refine Eq.mp (by kernel_rfl : ((ACalls Try.prog 130 [(AV.sl .any 2 (List.map Key.row l)), (AV.agg (Key.row v))] ([] : Heap) ((AV.int .i64 (ixI (Key.eqb v) l)), ([] : Heap))) ∧ (AV.bdd 0 (AV.bool (decide ((ixI (Key.eqb v) l) ≥ 0))) = true ∧ obsB 0 ([] : Heap) = true) ∧ ((AV.bool (decide ((ixI (Key.eqb v) l) ≥ 0))), ([] : Heap)) = ((AV.bool (hasK l v)), ([] : Heap))) = _) ?_
  refine And.intro (ixKey_at v l (by first | omega | assumption | (simp; done) | (simp; omega) | (simp_all; done) | (simp_all; omega)) ([] : Heap)) ?_
  refine And.intro (by first | (simp [obsB, AV.bddss, AV.bdds, AV.bdd]; done) | (simp [obsB, AV.bddss, AV.bdds, AV.bdd, -List.map_append]; done) | simp [obsB, AV.bddss, AV.bdds, AV.bdd, -List.map_append, -List.map_set, -List.map_take, -List.map_drop, -List.map_cons, -List.map_map]) ?_
  rfl
theorem hasKey_at (l : List Key) (v : Key) (hl : l.length < 1099511627776) (H : Heap) : ACalls Try.prog 100 [(AV.sl .any 2 (List.map Key.row l)), (AV.agg (Key.row v))] H ((AV.bool (hasK l v)), H) := (hasKey_spec l v hl).lift (by kernel_rfl) (by kernel_rfl) H
def answer_ann : Ann := { gh := [(10, .frz 6)], gha := [(2, .vir 6 9), (9, .cut 1)], fin := some 0, live := [(4, [1, 5, 6, 13, 14, 15])], out := [(4, [1, 5, 6, 13, 14, 15])] }
set_option maxRecDepth 100000 in
theorem answer_step (keys : List Key) (l : List Card) (out : List Card) (k : Nat) (g : Nat) (i : Nat) (hl : l.length < 1048576) (hks : keys.length < 1048576) (hk : k = out.length) (hki : k ≤ i) (hle_ : i ≤ keys.length) {eX : Ex} {FX : Fr} {HX : Heap} (k1 : (decide (((i : Nat) : Int) < ((keys.length : Nat) : Int))) = true → (inC l (nth keys i)) = true → (!(hasK (keys.take i) (nth keys i))) = true → LoopTo (codeQ Try.prog (X answer_ann) (loopOf Try.f56 0)) (some [1, 5, 6, 13, 14, 15]) (some [1, 5, 6, 13, 14, 15]) (mkF 41 [(1, (AV.sl .any 2 (List.map Key.row keys))), (5, (AV.sl .any 9 (List.map Card.row l))), (6, (AV.osl 0 (g + 1) 9 0 (k + 1))), (13, (AV.sl .any 2 (List.map Key.row keys))), (14, (AV.int .i64 ((keys.length : Nat) : Int))), (15, (AV.int .i64 ((i + 1 : Nat) : Int)))]) ([⟨(g + 1), 9, (List.map Card.row (out ++ [(findC l (nth keys i))])), none⟩] : Heap) eX FX HX) (k2 : (decide (((i : Nat) : Int) < ((keys.length : Nat) : Int))) = true → (inC l (nth keys i)) = true → (!(hasK (keys.take i) (nth keys i))) = false → LoopTo (codeQ Try.prog (X answer_ann) (loopOf Try.f56 0)) (some [1, 5, 6, 13, 14, 15]) (some [1, 5, 6, 13, 14, 15]) (mkF 41 [(1, (AV.sl .any 2 (List.map Key.row keys))), (5, (AV.sl .any 9 (List.map Card.row l))), (6, (AV.osl 0 g 9 0 k)), (13, (AV.sl .any 2 (List.map Key.row keys))), (14, (AV.int .i64 ((keys.length : Nat) : Int))), (15, (AV.int .i64 ((i + 1 : Nat) : Int)))]) ([⟨g, 9, (List.map Card.row out), none⟩] : Heap) eX FX HX) (k3 : (decide (((i : Nat) : Int) < ((keys.length : Nat) : Int))) = true → (inC l (nth keys i)) = false → LoopTo (codeQ Try.prog (X answer_ann) (loopOf Try.f56 0)) (some [1, 5, 6, 13, 14, 15]) (some [1, 5, 6, 13, 14, 15]) (mkF 41 [(1, (AV.sl .any 2 (List.map Key.row keys))), (5, (AV.sl .any 9 (List.map Card.row l))), (6, (AV.osl 0 g 9 0 k)), (13, (AV.sl .any 2 (List.map Key.row keys))), (14, (AV.int .i64 ((keys.length : Nat) : Int))), (15, (AV.int .i64 ((i + 1 : Nat) : Int)))]) ([⟨g, 9, (List.map Card.row out), none⟩] : Heap) eX FX HX) (k4 : (decide (((i : Nat) : Int) < ((keys.length : Nat) : Int))) = false → ((.exit 0 : Ex), (mkF 41 [(1, (AV.sl .any 2 (List.map Key.row keys))), (5, (AV.sl .any 9 (List.map Card.row l))), (6, (AV.osl 0 g 9 0 k)), (13, (AV.sl .any 2 (List.map Key.row keys))), (14, (AV.int .i64 ((keys.length : Nat) : Int))), (15, (AV.int .i64 ((i : Nat) : Int)))]), ([⟨g, 9, (List.map Card.row out), none⟩] : Heap)) = (eX, FX, HX)) : LoopTo (codeQ Try.prog (X answer_ann) (loopOf Try.f56 0)) (some [1, 5, 6, 13, 14, 15]) (some [1, 5, 6, 13, 14, 15]) (mkF 41 [(1, (AV.sl .any 2 (List.map Key.row keys))), (5, (AV.sl .any 9 (List.map Card.row l))), (6, (AV.osl 0 g 9 0 k)), (13, (AV.sl .any 2 (List.map Key.row keys))), (14, (AV.int .i64 ((keys.length : Nat) : Int))), (15, (AV.int .i64 ((i : Nat) : Int)))]) ([⟨g, 9, (List.map Card.row out), none⟩] : Heap) eX FX HX := by
  refine LoopTo.step (.reg [] [] [] (.two (.reg [(1, ((AV.ref (Key.row (nth keys i)) 0), ([⟨g, 9, (List.map Card.row out), none⟩, ⟨0, 2, [[(AV.str (ByteArray.mk #[])), (AV.str (ByteArray.mk #[]))]], none⟩] : Heap)))] [] [] (.reg [(2, ((AV.tup [(AV.agg (Card.row (findC l (nth keys i)))), (AV.bool (inC l (nth keys i)))]), ([⟨g, 9, (List.map Card.row out), none⟩, ⟨0, 2, [(Key.row (nth keys i))], none⟩, ⟨0, 9, [[(AV.str (ByteArray.mk #[])), (AV.str (ByteArray.mk #[])), (AV.int .i64 0), (AV.int .i64 0), (AV.int .i64 0), (AV.int .i64 0), (AV.int .i64 0), (AV.int .i64 0), (AV.bool false)]], none⟩] : Heap)))] [] [] (.reg [(4, ((AV.sl .any 2 (List.map Key.row (keys.take i))), ([⟨g, 9, (List.map Card.row out), none⟩, ⟨0, 2, [(Key.row (nth keys i))], none⟩, ⟨0, 9, [(Card.row (findC l (nth keys i)))], none⟩] : Heap))), (6, ((AV.bool (hasK (keys.take i) (nth keys i))), ([⟨g, 9, (List.map Card.row out), none⟩, ⟨0, 2, [(Key.row (nth keys i))], none⟩, ⟨0, 9, [(Card.row (findC l (nth keys i)))], none⟩] : Heap)))] [] [] (.two (.two (.two (.two (.two (.two (.two (.reg [(3, ((AV.osl 0 (g + 1) 9 0 (k + 1)), ([⟨(g + 1), 9, (List.map Card.row (out ++ [(findC l (nth keys i))])), none⟩, ⟨0, 2, [(Key.row (nth keys i))], none⟩, ⟨0, 9, [(Card.row (findC l (nth keys i)))], none⟩] : Heap)))] [] [] (.reg [(0, ((AV.int .i64 ((i + 1 : Nat) : Int)), ([⟨(g + 1), 9, (List.map Card.row (out ++ [(findC l (nth keys i))])), none⟩, ⟨0, 2, [(Key.row (nth keys i))], none⟩, ⟨0, 9, [(Card.row (findC l (nth keys i)))], none⟩] : Heap)))] [] [] .nil)) (.reg [(0, ((AV.int .i64 ((i + 1 : Nat) : Int)), ([⟨g, 9, (List.map Card.row out), none⟩, ⟨0, 2, [(Key.row (nth keys i))], none⟩, ⟨0, 9, [(Card.row (findC l (nth keys i)))], none⟩] : Heap)))] [] [] .nil)) .nil) .nil) .nil) .nil) .nil) (.two .nil (.two .nil (.two .nil (.two .nil (.two .nil (.two .nil (.reg [(0, ((AV.int .i64 ((i + 1 : Nat) : Int)), ([⟨g, 9, (List.map Card.row out), none⟩, ⟨0, 2, [(Key.row (nth keys i))], none⟩, ⟨0, 9, [(Card.row (findC l (nth keys i)))], none⟩] : Heap)))] [] [] .nil))))))))))) .nil)) ?_
  refine Eq.mp (by kernel_rfl : (cond (decide (((i : Nat) : Int) < ((keys.length : Nat) : Int))) ((IdxSl 2 2 (List.map Key.row keys) ((i : Nat) : Int) ([⟨g, 9, (List.map Card.row out), none⟩, ⟨0, 2, [[(AV.str (ByteArray.mk #[])), (AV.str (ByteArray.mk #[]))]], none⟩] : Heap) (Key.row (nth keys i))) ∧ (ACalls Try.prog 99 [(AV.sl .any 9 (List.map Card.row l)), (AV.agg (Key.row (nth keys i)))] ([⟨g, 9, (List.map Card.row out), none⟩, ⟨0, 2, [(Key.row (nth keys i))], none⟩, ⟨0, 9, [[(AV.str (ByteArray.mk #[])), (AV.str (ByteArray.mk #[])), (AV.int .i64 0), (AV.int .i64 0), (AV.int .i64 0), (AV.int .i64 0), (AV.int .i64 0), (AV.int .i64 0), (AV.bool false)]], none⟩] : Heap) ((AV.tup [(AV.agg (Card.row (findC l (nth keys i)))), (AV.bool (inC l (nth keys i)))]), ([⟨g, 9, (List.map Card.row out), none⟩, ⟨0, 2, [(Key.row (nth keys i))], none⟩, ⟨0, 9, [[(AV.str (ByteArray.mk #[])), (AV.str (ByteArray.mk #[])), (AV.int .i64 0), (AV.int .i64 0), (AV.int .i64 0), (AV.int .i64 0), (AV.int .i64 0), (AV.int .i64 0), (AV.bool false)]], none⟩] : Heap))) ∧ cond (inC l (nth keys i)) ((Option.map (fun a => (a, ([⟨g, 9, (List.map Card.row out), none⟩, ⟨0, 2, [(Key.row (nth keys i))], none⟩, ⟨0, 9, [(Card.row (findC l (nth keys i)))], none⟩] : Heap))) (if 2 = 2 ∨ ((List.map Key.row keys)).isEmpty = true then (bounds 0 ((i : Nat) : Int) (List.length (List.map Key.row keys))).map fun p => AV.sl .any 2 ((List.take p.2 (List.map Key.row keys)).drop p.1) else none) = some ((AV.sl .any 2 (List.map Key.row (keys.take i))), ([⟨g, 9, (List.map Card.row out), none⟩, ⟨0, 2, [(Key.row (nth keys i))], none⟩, ⟨0, 9, [(Card.row (findC l (nth keys i)))], none⟩] : Heap))) ∧ (ACalls Try.prog 100 [(AV.sl .any 2 (List.map Key.row (keys.take i))), (AV.agg (Key.row (nth keys i)))] ([⟨g, 9, (List.map Card.row out), none⟩, ⟨0, 2, [(Key.row (nth keys i))], none⟩, ⟨0, 9, [(Card.row (findC l (nth keys i)))], none⟩] : Heap) ((AV.bool (hasK (keys.take i) (nth keys i))), ([⟨g, 9, (List.map Card.row out), none⟩, ⟨0, 2, [(Key.row (nth keys i))], none⟩, ⟨0, 9, [(Card.row (findC l (nth keys i)))], none⟩] : Heap))) ∧ cond (!(hasK (keys.take i) (nth keys i))) ((evAppend tt ([⟨g, 9, (List.map Card.row out), none⟩, ⟨0, 2, [(Key.row (nth keys i))], none⟩, ⟨0, 9, [(Card.row (findC l (nth keys i)))], none⟩] : Heap) 48 (AV.osl 0 g 9 0 k) (AV.sl .clip 9 [(Card.row (findC l (nth keys i)))]) = some ((AV.osl 0 (g + 1) 9 0 (k + 1)), ([⟨(g + 1), 9, (List.map Card.row (out ++ [(findC l (nth keys i))])), none⟩, ⟨0, 2, [(Key.row (nth keys i))], none⟩, ⟨0, 9, [(Card.row (findC l (nth keys i)))], none⟩] : Heap))) ∧ (Yes (.int .i64 (IntKind.i64.wrap (((i : Nat) : Int) + 1))) ([⟨(g + 1), 9, (List.map Card.row (out ++ [(findC l (nth keys i))])), none⟩, ⟨0, 2, [(Key.row (nth keys i))], none⟩, ⟨0, 9, [(Card.row (findC l (nth keys i)))], none⟩] : Heap) (AV.int .i64 ((i + 1 : Nat) : Int))) ∧ (obsB 1 ([⟨(g + 1), 9, (List.map Card.row (out ++ [(findC l (nth keys i))])), none⟩] : Heap) = true) ∧ LoopTo (codeQ Try.prog (X answer_ann) (loopOf Try.f56 0)) (some [1, 5, 6, 13, 14, 15]) (some [1, 5, 6, 13, 14, 15]) (mkF 41 [(1, (AV.sl .any 2 (List.map Key.row keys))), (5, (AV.sl .any 9 (List.map Card.row l))), (6, (AV.osl 0 (g + 1) 9 0 (k + 1))), (13, (AV.sl .any 2 (List.map Key.row keys))), (14, (AV.int .i64 ((keys.length : Nat) : Int))), (15, (AV.int .i64 ((i + 1 : Nat) : Int)))]) ([⟨(g + 1), 9, (List.map Card.row (out ++ [(findC l (nth keys i))])), none⟩] : Heap) eX FX HX) ((Yes (.int .i64 (IntKind.i64.wrap (((i : Nat) : Int) + 1))) ([⟨g, 9, (List.map Card.row out), none⟩, ⟨0, 2, [(Key.row (nth keys i))], none⟩, ⟨0, 9, [(Card.row (findC l (nth keys i)))], none⟩] : Heap) (AV.int .i64 ((i + 1 : Nat) : Int))) ∧ (obsB 1 ([⟨g, 9, (List.map Card.row out), none⟩] : Heap) = true) ∧ LoopTo (codeQ Try.prog (X answer_ann) (loopOf Try.f56 0)) (some [1, 5, 6, 13, 14, 15]) (some [1, 5, 6, 13, 14, 15]) (mkF 41 [(1, (AV.sl .any 2 (List.map Key.row keys))), (5, (AV.sl .any 9 (List.map Card.row l))), (6, (AV.osl 0 g 9 0 k)), (13, (AV.sl .any 2 (List.map Key.row keys))), (14, (AV.int .i64 ((keys.length : Nat) : Int))), (15, (AV.int .i64 ((i + 1 : Nat) : Int)))]) ([⟨g, 9, (List.map Card.row out), none⟩] : Heap) eX FX HX)) ((Yes (.int .i64 (IntKind.i64.wrap (((i : Nat) : Int) + 1))) ([⟨g, 9, (List.map Card.row out), none⟩, ⟨0, 2, [(Key.row (nth keys i))], none⟩, ⟨0, 9, [(Card.row (findC l (nth keys i)))], none⟩] : Heap) (AV.int .i64 ((i + 1 : Nat) : Int))) ∧ (obsB 1 ([⟨g, 9, (List.map Card.row out), none⟩] : Heap) = true) ∧ LoopTo (codeQ Try.prog (X answer_ann) (loopOf Try.f56 0)) (some [1, 5, 6, 13, 14, 15]) (some [1, 5, 6, 13, 14, 15]) (mkF 41 [(1, (AV.sl .any 2 (List.map Key.row keys))), (5, (AV.sl .any 9 (List.map Card.row l))), (6, (AV.osl 0 g 9 0 k)), (13, (AV.sl .any 2 (List.map Key.row keys))), (14, (AV.int .i64 ((keys.length : Nat) : Int))), (15, (AV.int .i64 ((i + 1 : Nat) : Int)))]) ([⟨g, 9, (List.map Card.row out), none⟩] : Heap) eX FX HX)) (((.exit 0 : Ex), (mkF 41 [(1, (AV.sl .any 2 (List.map Key.row keys))), (5, (AV.sl .any 9 (List.map Card.row l))), (6, (AV.osl 0 g 9 0 k)), (13, (AV.sl .any 2 (List.map Key.row keys))), (14, (AV.int .i64 ((keys.length : Nat) : Int))), (15, (AV.int .i64 ((i : Nat) : Int)))]), ([⟨g, 9, (List.map Card.row out), none⟩] : Heap)) = (eX, FX, HX))) = _) ?_
  refine cond_split (fun h1 => ?_) (fun h1 => ?_)
  · have h1' := h1
    try simp at h1'
    refine And.intro (IdxSl.mk _ (by omega) (by omega)) ?_
    refine And.intro (find_at l (nth keys i) (by first | omega | assumption | (simp; done) | (simp; omega) | (simp_all; done) | (simp_all; omega)) ([⟨g, 9, (List.map Card.row out), none⟩, ⟨0, 2, [(Key.row (nth keys i))], none⟩, ⟨0, 9, [[(AV.str (ByteArray.mk #[])), (AV.str (ByteArray.mk #[])), (AV.int .i64 0), (AV.int .i64 0), (AV.int .i64 0), (AV.int .i64 0), (AV.int .i64 0), (AV.int .i64 0), (AV.bool false)]], none⟩] : Heap)) ?_
    refine cond_split (fun h2 => ?_) (fun h2 => ?_)
    · have h2' := h2
      try simp at h2'
      refine And.intro (slice_sl (l := 0) (h := i) (by first | omega | (simp; done) | (simp; omega)) (by first | omega | (simp; done) | (simp; omega)) (by first | omega | (simp; done) | (simp; omega)) (by first | omega | (simp; done) | (simp; omega)) (by simp [List.map_take, List.map_drop, List.take_of_length_le])) ?_
      refine And.intro (hasKey_at (keys.take i) (nth keys i) (by first | omega | assumption | (simp; done) | (simp; omega) | (simp_all; done) | (simp_all; omega)) ([⟨g, 9, (List.map Card.row out), none⟩, ⟨0, 2, [(Key.row (nth keys i))], none⟩, ⟨0, 9, [(Card.row (findC l (nth keys i)))], none⟩] : Heap)) ?_
      refine cond_split (fun h3 => ?_) (fun h3 => ?_)
      · have h3' := h3
        try simp at h3'
        refine And.intro (evAppend_one (row := Card.row) (l := out) (x := (findC l (nth keys i))) (T := tt) (e := 34) (te := { d := .struct [(30, 0), (3, 2), (3, 3), (2, 4), (32, 5), (4, 8)], size := 9, bytes := 88, zero := [.str ⟨#[]⟩, .str ⟨#[]⟩, .int .i64 0, .int .i64 0, .int .i64 0, .int .i64 0, .int .i64 0, .int .i64 0, .bool false] }) (z := 1) (b := 24) (y := [.sl .nil 0 []]) (by kernel_rfl) (by kernel_rfl) rfl (by decide) (by decide) (by kernel_rfl) (by first | assumption | omega | (simp; done) | (simp; omega)) rfl rfl (by first | omega | (show _ * 88 ≤ _; omega) | (simp; omega))) ?_
        refine And.intro (Yes.add (by omega) (by omega) (by omega)) ?_
        refine And.intro (by first | (simp [obsB, AV.bddss, AV.bdds, AV.bdd]; done) | (simp [obsB, AV.bddss, AV.bdds, AV.bdd, -List.map_append]; done) | simp [obsB, AV.bddss, AV.bdds, AV.bdd, -List.map_append, -List.map_set, -List.map_take, -List.map_drop, -List.map_cons, -List.map_map]) ?_
        exact k1 h1 h2 h3
      · have h3' := h3
        try simp at h3'
        refine And.intro (Yes.add (by omega) (by omega) (by omega)) ?_
        refine And.intro (by first | (simp [obsB, AV.bddss, AV.bdds, AV.bdd]; done) | (simp [obsB, AV.bddss, AV.bdds, AV.bdd, -List.map_append]; done) | simp [obsB, AV.bddss, AV.bdds, AV.bdd, -List.map_append, -List.map_set, -List.map_take, -List.map_drop, -List.map_cons, -List.map_map]) ?_
        exact k2 h1 h2 h3
    · have h2' := h2
      try simp at h2'
      refine And.intro (Yes.add (by omega) (by omega) (by omega)) ?_
      refine And.intro (by first | (simp [obsB, AV.bddss, AV.bdds, AV.bdd]; done) | (simp [obsB, AV.bddss, AV.bdds, AV.bdd, -List.map_append]; done) | simp [obsB, AV.bddss, AV.bdds, AV.bdd, -List.map_append, -List.map_set, -List.map_take, -List.map_drop, -List.map_cons, -List.map_map]) ?_
      exact k3 h1 h2
  · have h1' := h1
    try simp at h1'
    exact k4 h1
def answer_f (keys : List Key) (l : List Card) (i : Nat) (s : (List Card) × Nat × Nat) : (List Card) × Nat × Nat := (if (inC l (nth keys i)) = true then (if (!(hasK (keys.take i) (nth keys i))) = true then (s.1 ++ [(findC l (nth keys i))], (s.2.1 + 1), (s.2.2 + 1)) else (s.1, s.2.1, s.2.2)) else (s.1, s.2.1, s.2.2))
theorem answer_loop (keys : List Key) (l : List Card) (hl : l.length < 1048576) (hks : keys.length < 1048576)  (r_ : Nat) : ∀ (out : List Card) (k : Nat) (g : Nat) (i : Nat) (sF : (List Card) × Nat × Nat), i + r_ = keys.length → k = out.length → k ≤ i → sF = iter (answer_f keys l) r_ i (out, k, g) →
    LoopTo (codeQ Try.prog (X answer_ann) (loopOf Try.f56 0)) (some [1, 5, 6, 13, 14, 15]) (some [1, 5, 6, 13, 14, 15]) (mkF 41 [(1, (AV.sl .any 2 (List.map Key.row keys))), (5, (AV.sl .any 9 (List.map Card.row l))), (6, (AV.osl 0 g 9 0 k)), (13, (AV.sl .any 2 (List.map Key.row keys))), (14, (AV.int .i64 ((keys.length : Nat) : Int))), (15, (AV.int .i64 ((i : Nat) : Int)))]) ([⟨g, 9, (List.map Card.row out), none⟩] : Heap) (.exit 0) (mkF 41 [(1, (AV.sl .any 2 (List.map Key.row keys))), (5, (AV.sl .any 9 (List.map Card.row l))), (6, (AV.osl 0 sF.2.2 9 0 sF.2.1)), (13, (AV.sl .any 2 (List.map Key.row keys))), (14, (AV.int .i64 ((keys.length : Nat) : Int))), (15, (AV.int .i64 ((keys.length : Nat) : Int)))]) ([⟨sF.2.2, 9, (List.map Card.row sF.1), none⟩] : Heap) := by
  induction r_ with
  | zero =>
    intro out k g i sF hi_ hk hki  hF
    obtain rfl : keys.length = i := by omega
    have e_ : sF = (out, k, g) := hF
    refine answer_step keys l out k g keys.length hl hks hk hki (Nat.le_refl _) (fun h _ _ => by simp at h <;> omega) (fun h _ _ => by simp at h <;> omega) (fun h _ => by simp at h <;> omega) (fun _ => ?_)
    first | done | rfl | (rw [e_]; done) | (rw [e_]; rfl)
  | succ r_ ih =>
    intro out k g i sF hi_ hk hki  hF
    refine answer_step keys l out k g i hl hks hk hki (by omega) (fun h1 h2 h3 => ?_) (fun h1 h2 h3 => ?_) (fun h1 h2 => ?_) (fun h => by simp at h <;> omega)
    · exact ih (out ++ [(findC l (nth keys i))]) (k + 1) (g + 1) (i + 1) sF (by omega) (by first | omega | assumption | (simp; done) | (simp; omega) | (simp [*]; done) | (simp [*]; omega)) (by first | omega | assumption | (simp; done) | (simp; omega) | (simp [*]; done) | (simp [*]; omega))  (by rw [hF] <;> simp only [iter, answer_f, h2, h3, if_true, Bool.false_eq_true, if_false])
    · exact ih out k g (i + 1) sF (by omega) (by first | omega | assumption | (simp; done) | (simp; omega) | (simp [*]; done) | (simp [*]; omega)) (by first | omega | assumption | (simp; done) | (simp; omega) | (simp [*]; done) | (simp [*]; omega))  (by rw [hF] <;> simp only [iter, answer_f, h2, h3, if_true, Bool.false_eq_true, if_false])
    · exact ih out k g (i + 1) sF (by omega) (by first | omega | assumption | (simp; done) | (simp; omega) | (simp [*]; done) | (simp [*]; omega)) (by first | omega | assumption | (simp; done) | (simp; omega) | (simp [*]; done) | (simp [*]; omega))  (by rw [hF] <;> simp only [iter, answer_f, h2, if_true, Bool.false_eq_true, if_false])
def ansK (l : List Card) : List Key → List Key → List Card
  | _, [] => []
  | seen, k :: ks => if inC l k = true then if (!(hasK seen k)) = true then findC l k :: ansK l (seen ++ [k]) ks else ansK l (seen ++ [k]) ks else ansK l (seen ++ [k]) ks
theorem take_nth {α : Type} [Inhabited α] {l : List α} {i : Nat} (h : i < l.length) : l.take (i + 1) = l.take i ++ [nth l i] := by
  rw [List.take_add_one, List.getElem?_eq_getElem h]
  simp [nth, List.getD_eq_getElem?_getD, List.getElem?_eq_getElem h]
theorem ansK_len (l : List Card) (ks : List Key) : ∀ (seen : List Key), (ansK l seen ks).length ≤ ks.length := by
  induction ks with
  | nil => intro s; simp [ansK]
  | cons k ks ih =>
    intro s
    have := ih (s ++ [k])
    simp only [ansK]
    split
    · split
      · simp only [List.length_cons]; omega
      · simp only [List.length_cons]; omega
    · simp only [List.length_cons]; omega
theorem answer_iter0 (keys : List Key) (l : List Card) (r : Nat) : ∀ (i : Nat) (out : List Card) (k g : Nat), i + r = keys.length →
    iter (answer_f keys l) r i (out, k, g) = (out ++ ansK l (keys.take i) (keys.drop i), k + (ansK l (keys.take i) (keys.drop i)).length, g + (ansK l (keys.take i) (keys.drop i)).length) := by
  induction r with
  | zero =>
    intro i out k g hi
    have : keys.drop i = [] := List.drop_of_length_le (by omega)
    rw [this]; simp [iter, ansK]
  | succ r ih =>
    intro i out k g hi
    rw [drop_nth (by omega)]
    simp only [iter, ansK, answer_f]
    rw [← take_nth (by omega)]
    split
    · split
      · rw [ih (i + 1) _ _ _ (by omega)]; simp; omega
      · rw [ih (i + 1) _ _ _ (by omega)]
    · rw [ih (i + 1) _ _ _ (by omega)]
def answerK (l : List Card) (keys : List Key) : List Card := ansK (lastK l) [] keys
theorem answer_iter (keys : List Key) (l : List Card) : (ansK l [] keys, (ansK l [] keys).length, (ansK l [] keys).length) = iter (answer_f keys l) keys.length 0 ([], 0, 0) := by
  rw [answer_iter0 keys l keys.length 0 [] 0 0 (by omega)]; simp
set_option maxRecDepth 100000 in
theorem answer_spec (mine : List Card) (keys : List Key) (hm : mine.length < 20) (hks : keys.length < 1048576) : ACalls Try.prog 56 [(AV.sl .any 9 (List.map Card.row mine)), (AV.sl .any 2 (List.map Key.row keys))] ([] : Heap) ((AV.sl .any 9 (List.map Card.row (answerK mine keys))), ([] : Heap)) := by
  have h1 := lastK_len mine
  have h2 := ansK_len (lastK mine) keys []
  refine spec (fn := Try.f56) (ann := answer_ann) (t := (.reg [] [] [] (.reg [(1, ((AV.sl .any 9 (List.map Card.row (lastK mine))), ([] : Heap)))] [] [] (.reg [] [] [] (.reg [(1, ((AV.int .i64 ((keys.length : Nat) : Int)), ([⟨0, 9, (List.map Card.row []), none⟩] : Heap)))] [] [] (.loop (.exit 0) (mkF 41 [(1, (AV.sl .any 2 (List.map Key.row keys))), (5, (AV.sl .any 9 (List.map Card.row (lastK mine)))), (6, (AV.osl 0 (ansK (lastK mine) [] keys).length 9 0 (ansK (lastK mine) [] keys).length)), (13, (AV.sl .any 2 (List.map Key.row keys))), (14, (AV.int .i64 ((keys.length : Nat) : Int))), (15, (AV.int .i64 ((keys.length : Nat) : Int)))]) ([⟨(ansK (lastK mine) [] keys).length, 9, (List.map Card.row (ansK (lastK mine) [] keys)), none⟩] : Heap) (.reg [] [(6, (List.map Card.row (ansK (lastK mine) [] keys)))] [] .nil))))))) (Nat.le_of_ble_eq_true (by kernel_rfl)) ⟨Try.func56, by kernel_rfl, by kernel_rfl, by kernel_rfl⟩ ?_
  refine Eq.mp (by kernel_rfl : ((ACalls Try.prog 96 [(AV.sl .any 9 (List.map Card.row mine))] ([] : Heap) ((AV.sl .any 9 (List.map Card.row (lastK mine))), ([] : Heap))) ∧ (Yes (.int .i64 ((List.length (List.map Key.row keys) : Nat) : Int)) ([⟨0, 9, (List.map Card.row []), none⟩] : Heap) (AV.int .i64 ((keys.length : Nat) : Int))) ∧ (LoopTo (codeQ Try.prog (X answer_ann) (loopOf Try.f56 0)) (some [1, 5, 6, 13, 14, 15]) (some [1, 5, 6, 13, 14, 15]) (mkF 41 [(1, (AV.sl .any 2 (List.map Key.row keys))), (5, (AV.sl .any 9 (List.map Card.row (lastK mine)))), (6, (AV.osl 0 0 9 0 0)), (13, (AV.sl .any 2 (List.map Key.row keys))), (14, (AV.int .i64 ((keys.length : Nat) : Int))), (15, (AV.int .i64 0))]) ([⟨0, 9, (List.map Card.row []), none⟩] : Heap) (.exit 0) (mkF 41 [(1, (AV.sl .any 2 (List.map Key.row keys))), (5, (AV.sl .any 9 (List.map Card.row (lastK mine)))), (6, (AV.osl 0 (ansK (lastK mine) [] keys).length 9 0 (ansK (lastK mine) [] keys).length)), (13, (AV.sl .any 2 (List.map Key.row keys))), (14, (AV.int .i64 ((keys.length : Nat) : Int))), (15, (AV.int .i64 ((keys.length : Nat) : Int)))]) ([⟨(ansK (lastK mine) [] keys).length, 9, (List.map Card.row (ansK (lastK mine) [] keys)), none⟩] : Heap)) ∧ (rowsIn ([⟨(ansK (lastK mine) [] keys).length, 9, (List.map Card.row (ansK (lastK mine) [] keys)), none⟩] : Heap) 9 (AV.osl 0 (ansK (lastK mine) [] keys).length 9 0 (ansK (lastK mine) [] keys).length) = some (List.map Card.row (ansK (lastK mine) [] keys)) ∧ AV.bddss 0 (List.map Card.row (ansK (lastK mine) [] keys)) = true) ∧ (AV.bdd 0 (AV.sl .any 9 (List.map Card.row (ansK (lastK mine) [] keys))) = true ∧ obsB 0 ([] : Heap) = true) ∧ ((AV.sl .any 9 (List.map Card.row (ansK (lastK mine) [] keys))), ([] : Heap)) = ((AV.sl .any 9 (List.map Card.row (answerK mine keys))), ([] : Heap))) = _) ?_
  refine And.intro (last_at mine (by first | omega | assumption | (simp; done) | (simp; omega) | (simp_all; done) | (simp_all; omega)) ([] : Heap)) ?_
  refine And.intro (Yes.len _ _ _) ?_
  refine And.intro ((answer_loop keys (lastK mine) (by omega) (by omega) (List.length keys) [] 0 0 0 (ansK (lastK mine) [] keys, (ansK (lastK mine) [] keys).length, (ansK (lastK mine) [] keys).length) (by omega) rfl (by omega) (answer_iter _ _))) ?_
  refine And.intro (And.intro (rowsIn_all (room := none) (by kernel_rfl) (by first | omega | (simp; done) | (simp; omega))) (Card.rows_bdd _ _)) ?_
  refine And.intro (by first | (simp [obsB, AV.bddss, AV.bdds, AV.bdd]; done) | (simp [obsB, AV.bddss, AV.bdds, AV.bdd, -List.map_append]; done) | simp [obsB, AV.bddss, AV.bdds, AV.bdd, -List.map_append, -List.map_set, -List.map_take, -List.map_drop, -List.map_cons, -List.map_map]) ?_
  rfl
theorem answer_at (mine : List Card) (keys : List Key) (hm : mine.length < 20) (hks : keys.length < 1048576) (H : Heap) : ACalls Try.prog 56 [(AV.sl .any 9 (List.map Card.row mine)), (AV.sl .any 2 (List.map Key.row keys))] H ((AV.sl .any 9 (List.map Card.row (answerK mine keys))), H) := (answer_spec mine keys hm hks).lift (by kernel_rfl) (by kernel_rfl) H
def known18_ann : Ann := { fin := some 0 }
set_option maxRecDepth 100000 in
theorem known18_spec   : ACalls Try.prog 52 [] ([] : Heap) ((AV.bool true), ([] : Heap)) := by
  refine spec (fn := Try.f52) (ann := known18_ann) (t := (.reg [] [] [] (.reg [] [] [] (.reg [] [] [] (.reg [] [] [] (.reg [(4, ((AV.tup [(AV.sl .any 2 (List.map Key.row (wantK ([(Card.mk (Key.mk (ByteArray.mk #[97]) (ByteArray.mk #[98])) 1 0 5 (Stamp.mk 1 0 0) false)]) ([(Card.mk (Key.mk (ByteArray.mk #[97]) (ByteArray.mk #[98])) 1 0 5 (Stamp.mk 2 0 0) false)])))), (AV.sl .any 9 (List.map Card.row (tellK ([(Card.mk (Key.mk (ByteArray.mk #[97]) (ByteArray.mk #[98])) 1 0 5 (Stamp.mk 1 0 0) false)]) ([(Card.mk (Key.mk (ByteArray.mk #[97]) (ByteArray.mk #[98])) 1 0 5 (Stamp.mk 2 0 0) false)]))))]), ([⟨0, 9, [[(AV.str (ByteArray.mk #[97])), (AV.str (ByteArray.mk #[98])), (AV.int .i64 1), (AV.int .i64 0), (AV.int .i64 5), (AV.int .i64 1), (AV.int .i64 0), (AV.int .i64 0), (AV.bool false)]], none⟩, ⟨0, 9, [[(AV.str (ByteArray.mk #[97])), (AV.str (ByteArray.mk #[98])), (AV.int .i64 1), (AV.int .i64 0), (AV.int .i64 5), (AV.int .i64 2), (AV.int .i64 0), (AV.int .i64 0), (AV.bool false)]], none⟩] : Heap)))] [] [] (.reg [(4, ((AV.tup [(AV.sl .any 2 (List.map Key.row (wantK ([(Card.mk (Key.mk (ByteArray.mk #[97]) (ByteArray.mk #[98])) 1 0 5 (Stamp.mk 2 0 0) false)]) ([(Card.mk (Key.mk (ByteArray.mk #[97]) (ByteArray.mk #[98])) 1 0 5 (Stamp.mk 1 0 0) false)])))), (AV.sl .any 9 (List.map Card.row (tellK ([(Card.mk (Key.mk (ByteArray.mk #[97]) (ByteArray.mk #[98])) 1 0 5 (Stamp.mk 2 0 0) false)]) ([(Card.mk (Key.mk (ByteArray.mk #[97]) (ByteArray.mk #[98])) 1 0 5 (Stamp.mk 1 0 0) false)]))))]), ([⟨0, 9, [[(AV.str (ByteArray.mk #[97])), (AV.str (ByteArray.mk #[98])), (AV.int .i64 1), (AV.int .i64 0), (AV.int .i64 5), (AV.int .i64 1), (AV.int .i64 0), (AV.int .i64 0), (AV.bool false)]], none⟩, ⟨0, 9, [[(AV.str (ByteArray.mk #[97])), (AV.str (ByteArray.mk #[98])), (AV.int .i64 1), (AV.int .i64 0), (AV.int .i64 5), (AV.int .i64 2), (AV.int .i64 0), (AV.int .i64 0), (AV.bool false)]], none⟩] : Heap)))] [] [] (.reg [(4, ((AV.tup [(AV.sl .any 2 (List.map Key.row (wantK ([(Card.mk (Key.mk (ByteArray.mk #[97]) (ByteArray.mk #[98])) 1 0 5 (Stamp.mk 1 0 0) false)]) ([(Card.mk (Key.mk (ByteArray.mk #[97]) (ByteArray.mk #[98])) 1 0 5 (Stamp.mk 1 0 0) false)])))), (AV.sl .any 9 (List.map Card.row (tellK ([(Card.mk (Key.mk (ByteArray.mk #[97]) (ByteArray.mk #[98])) 1 0 5 (Stamp.mk 1 0 0) false)]) ([(Card.mk (Key.mk (ByteArray.mk #[97]) (ByteArray.mk #[98])) 1 0 5 (Stamp.mk 1 0 0) false)]))))]), ([⟨0, 9, [[(AV.str (ByteArray.mk #[97])), (AV.str (ByteArray.mk #[98])), (AV.int .i64 1), (AV.int .i64 0), (AV.int .i64 5), (AV.int .i64 1), (AV.int .i64 0), (AV.int .i64 0), (AV.bool false)]], none⟩, ⟨0, 9, [[(AV.str (ByteArray.mk #[97])), (AV.str (ByteArray.mk #[98])), (AV.int .i64 1), (AV.int .i64 0), (AV.int .i64 5), (AV.int .i64 2), (AV.int .i64 0), (AV.int .i64 0), (AV.bool false)]], none⟩] : Heap)))] [] [] (.reg [(1, ((AV.int .i64 (((wantK ([(Card.mk (Key.mk (ByteArray.mk #[97]) (ByteArray.mk #[98])) 1 0 5 (Stamp.mk 1 0 0) false)]) ([(Card.mk (Key.mk (ByteArray.mk #[97]) (ByteArray.mk #[98])) 1 0 5 (Stamp.mk 2 0 0) false)])).length : Nat) : Int)), ([⟨0, 9, [[(AV.str (ByteArray.mk #[97])), (AV.str (ByteArray.mk #[98])), (AV.int .i64 1), (AV.int .i64 0), (AV.int .i64 5), (AV.int .i64 1), (AV.int .i64 0), (AV.int .i64 0), (AV.bool false)]], none⟩, ⟨0, 9, [[(AV.str (ByteArray.mk #[97])), (AV.str (ByteArray.mk #[98])), (AV.int .i64 1), (AV.int .i64 0), (AV.int .i64 5), (AV.int .i64 2), (AV.int .i64 0), (AV.int .i64 0), (AV.bool false)]], none⟩] : Heap))), (2, ((AV.bool true), ([⟨0, 9, [[(AV.str (ByteArray.mk #[97])), (AV.str (ByteArray.mk #[98])), (AV.int .i64 1), (AV.int .i64 0), (AV.int .i64 5), (AV.int .i64 1), (AV.int .i64 0), (AV.int .i64 0), (AV.bool false)]], none⟩, ⟨0, 9, [[(AV.str (ByteArray.mk #[97])), (AV.str (ByteArray.mk #[98])), (AV.int .i64 1), (AV.int .i64 0), (AV.int .i64 5), (AV.int .i64 2), (AV.int .i64 0), (AV.int .i64 0), (AV.bool false)]], none⟩] : Heap))), (5, ((AV.int .i64 (((tellK ([(Card.mk (Key.mk (ByteArray.mk #[97]) (ByteArray.mk #[98])) 1 0 5 (Stamp.mk 1 0 0) false)]) ([(Card.mk (Key.mk (ByteArray.mk #[97]) (ByteArray.mk #[98])) 1 0 5 (Stamp.mk 2 0 0) false)])).length : Nat) : Int)), ([⟨0, 9, [[(AV.str (ByteArray.mk #[97])), (AV.str (ByteArray.mk #[98])), (AV.int .i64 1), (AV.int .i64 0), (AV.int .i64 5), (AV.int .i64 1), (AV.int .i64 0), (AV.int .i64 0), (AV.bool false)]], none⟩, ⟨0, 9, [[(AV.str (ByteArray.mk #[97])), (AV.str (ByteArray.mk #[98])), (AV.int .i64 1), (AV.int .i64 0), (AV.int .i64 5), (AV.int .i64 2), (AV.int .i64 0), (AV.int .i64 0), (AV.bool false)]], none⟩] : Heap))), (6, ((AV.bool true), ([⟨0, 9, [[(AV.str (ByteArray.mk #[97])), (AV.str (ByteArray.mk #[98])), (AV.int .i64 1), (AV.int .i64 0), (AV.int .i64 5), (AV.int .i64 1), (AV.int .i64 0), (AV.int .i64 0), (AV.bool false)]], none⟩, ⟨0, 9, [[(AV.str (ByteArray.mk #[97])), (AV.str (ByteArray.mk #[98])), (AV.int .i64 1), (AV.int .i64 0), (AV.int .i64 5), (AV.int .i64 2), (AV.int .i64 0), (AV.int .i64 0), (AV.bool false)]], none⟩] : Heap))), (10, ((AV.int .i64 (((wantK ([(Card.mk (Key.mk (ByteArray.mk #[97]) (ByteArray.mk #[98])) 1 0 5 (Stamp.mk 2 0 0) false)]) ([(Card.mk (Key.mk (ByteArray.mk #[97]) (ByteArray.mk #[98])) 1 0 5 (Stamp.mk 1 0 0) false)])).length : Nat) : Int)), ([⟨0, 9, [[(AV.str (ByteArray.mk #[97])), (AV.str (ByteArray.mk #[98])), (AV.int .i64 1), (AV.int .i64 0), (AV.int .i64 5), (AV.int .i64 1), (AV.int .i64 0), (AV.int .i64 0), (AV.bool false)]], none⟩, ⟨0, 9, [[(AV.str (ByteArray.mk #[97])), (AV.str (ByteArray.mk #[98])), (AV.int .i64 1), (AV.int .i64 0), (AV.int .i64 5), (AV.int .i64 2), (AV.int .i64 0), (AV.int .i64 0), (AV.bool false)]], none⟩] : Heap))), (11, ((AV.bool true), ([⟨0, 9, [[(AV.str (ByteArray.mk #[97])), (AV.str (ByteArray.mk #[98])), (AV.int .i64 1), (AV.int .i64 0), (AV.int .i64 5), (AV.int .i64 1), (AV.int .i64 0), (AV.int .i64 0), (AV.bool false)]], none⟩, ⟨0, 9, [[(AV.str (ByteArray.mk #[97])), (AV.str (ByteArray.mk #[98])), (AV.int .i64 1), (AV.int .i64 0), (AV.int .i64 5), (AV.int .i64 2), (AV.int .i64 0), (AV.int .i64 0), (AV.bool false)]], none⟩] : Heap))), (15, ((AV.int .i64 (((tellK ([(Card.mk (Key.mk (ByteArray.mk #[97]) (ByteArray.mk #[98])) 1 0 5 (Stamp.mk 2 0 0) false)]) ([(Card.mk (Key.mk (ByteArray.mk #[97]) (ByteArray.mk #[98])) 1 0 5 (Stamp.mk 1 0 0) false)])).length : Nat) : Int)), ([⟨0, 9, [[(AV.str (ByteArray.mk #[97])), (AV.str (ByteArray.mk #[98])), (AV.int .i64 1), (AV.int .i64 0), (AV.int .i64 5), (AV.int .i64 1), (AV.int .i64 0), (AV.int .i64 0), (AV.bool false)]], none⟩, ⟨0, 9, [[(AV.str (ByteArray.mk #[97])), (AV.str (ByteArray.mk #[98])), (AV.int .i64 1), (AV.int .i64 0), (AV.int .i64 5), (AV.int .i64 2), (AV.int .i64 0), (AV.int .i64 0), (AV.bool false)]], none⟩] : Heap))), (16, ((AV.bool true), ([⟨0, 9, [[(AV.str (ByteArray.mk #[97])), (AV.str (ByteArray.mk #[98])), (AV.int .i64 1), (AV.int .i64 0), (AV.int .i64 5), (AV.int .i64 1), (AV.int .i64 0), (AV.int .i64 0), (AV.bool false)]], none⟩, ⟨0, 9, [[(AV.str (ByteArray.mk #[97])), (AV.str (ByteArray.mk #[98])), (AV.int .i64 1), (AV.int .i64 0), (AV.int .i64 5), (AV.int .i64 2), (AV.int .i64 0), (AV.int .i64 0), (AV.bool false)]], none⟩] : Heap))), (20, ((AV.ref (Card.row (nth (tellK ([(Card.mk (Key.mk (ByteArray.mk #[97]) (ByteArray.mk #[98])) 1 0 5 (Stamp.mk 2 0 0) false)]) ([(Card.mk (Key.mk (ByteArray.mk #[97]) (ByteArray.mk #[98])) 1 0 5 (Stamp.mk 1 0 0) false)])) 0)) 0), ([⟨0, 9, [[(AV.str (ByteArray.mk #[97])), (AV.str (ByteArray.mk #[98])), (AV.int .i64 1), (AV.int .i64 0), (AV.int .i64 5), (AV.int .i64 1), (AV.int .i64 0), (AV.int .i64 0), (AV.bool false)]], none⟩, ⟨0, 9, [[(AV.str (ByteArray.mk #[97])), (AV.str (ByteArray.mk #[98])), (AV.int .i64 1), (AV.int .i64 0), (AV.int .i64 5), (AV.int .i64 2), (AV.int .i64 0), (AV.int .i64 0), (AV.bool false)]], none⟩] : Heap))), (23, ((AV.bool true), ([⟨0, 9, [[(AV.str (ByteArray.mk #[97])), (AV.str (ByteArray.mk #[98])), (AV.int .i64 1), (AV.int .i64 0), (AV.int .i64 5), (AV.int .i64 1), (AV.int .i64 0), (AV.int .i64 0), (AV.bool false)]], none⟩, ⟨0, 9, [[(AV.str (ByteArray.mk #[97])), (AV.str (ByteArray.mk #[98])), (AV.int .i64 1), (AV.int .i64 0), (AV.int .i64 5), (AV.int .i64 2), (AV.int .i64 0), (AV.int .i64 0), (AV.bool false)]], none⟩] : Heap))), (27, ((AV.int .i64 (((wantK ([(Card.mk (Key.mk (ByteArray.mk #[97]) (ByteArray.mk #[98])) 1 0 5 (Stamp.mk 1 0 0) false)]) ([(Card.mk (Key.mk (ByteArray.mk #[97]) (ByteArray.mk #[98])) 1 0 5 (Stamp.mk 1 0 0) false)])).length : Nat) : Int)), ([⟨0, 9, [[(AV.str (ByteArray.mk #[97])), (AV.str (ByteArray.mk #[98])), (AV.int .i64 1), (AV.int .i64 0), (AV.int .i64 5), (AV.int .i64 1), (AV.int .i64 0), (AV.int .i64 0), (AV.bool false)]], none⟩, ⟨0, 9, [[(AV.str (ByteArray.mk #[97])), (AV.str (ByteArray.mk #[98])), (AV.int .i64 1), (AV.int .i64 0), (AV.int .i64 5), (AV.int .i64 2), (AV.int .i64 0), (AV.int .i64 0), (AV.bool false)]], none⟩] : Heap))), (28, ((AV.bool true), ([⟨0, 9, [[(AV.str (ByteArray.mk #[97])), (AV.str (ByteArray.mk #[98])), (AV.int .i64 1), (AV.int .i64 0), (AV.int .i64 5), (AV.int .i64 1), (AV.int .i64 0), (AV.int .i64 0), (AV.bool false)]], none⟩, ⟨0, 9, [[(AV.str (ByteArray.mk #[97])), (AV.str (ByteArray.mk #[98])), (AV.int .i64 1), (AV.int .i64 0), (AV.int .i64 5), (AV.int .i64 2), (AV.int .i64 0), (AV.int .i64 0), (AV.bool false)]], none⟩] : Heap))), (32, ((AV.int .i64 (((tellK ([(Card.mk (Key.mk (ByteArray.mk #[97]) (ByteArray.mk #[98])) 1 0 5 (Stamp.mk 1 0 0) false)]) ([(Card.mk (Key.mk (ByteArray.mk #[97]) (ByteArray.mk #[98])) 1 0 5 (Stamp.mk 1 0 0) false)])).length : Nat) : Int)), ([⟨0, 9, [[(AV.str (ByteArray.mk #[97])), (AV.str (ByteArray.mk #[98])), (AV.int .i64 1), (AV.int .i64 0), (AV.int .i64 5), (AV.int .i64 1), (AV.int .i64 0), (AV.int .i64 0), (AV.bool false)]], none⟩, ⟨0, 9, [[(AV.str (ByteArray.mk #[97])), (AV.str (ByteArray.mk #[98])), (AV.int .i64 1), (AV.int .i64 0), (AV.int .i64 5), (AV.int .i64 2), (AV.int .i64 0), (AV.int .i64 0), (AV.bool false)]], none⟩] : Heap))), (33, ((AV.bool true), ([⟨0, 9, [[(AV.str (ByteArray.mk #[97])), (AV.str (ByteArray.mk #[98])), (AV.int .i64 1), (AV.int .i64 0), (AV.int .i64 5), (AV.int .i64 1), (AV.int .i64 0), (AV.int .i64 0), (AV.bool false)]], none⟩, ⟨0, 9, [[(AV.str (ByteArray.mk #[97])), (AV.str (ByteArray.mk #[98])), (AV.int .i64 1), (AV.int .i64 0), (AV.int .i64 5), (AV.int .i64 2), (AV.int .i64 0), (AV.int .i64 0), (AV.bool false)]], none⟩] : Heap))), (36, ((AV.agg [(AV.int .i64 4), (AV.int .i64 0), (AV.int .i64 0), (AV.int .i64 0), (AV.int .i64 0), (AV.int .i64 0), (AV.int .i64 0), (AV.str (ByteArray.mk #[])), (AV.str (ByteArray.mk #[])), (AV.bool false), (AV.int .u32 0), (AV.sl .any 9 (List.map Card.row (digK []))), (AV.sl .nil 0 [])]), ([⟨0, 9, [[(AV.str (ByteArray.mk #[97])), (AV.str (ByteArray.mk #[98])), (AV.int .i64 1), (AV.int .i64 0), (AV.int .i64 5), (AV.int .i64 1), (AV.int .i64 0), (AV.int .i64 0), (AV.bool false)]], none⟩, ⟨0, 9, [[(AV.str (ByteArray.mk #[97])), (AV.str (ByteArray.mk #[98])), (AV.int .i64 1), (AV.int .i64 0), (AV.int .i64 5), (AV.int .i64 2), (AV.int .i64 0), (AV.int .i64 0), (AV.bool false)]], none⟩] : Heap))), (49, ((AV.sl .any 9 (List.map Card.row (answerK ([(Card.mk (Key.mk (ByteArray.mk #[97]) (ByteArray.mk #[98])) 1 0 5 (Stamp.mk 1 0 0) false)]) ([(Key.mk (ByteArray.mk #[]) (ByteArray.mk #[])), (Key.mk (ByteArray.mk #[97]) (ByteArray.mk #[98])), (Key.mk (ByteArray.mk #[97]) (ByteArray.mk #[98]))])))), ([⟨0, 9, [[(AV.str (ByteArray.mk #[97])), (AV.str (ByteArray.mk #[98])), (AV.int .i64 1), (AV.int .i64 0), (AV.int .i64 5), (AV.int .i64 1), (AV.int .i64 0), (AV.int .i64 0), (AV.bool false)]], none⟩, ⟨0, 9, [[(AV.str (ByteArray.mk #[97])), (AV.str (ByteArray.mk #[98])), (AV.int .i64 1), (AV.int .i64 0), (AV.int .i64 5), (AV.int .i64 2), (AV.int .i64 0), (AV.int .i64 0), (AV.bool false)]], none⟩] : Heap))), (50, ((AV.int .i64 (((answerK ([(Card.mk (Key.mk (ByteArray.mk #[97]) (ByteArray.mk #[98])) 1 0 5 (Stamp.mk 1 0 0) false)]) ([(Key.mk (ByteArray.mk #[]) (ByteArray.mk #[])), (Key.mk (ByteArray.mk #[97]) (ByteArray.mk #[98])), (Key.mk (ByteArray.mk #[97]) (ByteArray.mk #[98]))])).length : Nat) : Int)), ([⟨0, 9, [[(AV.str (ByteArray.mk #[97])), (AV.str (ByteArray.mk #[98])), (AV.int .i64 1), (AV.int .i64 0), (AV.int .i64 5), (AV.int .i64 1), (AV.int .i64 0), (AV.int .i64 0), (AV.bool false)]], none⟩, ⟨0, 9, [[(AV.str (ByteArray.mk #[97])), (AV.str (ByteArray.mk #[98])), (AV.int .i64 1), (AV.int .i64 0), (AV.int .i64 5), (AV.int .i64 2), (AV.int .i64 0), (AV.int .i64 0), (AV.bool false)]], none⟩] : Heap))), (51, ((AV.bool true), ([⟨0, 9, [[(AV.str (ByteArray.mk #[97])), (AV.str (ByteArray.mk #[98])), (AV.int .i64 1), (AV.int .i64 0), (AV.int .i64 5), (AV.int .i64 1), (AV.int .i64 0), (AV.int .i64 0), (AV.bool false)]], none⟩, ⟨0, 9, [[(AV.str (ByteArray.mk #[97])), (AV.str (ByteArray.mk #[98])), (AV.int .i64 1), (AV.int .i64 0), (AV.int .i64 5), (AV.int .i64 2), (AV.int .i64 0), (AV.int .i64 0), (AV.bool false)]], none⟩] : Heap)))] [] [] (.two (.two (.two (.two (.two (.two (.two (.two (.two (.two (.two (.two (.two (.two (.two (.two (.two (.two (.two (.two (.two (.two (.two (.two (.two (.two (.two (.two (.two (.two (.two (.two (.two (.two .nil .nil) .nil) .nil) .nil) .nil) .nil) .nil) .nil) .nil) .nil) .nil) .nil) .nil) .nil) .nil) .nil) .nil) .nil) .nil) .nil) .nil) .nil) .nil) .nil) .nil) .nil) .nil) .nil) .nil) .nil) .nil) .nil) .nil) .nil)))))))))) (Nat.le_of_ble_eq_true (by kernel_rfl)) ⟨Try.func52, by kernel_rfl, by kernel_rfl, by kernel_rfl⟩ ?_
  refine Eq.mp (by kernel_rfl : ((ACalls Try.prog 53 [(AV.sl .clip 9 [[(AV.str (ByteArray.mk #[97])), (AV.str (ByteArray.mk #[98])), (AV.int .i64 1), (AV.int .i64 0), (AV.int .i64 5), (AV.int .i64 1), (AV.int .i64 0), (AV.int .i64 0), (AV.bool false)]]), (AV.sl .clip 9 [[(AV.str (ByteArray.mk #[97])), (AV.str (ByteArray.mk #[98])), (AV.int .i64 1), (AV.int .i64 0), (AV.int .i64 5), (AV.int .i64 2), (AV.int .i64 0), (AV.int .i64 0), (AV.bool false)]])] ([⟨0, 9, [[(AV.str (ByteArray.mk #[97])), (AV.str (ByteArray.mk #[98])), (AV.int .i64 1), (AV.int .i64 0), (AV.int .i64 5), (AV.int .i64 1), (AV.int .i64 0), (AV.int .i64 0), (AV.bool false)]], none⟩, ⟨0, 9, [[(AV.str (ByteArray.mk #[97])), (AV.str (ByteArray.mk #[98])), (AV.int .i64 1), (AV.int .i64 0), (AV.int .i64 5), (AV.int .i64 2), (AV.int .i64 0), (AV.int .i64 0), (AV.bool false)]], none⟩] : Heap) ((AV.tup [(AV.sl .any 2 (List.map Key.row (wantK ([(Card.mk (Key.mk (ByteArray.mk #[97]) (ByteArray.mk #[98])) 1 0 5 (Stamp.mk 1 0 0) false)]) ([(Card.mk (Key.mk (ByteArray.mk #[97]) (ByteArray.mk #[98])) 1 0 5 (Stamp.mk 2 0 0) false)])))), (AV.sl .any 9 (List.map Card.row (tellK ([(Card.mk (Key.mk (ByteArray.mk #[97]) (ByteArray.mk #[98])) 1 0 5 (Stamp.mk 1 0 0) false)]) ([(Card.mk (Key.mk (ByteArray.mk #[97]) (ByteArray.mk #[98])) 1 0 5 (Stamp.mk 2 0 0) false)]))))]), ([⟨0, 9, [[(AV.str (ByteArray.mk #[97])), (AV.str (ByteArray.mk #[98])), (AV.int .i64 1), (AV.int .i64 0), (AV.int .i64 5), (AV.int .i64 1), (AV.int .i64 0), (AV.int .i64 0), (AV.bool false)]], none⟩, ⟨0, 9, [[(AV.str (ByteArray.mk #[97])), (AV.str (ByteArray.mk #[98])), (AV.int .i64 1), (AV.int .i64 0), (AV.int .i64 5), (AV.int .i64 2), (AV.int .i64 0), (AV.int .i64 0), (AV.bool false)]], none⟩] : Heap))) ∧ (ACalls Try.prog 53 [(AV.sl .clip 9 [[(AV.str (ByteArray.mk #[97])), (AV.str (ByteArray.mk #[98])), (AV.int .i64 1), (AV.int .i64 0), (AV.int .i64 5), (AV.int .i64 2), (AV.int .i64 0), (AV.int .i64 0), (AV.bool false)]]), (AV.sl .clip 9 [[(AV.str (ByteArray.mk #[97])), (AV.str (ByteArray.mk #[98])), (AV.int .i64 1), (AV.int .i64 0), (AV.int .i64 5), (AV.int .i64 1), (AV.int .i64 0), (AV.int .i64 0), (AV.bool false)]])] ([⟨0, 9, [[(AV.str (ByteArray.mk #[97])), (AV.str (ByteArray.mk #[98])), (AV.int .i64 1), (AV.int .i64 0), (AV.int .i64 5), (AV.int .i64 1), (AV.int .i64 0), (AV.int .i64 0), (AV.bool false)]], none⟩, ⟨0, 9, [[(AV.str (ByteArray.mk #[97])), (AV.str (ByteArray.mk #[98])), (AV.int .i64 1), (AV.int .i64 0), (AV.int .i64 5), (AV.int .i64 2), (AV.int .i64 0), (AV.int .i64 0), (AV.bool false)]], none⟩] : Heap) ((AV.tup [(AV.sl .any 2 (List.map Key.row (wantK ([(Card.mk (Key.mk (ByteArray.mk #[97]) (ByteArray.mk #[98])) 1 0 5 (Stamp.mk 2 0 0) false)]) ([(Card.mk (Key.mk (ByteArray.mk #[97]) (ByteArray.mk #[98])) 1 0 5 (Stamp.mk 1 0 0) false)])))), (AV.sl .any 9 (List.map Card.row (tellK ([(Card.mk (Key.mk (ByteArray.mk #[97]) (ByteArray.mk #[98])) 1 0 5 (Stamp.mk 2 0 0) false)]) ([(Card.mk (Key.mk (ByteArray.mk #[97]) (ByteArray.mk #[98])) 1 0 5 (Stamp.mk 1 0 0) false)]))))]), ([⟨0, 9, [[(AV.str (ByteArray.mk #[97])), (AV.str (ByteArray.mk #[98])), (AV.int .i64 1), (AV.int .i64 0), (AV.int .i64 5), (AV.int .i64 1), (AV.int .i64 0), (AV.int .i64 0), (AV.bool false)]], none⟩, ⟨0, 9, [[(AV.str (ByteArray.mk #[97])), (AV.str (ByteArray.mk #[98])), (AV.int .i64 1), (AV.int .i64 0), (AV.int .i64 5), (AV.int .i64 2), (AV.int .i64 0), (AV.int .i64 0), (AV.bool false)]], none⟩] : Heap))) ∧ (ACalls Try.prog 53 [(AV.sl .clip 9 [[(AV.str (ByteArray.mk #[97])), (AV.str (ByteArray.mk #[98])), (AV.int .i64 1), (AV.int .i64 0), (AV.int .i64 5), (AV.int .i64 1), (AV.int .i64 0), (AV.int .i64 0), (AV.bool false)]]), (AV.sl .clip 9 [[(AV.str (ByteArray.mk #[97])), (AV.str (ByteArray.mk #[98])), (AV.int .i64 1), (AV.int .i64 0), (AV.int .i64 5), (AV.int .i64 1), (AV.int .i64 0), (AV.int .i64 0), (AV.bool false)]])] ([⟨0, 9, [[(AV.str (ByteArray.mk #[97])), (AV.str (ByteArray.mk #[98])), (AV.int .i64 1), (AV.int .i64 0), (AV.int .i64 5), (AV.int .i64 1), (AV.int .i64 0), (AV.int .i64 0), (AV.bool false)]], none⟩, ⟨0, 9, [[(AV.str (ByteArray.mk #[97])), (AV.str (ByteArray.mk #[98])), (AV.int .i64 1), (AV.int .i64 0), (AV.int .i64 5), (AV.int .i64 2), (AV.int .i64 0), (AV.int .i64 0), (AV.bool false)]], none⟩] : Heap) ((AV.tup [(AV.sl .any 2 (List.map Key.row (wantK ([(Card.mk (Key.mk (ByteArray.mk #[97]) (ByteArray.mk #[98])) 1 0 5 (Stamp.mk 1 0 0) false)]) ([(Card.mk (Key.mk (ByteArray.mk #[97]) (ByteArray.mk #[98])) 1 0 5 (Stamp.mk 1 0 0) false)])))), (AV.sl .any 9 (List.map Card.row (tellK ([(Card.mk (Key.mk (ByteArray.mk #[97]) (ByteArray.mk #[98])) 1 0 5 (Stamp.mk 1 0 0) false)]) ([(Card.mk (Key.mk (ByteArray.mk #[97]) (ByteArray.mk #[98])) 1 0 5 (Stamp.mk 1 0 0) false)]))))]), ([⟨0, 9, [[(AV.str (ByteArray.mk #[97])), (AV.str (ByteArray.mk #[98])), (AV.int .i64 1), (AV.int .i64 0), (AV.int .i64 5), (AV.int .i64 1), (AV.int .i64 0), (AV.int .i64 0), (AV.bool false)]], none⟩, ⟨0, 9, [[(AV.str (ByteArray.mk #[97])), (AV.str (ByteArray.mk #[98])), (AV.int .i64 1), (AV.int .i64 0), (AV.int .i64 5), (AV.int .i64 2), (AV.int .i64 0), (AV.int .i64 0), (AV.bool false)]], none⟩] : Heap))) ∧ (Yes (.int .i64 ((List.length (List.map Key.row (wantK ([(Card.mk (Key.mk (ByteArray.mk #[97]) (ByteArray.mk #[98])) 1 0 5 (Stamp.mk 1 0 0) false)]) ([(Card.mk (Key.mk (ByteArray.mk #[97]) (ByteArray.mk #[98])) 1 0 5 (Stamp.mk 2 0 0) false)]))) : Nat) : Int)) ([⟨0, 9, [[(AV.str (ByteArray.mk #[97])), (AV.str (ByteArray.mk #[98])), (AV.int .i64 1), (AV.int .i64 0), (AV.int .i64 5), (AV.int .i64 1), (AV.int .i64 0), (AV.int .i64 0), (AV.bool false)]], none⟩, ⟨0, 9, [[(AV.str (ByteArray.mk #[97])), (AV.str (ByteArray.mk #[98])), (AV.int .i64 1), (AV.int .i64 0), (AV.int .i64 5), (AV.int .i64 2), (AV.int .i64 0), (AV.int .i64 0), (AV.bool false)]], none⟩] : Heap) (AV.int .i64 (((wantK ([(Card.mk (Key.mk (ByteArray.mk #[97]) (ByteArray.mk #[98])) 1 0 5 (Stamp.mk 1 0 0) false)]) ([(Card.mk (Key.mk (ByteArray.mk #[97]) (ByteArray.mk #[98])) 1 0 5 (Stamp.mk 2 0 0) false)])).length : Nat) : Int))) ∧ (Yes (AV.bool ((((wantK ([(Card.mk (Key.mk (ByteArray.mk #[97]) (ByteArray.mk #[98])) 1 0 5 (Stamp.mk 1 0 0) false)]) ([(Card.mk (Key.mk (ByteArray.mk #[97]) (ByteArray.mk #[98])) 1 0 5 (Stamp.mk 2 0 0) false)])).length : Nat) : Int) == 1)) ([⟨0, 9, [[(AV.str (ByteArray.mk #[97])), (AV.str (ByteArray.mk #[98])), (AV.int .i64 1), (AV.int .i64 0), (AV.int .i64 5), (AV.int .i64 1), (AV.int .i64 0), (AV.int .i64 0), (AV.bool false)]], none⟩, ⟨0, 9, [[(AV.str (ByteArray.mk #[97])), (AV.str (ByteArray.mk #[98])), (AV.int .i64 1), (AV.int .i64 0), (AV.int .i64 5), (AV.int .i64 2), (AV.int .i64 0), (AV.int .i64 0), (AV.bool false)]], none⟩] : Heap) (AV.bool true)) ∧ (Yes (.int .i64 ((List.length (List.map Card.row (tellK ([(Card.mk (Key.mk (ByteArray.mk #[97]) (ByteArray.mk #[98])) 1 0 5 (Stamp.mk 1 0 0) false)]) ([(Card.mk (Key.mk (ByteArray.mk #[97]) (ByteArray.mk #[98])) 1 0 5 (Stamp.mk 2 0 0) false)]))) : Nat) : Int)) ([⟨0, 9, [[(AV.str (ByteArray.mk #[97])), (AV.str (ByteArray.mk #[98])), (AV.int .i64 1), (AV.int .i64 0), (AV.int .i64 5), (AV.int .i64 1), (AV.int .i64 0), (AV.int .i64 0), (AV.bool false)]], none⟩, ⟨0, 9, [[(AV.str (ByteArray.mk #[97])), (AV.str (ByteArray.mk #[98])), (AV.int .i64 1), (AV.int .i64 0), (AV.int .i64 5), (AV.int .i64 2), (AV.int .i64 0), (AV.int .i64 0), (AV.bool false)]], none⟩] : Heap) (AV.int .i64 (((tellK ([(Card.mk (Key.mk (ByteArray.mk #[97]) (ByteArray.mk #[98])) 1 0 5 (Stamp.mk 1 0 0) false)]) ([(Card.mk (Key.mk (ByteArray.mk #[97]) (ByteArray.mk #[98])) 1 0 5 (Stamp.mk 2 0 0) false)])).length : Nat) : Int))) ∧ (Yes (AV.bool ((((tellK ([(Card.mk (Key.mk (ByteArray.mk #[97]) (ByteArray.mk #[98])) 1 0 5 (Stamp.mk 1 0 0) false)]) ([(Card.mk (Key.mk (ByteArray.mk #[97]) (ByteArray.mk #[98])) 1 0 5 (Stamp.mk 2 0 0) false)])).length : Nat) : Int) == 0)) ([⟨0, 9, [[(AV.str (ByteArray.mk #[97])), (AV.str (ByteArray.mk #[98])), (AV.int .i64 1), (AV.int .i64 0), (AV.int .i64 5), (AV.int .i64 1), (AV.int .i64 0), (AV.int .i64 0), (AV.bool false)]], none⟩, ⟨0, 9, [[(AV.str (ByteArray.mk #[97])), (AV.str (ByteArray.mk #[98])), (AV.int .i64 1), (AV.int .i64 0), (AV.int .i64 5), (AV.int .i64 2), (AV.int .i64 0), (AV.int .i64 0), (AV.bool false)]], none⟩] : Heap) (AV.bool true)) ∧ (Yes (.int .i64 ((List.length (List.map Key.row (wantK ([(Card.mk (Key.mk (ByteArray.mk #[97]) (ByteArray.mk #[98])) 1 0 5 (Stamp.mk 2 0 0) false)]) ([(Card.mk (Key.mk (ByteArray.mk #[97]) (ByteArray.mk #[98])) 1 0 5 (Stamp.mk 1 0 0) false)]))) : Nat) : Int)) ([⟨0, 9, [[(AV.str (ByteArray.mk #[97])), (AV.str (ByteArray.mk #[98])), (AV.int .i64 1), (AV.int .i64 0), (AV.int .i64 5), (AV.int .i64 1), (AV.int .i64 0), (AV.int .i64 0), (AV.bool false)]], none⟩, ⟨0, 9, [[(AV.str (ByteArray.mk #[97])), (AV.str (ByteArray.mk #[98])), (AV.int .i64 1), (AV.int .i64 0), (AV.int .i64 5), (AV.int .i64 2), (AV.int .i64 0), (AV.int .i64 0), (AV.bool false)]], none⟩] : Heap) (AV.int .i64 (((wantK ([(Card.mk (Key.mk (ByteArray.mk #[97]) (ByteArray.mk #[98])) 1 0 5 (Stamp.mk 2 0 0) false)]) ([(Card.mk (Key.mk (ByteArray.mk #[97]) (ByteArray.mk #[98])) 1 0 5 (Stamp.mk 1 0 0) false)])).length : Nat) : Int))) ∧ (Yes (AV.bool ((((wantK ([(Card.mk (Key.mk (ByteArray.mk #[97]) (ByteArray.mk #[98])) 1 0 5 (Stamp.mk 2 0 0) false)]) ([(Card.mk (Key.mk (ByteArray.mk #[97]) (ByteArray.mk #[98])) 1 0 5 (Stamp.mk 1 0 0) false)])).length : Nat) : Int) == 0)) ([⟨0, 9, [[(AV.str (ByteArray.mk #[97])), (AV.str (ByteArray.mk #[98])), (AV.int .i64 1), (AV.int .i64 0), (AV.int .i64 5), (AV.int .i64 1), (AV.int .i64 0), (AV.int .i64 0), (AV.bool false)]], none⟩, ⟨0, 9, [[(AV.str (ByteArray.mk #[97])), (AV.str (ByteArray.mk #[98])), (AV.int .i64 1), (AV.int .i64 0), (AV.int .i64 5), (AV.int .i64 2), (AV.int .i64 0), (AV.int .i64 0), (AV.bool false)]], none⟩] : Heap) (AV.bool true)) ∧ (Yes (.int .i64 ((List.length (List.map Card.row (tellK ([(Card.mk (Key.mk (ByteArray.mk #[97]) (ByteArray.mk #[98])) 1 0 5 (Stamp.mk 2 0 0) false)]) ([(Card.mk (Key.mk (ByteArray.mk #[97]) (ByteArray.mk #[98])) 1 0 5 (Stamp.mk 1 0 0) false)]))) : Nat) : Int)) ([⟨0, 9, [[(AV.str (ByteArray.mk #[97])), (AV.str (ByteArray.mk #[98])), (AV.int .i64 1), (AV.int .i64 0), (AV.int .i64 5), (AV.int .i64 1), (AV.int .i64 0), (AV.int .i64 0), (AV.bool false)]], none⟩, ⟨0, 9, [[(AV.str (ByteArray.mk #[97])), (AV.str (ByteArray.mk #[98])), (AV.int .i64 1), (AV.int .i64 0), (AV.int .i64 5), (AV.int .i64 2), (AV.int .i64 0), (AV.int .i64 0), (AV.bool false)]], none⟩] : Heap) (AV.int .i64 (((tellK ([(Card.mk (Key.mk (ByteArray.mk #[97]) (ByteArray.mk #[98])) 1 0 5 (Stamp.mk 2 0 0) false)]) ([(Card.mk (Key.mk (ByteArray.mk #[97]) (ByteArray.mk #[98])) 1 0 5 (Stamp.mk 1 0 0) false)])).length : Nat) : Int))) ∧ (Yes (AV.bool ((((tellK ([(Card.mk (Key.mk (ByteArray.mk #[97]) (ByteArray.mk #[98])) 1 0 5 (Stamp.mk 2 0 0) false)]) ([(Card.mk (Key.mk (ByteArray.mk #[97]) (ByteArray.mk #[98])) 1 0 5 (Stamp.mk 1 0 0) false)])).length : Nat) : Int) == 1)) ([⟨0, 9, [[(AV.str (ByteArray.mk #[97])), (AV.str (ByteArray.mk #[98])), (AV.int .i64 1), (AV.int .i64 0), (AV.int .i64 5), (AV.int .i64 1), (AV.int .i64 0), (AV.int .i64 0), (AV.bool false)]], none⟩, ⟨0, 9, [[(AV.str (ByteArray.mk #[97])), (AV.str (ByteArray.mk #[98])), (AV.int .i64 1), (AV.int .i64 0), (AV.int .i64 5), (AV.int .i64 2), (AV.int .i64 0), (AV.int .i64 0), (AV.bool false)]], none⟩] : Heap) (AV.bool true)) ∧ (IdxSl 9 9 (List.map Card.row (tellK ([(Card.mk (Key.mk (ByteArray.mk #[97]) (ByteArray.mk #[98])) 1 0 5 (Stamp.mk 2 0 0) false)]) ([(Card.mk (Key.mk (ByteArray.mk #[97]) (ByteArray.mk #[98])) 1 0 5 (Stamp.mk 1 0 0) false)]))) 0 ([⟨0, 9, [[(AV.str (ByteArray.mk #[97])), (AV.str (ByteArray.mk #[98])), (AV.int .i64 1), (AV.int .i64 0), (AV.int .i64 5), (AV.int .i64 1), (AV.int .i64 0), (AV.int .i64 0), (AV.bool false)]], none⟩, ⟨0, 9, [[(AV.str (ByteArray.mk #[97])), (AV.str (ByteArray.mk #[98])), (AV.int .i64 1), (AV.int .i64 0), (AV.int .i64 5), (AV.int .i64 2), (AV.int .i64 0), (AV.int .i64 0), (AV.bool false)]], none⟩] : Heap) (Card.row (nth (tellK ([(Card.mk (Key.mk (ByteArray.mk #[97]) (ByteArray.mk #[98])) 1 0 5 (Stamp.mk 2 0 0) false)]) ([(Card.mk (Key.mk (ByteArray.mk #[97]) (ByteArray.mk #[98])) 1 0 5 (Stamp.mk 1 0 0) false)])) 0))) ∧ (Yes (AV.bool (Card.eqb (nth (tellK ([(Card.mk (Key.mk (ByteArray.mk #[97]) (ByteArray.mk #[98])) 1 0 5 (Stamp.mk 2 0 0) false)]) ([(Card.mk (Key.mk (ByteArray.mk #[97]) (ByteArray.mk #[98])) 1 0 5 (Stamp.mk 1 0 0) false)])) 0) (Card.mk (Key.mk (ByteArray.mk #[97]) (ByteArray.mk #[98])) 1 0 5 (Stamp.mk 2 0 0) false))) ([⟨0, 9, [[(AV.str (ByteArray.mk #[97])), (AV.str (ByteArray.mk #[98])), (AV.int .i64 1), (AV.int .i64 0), (AV.int .i64 5), (AV.int .i64 1), (AV.int .i64 0), (AV.int .i64 0), (AV.bool false)]], none⟩, ⟨0, 9, [[(AV.str (ByteArray.mk #[97])), (AV.str (ByteArray.mk #[98])), (AV.int .i64 1), (AV.int .i64 0), (AV.int .i64 5), (AV.int .i64 2), (AV.int .i64 0), (AV.int .i64 0), (AV.bool false)]], none⟩] : Heap) (AV.bool true)) ∧ (Yes (.int .i64 ((List.length (List.map Key.row (wantK ([(Card.mk (Key.mk (ByteArray.mk #[97]) (ByteArray.mk #[98])) 1 0 5 (Stamp.mk 1 0 0) false)]) ([(Card.mk (Key.mk (ByteArray.mk #[97]) (ByteArray.mk #[98])) 1 0 5 (Stamp.mk 1 0 0) false)]))) : Nat) : Int)) ([⟨0, 9, [[(AV.str (ByteArray.mk #[97])), (AV.str (ByteArray.mk #[98])), (AV.int .i64 1), (AV.int .i64 0), (AV.int .i64 5), (AV.int .i64 1), (AV.int .i64 0), (AV.int .i64 0), (AV.bool false)]], none⟩, ⟨0, 9, [[(AV.str (ByteArray.mk #[97])), (AV.str (ByteArray.mk #[98])), (AV.int .i64 1), (AV.int .i64 0), (AV.int .i64 5), (AV.int .i64 2), (AV.int .i64 0), (AV.int .i64 0), (AV.bool false)]], none⟩] : Heap) (AV.int .i64 (((wantK ([(Card.mk (Key.mk (ByteArray.mk #[97]) (ByteArray.mk #[98])) 1 0 5 (Stamp.mk 1 0 0) false)]) ([(Card.mk (Key.mk (ByteArray.mk #[97]) (ByteArray.mk #[98])) 1 0 5 (Stamp.mk 1 0 0) false)])).length : Nat) : Int))) ∧ (Yes (AV.bool ((((wantK ([(Card.mk (Key.mk (ByteArray.mk #[97]) (ByteArray.mk #[98])) 1 0 5 (Stamp.mk 1 0 0) false)]) ([(Card.mk (Key.mk (ByteArray.mk #[97]) (ByteArray.mk #[98])) 1 0 5 (Stamp.mk 1 0 0) false)])).length : Nat) : Int) == 0)) ([⟨0, 9, [[(AV.str (ByteArray.mk #[97])), (AV.str (ByteArray.mk #[98])), (AV.int .i64 1), (AV.int .i64 0), (AV.int .i64 5), (AV.int .i64 1), (AV.int .i64 0), (AV.int .i64 0), (AV.bool false)]], none⟩, ⟨0, 9, [[(AV.str (ByteArray.mk #[97])), (AV.str (ByteArray.mk #[98])), (AV.int .i64 1), (AV.int .i64 0), (AV.int .i64 5), (AV.int .i64 2), (AV.int .i64 0), (AV.int .i64 0), (AV.bool false)]], none⟩] : Heap) (AV.bool true)) ∧ (Yes (.int .i64 ((List.length (List.map Card.row (tellK ([(Card.mk (Key.mk (ByteArray.mk #[97]) (ByteArray.mk #[98])) 1 0 5 (Stamp.mk 1 0 0) false)]) ([(Card.mk (Key.mk (ByteArray.mk #[97]) (ByteArray.mk #[98])) 1 0 5 (Stamp.mk 1 0 0) false)]))) : Nat) : Int)) ([⟨0, 9, [[(AV.str (ByteArray.mk #[97])), (AV.str (ByteArray.mk #[98])), (AV.int .i64 1), (AV.int .i64 0), (AV.int .i64 5), (AV.int .i64 1), (AV.int .i64 0), (AV.int .i64 0), (AV.bool false)]], none⟩, ⟨0, 9, [[(AV.str (ByteArray.mk #[97])), (AV.str (ByteArray.mk #[98])), (AV.int .i64 1), (AV.int .i64 0), (AV.int .i64 5), (AV.int .i64 2), (AV.int .i64 0), (AV.int .i64 0), (AV.bool false)]], none⟩] : Heap) (AV.int .i64 (((tellK ([(Card.mk (Key.mk (ByteArray.mk #[97]) (ByteArray.mk #[98])) 1 0 5 (Stamp.mk 1 0 0) false)]) ([(Card.mk (Key.mk (ByteArray.mk #[97]) (ByteArray.mk #[98])) 1 0 5 (Stamp.mk 1 0 0) false)])).length : Nat) : Int))) ∧ (Yes (AV.bool ((((tellK ([(Card.mk (Key.mk (ByteArray.mk #[97]) (ByteArray.mk #[98])) 1 0 5 (Stamp.mk 1 0 0) false)]) ([(Card.mk (Key.mk (ByteArray.mk #[97]) (ByteArray.mk #[98])) 1 0 5 (Stamp.mk 1 0 0) false)])).length : Nat) : Int) == 0)) ([⟨0, 9, [[(AV.str (ByteArray.mk #[97])), (AV.str (ByteArray.mk #[98])), (AV.int .i64 1), (AV.int .i64 0), (AV.int .i64 5), (AV.int .i64 1), (AV.int .i64 0), (AV.int .i64 0), (AV.bool false)]], none⟩, ⟨0, 9, [[(AV.str (ByteArray.mk #[97])), (AV.str (ByteArray.mk #[98])), (AV.int .i64 1), (AV.int .i64 0), (AV.int .i64 5), (AV.int .i64 2), (AV.int .i64 0), (AV.int .i64 0), (AV.bool false)]], none⟩] : Heap) (AV.bool true)) ∧ (ACalls Try.prog 54 [(AV.sl .nil 0 [])] ([⟨0, 9, [[(AV.str (ByteArray.mk #[97])), (AV.str (ByteArray.mk #[98])), (AV.int .i64 1), (AV.int .i64 0), (AV.int .i64 5), (AV.int .i64 1), (AV.int .i64 0), (AV.int .i64 0), (AV.bool false)]], none⟩, ⟨0, 9, [[(AV.str (ByteArray.mk #[97])), (AV.str (ByteArray.mk #[98])), (AV.int .i64 1), (AV.int .i64 0), (AV.int .i64 5), (AV.int .i64 2), (AV.int .i64 0), (AV.int .i64 0), (AV.bool false)]], none⟩] : Heap) ((AV.agg [(AV.int .i64 4), (AV.int .i64 0), (AV.int .i64 0), (AV.int .i64 0), (AV.int .i64 0), (AV.int .i64 0), (AV.int .i64 0), (AV.str (ByteArray.mk #[])), (AV.str (ByteArray.mk #[])), (AV.bool false), (AV.int .u32 0), (AV.sl .any 9 (List.map Card.row (digK []))), (AV.sl .nil 0 [])]), ([⟨0, 9, [[(AV.str (ByteArray.mk #[97])), (AV.str (ByteArray.mk #[98])), (AV.int .i64 1), (AV.int .i64 0), (AV.int .i64 5), (AV.int .i64 1), (AV.int .i64 0), (AV.int .i64 0), (AV.bool false)]], none⟩, ⟨0, 9, [[(AV.str (ByteArray.mk #[97])), (AV.str (ByteArray.mk #[98])), (AV.int .i64 1), (AV.int .i64 0), (AV.int .i64 5), (AV.int .i64 2), (AV.int .i64 0), (AV.int .i64 0), (AV.bool false)]], none⟩] : Heap))) ∧ (ACalls Try.prog 56 [(AV.sl .clip 9 [[(AV.str (ByteArray.mk #[97])), (AV.str (ByteArray.mk #[98])), (AV.int .i64 1), (AV.int .i64 0), (AV.int .i64 5), (AV.int .i64 1), (AV.int .i64 0), (AV.int .i64 0), (AV.bool false)]]), (AV.sl .clip 2 [[(AV.str (ByteArray.mk #[])), (AV.str (ByteArray.mk #[]))], [(AV.str (ByteArray.mk #[97])), (AV.str (ByteArray.mk #[98]))], [(AV.str (ByteArray.mk #[97])), (AV.str (ByteArray.mk #[98]))]])] ([⟨0, 9, [[(AV.str (ByteArray.mk #[97])), (AV.str (ByteArray.mk #[98])), (AV.int .i64 1), (AV.int .i64 0), (AV.int .i64 5), (AV.int .i64 1), (AV.int .i64 0), (AV.int .i64 0), (AV.bool false)]], none⟩, ⟨0, 9, [[(AV.str (ByteArray.mk #[97])), (AV.str (ByteArray.mk #[98])), (AV.int .i64 1), (AV.int .i64 0), (AV.int .i64 5), (AV.int .i64 2), (AV.int .i64 0), (AV.int .i64 0), (AV.bool false)]], none⟩] : Heap) ((AV.sl .any 9 (List.map Card.row (answerK ([(Card.mk (Key.mk (ByteArray.mk #[97]) (ByteArray.mk #[98])) 1 0 5 (Stamp.mk 1 0 0) false)]) ([(Key.mk (ByteArray.mk #[]) (ByteArray.mk #[])), (Key.mk (ByteArray.mk #[97]) (ByteArray.mk #[98])), (Key.mk (ByteArray.mk #[97]) (ByteArray.mk #[98]))])))), ([⟨0, 9, [[(AV.str (ByteArray.mk #[97])), (AV.str (ByteArray.mk #[98])), (AV.int .i64 1), (AV.int .i64 0), (AV.int .i64 5), (AV.int .i64 1), (AV.int .i64 0), (AV.int .i64 0), (AV.bool false)]], none⟩, ⟨0, 9, [[(AV.str (ByteArray.mk #[97])), (AV.str (ByteArray.mk #[98])), (AV.int .i64 1), (AV.int .i64 0), (AV.int .i64 5), (AV.int .i64 2), (AV.int .i64 0), (AV.int .i64 0), (AV.bool false)]], none⟩] : Heap))) ∧ (Yes (.int .i64 ((List.length (List.map Card.row (answerK ([(Card.mk (Key.mk (ByteArray.mk #[97]) (ByteArray.mk #[98])) 1 0 5 (Stamp.mk 1 0 0) false)]) ([(Key.mk (ByteArray.mk #[]) (ByteArray.mk #[])), (Key.mk (ByteArray.mk #[97]) (ByteArray.mk #[98])), (Key.mk (ByteArray.mk #[97]) (ByteArray.mk #[98]))]))) : Nat) : Int)) ([⟨0, 9, [[(AV.str (ByteArray.mk #[97])), (AV.str (ByteArray.mk #[98])), (AV.int .i64 1), (AV.int .i64 0), (AV.int .i64 5), (AV.int .i64 1), (AV.int .i64 0), (AV.int .i64 0), (AV.bool false)]], none⟩, ⟨0, 9, [[(AV.str (ByteArray.mk #[97])), (AV.str (ByteArray.mk #[98])), (AV.int .i64 1), (AV.int .i64 0), (AV.int .i64 5), (AV.int .i64 2), (AV.int .i64 0), (AV.int .i64 0), (AV.bool false)]], none⟩] : Heap) (AV.int .i64 (((answerK ([(Card.mk (Key.mk (ByteArray.mk #[97]) (ByteArray.mk #[98])) 1 0 5 (Stamp.mk 1 0 0) false)]) ([(Key.mk (ByteArray.mk #[]) (ByteArray.mk #[])), (Key.mk (ByteArray.mk #[97]) (ByteArray.mk #[98])), (Key.mk (ByteArray.mk #[97]) (ByteArray.mk #[98]))])).length : Nat) : Int))) ∧ (Yes (AV.bool ((((answerK ([(Card.mk (Key.mk (ByteArray.mk #[97]) (ByteArray.mk #[98])) 1 0 5 (Stamp.mk 1 0 0) false)]) ([(Key.mk (ByteArray.mk #[]) (ByteArray.mk #[])), (Key.mk (ByteArray.mk #[97]) (ByteArray.mk #[98])), (Key.mk (ByteArray.mk #[97]) (ByteArray.mk #[98]))])).length : Nat) : Int) == 1)) ([⟨0, 9, [[(AV.str (ByteArray.mk #[97])), (AV.str (ByteArray.mk #[98])), (AV.int .i64 1), (AV.int .i64 0), (AV.int .i64 5), (AV.int .i64 1), (AV.int .i64 0), (AV.int .i64 0), (AV.bool false)]], none⟩, ⟨0, 9, [[(AV.str (ByteArray.mk #[97])), (AV.str (ByteArray.mk #[98])), (AV.int .i64 1), (AV.int .i64 0), (AV.int .i64 5), (AV.int .i64 2), (AV.int .i64 0), (AV.int .i64 0), (AV.bool false)]], none⟩] : Heap) (AV.bool true)) ∧ (AV.bdd 0 (AV.bool true) = true ∧ obsB 0 ([] : Heap) = true) ∧ ((AV.bool true), ([] : Heap)) = ((AV.bool true), ([] : Heap))) = _) ?_
  refine And.intro ((cmpG_at ([(Card.mk (Key.mk (ByteArray.mk #[97]) (ByteArray.mk #[98])) 1 0 5 (Stamp.mk 1 0 0) false)]) ([(Card.mk (Key.mk (ByteArray.mk #[97]) (ByteArray.mk #[98])) 1 0 5 (Stamp.mk 2 0 0) false)]) (by first | omega | assumption | (simp; done) | (simp; omega) | (simp_all; done) | (simp_all; omega)) (by first | omega | assumption | (simp; done) | (simp; omega) | (simp_all; done) | (simp_all; omega)) ([⟨0, 9, [[(AV.str (ByteArray.mk #[97])), (AV.str (ByteArray.mk #[98])), (AV.int .i64 1), (AV.int .i64 0), (AV.int .i64 5), (AV.int .i64 1), (AV.int .i64 0), (AV.int .i64 0), (AV.bool false)]], none⟩, ⟨0, 9, [[(AV.str (ByteArray.mk #[97])), (AV.str (ByteArray.mk #[98])), (AV.int .i64 1), (AV.int .i64 0), (AV.int .i64 5), (AV.int .i64 2), (AV.int .i64 0), (AV.int .i64 0), (AV.bool false)]], none⟩] : Heap)).pre ⟨⟨rfl, rfl, .inl rfl⟩, ⟨rfl, rfl, .inl rfl⟩, trivial⟩) ?_
  refine And.intro ((cmpG_at ([(Card.mk (Key.mk (ByteArray.mk #[97]) (ByteArray.mk #[98])) 1 0 5 (Stamp.mk 2 0 0) false)]) ([(Card.mk (Key.mk (ByteArray.mk #[97]) (ByteArray.mk #[98])) 1 0 5 (Stamp.mk 1 0 0) false)]) (by first | omega | assumption | (simp; done) | (simp; omega) | (simp_all; done) | (simp_all; omega)) (by first | omega | assumption | (simp; done) | (simp; omega) | (simp_all; done) | (simp_all; omega)) ([⟨0, 9, [[(AV.str (ByteArray.mk #[97])), (AV.str (ByteArray.mk #[98])), (AV.int .i64 1), (AV.int .i64 0), (AV.int .i64 5), (AV.int .i64 1), (AV.int .i64 0), (AV.int .i64 0), (AV.bool false)]], none⟩, ⟨0, 9, [[(AV.str (ByteArray.mk #[97])), (AV.str (ByteArray.mk #[98])), (AV.int .i64 1), (AV.int .i64 0), (AV.int .i64 5), (AV.int .i64 2), (AV.int .i64 0), (AV.int .i64 0), (AV.bool false)]], none⟩] : Heap)).pre ⟨⟨rfl, rfl, .inl rfl⟩, ⟨rfl, rfl, .inl rfl⟩, trivial⟩) ?_
  refine And.intro ((cmpG_at ([(Card.mk (Key.mk (ByteArray.mk #[97]) (ByteArray.mk #[98])) 1 0 5 (Stamp.mk 1 0 0) false)]) ([(Card.mk (Key.mk (ByteArray.mk #[97]) (ByteArray.mk #[98])) 1 0 5 (Stamp.mk 1 0 0) false)]) (by first | omega | assumption | (simp; done) | (simp; omega) | (simp_all; done) | (simp_all; omega)) (by first | omega | assumption | (simp; done) | (simp; omega) | (simp_all; done) | (simp_all; omega)) ([⟨0, 9, [[(AV.str (ByteArray.mk #[97])), (AV.str (ByteArray.mk #[98])), (AV.int .i64 1), (AV.int .i64 0), (AV.int .i64 5), (AV.int .i64 1), (AV.int .i64 0), (AV.int .i64 0), (AV.bool false)]], none⟩, ⟨0, 9, [[(AV.str (ByteArray.mk #[97])), (AV.str (ByteArray.mk #[98])), (AV.int .i64 1), (AV.int .i64 0), (AV.int .i64 5), (AV.int .i64 2), (AV.int .i64 0), (AV.int .i64 0), (AV.bool false)]], none⟩] : Heap)).pre ⟨⟨rfl, rfl, .inl rfl⟩, ⟨rfl, rfl, .inl rfl⟩, trivial⟩) ?_
  refine And.intro (Yes.len _ _ _) ?_
  refine And.intro (Yes.bool (by kernel_rfl)) ?_
  refine And.intro (Yes.len _ _ _) ?_
  refine And.intro (Yes.bool (by kernel_rfl)) ?_
  refine And.intro (Yes.len _ _ _) ?_
  refine And.intro (Yes.bool (by kernel_rfl)) ?_
  refine And.intro (Yes.len _ _ _) ?_
  refine And.intro (Yes.bool (by kernel_rfl)) ?_
  refine And.intro (IdxSl.mk _ (by omega) (Nat.le_of_ble_eq_true (by kernel_rfl))) ?_
  refine And.intro (Yes.bool (by kernel_rfl)) ?_
  refine And.intro (Yes.len _ _ _) ?_
  refine And.intro (Yes.bool (by kernel_rfl)) ?_
  refine And.intro (Yes.len _ _ _) ?_
  refine And.intro (Yes.bool (by kernel_rfl)) ?_
  refine And.intro ((digest_at [] (by first | omega | assumption | (simp; done) | (simp; omega) | (simp_all; done) | (simp_all; omega)) ([⟨0, 9, [[(AV.str (ByteArray.mk #[97])), (AV.str (ByteArray.mk #[98])), (AV.int .i64 1), (AV.int .i64 0), (AV.int .i64 5), (AV.int .i64 1), (AV.int .i64 0), (AV.int .i64 0), (AV.bool false)]], none⟩, ⟨0, 9, [[(AV.str (ByteArray.mk #[97])), (AV.str (ByteArray.mk #[98])), (AV.int .i64 1), (AV.int .i64 0), (AV.int .i64 5), (AV.int .i64 2), (AV.int .i64 0), (AV.int .i64 0), (AV.bool false)]], none⟩] : Heap)).pre ⟨⟨rfl, rfl, .inr rfl⟩, trivial⟩) ?_
  refine And.intro ((answer_at ([(Card.mk (Key.mk (ByteArray.mk #[97]) (ByteArray.mk #[98])) 1 0 5 (Stamp.mk 1 0 0) false)]) ([(Key.mk (ByteArray.mk #[]) (ByteArray.mk #[])), (Key.mk (ByteArray.mk #[97]) (ByteArray.mk #[98])), (Key.mk (ByteArray.mk #[97]) (ByteArray.mk #[98]))]) (by first | omega | assumption | (simp; done) | (simp; omega) | (simp_all; done) | (simp_all; omega)) (by first | omega | assumption | (simp; done) | (simp; omega) | (simp_all; done) | (simp_all; omega)) ([⟨0, 9, [[(AV.str (ByteArray.mk #[97])), (AV.str (ByteArray.mk #[98])), (AV.int .i64 1), (AV.int .i64 0), (AV.int .i64 5), (AV.int .i64 1), (AV.int .i64 0), (AV.int .i64 0), (AV.bool false)]], none⟩, ⟨0, 9, [[(AV.str (ByteArray.mk #[97])), (AV.str (ByteArray.mk #[98])), (AV.int .i64 1), (AV.int .i64 0), (AV.int .i64 5), (AV.int .i64 2), (AV.int .i64 0), (AV.int .i64 0), (AV.bool false)]], none⟩] : Heap)).pre ⟨⟨rfl, rfl, .inl rfl⟩, ⟨rfl, rfl, .inl rfl⟩, trivial⟩) ?_
  refine And.intro (Yes.len _ _ _) ?_
  refine And.intro (Yes.bool (by kernel_rfl)) ?_
  refine And.intro (by first | (simp [obsB, AV.bddss, AV.bdds, AV.bdd]; done) | (simp [obsB, AV.bddss, AV.bdds, AV.bdd, -List.map_append]; done) | simp [obsB, AV.bddss, AV.bdds, AV.bdd, -List.map_append, -List.map_set, -List.map_take, -List.map_drop, -List.map_cons, -List.map_map]) ?_
  rfl
theorem known18_at   (H : Heap) : ACalls Try.prog 52 [] H ((AV.bool true), H) := (known18_spec  ).lift (by kernel_rfl) (by kernel_rfl) H
end Go.Proofs.Ytpkgpldgoajphaa.AM

set_option linter.unusedVariables false
set_option linter.unusedSimpArgs false
set_option maxRecDepth 100000
namespace Go.Proofs.Ytpkgpldgoajphaa.AM
open Go
attribute [local irreducible] Tp.card Tp.cardT Tp.next Tp.step Tp.cards Tp.cardsT Tp.key Tp.keyT

/-! ### texts -/
theorem bl_irrefl : ∀ (x : List UInt8), Op.bytesLess x x = false
  | [] => rfl
  | a :: x => by
    have := bl_irrefl x
    simp [Op.bytesLess, this]
theorem bl_asymm : ∀ (x y : List UInt8), Op.bytesLess x y = true → Op.bytesLess y x = false
  | [], [], h => by simp [Op.bytesLess] at h
  | [], b :: y, h => rfl
  | a :: x, [], h => by simp [Op.bytesLess] at h
  | a :: x, b :: y, h => by
    simp only [Op.bytesLess, Bool.or_eq_true, Bool.and_eq_true, decide_eq_true_eq, beq_iff_eq] at h
    rcases h with h | ⟨rfl, h⟩
    · have h1 : ¬ b < a := fun h' => by exact absurd (UInt8.lt_trans h h') (UInt8.lt_irrefl _)
      have h2 : ¬ b = a := fun e => by subst e; exact UInt8.lt_irrefl _ h
      simp [Op.bytesLess, h1, h2]
    · have := bl_asymm x y h
      simp [Op.bytesLess, this]
theorem bl_trans : ∀ (x y z : List UInt8), Op.bytesLess x y = true → Op.bytesLess y z = true → Op.bytesLess x z = true
  | [], [], z, h, _ => by simp [Op.bytesLess] at h
  | [], b :: y, [], _, h => by simp [Op.bytesLess] at h
  | [], b :: y, c :: z, _, _ => rfl
  | a :: x, [], z, h, _ => by simp [Op.bytesLess] at h
  | a :: x, b :: y, [], _, h => by simp [Op.bytesLess] at h
  | a :: x, b :: y, c :: z, h, k => by
    simp only [Op.bytesLess, Bool.or_eq_true, Bool.and_eq_true, decide_eq_true_eq, beq_iff_eq] at h k ⊢
    rcases h with h | ⟨rfl, h⟩
    · rcases k with k | ⟨rfl, k⟩
      · exact .inl (UInt8.lt_trans h k)
      · exact .inl h
    · rcases k with k | ⟨rfl, k⟩
      · exact .inl k
      · exact .inr ⟨rfl, bl_trans x y z h k⟩
theorem bl_tri : ∀ (x y : List UInt8), Op.bytesLess x y = false → Op.bytesLess y x = false → x = y
  | [], [], _, _ => rfl
  | [], b :: y, h, _ => by simp [Op.bytesLess] at h
  | a :: x, [], _, h => by simp [Op.bytesLess] at h
  | a :: x, b :: y, h, k => by
    simp only [Op.bytesLess, Bool.or_eq_false_iff, decide_eq_false_iff_not] at h k
    have e : a = b := by
      rcases UInt8.lt_or_lt_of_ne (a := a) (b := b) |> fun f => Classical.em (a = b) with e | e
      · exact e
      · rcases UInt8.lt_or_lt_of_ne e with h1 | h1
        · exact absurd h1 h.1
        · exact absurd h1 k.1
    subst e
    simp only [beq_self_eq_true, Bool.true_and] at h k
    rw [bl_tri x y h.2 k.2]
theorem ba_eq {a b : ByteArray} (h : a.toList = b.toList) : a = b := by
  rw [ByteArray.toList_eq, ByteArray.toList_eq] at h
  obtain ⟨⟨a⟩⟩ := a
  obtain ⟨⟨b⟩⟩ := b
  simp at h
  rw [h]

/-! ### keys -/
theorem Key.eqb_iff (a b : Key) : Key.eqb a b = true ↔ a = b := by
  unfold Key.eqb
  constructor
  · intro h
    simp only [Bool.and_true, Bool.and_eq_true, beq_iff_eq] at h
    cases a; cases b
    exact congr (congrArg Key.mk (ba_eq h.1)) (ba_eq h.2)
  · intro h; subst h; simp
theorem Key.eqb_false {a b : Key} : Key.eqb a b = false ↔ a ≠ b := by
  rw [Ne, ← Key.eqb_iff]; simp
theorem bk_irrefl (a : Key) : beforeK a a = false := by simp [beforeK, bl_irrefl]
theorem bk_asymm {a b : Key} (h : beforeK a b = true) : beforeK b a = false := by
  unfold beforeK at *
  by_cases e : a.app.toList = b.app.toList
  · have e' : b.app.toList = a.app.toList := e.symm
    simp [e] at h
    simp [e']
    exact bl_asymm _ _ h
  · have e' : ¬ b.app.toList = a.app.toList := fun x => e x.symm
    simp [e] at h
    simp [e']
    exact bl_asymm _ _ h
theorem bk_trans {a b c : Key} (h : beforeK a b = true) (k : beforeK b c = true) : beforeK a c = true := by
  unfold beforeK at *
  by_cases e : a.app.toList = b.app.toList
  · by_cases f : b.app.toList = c.app.toList
    · simp [e] at h; simp [f] at k; simp [e, f]
      exact bl_trans _ _ _ h k
    · simp [f] at k
      have : ¬ a.app.toList = c.app.toList := by rw [e]; exact f
      simp [this]; rw [e]; exact k
  · simp [e] at h
    by_cases f : b.app.toList = c.app.toList
    · have : ¬ a.app.toList = c.app.toList := by rw [← f]; exact e
      simp [this]; rw [← f]; exact h
    · simp [f] at k
      have h1 := bl_trans _ _ _ h k
      have : ¬ a.app.toList = c.app.toList := fun x => by rw [x] at h; have := bl_asymm _ _ h; rw [k] at this; simp at this
      simp [this]; exact h1
theorem bk_tri {a b : Key} (h : beforeK a b = false) (k : beforeK b a = false) : a = b := by
  unfold beforeK at *
  by_cases e : a.app.toList = b.app.toList
  · have e' : b.app.toList = a.app.toList := e.symm
    simp [e] at h; simp [e'] at k
    have h2 := bl_tri _ _ h k
    cases a; cases b
    exact congr (congrArg Key.mk (ba_eq e)) (ba_eq h2)
  · have e' : ¬ b.app.toList = a.app.toList := fun x => e x.symm
    simp [e] at h; simp [e'] at k
    exact absurd (bl_tri _ _ h k) e
theorem bk_ne {a b : Key} (h : beforeK a b = true) : a ≠ b := fun e => by subst e; rw [bk_irrefl] at h; simp at h
theorem bk_lt_le {a b c : Key} (h : beforeK a b = true) (k : beforeK c b = false) : beforeK a c = true := by
  cases e : beforeK b c with
  | true => exact bk_trans h e
  | false => rw [← bk_tri e k]; exact h
theorem bk_le_trans {a b c : Key} (h : beforeK b a = false) (k : beforeK c b = false) : beforeK c a = false := by
  cases e : beforeK c a with
  | false => rfl
  | true => have := bk_lt_le e h; rw [this] at k; simp at k
theorem less_before (a b : Key) : lessK a b = beforeK a b := by
  unfold lessK cmpK cmpS beforeK
  by_cases h1 : Op.bytesLess a.app.toList b.app.toList = true
  · have : ¬ a.app.toList = b.app.toList := fun e => by rw [e, bl_irrefl] at h1; simp at h1
    simp [h1, this]
  · by_cases h2 : a.app.toList = b.app.toList
    · simp [h2, bl_irrefl]
      by_cases h3 : Op.bytesLess a.id.toList b.id.toList = true
      · simp [h3]
      · by_cases h4 : a.id.toList = b.id.toList
        · simp [h4, bl_irrefl]
        · simp [h3, h4]
    · simp [h1, h2]

/-! ### the reference's sort -/
def WkC (a b : Card) : Prop := beforeK b.key a.key = false
def StC (a b : Card) : Prop := beforeK a.key b.key = true
theorem nth_mem {α : Type} [Inhabited α] {l : List α} {i : Nat} (h : i < l.length) : nth l i ∈ l := List.mem_of_getElem? (nth_get h)
theorem nth_getElem {α : Type} [Inhabited α] {l : List α} {i : Nat} (h : i < l.length) : nth l i = l[i] := by
  simp [nth, List.getD_eq_getElem?_getD, List.getElem?_eq_getElem h]
theorem pw_nth {α : Type} [Inhabited α] {R : α → α → Prop} {l : List α} : List.Pairwise R l ↔ ∀ i j, i < j → j < l.length → R (nth l i) (nth l j) := by
  rw [List.pairwise_iff_getElem]
  constructor
  · intro h i j hij hj
    rw [nth_getElem (show i < l.length by omega), nth_getElem hj]
    exact h i j _ _ hij
  · intro h i j hi hj hij
    have := h i j hij hj
    rwa [nth_getElem hi, nth_getElem hj] at this
theorem mem_nth {α : Type} [Inhabited α] {l : List α} {x : α} (h : x ∈ l) : ∃ i, i < l.length ∧ nth l i = x := by
  obtain ⟨i, hi, rfl⟩ := List.getElem_of_mem h
  exact ⟨i, hi, nth_getElem hi⟩
theorem nth_take {α : Type} [Inhabited α] {l : List α} {i k : Nat} (h : i < k) : nth (l.take k) i = nth l i := by
  simp [nth, List.getD_eq_getElem?_getD, List.getElem?_take, h]
theorem nth_drop {α : Type} [Inhabited α] {l : List α} {i k : Nat} : nth (l.drop k) i = nth l (k + i) := by
  simp [nth, List.getD_eq_getElem?_getD, List.getElem?_drop]

theorem posK_spec (c : Card) (out : List Card) (k : Nat) : (∀ i, posK c out k ≤ i → i < k → beforeK c.key (nth out i).key = true) ∧ (0 < posK c out k → beforeK c.key (nth out (posK c out k - 1)).key = false) := by
  induction k with
  | zero => simp only [posK]; exact ⟨fun i h1 h2 => by omega, fun h => by omega⟩
  | succ k ih =>
    simp only [posK]
    split
    · rename_i h
      refine ⟨fun i h1 h2 => ?_, ih.2⟩
      rcases Nat.lt_or_ge i k with h3 | h3
      · exact ih.1 i h1 h3
      · rw [show i = k by omega]; exact h
    · rename_i h
      exact ⟨fun i h1 h2 => by omega, fun _ => by simpa using h⟩
theorem insK_perm (out : List Card) (c : Card) : List.Perm (insK out c) (c :: out) := by
  unfold insK
  rw [List.append_assoc, List.singleton_append]
  refine List.perm_middle.trans ?_
  rw [List.take_append_drop]
theorem insK_sorted {out : List Card} (h : List.Pairwise WkC out) (c : Card) : List.Pairwise WkC (insK out c) := by
  obtain ⟨h1, h2⟩ := posK_spec c out out.length
  have hp := posK_le c out out.length
  generalize hpe : posK c out out.length = p at *
  have hs := pw_nth.1 h
  unfold insK
  rw [hpe, List.append_assoc, List.singleton_append, List.pairwise_append]
  refine ⟨h.sublist (List.take_sublist _ _), List.pairwise_cons.2 ⟨fun y hy => ?_, h.sublist (List.drop_sublist _ _)⟩, fun x hx y hy => ?_⟩
  · obtain ⟨i, hi, rfl⟩ := mem_nth hy
    simp only [List.length_drop] at hi
    rw [nth_drop]
    exact bk_asymm (h1 (p + i) (by omega) (by omega))
  · have hxp : beforeK c.key x.key = false := by
      obtain ⟨i, hi, rfl⟩ := mem_nth hx
      simp only [List.length_take] at hi
      rw [nth_take (by omega)]
      have h3 := h2 (by omega)
      rcases Nat.lt_or_ge i (p - 1) with h4 | h4
      · exact bk_le_trans (hs i (p - 1) h4 (by omega)) h3
      · rw [show i = p - 1 by omega]; exact h3
    rcases List.mem_cons.1 hy with rfl | hy
    · exact hxp
    · obtain ⟨i, hi, rfl⟩ := mem_nth hx
      obtain ⟨j, hj, rfl⟩ := mem_nth hy
      simp only [List.length_take] at hi
      simp only [List.length_drop] at hj
      rw [nth_take (by omega), nth_drop]
      exact hs i (p + j) (by omega) (by omega)
theorem foldl_insK (l : List Card) : ∀ (out : List Card), List.Pairwise WkC out → List.Pairwise WkC (l.foldl insK out) ∧ List.Perm (l.foldl insK out) (out ++ l) := by
  induction l with
  | nil => intro out h; exact ⟨h, by simp⟩
  | cons c l ih =>
    intro out h
    obtain ⟨h1, h2⟩ := ih (insK out c) (insK_sorted h c)
    refine ⟨h1, h2.trans ?_⟩
    exact ((insK_perm out c).append_right l).trans (by simpa using List.perm_middle.symm)
theorem sortK_sorted (l : List Card) : List.Pairwise WkC (sortK l) := (foldl_insK l [] List.Pairwise.nil).1
/-! ### Once -/
theorem onceF (s : List Card) : ∀ (out : List Card) (g : Nat), List.Pairwise WkC (out ++ s) → List.Pairwise StC out →
    List.Pairwise StC (s.foldl onceStep (out, g)).1 ∧ ∀ x ∈ (s.foldl onceStep (out, g)).1, x ∈ out ∨ x ∈ s := by
  induction s with
  | nil => intro out g h1 h2; exact ⟨h2, fun x hx => .inl hx⟩
  | cons c s ih =>
    intro out g h1 h2
    rw [List.foldl_cons]
    have app : ∀ (hlt : ∀ x ∈ out, beforeK x.key c.key = true), List.Pairwise StC (s.foldl onceStep (out ++ [c], g + 1)).1 ∧ ∀ x ∈ (s.foldl onceStep (out ++ [c], g + 1)).1, x ∈ out ∨ x ∈ c :: s := by
      intro hlt
      obtain ⟨a1, a2⟩ := ih (out ++ [c]) (g + 1) (by simpa using h1) (List.pairwise_append.2 ⟨h2, List.pairwise_singleton _ _, fun x hx y hy => by simp at hy; subst hy; exact hlt x hx⟩)
      refine ⟨a1, fun x hx => ?_⟩
      rcases a2 x hx with h | h
      · rcases List.mem_append.1 h with h | h
        · exact .inl h
        · simp at h; subst h; exact .inr (by simp)
      · exact .inr (by simp [h])
    have hw := List.pairwise_append.1 h1
    rcases List.eq_nil_or_concat out with rfl | ⟨init, last, hc⟩
    · have : onceStep ([], g) c = ([] ++ [c], g + 1) := by simp [onceStep]
      rw [this]
      exact app (fun x hx => by simp at hx)
    · have hc' : out = init ++ [last] := by simpa using hc
      have hlen : out.length = init.length + 1 := by rw [hc']; simp
      have hlast : nth out (out.length - 1) = last := by rw [hlen, hc', Nat.add_sub_cancel]; exact nth_append_len init last []
      have h0 : decide ((out.length : Int) > 0) = true := by simp; omega
      have hlm : last ∈ out := by rw [hc']; simp
      by_cases he : Key.eqb last.key c.key = true
      · have hset : out.set (out.length - 1) c = init ++ [c] := by rw [hlen, Nat.add_sub_cancel, hc']; simp
        have : onceStep (out, g) c = (init ++ [c], g) := by
          simp only [onceStep]
          rw [if_pos h0, hlast, if_pos he, hset]
        rw [this]
        have hk := (Key.eqb_iff _ _).1 he
        rw [hc'] at h1 h2
        have hp2 := List.pairwise_append.1 h2
        obtain ⟨a1, a2⟩ := ih (init ++ [c]) g (h1.sublist (by
          rw [List.append_assoc, List.append_assoc]
          refine List.Sublist.append_left ?_ _
          simp)) (List.pairwise_append.2 ⟨hp2.1, List.pairwise_singleton _ _, fun x hx y hy => by
            simp at hy; subst hy
            have := hp2.2.2 x hx last (by simp)
            unfold StC at this ⊢
            rw [← hk]; exact this⟩)
        refine ⟨a1, fun x hx => ?_⟩
        rcases a2 x hx with h | h
        · rcases List.mem_append.1 h with h | h
          · exact .inl (by rw [hc']; simp [h])
          · simp at h; subst h; exact .inr (by simp)
        · exact .inr (by simp [h])
      · have : onceStep (out, g) c = (out ++ [c], g + 1) := by
          simp only [onceStep]
          rw [if_pos h0, hlast, if_neg he]
        rw [this]
        have hll : beforeK last.key c.key = true := by
          have h3 : beforeK c.key last.key = false := hw.2.2 last hlm c (by simp)
          cases h4 : beforeK last.key c.key with
          | true => rfl
          | false => exact absurd ((Key.eqb_iff _ _).2 (bk_tri h4 h3)) he
        refine app fun x hx => ?_
        rw [hc'] at hx
        rcases List.mem_append.1 hx with hx | hx
        · rw [hc'] at h2
          have := (List.pairwise_append.1 h2).2.2 x hx last (by simp)
          exact bk_trans this hll
        · simp at hx; subst hx; exact hll
/-! ### insertion sort in place -/
/-! ### what the tape makes -/
end Go.Proofs.Ytpkgpldgoajphaa.AM

set_option linter.unusedVariables false
set_option linter.unusedSimpArgs false
set_option maxRecDepth 100000
set_option linter.unusedSectionVars false
namespace Go.Proofs.Ytpkgpldgoajphaa.AM
open Go
section
variable {α : Type} [Inhabited α]
/-- Where x comes among the first k, from the right: behind all that it is not ahead of. -/
def posG (lt : α → α → Bool) (x : α) (out : List α) : Nat → Nat
  | 0 => 0
  | k + 1 => if lt x (nth out k) = true then posG lt x out k else k + 1
def insG (lt : α → α → Bool) (out : List α) (x : α) : List α := (out.take (posG lt x out out.length) ++ [x]) ++ out.drop (posG lt x out out.length)
theorem posG_le (lt : α → α → Bool) (x : α) (out : List α) (k : Nat) : posG lt x out k ≤ k := by
  induction k with
  | zero => simp only [posG]; omega
  | succ k ih => simp only [posG]; split <;> omega
theorem posG_congr (lt : α → α → Bool) (x : α) {out out' : List α} (k : Nat) (h : ∀ i, i < k → nth out i = nth out' i) : posG lt x out k = posG lt x out' k := by
  induction k with
  | zero => rfl
  | succ k ih => simp only [posG]; rw [h k (by omega), ih fun i hi => h i (by omega)]
theorem posG_spec (lt : α → α → Bool) (x : α) (out : List α) (k : Nat) : (∀ i, posG lt x out k ≤ i → i < k → lt x (nth out i) = true) ∧ (0 < posG lt x out k → lt x (nth out (posG lt x out k - 1)) = false) := by
  induction k with
  | zero => simp only [posG]; exact ⟨fun i h1 h2 => by omega, fun h => by omega⟩
  | succ k ih =>
    simp only [posG]
    split
    · rename_i h
      refine ⟨fun i h1 h2 => ?_, ih.2⟩
      rcases Nat.lt_or_ge i k with h3 | h3
      · exact ih.1 i h1 h3
      · rw [show i = k by omega]; exact h
    · rename_i h
      exact ⟨fun i h1 h2 => by omega, fun _ => by simpa using h⟩
theorem insG_perm (lt : α → α → Bool) (out : List α) (x : α) : List.Perm (insG lt out x) (x :: out) := by
  unfold insG
  rw [List.append_assoc, List.singleton_append]
  refine List.perm_middle.trans ?_
  rw [List.take_append_drop]
theorem insG_len (lt : α → α → Bool) (out : List α) (x : α) : (insG lt out x).length = out.length + 1 := by
  rw [(insG_perm lt out x).length_eq]; rfl
/-- A strict weak order. -/
structure Weak (lt : α → α → Bool) : Prop where
  asymm : ∀ a b, lt a b = true → lt b a = false
  trans : ∀ a b c, lt b a = false → lt c b = false → lt c a = false
abbrev Srt (lt : α → α → Bool) (l : List α) : Prop := List.Pairwise (fun a b => lt b a = false) l
theorem insG_sorted {lt : α → α → Bool} (W : Weak lt) {out : List α} (h : Srt lt out) (x : α) : Srt lt (insG lt out x) := by
  obtain ⟨h1, h2⟩ := posG_spec lt x out out.length
  have hp := posG_le lt x out out.length
  generalize hpe : posG lt x out out.length = p at *
  have hs := pw_nth.1 h
  unfold insG
  rw [hpe, List.append_assoc, List.singleton_append]
  refine List.pairwise_append.2 ⟨h.sublist (List.take_sublist _ _), List.pairwise_cons.2 ⟨fun y hy => ?_, h.sublist (List.drop_sublist _ _)⟩, fun a ha y hy => ?_⟩
  · obtain ⟨i, hi, rfl⟩ := mem_nth hy
    simp only [List.length_drop] at hi
    rw [nth_drop]
    exact W.asymm _ _ (h1 (p + i) (by omega) (by omega))
  · have hxp : lt x a = false := by
      obtain ⟨i, hi, rfl⟩ := mem_nth ha
      simp only [List.length_take] at hi
      rw [nth_take (by omega)]
      have h3 := h2 (by omega)
      rcases Nat.lt_or_ge i (p - 1) with h4 | h4
      · exact W.trans _ _ _ (hs i (p - 1) h4 (by omega)) h3
      · rw [show i = p - 1 by omega]; exact h3
    rcases List.mem_cons.1 hy with rfl | hy
    · exact hxp
    · obtain ⟨i, hi, rfl⟩ := mem_nth ha
      obtain ⟨j, hj, rfl⟩ := mem_nth hy
      simp only [List.length_take] at hi
      simp only [List.length_drop] at hj
      rw [nth_take (by omega), nth_drop]
      exact hs i (p + j) (by omega) (by omega)
def sortG (lt : α → α → Bool) (l : List α) : List α := l.foldl (insG lt) []
theorem foldG (lt : α → α → Bool) (l : List α) : ∀ (out : List α), List.Perm (l.foldl (insG lt) out) (out ++ l) := by
  induction l with
  | nil => intro out; simp
  | cons x l ih =>
    intro out
    exact (ih (insG lt out x)).trans (((insG_perm lt out x).append_right l).trans (by simpa using List.perm_middle.symm))
theorem foldG_sorted {lt : α → α → Bool} (W : Weak lt) (l : List α) : ∀ (out : List α), Srt lt out → Srt lt (l.foldl (insG lt) out) := by
  induction l with
  | nil => intro out h; exact h
  | cons x l ih => intro out h; exact ih _ (insG_sorted W h x)
theorem sortG_perm (lt : α → α → Bool) (l : List α) : List.Perm (sortG lt l) l := foldG lt l []
theorem sortG_sorted {lt : α → α → Bool} (W : Weak lt) (l : List α) : Srt lt (sortG lt l) := foldG_sorted W l [] List.Pairwise.nil
/-- A step of the sort in place is an insertion. -/
theorem sink_ins (cmp : α → α → Int) (j : Nat) : ∀ (l : List α), j < l.length → sink cmp 0 j l = insG (fun a b => decide (cmp a b < 0)) (l.take j) (nth l j) ++ l.drop (j + 1) := by
  induction j with
  | zero =>
    intro l h
    simp only [sink]
    have hd : l = nth l 0 :: l.drop 1 := by
      have := drop_nth (l := l) (i := 0) h
      simpa using this
    conv => lhs; rw [hd]
    simp [insG, posG]
  | succ j ih =>
    intro l h
    simp only [sink]
    have h0 : decide (((j + 1 : Nat) : Int) > ((0 : Nat) : Int)) = true := decide_eq_true (by omega)
    rw [if_pos h0]
    have htk : l.take (j + 1) = l.take j ++ [nth l j] := by
      rw [List.take_add_one]
      congr 1
      rw [nth_get (by omega)]
      rfl
    have hdj : l.drop (j + 1) = nth l (j + 1) :: l.drop (j + 2) := drop_nth h
    have hlen : (l.take j).length = j := by simp; omega
    by_cases hc : decide (cmp (nth l (j + 1)) (nth l j) < 0) = true
    · rw [if_pos hc]
      rw [ih _ (by simp; omega)]
      have e1 : ((l.set (j + 1) (nth l j)).set j (nth l (j + 1))).take j = l.take j := by
        rw [List.take_set_of_le (by omega), List.take_set_of_le (by omega)]
      have e2 : nth ((l.set (j + 1) (nth l j)).set j (nth l (j + 1))) j = nth l (j + 1) := by
        unfold nth
        rw [List.getD_eq_getElem?_getD, List.getElem?_set_self (by simp; omega)]; rfl
      have e3 : ((l.set (j + 1) (nth l j)).set j (nth l (j + 1))).drop (j + 1) = nth l j :: l.drop (j + 2) := by
        rw [List.drop_set_of_lt (by omega), drop_nth (by simp; omega)]
        congr 1
        · unfold nth
          rw [List.getD_eq_getElem?_getD, List.getElem?_set_self (by omega)]; rfl
        · rw [List.drop_set_of_lt (by omega)]
      rw [e1, e2, e3]
      have hpos : posG (fun a b => decide (cmp a b < 0)) (nth l (j + 1)) (l.take (j + 1)) (l.take (j + 1)).length = posG (fun a b => decide (cmp a b < 0)) (nth l (j + 1)) (l.take j) j := by
        rw [show (l.take (j + 1)).length = j + 1 by rw [List.length_take]; omega]
        simp only [posG]
        rw [nth_take (by omega), if_pos hc]
        exact posG_congr _ _ _ fun i hi => by rw [nth_take (by omega), nth_take hi]
      have hle := posG_le (fun a b => decide (cmp a b < 0)) (nth l (j + 1)) (l.take j) j
      unfold insG
      rw [hpos, hlen]
      generalize posG (fun a b => decide (cmp a b < 0)) (nth l (j + 1)) (l.take j) j = p at *
      rw [htk, List.take_append_of_le_length (by omega), List.drop_append_of_le_length (by omega)]
      simp
    · rw [if_neg hc]
      have hpos : posG (fun a b => decide (cmp a b < 0)) (nth l (j + 1)) (l.take (j + 1)) (l.take (j + 1)).length = j + 1 := by
        rw [show (l.take (j + 1)).length = j + 1 by rw [List.length_take]; omega]
        simp only [posG]
        rw [nth_take (by omega), if_neg hc]
      unfold insG
      rw [hpos]
      rw [List.take_of_length_le (l := l.take (j + 1)) (by simp; omega), List.drop_of_length_le (l := l.take (j + 1)) (by simp; omega), List.append_nil, List.append_assoc, List.singleton_append, ← hdj, List.take_append_drop]
theorem insSort_fold (cmp : α → α → Int) (rest : List α) : ∀ (S : List α), insSort cmp 0 rest.length S.length (S ++ rest) = rest.foldl (insG fun a b => decide (cmp a b < 0)) S := by
  induction rest with
  | nil => intro S; simp [insSort]
  | cons x rest ih =>
    intro S
    simp only [List.length_cons, insSort, List.foldl_cons]
    rw [sink_ins cmp S.length _ (by simp)]
    have e1 : (S ++ x :: rest).take S.length = S := by simp
    have e3 : (S ++ x :: rest).drop (S.length + 1) = rest := by
      rw [List.drop_append]
      simp
    rw [e1, nth_append_len, e3]
    have := ih (insG (fun a b => decide (cmp a b < 0)) S x)
    rwa [insG_len] at this
theorem insSort_sortG (cmp : α → α → Int) (l : List α) : insSort cmp 0 (l.length - 1) 1 l = sortG (fun a b => decide (cmp a b < 0)) l := by
  cases l with
  | nil => rfl
  | cons x l =>
    have := insSort_fold cmp l [x]
    simpa [sortG, insG, posG] using this

end
end Go.Proofs.Ytpkgpldgoajphaa.AM

set_option linter.unusedVariables false
set_option linter.unusedSimpArgs false
set_option maxRecDepth 100000
namespace Go.Proofs.Ytpkgpldgoajphaa.AM
open Go
section
variable {α : Type} [Inhabited α]
theorem insG_split {lt : α → α → Bool} (W : Weak lt) {out : List α} (h : Srt lt out) (x : α) : insG lt out x = out.filter (fun y => !lt x y) ++ x :: out.filter (fun y => lt x y) := by
  obtain ⟨h1, h2⟩ := posG_spec lt x out out.length
  have hp := posG_le lt x out out.length
  generalize hpe : posG lt x out out.length = p at *
  have hs := pw_nth.1 h
  have hA : ∀ y ∈ out.take p, lt x y = false := by
    intro y hy
    obtain ⟨i, hi, rfl⟩ := mem_nth hy
    simp only [List.length_take] at hi
    have hi' : i < p := by omega
    rw [nth_take hi']
    have h3 := h2 (by omega)
    rcases Nat.lt_or_ge i (p - 1) with h4 | h4
    · exact W.trans _ _ _ (hs i (p - 1) h4 (by omega)) (by simpa using h3)
    · rw [show i = p - 1 by omega]; simpa using h3
  have hB : ∀ y ∈ out.drop p, lt x y = true := by
    intro y hy
    obtain ⟨i, hi, rfl⟩ := mem_nth hy
    simp only [List.length_drop] at hi
    rw [nth_drop]
    exact h1 (p + i) (by omega) (by omega)
  have e1 : out.filter (fun y => !lt x y) = out.take p := by
    conv => lhs; rw [← List.take_append_drop p out]
    rw [List.filter_append, List.filter_eq_self.2 (fun y hy => by simp [hA y hy]), List.filter_eq_nil_iff.2 (fun y hy => by simp [hB y hy]), List.append_nil]
  have e2 : out.filter (fun y => lt x y) = out.drop p := by
    conv => lhs; rw [← List.take_append_drop p out]
    rw [List.filter_append, List.filter_eq_nil_iff.2 (fun y hy => by simp [hA y hy]), List.filter_eq_self.2 (fun y hy => by simp [hB y hy]), List.nil_append]
  unfold insG
  rw [hpe, e1, e2]; simp
theorem filter_insG {lt : α → α → Bool} (W : Weak lt) (p : α → Bool) {out : List α} (h : Srt lt out) (x : α) : (insG lt out x).filter p = if p x = true then insG lt (out.filter p) x else out.filter p := by
  have hf : Srt lt (out.filter p) := h.sublist List.filter_sublist
  rw [insG_split W h x, List.filter_append, List.filter_cons]
  have comm : ∀ q : α → Bool, (out.filter q).filter p = (out.filter p).filter q := fun q => by rw [List.filter_filter, List.filter_filter]; congr 1; funext y; rw [Bool.and_comm]
  split
  · rw [insG_split W hf x, comm, comm]
  · rw [← List.filter_append]
    have e := insG_split W h x
    have hperm : List.filter (fun y => !lt x y) out ++ List.filter (fun y => lt x y) out = out := by
      obtain ⟨h1, h2⟩ := posG_spec lt x out out.length
      have hi := e
      unfold insG at hi
      have hl := congrArg (fun l => l.filter p) hi
      clear hl
      have hp := posG_le lt x out out.length
      have hlen : (out.take (posG lt x out out.length)).length = (out.filter (fun y => !lt x y)).length := by
        have hs := pw_nth.1 h
        have e1 : out.filter (fun y => !lt x y) = out.take (posG lt x out out.length) := by
          conv => lhs; rw [← List.take_append_drop (posG lt x out out.length) out]
          rw [List.filter_append, List.filter_eq_self.2, List.filter_eq_nil_iff.2, List.append_nil]
          · intro y hy
            obtain ⟨i, hi, rfl⟩ := mem_nth hy
            simp only [List.length_drop] at hi
            rw [nth_drop]
            simp [h1 (posG lt x out out.length + i) (by omega) (by omega)]
          · intro y hy
            obtain ⟨i, hi, rfl⟩ := mem_nth hy
            simp only [List.length_take] at hi
            rw [nth_take (by omega)]
            have h3 := h2 (by omega)
            rcases Nat.lt_or_ge i (posG lt x out out.length - 1) with h4 | h4
            · have := W.trans _ _ _ (hs i (posG lt x out out.length - 1) h4 (by omega)) (by simpa using h3)
              simp [this]
            · rw [show i = posG lt x out out.length - 1 by omega]; simpa using h3
        rw [e1]
      have h5 := List.append_inj (show out.take (posG lt x out out.length) ++ (x :: out.drop (posG lt x out out.length)) = _ from by simpa using hi) hlen
      have h6 := (List.cons.inj h5.2).2
      rw [← h5.1, ← h6, List.take_append_drop]
    rw [hperm]
theorem filter_foldG {lt : α → α → Bool} (W : Weak lt) (p : α → Bool) (l : List α) : ∀ (out : List α), Srt lt out → (l.foldl (insG lt) out).filter p = (l.filter p).foldl (insG lt) (out.filter p) := by
  induction l with
  | nil => intro out h; rfl
  | cons x l ih =>
    intro out h
    rw [List.foldl_cons, ih _ (insG_sorted W h x), filter_insG W p h x, List.filter_cons]
    split
    · rw [List.foldl_cons]
    · rfl
theorem filter_sortG {lt : α → α → Bool} (W : Weak lt) (p : α → Bool) (l : List α) : (sortG lt l).filter p = sortG lt (l.filter p) := filter_foldG W p l [] List.Pairwise.nil
end
end Go.Proofs.Ytpkgpldgoajphaa.AM

set_option linter.unusedVariables false
set_option linter.unusedSimpArgs false
set_option linter.unusedSectionVars false
namespace Go.Proofs.Ytpkgpldgoajphaa.AM
open Go

section
variable {α : Type} [Inhabited α]
theorem nth_def (l : List α) (q : Nat) : nth l q = l.getD q default := rfl
theorem nth_setM (l : List α) {i : Nat} (h : i < l.length) (x : α) (q : Nat) : nth (l.set i x) q = if i = q then x else nth l q := by
  simp only [nth_def, List.getD_eq_getElem?_getD]
  by_cases e : i = q
  · subst e; rw [List.getElem?_set_self h, if_pos rfl]; rfl
  · rw [List.getElem?_set_ne e, if_neg e]
theorem nth_appM (l m : List α) (q : Nat) : nth (l ++ m) q = if q < l.length then nth l q else nth m (q - l.length) := by
  simp only [nth_def, List.getD_eq_getElem?_getD]
  split
  · rename_i h; rw [List.getElem?_append_left h]
  · rename_i h; rw [List.getElem?_append_right (by omega)]
theorem ext_nth {l m : List α} (hl : l.length = m.length) (h : ∀ q, q < l.length → nth l q = nth m q) : l = m := by
  apply List.ext_getElem hl
  intro q h1 h2
  have := h q h1
  rwa [nth_getElem h1, nth_getElem h2] at this
/-! ### swaps -/
def swapL (a b n : Nat) (l : List α) : List α := iter (fun i l => (l.set (a + i) (nth l (b + i))).set (b + i) (nth l (a + i))) n 0 l
theorem swapL_all (a b n : Nat) (l : List α) (hab : a + n ≤ b) (hb : b + n ≤ l.length) : ∀ k, k ≤ n → (swapL a b k l).length = l.length ∧ ∀ q, nth (swapL a b k l) q = if a ≤ q ∧ q < a + k then nth l (b + (q - a)) else if b ≤ q ∧ q < b + k then nth l (a + (q - b)) else nth l q := by
  intro k
  induction k with
  | zero =>
    intro _
    refine ⟨rfl, fun q => ?_⟩
    rw [if_neg (by omega), if_neg (by omega)]
    rfl
  | succ k ih =>
    intro hk
    obtain ⟨h1, h2⟩ := ih (by omega)
    have e : swapL a b (k + 1) l = ((swapL a b k l).set (a + k) (nth (swapL a b k l) (b + k))).set (b + k) (nth (swapL a b k l) (a + k)) := iter_succ _ _ _
    refine ⟨by rw [e]; simp [h1], fun q => ?_⟩
    rw [e, nth_setM _ (by simp; omega), nth_setM _ (by omega), h2, h2, h2]
    by_cases c1 : b + k = q
    · subst c1
      rw [if_pos rfl, if_neg (by omega), if_neg (by omega), if_neg (by omega), if_pos (by omega)]
      congr 1; omega
    · rw [if_neg c1]
      by_cases c2 : a + k = q
      · subst c2
        rw [if_pos rfl, if_neg (by omega), if_neg (by omega), if_pos (by omega)]
        congr 1; omega
      · rw [if_neg c2]
        have e1 : (a ≤ q ∧ q < a + (k + 1)) ↔ (a ≤ q ∧ q < a + k) := by omega
        have e2 : (b ≤ q ∧ q < b + (k + 1)) ↔ (b ≤ q ∧ q < b + k) := by omega
        simp only [e1, e2]
theorem swapL_len {a b n : Nat} {l : List α} (hab : a + n ≤ b) (hb : b + n ≤ l.length) : (swapL a b n l).length = l.length := (swapL_all a b n l hab hb n (Nat.le_refl _)).1
theorem swapL_parts (X U M V Y : List α) {a b n : Nat} (ha : a = X.length) (hU : U.length = n) (hV : V.length = n) (hb : b = X.length + n + M.length) :
    swapL a b n (X ++ (U ++ (M ++ (V ++ Y)))) = X ++ (V ++ (M ++ (U ++ Y))) := by
  obtain ⟨h1, h2⟩ := swapL_all a b n (X ++ (U ++ (M ++ (V ++ Y)))) (by omega) (by simp; omega) n (Nat.le_refl _)
  refine ext_nth (by rw [h1]; simp; omega) fun q hq => ?_
  rw [h2]
  simp only [nth_appM, hU, hV]
  by_cases c1 : q < X.length
  · rw [if_neg (by omega), if_neg (by omega), if_pos c1, if_pos c1]
  · rw [if_neg (c := q < X.length) c1, if_neg (c := q < X.length) c1]
    by_cases c2 : q - X.length < n
    · rw [if_pos (by omega), if_pos (c := q - X.length < n) c2, if_neg (by omega), if_neg (by omega), if_neg (by omega), if_pos (by omega)]
      congr 1; omega
    · rw [if_neg (by omega), if_neg (c := q - X.length < n) c2, if_neg (c := q - X.length < n) c2]
      by_cases c3 : q - X.length - n < M.length
      · rw [if_neg (by omega), if_pos c3, if_pos c3]
      · rw [if_neg (c := q - X.length - n < M.length) c3, if_neg (c := q - X.length - n < M.length) c3]
        by_cases c4 : q - X.length - n - M.length < n
        · rw [if_pos (by omega), if_pos (c := q - X.length - n - M.length < n) c4, if_neg (by omega), if_pos (by omega)]
          congr 1; omega
        · rw [if_neg (by omega), if_neg c4, if_neg c4]
/-! ### turns -/
def rotS (m : Nat) : Nat → Nat → Nat → List α → List α × Nat
  | 0, i, _, l => (l, i)
  | r + 1, i, j, l => if i = j then (l, i) else if j < i then rotS m r (i - j) j (swapL (m - i) m j l) else rotS m r i (j - i) (swapL (m - i) (m + j - i) i l)
def rotL (a m b : Nat) (l : List α) : List α := swapL (m - (rotS m (m - a + (b - m)) (m - a) (b - m) l).2) m (rotS m (m - a + (b - m)) (m - a) (b - m) l).2 (rotS m (m - a + (b - m)) (m - a) (b - m) l).1
theorem rotS_parts (m : Nat) (T : List α) (r : Nat) : ∀ (X U V Y : List α) (i j : Nat), i + j ≤ r + 1 → 0 < i → 0 < j → U.length = i → V.length = j → m = X.length + i → T = X ++ (V ++ (U ++ Y)) →
    0 < (rotS m r i j (X ++ (U ++ (V ++ Y)))).2 ∧ (rotS m r i j (X ++ (U ++ (V ++ Y)))).2 ≤ i ∧ (rotS m r i j (X ++ (U ++ (V ++ Y)))).2 ≤ j ∧ (rotS m r i j (X ++ (U ++ (V ++ Y)))).1.length = T.length ∧ swapL (m - (rotS m r i j (X ++ (U ++ (V ++ Y)))).2) m (rotS m r i j (X ++ (U ++ (V ++ Y)))).2 (rotS m r i j (X ++ (U ++ (V ++ Y)))).1 = T := by
  induction r with
  | zero => intro X U V Y i j h1 h2 h3; omega
  | succ r ih =>
    intro X U V Y i j h1 h2 h3 hU hV hm hT
    simp only [rotS]
    by_cases c1 : i = j
    · rw [if_pos c1]
      refine ⟨h2, Nat.le_refl _, by simp only; omega, by rw [hT]; simp; omega, ?_⟩
      subst c1
      have := swapL_parts X U [] V Y (a := m - i) (b := m) (n := i) (by omega) hU hV (by simp; omega)
      rw [hT]
      simpa using this
    · rw [if_neg c1]
      by_cases c2 : j < i
      · rw [if_pos c2]
        have hP : (U.take j).length = j := by simp; omega
        have hQ : (U.drop j).length = i - j := by simp; omega
        have e := swapL_parts X (U.take j) (U.drop j) V Y (a := m - i) (b := m) (n := j) (by omega) hP hV (by omega)
        rw [← List.append_assoc (U.take j), List.take_append_drop] at e
        rw [e]
        have := ih (X ++ V) (U.drop j) (U.take j) Y (i - j) j (by omega) (by omega) h3 hQ hP (by simp; omega) (by rw [hT, ← List.append_assoc (U.take j), List.take_append_drop]; simp)
        simp only [List.append_assoc] at this ⊢
        exact ⟨this.1, by omega, this.2.2.1, this.2.2.2⟩
      · rw [if_neg c2]
        have hP : (V.take (j - i)).length = j - i := by simp; omega
        have hQ : (V.drop (j - i)).length = i := by simp; omega
        have e := swapL_parts X U (V.take (j - i)) (V.drop (j - i)) Y (a := m - i) (b := m + j - i) (n := i) (by omega) hU hQ (by omega)
        rw [← List.append_assoc (V.take (j - i)) (V.drop (j - i)), List.take_append_drop] at e
        rw [e]
        have := ih X (V.drop (j - i)) (V.take (j - i)) (U ++ Y) i (j - i) (by omega) h2 (by omega) hQ hP hm (by rw [hT, ← List.append_assoc (V.take (j - i)) (V.drop (j - i)), List.take_append_drop])
        exact ⟨this.1, this.2.1, by omega, this.2.2.2⟩
theorem rotL_parts (X U V Y : List α) {a m b : Nat} (ha : a = X.length) (hm : m = X.length + U.length) (hb : b = X.length + U.length + V.length) (h1 : 0 < U.length) (h2 : 0 < V.length) : rotL a m b (X ++ (U ++ (V ++ Y))) = X ++ (V ++ (U ++ Y)) := by
  have e1 : m - a = U.length := by omega
  have e2 : b - m = V.length := by omega
  unfold rotL
  rw [e1, e2]
  exact (rotS_parts m _ _ X U V Y U.length V.length (by omega) h1 h2 rfl rfl hm rfl).2.2.2.2
/-! ### searches -/
def bsr (p : Nat → Bool) : Nat → Nat → Nat → Nat
  | 0, lo, _ => lo
  | r + 1, lo, hi => if lo < hi then if p ((lo + hi) / 2) = true then bsr p r ((lo + hi) / 2 + 1) hi else bsr p r lo ((lo + hi) / 2) else lo
theorem bsr_spec (p : Nat → Bool) (r : Nat) : ∀ (lo hi : Nat), hi - lo ≤ r → lo ≤ hi → lo ≤ bsr p r lo hi ∧ bsr p r lo hi ≤ hi ∧ (lo < bsr p r lo hi → p (bsr p r lo hi - 1) = true) ∧ (bsr p r lo hi < hi → p (bsr p r lo hi) = false) := by
  induction r with
  | zero =>
    intro lo hi h1 h2
    simp only [bsr]
    exact ⟨Nat.le_refl _, h2, fun h => by omega, fun h => by omega⟩
  | succ r ih =>
    intro lo hi h1 h2
    simp only [bsr]
    by_cases c : lo < hi
    · rw [if_pos c]
      by_cases d : p ((lo + hi) / 2) = true
      · rw [if_pos d]
        obtain ⟨k1, k2, k3, k4⟩ := ih ((lo + hi) / 2 + 1) hi (by omega) (by omega)
        refine ⟨by omega, k2, fun _ => ?_, k4⟩
        rcases Nat.lt_or_ge ((lo + hi) / 2 + 1) (bsr p r ((lo + hi) / 2 + 1) hi) with h | h
        · exact k3 h
        · have : bsr p r ((lo + hi) / 2 + 1) hi = (lo + hi) / 2 + 1 := by omega
          rw [this]; simpa using d
      · rw [if_neg d]
        obtain ⟨k1, k2, k3, k4⟩ := ih lo ((lo + hi) / 2) (by omega) (by omega)
        refine ⟨k1, by omega, k3, fun _ => ?_⟩
        rcases Nat.lt_or_ge (bsr p r lo ((lo + hi) / 2)) ((lo + hi) / 2) with h | h
        · exact k4 h
        · have : bsr p r lo ((lo + hi) / 2) = (lo + hi) / 2 := by omega
          rw [this]; simpa using d
    · rw [if_neg c]
      exact ⟨Nat.le_refl _, h2, fun h => by omega, fun h => by omega⟩
/-! ### merging -/
/-- Merging: the left one goes first where neither is less. -/
def mgL (lt : α → α → Bool) : Nat → List α → List α → List α
  | 0, L, R => L ++ R
  | _ + 1, [], R => R
  | _ + 1, L, [] => L
  | n + 1, x :: L, y :: R => if lt y x = true then y :: mgL lt n (x :: L) R else x :: mgL lt n L (y :: R)
def mg (lt : α → α → Bool) (L R : List α) : List α := mgL lt (L.length + R.length) L R
theorem mg_nil_l (lt : α → α → Bool) (R : List α) : mg lt [] R = R := by
  unfold mg; cases h : ([] : List α).length + R.length <;> simp [mgL]
theorem mg_nil_r (lt : α → α → Bool) (L : List α) : mg lt L [] = L := by
  unfold mg
  cases L with
  | nil => simp [mgL]
  | cons x L => simp [mgL]
theorem mg_cons (lt : α → α → Bool) (x y : α) (L R : List α) : mg lt (x :: L) (y :: R) = if lt y x = true then y :: mg lt (x :: L) R else x :: mg lt L (y :: R) := by
  unfold mg
  have h1 : (x :: L).length + (y :: R).length = ((x :: L).length + R.length) + 1 := by simp; omega
  have h2 : L.length + (y :: R).length = (x :: L).length + R.length := by simp; omega
  rw [h1, h2]
  rfl
theorem mg_split (lt : α → α → Bool) {L2 R2 : List α} (n : Nat) : ∀ (L1 R1 : List α), L1.length + R1.length ≤ n → (∀ x ∈ L2, ∀ y ∈ R1, lt y x = true) → (∀ x ∈ L1, ∀ y ∈ R2, lt y x = false) → mg lt (L1 ++ L2) (R1 ++ R2) = mg lt L1 R1 ++ mg lt L2 R2 := by
  induction n with
  | zero =>
    intro L1 R1 h _ _
    obtain rfl : L1 = [] := List.eq_nil_of_length_eq_zero (by omega)
    obtain rfl : R1 = [] := List.eq_nil_of_length_eq_zero (by omega)
    rw [mg_nil_l]; rfl
  | succ n ih =>
    intro L1 R1 h h1 h2
    cases L1 with
    | nil =>
      cases R1 with
      | nil => rw [mg_nil_l]; rfl
      | cons y R1 =>
        have := ih [] R1 (by simp at h ⊢; omega) (fun x hx y' hy' => h1 x hx y' (List.mem_cons_of_mem _ hy')) (fun x hx => by simp at hx)
        rw [mg_nil_l] at this ⊢
        simp only [List.nil_append, List.cons_append] at this ⊢
        cases L2 with
        | nil => rw [mg_nil_l, mg_nil_l]
        | cons x L2 => rw [mg_cons, if_pos (h1 x (by simp) y (by simp)), this]
    | cons x L1 =>
      cases R1 with
      | nil =>
        have := ih L1 [] (by simp at h ⊢; omega) (fun x hx y' hy' => by simp at hy') (fun x' hx' y hy => h2 x' (List.mem_cons_of_mem _ hx') y hy)
        rw [mg_nil_r] at this ⊢
        simp only [List.nil_append, List.cons_append] at this ⊢
        cases R2 with
        | nil => rw [mg_nil_r, mg_nil_r]
        | cons y R2 => rw [mg_cons, if_neg (by rw [h2 x (by simp) y (by simp)]; simp), this]
      | cons y R1 =>
        simp only [List.cons_append]
        rw [mg_cons, mg_cons]
        have k1 := ih (x :: L1) R1 (by simp at h ⊢; omega) (fun x hx y' hy' => h1 x hx y' (List.mem_cons_of_mem _ hy')) h2
        have k2 := ih L1 (y :: R1) (by simp at h ⊢; omega) h1 (fun x' hx' y hy => h2 x' (List.mem_cons_of_mem _ hx') y hy)
        simp only [List.cons_append] at k1 k2
        split
        · rw [k1]; rfl
        · rw [k2]; rfl
theorem mg_perm (lt : α → α → Bool) (n : Nat) : ∀ (L R : List α), L.length + R.length ≤ n → List.Perm (mg lt L R) (L ++ R) := by
  induction n with
  | zero =>
    intro L R h
    obtain rfl : L = [] := List.eq_nil_of_length_eq_zero (by omega)
    obtain rfl : R = [] := List.eq_nil_of_length_eq_zero (by omega)
    rw [mg_nil_l]; exact .refl _
  | succ n ih =>
    intro L R h
    cases L with
    | nil => rw [mg_nil_l]; exact .refl _
    | cons x L =>
      cases R with
      | nil => rw [mg_nil_r]; simp
      | cons y R =>
        rw [mg_cons]
        split
        · refine (List.Perm.cons y (ih (x :: L) R (by simp at h ⊢; omega))).trans ?_
          exact (List.perm_middle (a := y) (l₁ := x :: L) (l₂ := R)).symm
        · exact List.Perm.cons x (ih L (y :: R) (by simp at h ⊢; omega))
theorem mg_len (lt : α → α → Bool) (L R : List α) : (mg lt L R).length = L.length + R.length := by
  have := (mg_perm lt _ L R (Nat.le_refl _)).length_eq
  simpa using this
end
end Go.Proofs.Ytpkgpldgoajphaa.AM

set_option maxRecDepth 100000
set_option linter.unusedVariables false
set_option linter.unusedSimpArgs false
namespace Go.Proofs.Ytpkgpldgoajphaa.AM
open Go Go.Proofs.Ytpkgpldgoajphaa
attribute [local irreducible] ACalls funT codeT codeQ LoopTo
attribute [local irreducible] Tp.card Tp.cardT Tp.next Tp.step Tp.cards Tp.cardsT Tp.key Tp.keyT sink insSort sortK insK posK beforeK onceStep sortP lastS lastK cmpK
theorem half_nat {n h : Nat} (hn : n < 4611686018427387904) (hh : h = n / 2) : IntKind.i64.wrap (Int.fdiv (IntKind.u64.wrap ((n : Nat) : Int)) (2 ^ (min (Int.toNat 1) 64))) = ((h : Nat) : Int) := by
  have h1 : IntKind.u64.wrap ((n : Nat) : Int) = ((n : Nat) : Int) := by simp [IntKind.wrap, IntKind.signed, IntKind.bits]; omega
  have h2 : (2 : Int) ^ (min (Int.toNat 1) 64) = 2 := rfl
  rw [h1, h2, Int.fdiv_eq_ediv_of_nonneg _ (by omega), IntKind.wrap_i64]
  omega
section
variable {α : Type} [Inhabited α]
def ltF (cmp : α → α → Int) (x y : α) : Bool := decide (cmp x y < 0)
/-- Rows from a to m, and from m to b, merged. -/
def mAt (lt : α → α → Bool) (a m b : Nat) (l : List α) : List α := l.take a ++ (mg lt ((l.drop a).take (m - a)) ((l.drop m).take (b - m)) ++ l.drop b)
def shU (r k : Nat) (l : List α) : List α := iter (fun k l => (l.set k (nth l (k + 1))).set (k + 1) (nth l k)) r k l
def shD : Nat → Nat → List α → List α
  | 0, _, l => l
  | r + 1, k, l => shD r (k - 1) ((l.set k (nth l (k - 1))).set (k - 1) (nth l k))
end
end Go.Proofs.Ytpkgpldgoajphaa.AM

set_option linter.unusedVariables false
set_option linter.unusedSimpArgs false
set_option linter.unusedSectionVars false
namespace Go.Proofs.Ytpkgpldgoajphaa.AM
open Go

section
variable {α : Type} [Inhabited α]
theorem swap1 (X : List α) (x y : α) (Z : List α) {k : Nat} (hk : k = X.length) : ((X ++ x :: y :: Z).set k (nth (X ++ x :: y :: Z) (k + 1))).set (k + 1) (nth (X ++ x :: y :: Z) k) = X ++ y :: x :: Z := by
  have := swapL_parts X [x] [] [y] Z (a := k) (b := k + 1) (n := 1) hk rfl rfl (by simp; omega)
  simpa [swapL, iter] using this
theorem shU_parts (x : α) (R : List α) : ∀ (X Y : List α) (k : Nat), k = X.length → shU R.length k (X ++ x :: (R ++ Y)) = X ++ (R ++ x :: Y) := by
  induction R with
  | nil => intro X Y k hk; rfl
  | cons y R ih =>
    intro X Y k hk
    have h1 : shU (y :: R).length k (X ++ x :: ((y :: R) ++ Y)) = shU R.length (k + 1) (((X ++ x :: y :: (R ++ Y)).set k (nth (X ++ x :: y :: (R ++ Y)) (k + 1))).set (k + 1) (nth (X ++ x :: y :: (R ++ Y)) k)) := rfl
    rw [h1, swap1 X x y (R ++ Y) hk]
    have := ih (X ++ [y]) Y (k + 1) (by simp [hk])
    simpa using this
theorem shD_parts (y : α) (r : Nat) : ∀ (X L Y : List α) (k : Nat), L.length = r → k = X.length + r → shD r k (X ++ (L ++ y :: Y)) = X ++ y :: (L ++ Y) := by
  induction r with
  | zero =>
    intro X L Y k hL hk
    obtain rfl : L = [] := List.eq_nil_of_length_eq_zero hL
    rfl
  | succ r ih =>
    intro X L Y k hL hk
    rcases List.eq_nil_or_concat L with rfl | ⟨L', z, rfl⟩
    · simp at hL
    · rw [List.concat_eq_append] at *
      have hL' : L'.length = r := by simpa using hL
      simp only [shD]
      have e0 : X ++ ((L' ++ [z]) ++ y :: Y) = (X ++ L') ++ z :: y :: Y := by simp
      obtain ⟨k', rfl⟩ : ∃ k', k = k' + 1 := ⟨k - 1, by omega⟩
      rw [e0, Nat.add_sub_cancel, List.set_comm _ _ (by omega), swap1 (X ++ L') z y Y (k := k') (by simp; omega)]
      have := ih X L' (z :: Y) k' hL' (by omega)
      simpa using this
theorem piece (A L Z : List α) {a k : Nat} (ha : a = A.length) (hk : k = L.length) : ((A ++ (L ++ Z)).drop a).take k = L := by
  subst ha hk
  rw [List.drop_append_of_le_length (Nat.le_refl _), List.drop_length, List.nil_append, List.take_append_of_le_length (Nat.le_refl _), List.take_length]
theorem mAt_parts (lt : α → α → Bool) (A L R B : List α) {a m b : Nat} (ha : a = A.length) (hm : m = A.length + L.length) (hb : b = A.length + L.length + R.length) : mAt lt a m b (A ++ (L ++ (R ++ B))) = A ++ (mg lt L R ++ B) := by
  unfold mAt
  have h1 : (A ++ (L ++ (R ++ B))).take a = A := by subst ha; rw [List.take_append_of_le_length (Nat.le_refl _), List.take_length]
  have h2 : ((A ++ (L ++ (R ++ B))).drop a).take (m - a) = L := piece A L (R ++ B) ha (by omega)
  have h3 : ((A ++ (L ++ (R ++ B))).drop m).take (b - m) = R := by
    have := piece (A ++ L) R B (a := m) (k := b - m) (by simp; omega) (by omega)
    simpa using this
  have h4 : (A ++ (L ++ (R ++ B))).drop b = B := by
    have e : A ++ (L ++ (R ++ B)) = (A ++ (L ++ R)) ++ B := by simp
    rw [e, List.drop_append_of_le_length (by simp; omega), List.drop_of_length_le (by simp; omega), List.nil_append]
  rw [h1, h2, h3, h4]
theorem sm1 (A L1 L2 R1 R2 B : List α) {l : List α} (hl : l = A ++ (L1 ++ (L2 ++ (R1 ++ (R2 ++ B))))) {s m e : Nat} (hs : s = A.length + L1.length) (hm : m = s + L2.length) (he : e = m + R1.length) :
    (if s < m ∧ m < e then rotL s m e l else l) = A ++ (L1 ++ (R1 ++ (L2 ++ (R2 ++ B)))) := by
  subst hl
  split
  · rename_i h
    have := rotL_parts (A ++ L1) L2 R1 (R2 ++ B) (a := s) (m := m) (b := e) (by simp; omega) (by simp; omega) (by simp; omega) (by omega) (by omega)
    simpa using this
  · rename_i h
    rcases Nat.eq_zero_or_pos L2.length with h1 | h1
    · obtain rfl : L2 = [] := List.eq_nil_of_length_eq_zero h1
      rfl
    · obtain rfl : R1 = [] := List.eq_nil_of_length_eq_zero (by omega)
      rfl
theorem sm2 (lt : α → α → Bool) (A L1 R1 Z : List α) {a s mid : Nat} (ha : a = A.length) (hs : s = a + L1.length) (hmid : mid = s + R1.length) :
    (if a < s ∧ s < mid then mAt lt a s mid (A ++ (L1 ++ (R1 ++ Z))) else A ++ (L1 ++ (R1 ++ Z))) = A ++ (mg lt L1 R1 ++ Z) := by
  split
  · exact mAt_parts lt A L1 R1 Z ha (by omega) (by omega)
  · rename_i h
    rcases Nat.eq_zero_or_pos L1.length with h1 | h1
    · obtain rfl : L1 = [] := List.eq_nil_of_length_eq_zero h1
      rw [mg_nil_l]; rfl
    · obtain rfl : R1 = [] := List.eq_nil_of_length_eq_zero (by omega)
      rw [mg_nil_r]; rfl
theorem sm3 (lt : α → α → Bool) (A M L2 R2 B : List α) {mid e b : Nat} (hm : mid = A.length + M.length) (he : e = mid + L2.length) (hb : b = e + R2.length) :
    (if mid < e ∧ e < b then mAt lt mid e b (A ++ (M ++ (L2 ++ (R2 ++ B)))) else A ++ (M ++ (L2 ++ (R2 ++ B)))) = A ++ (M ++ (mg lt L2 R2 ++ B)) := by
  have := sm2 lt (A ++ M) L2 R2 B (a := mid) (s := e) (mid := b) (by simp; omega) he hb
  simpa using this
theorem rot_facts (X U V Y : List α) {l : List α} (hl : l = X ++ (U ++ (V ++ Y))) {a m b : Nat} (ha : a = X.length) (hm : m = a + U.length) (hb : b = m + V.length) (h1 : 0 < U.length) (h2 : 0 < V.length) :
    (rotS m (m - a + (b - m)) (m - a) (b - m) l).1.length = l.length ∧ (rotS m (m - a + (b - m)) (m - a) (b - m) l).2 ≤ m - a ∧ (rotS m (m - a + (b - m)) (m - a) (b - m) l).2 ≤ b - m := by
  have e1 : m - a = U.length := by omega
  have e2 : b - m = V.length := by omega
  rw [e1, e2, hl]
  obtain ⟨_, k2, k3, k4, _⟩ := rotS_parts m _ (U.length + V.length) X U V Y U.length V.length (by omega) h1 h2 rfl rfl (by omega) rfl
  exact ⟨by rw [k4]; simp; omega, k2, k3⟩
end
end Go.Proofs.Ytpkgpldgoajphaa.AM
