/-
  Texts of this claim, part 4 of 7: an abstract machine over the model; what functions come to; plain laws.
-/
import Derived.Test.YtpkgpldgoajphaaMShelfPlays3
import Derived.Laws.Externs
set_option maxRecDepth 100000
set_option linter.unusedVariables false
set_option linter.unusedSimpArgs false
namespace Go.Proofs.Ytpkgpldgoajphaa.AM
open Go Go.Proofs.Ytpkgpldgoajphaa
attribute [local irreducible] ACalls funT codeT codeQ LoopTo
attribute [local irreducible] Tp.card Tp.cardT Tp.next Tp.step Tp.cards Tp.cardsT Tp.key Tp.keyT sink insSort pickS pickL pickN pickK mostN cmpL lateE orderK sortK insK posK beforeK
def onceStep (s : List Card × Nat) (c : Card) : List Card × Nat :=
  if decide ((s.1.length : Int) > 0) = true then if Key.eqb (nth s.1 (s.1.length - 1)).key c.key = true then (s.1.set (s.1.length - 1) c, s.2) else (s.1 ++ [c], s.2 + 1) else (s.1 ++ [c], s.2 + 1)
def onceS (l : List Card) : List Card × Nat := l.foldl onceStep ([], 0)
def onceK (l : List Card) : List Card := (onceS (sortK l)).1
theorem onceStep_len (s : List Card × Nat) (c : Card) : (onceStep s c).1.length ≤ s.1.length + 1 := by
  unfold onceStep; split
  · split <;> simp
  · simp
theorem onceF_len (l : List Card) : ∀ (s : List Card × Nat), (l.foldl onceStep s).1.length ≤ s.1.length + l.length := by
  induction l with
  | nil => intro s; simp
  | cons c l ih => intro s; have h1 := ih (onceStep s c); have h2 := onceStep_len s c; simp only [List.foldl_cons, List.length_cons]; omega
theorem onceK_len (l : List Card) : (onceK l).length ≤ l.length := by
  have := onceF_len (sortK l) ([], 0)
  rw [sortK_len] at this
  simpa [onceK, onceS] using this
def once_ann : Ann := { gha := [(1, .vir 3 9), (9, .cut 1), (10, .frz 2)], fin := some 0, live := [(3, [3, 8, 9, 10])], out := [(3, [3, 8, 9, 10])] }
set_option maxRecDepth 100000 in
theorem once_step (s out : List Card) (i k g : Nat) (hk : k = out.length) (hki : k ≤ s.length) (hl : s.length < 1048576) {eX : Ex} {FX : Fr} {HX : Heap} (k1 : (decide (((i : Nat) : Int) < ((s.length : Nat) : Int))) = true → (decide (((k : Nat) : Int) > 0)) = true → (Key.eqb (nth out (k - 1)).key (nth s i).key) = true → LoopTo (codeQ Try.prog (X once_ann) (loopOf Try.f28 0)) (some [3, 8, 9, 10]) (some [3, 8, 9, 10]) (mkF 40 [(3, (AV.osl 0 g 9 0 k)), (8, (AV.sl .any 9 (List.map Card.row s))), (9, (AV.int .i64 ((s.length : Nat) : Int))), (10, (AV.int .i64 ((i + 1 : Nat) : Int)))]) ([⟨g, 9, (List.map Card.row (out.set (k - 1) (nth s i))), none⟩] : Heap) eX FX HX) (k2 : (decide (((i : Nat) : Int) < ((s.length : Nat) : Int))) = true → (decide (((k : Nat) : Int) > 0)) = true → (Key.eqb (nth out (k - 1)).key (nth s i).key) = false → LoopTo (codeQ Try.prog (X once_ann) (loopOf Try.f28 0)) (some [3, 8, 9, 10]) (some [3, 8, 9, 10]) (mkF 40 [(3, (AV.osl 0 (g + 1) 9 0 (k + 1))), (8, (AV.sl .any 9 (List.map Card.row s))), (9, (AV.int .i64 ((s.length : Nat) : Int))), (10, (AV.int .i64 ((i + 1 : Nat) : Int)))]) ([⟨(g + 1), 9, (List.map Card.row (out ++ [(nth s i)])), none⟩] : Heap) eX FX HX) (k3 : (decide (((i : Nat) : Int) < ((s.length : Nat) : Int))) = true → (decide (((k : Nat) : Int) > 0)) = false → LoopTo (codeQ Try.prog (X once_ann) (loopOf Try.f28 0)) (some [3, 8, 9, 10]) (some [3, 8, 9, 10]) (mkF 40 [(3, (AV.osl 0 (g + 1) 9 0 (k + 1))), (8, (AV.sl .any 9 (List.map Card.row s))), (9, (AV.int .i64 ((s.length : Nat) : Int))), (10, (AV.int .i64 ((i + 1 : Nat) : Int)))]) ([⟨(g + 1), 9, (List.map Card.row (out ++ [(nth s i)])), none⟩] : Heap) eX FX HX) (k4 : (decide (((i : Nat) : Int) < ((s.length : Nat) : Int))) = false → ((.exit 0 : Ex), (mkF 40 [(3, (AV.osl 0 g 9 0 k)), (8, (AV.sl .any 9 (List.map Card.row s))), (9, (AV.int .i64 ((s.length : Nat) : Int))), (10, (AV.int .i64 ((i : Nat) : Int)))]), ([⟨g, 9, (List.map Card.row out), none⟩] : Heap)) = (eX, FX, HX)) : LoopTo (codeQ Try.prog (X once_ann) (loopOf Try.f28 0)) (some [3, 8, 9, 10]) (some [3, 8, 9, 10]) (mkF 40 [(3, (AV.osl 0 g 9 0 k)), (8, (AV.sl .any 9 (List.map Card.row s))), (9, (AV.int .i64 ((s.length : Nat) : Int))), (10, (AV.int .i64 ((i : Nat) : Int)))]) ([⟨g, 9, (List.map Card.row out), none⟩] : Heap) eX FX HX := by
  refine LoopTo.step (.reg [] [] [] (.two (.reg [(0, ((AV.ref (Card.row (nth s i)) 0), ([⟨g, 9, (List.map Card.row out), none⟩, ⟨0, 9, [[(AV.str (ByteArray.mk #[])), (AV.str (ByteArray.mk #[])), (AV.int .i64 0), (AV.int .i64 0), (AV.int .i64 0), (AV.int .i64 0), (AV.int .i64 0), (AV.int .i64 0), (AV.bool false)]], none⟩] : Heap)))] [] [] (.reg [] [] [] (.reg [(5, ((AV.int .i64 ((k - 1 : Nat) : Int)), ([⟨g, 9, (List.map Card.row out), none⟩, ⟨0, 9, [(Card.row (nth s i))], none⟩] : Heap))), (6, ((AV.obj 0 g (k - 1) 0), ([⟨g, 9, (List.map Card.row out), none⟩, ⟨0, 9, [(Card.row (nth s i))], none⟩] : Heap))), (8, ((AV.agg (Key.row (nth out (k - 1)).key)), ([⟨g, 9, (List.map Card.row out), none⟩, ⟨0, 9, [(Card.row (nth s i))], none⟩] : Heap)))] [] [] (.two (.two (.two (.two (.two (.two (.two (.two (.two (.two (.reg [(2, ((AV.int .i64 ((k - 1 : Nat) : Int)), ([⟨g, 9, (List.map Card.row out), none⟩, ⟨0, 9, [(Card.row (nth s i))], none⟩] : Heap))), (4, ((AV.obj 0 g (k - 1) 0), ([⟨g, 9, (List.map Card.row out), none⟩, ⟨0, 9, [(Card.row (nth s i))], none⟩] : Heap))), (5, (AV.skip, ([⟨g, 9, (List.map Card.row (out.set (k - 1) (nth s i))), none⟩, ⟨0, 9, [(Card.row (nth s i))], none⟩] : Heap)))] [] [] (.reg [(0, ((AV.int .i64 ((i + 1 : Nat) : Int)), ([⟨g, 9, (List.map Card.row (out.set (k - 1) (nth s i))), none⟩, ⟨0, 9, [(Card.row (nth s i))], none⟩] : Heap)))] [] [] .nil)) (.reg [(3, ((AV.osl 0 (g + 1) 9 0 (k + 1)), ([⟨(g + 1), 9, (List.map Card.row (out ++ [(nth s i)])), none⟩, ⟨0, 9, [(Card.row (nth s i))], none⟩] : Heap)))] [] [] (.reg [(0, ((AV.int .i64 ((i + 1 : Nat) : Int)), ([⟨(g + 1), 9, (List.map Card.row (out ++ [(nth s i)])), none⟩, ⟨0, 9, [(Card.row (nth s i))], none⟩] : Heap)))] [] [] .nil))) .nil) .nil) .nil) .nil) .nil) .nil) .nil) .nil) (.two .nil (.two .nil (.two .nil (.two .nil (.two .nil (.two .nil (.two .nil (.two .nil (.two .nil (.reg [(3, ((AV.osl 0 (g + 1) 9 0 (k + 1)), ([⟨(g + 1), 9, (List.map Card.row (out ++ [(nth s i)])), none⟩, ⟨0, 9, [(Card.row (nth s i))], none⟩] : Heap)))] [] [] (.reg [(0, ((AV.int .i64 ((i + 1 : Nat) : Int)), ([⟨(g + 1), 9, (List.map Card.row (out ++ [(nth s i)])), none⟩, ⟨0, 9, [(Card.row (nth s i))], none⟩] : Heap)))] [] [] .nil))))))))))))))) .nil)) ?_
  refine Eq.mp (by kernel_rfl : (cond (decide (((i : Nat) : Int) < ((s.length : Nat) : Int))) ((IdxSl 9 9 (List.map Card.row s) ((i : Nat) : Int) ([⟨g, 9, (List.map Card.row out), none⟩, ⟨0, 9, [[(AV.str (ByteArray.mk #[])), (AV.str (ByteArray.mk #[])), (AV.int .i64 0), (AV.int .i64 0), (AV.int .i64 0), (AV.int .i64 0), (AV.int .i64 0), (AV.int .i64 0), (AV.bool false)]], none⟩] : Heap) (Card.row (nth s i))) ∧ cond (decide (((k : Nat) : Int) > 0)) ((Yes (.int .i64 (IntKind.i64.wrap (((k : Nat) : Int) - 1))) ([⟨g, 9, (List.map Card.row out), none⟩, ⟨0, 9, [(Card.row (nth s i))], none⟩] : Heap) (AV.int .i64 ((k - 1 : Nat) : Int))) ∧ (IdxOsl 0 g 9 9 0 k ((k - 1 : Nat) : Int) ([⟨g, 9, (List.map Card.row out), none⟩, ⟨0, 9, [(Card.row (nth s i))], none⟩] : Heap) (k - 1)) ∧ (LoadTo tt 30 0 ([⟨g, 9, (List.map Card.row out), none⟩, ⟨0, 9, [(Card.row (nth s i))], none⟩] : Heap) (rowAt ([⟨g, 9, (List.map Card.row out), none⟩, ⟨0, 9, [(Card.row (nth s i))], none⟩] : Heap) 0 g (k - 1)) = some ((AV.agg (Key.row (nth out (k - 1)).key)), ([⟨g, 9, (List.map Card.row out), none⟩, ⟨0, 9, [(Card.row (nth s i))], none⟩] : Heap))) ∧ cond (Key.eqb (nth out (k - 1)).key (nth s i).key) ((Yes (.int .i64 (IntKind.i64.wrap (((k : Nat) : Int) - 1))) ([⟨g, 9, (List.map Card.row out), none⟩, ⟨0, 9, [(Card.row (nth s i))], none⟩] : Heap) (AV.int .i64 ((k - 1 : Nat) : Int))) ∧ (IdxOsl 0 g 9 9 0 k ((k - 1 : Nat) : Int) ([⟨g, 9, (List.map Card.row out), none⟩, ⟨0, 9, [(Card.row (nth s i))], none⟩] : Heap) (k - 1)) ∧ (StoreTo ([⟨g, 9, (List.map Card.row out), none⟩, ⟨0, 9, [(Card.row (nth s i))], none⟩] : Heap) 0 (k - 1) 9 0 (rowAt ([⟨g, 9, (List.map Card.row out), none⟩, ⟨0, 9, [(Card.row (nth s i))], none⟩] : Heap) 0 g (k - 1)) (AV.fit (AV.agg (Card.row (nth s i))) 9) = some (AV.skip, ([⟨g, 9, (List.map Card.row (out.set (k - 1) (nth s i))), none⟩, ⟨0, 9, [(Card.row (nth s i))], none⟩] : Heap))) ∧ (Yes (.int .i64 (IntKind.i64.wrap (((i : Nat) : Int) + 1))) ([⟨g, 9, (List.map Card.row (out.set (k - 1) (nth s i))), none⟩, ⟨0, 9, [(Card.row (nth s i))], none⟩] : Heap) (AV.int .i64 ((i + 1 : Nat) : Int))) ∧ (obsB 1 ([⟨g, 9, (List.map Card.row (out.set (k - 1) (nth s i))), none⟩] : Heap) = true) ∧ LoopTo (codeQ Try.prog (X once_ann) (loopOf Try.f28 0)) (some [3, 8, 9, 10]) (some [3, 8, 9, 10]) (mkF 40 [(3, (AV.osl 0 g 9 0 k)), (8, (AV.sl .any 9 (List.map Card.row s))), (9, (AV.int .i64 ((s.length : Nat) : Int))), (10, (AV.int .i64 ((i + 1 : Nat) : Int)))]) ([⟨g, 9, (List.map Card.row (out.set (k - 1) (nth s i))), none⟩] : Heap) eX FX HX) ((evAppend tt ([⟨g, 9, (List.map Card.row out), none⟩, ⟨0, 9, [(Card.row (nth s i))], none⟩] : Heap) 48 (AV.osl 0 g 9 0 k) (AV.sl .clip 9 [(Card.row (nth s i))]) = some ((AV.osl 0 (g + 1) 9 0 (k + 1)), ([⟨(g + 1), 9, (List.map Card.row (out ++ [(nth s i)])), none⟩, ⟨0, 9, [(Card.row (nth s i))], none⟩] : Heap))) ∧ (Yes (.int .i64 (IntKind.i64.wrap (((i : Nat) : Int) + 1))) ([⟨(g + 1), 9, (List.map Card.row (out ++ [(nth s i)])), none⟩, ⟨0, 9, [(Card.row (nth s i))], none⟩] : Heap) (AV.int .i64 ((i + 1 : Nat) : Int))) ∧ (obsB 1 ([⟨(g + 1), 9, (List.map Card.row (out ++ [(nth s i)])), none⟩] : Heap) = true) ∧ LoopTo (codeQ Try.prog (X once_ann) (loopOf Try.f28 0)) (some [3, 8, 9, 10]) (some [3, 8, 9, 10]) (mkF 40 [(3, (AV.osl 0 (g + 1) 9 0 (k + 1))), (8, (AV.sl .any 9 (List.map Card.row s))), (9, (AV.int .i64 ((s.length : Nat) : Int))), (10, (AV.int .i64 ((i + 1 : Nat) : Int)))]) ([⟨(g + 1), 9, (List.map Card.row (out ++ [(nth s i)])), none⟩] : Heap) eX FX HX)) ((evAppend tt ([⟨g, 9, (List.map Card.row out), none⟩, ⟨0, 9, [(Card.row (nth s i))], none⟩] : Heap) 48 (AV.osl 0 g 9 0 k) (AV.sl .clip 9 [(Card.row (nth s i))]) = some ((AV.osl 0 (g + 1) 9 0 (k + 1)), ([⟨(g + 1), 9, (List.map Card.row (out ++ [(nth s i)])), none⟩, ⟨0, 9, [(Card.row (nth s i))], none⟩] : Heap))) ∧ (Yes (.int .i64 (IntKind.i64.wrap (((i : Nat) : Int) + 1))) ([⟨(g + 1), 9, (List.map Card.row (out ++ [(nth s i)])), none⟩, ⟨0, 9, [(Card.row (nth s i))], none⟩] : Heap) (AV.int .i64 ((i + 1 : Nat) : Int))) ∧ (obsB 1 ([⟨(g + 1), 9, (List.map Card.row (out ++ [(nth s i)])), none⟩] : Heap) = true) ∧ LoopTo (codeQ Try.prog (X once_ann) (loopOf Try.f28 0)) (some [3, 8, 9, 10]) (some [3, 8, 9, 10]) (mkF 40 [(3, (AV.osl 0 (g + 1) 9 0 (k + 1))), (8, (AV.sl .any 9 (List.map Card.row s))), (9, (AV.int .i64 ((s.length : Nat) : Int))), (10, (AV.int .i64 ((i + 1 : Nat) : Int)))]) ([⟨(g + 1), 9, (List.map Card.row (out ++ [(nth s i)])), none⟩] : Heap) eX FX HX)) (((.exit 0 : Ex), (mkF 40 [(3, (AV.osl 0 g 9 0 k)), (8, (AV.sl .any 9 (List.map Card.row s))), (9, (AV.int .i64 ((s.length : Nat) : Int))), (10, (AV.int .i64 ((i : Nat) : Int)))]), ([⟨g, 9, (List.map Card.row out), none⟩] : Heap)) = (eX, FX, HX))) = _) ?_
  refine cond_split (fun h1 => ?_) (fun h1 => ?_)
  · have h1' := h1
    try simp at h1'
    refine And.intro (IdxSl.mk _ (by omega) (by omega)) ?_
    refine cond_split (fun h2 => ?_) (fun h2 => ?_)
    · have h2' := h2
      try simp at h2'
      refine And.intro (Yes.add (by omega) (by omega) (by omega)) ?_
      refine And.intro (IdxOsl.mk _ (by omega) (by omega)) ?_
      refine And.intro (load_row (rowAt_map (row := Card.row) (l := out) (k := 9) (room := none) (by kernel_rfl) (by first | omega | (simp; done) | (simp; omega))) (by kernel_rfl)) ?_
      refine cond_split (fun h3 => ?_) (fun h3 => ?_)
      · have h3' := h3
        try simp at h3'
        refine And.intro (Yes.add (by omega) (by omega) (by omega)) ?_
        refine And.intro (IdxOsl.mk _ (by omega) (by omega)) ?_
        refine And.intro (store_row (us := (Card.row (nth s i))) (rowAt_map (row := Card.row) (l := out) (k := 9) (room := none) (by kernel_rfl) (by first | omega | (simp; done) | (simp; omega))) (by kernel_rfl) (by simp [Card.row]) (by simp [setAt, fillAt, List.map_set, Card.row])) ?_
        refine And.intro (Yes.add (by omega) (by omega) (by omega)) ?_
        refine And.intro (by first | (simp [obsB, AV.bddss, AV.bdds, AV.bdd]; done) | (simp [obsB, AV.bddss, AV.bdds, AV.bdd, -List.map_append]; done) | simp [obsB, AV.bddss, AV.bdds, AV.bdd, -List.map_append, -List.map_set, -List.map_take, -List.map_drop, -List.map_cons, -List.map_map]) ?_
        exact k1 h1 h2 h3
      · have h3' := h3
        try simp at h3'
        refine And.intro (evAppend_one (row := Card.row) (l := out) (x := (nth s i)) (T := tt) (e := 34) (te := { d := .struct [(30, 0), (3, 2), (3, 3), (2, 4), (32, 5), (4, 8)], size := 9, bytes := 88, zero := [.str ⟨#[]⟩, .str ⟨#[]⟩, .int .i64 0, .int .i64 0, .int .i64 0, .int .i64 0, .int .i64 0, .int .i64 0, .bool false] }) (z := 1) (b := 24) (y := [.sl .nil 0 []]) (by kernel_rfl) (by kernel_rfl) rfl (by decide) (by decide) (by kernel_rfl) (by first | assumption | omega | (simp; done) | (simp; omega)) rfl rfl (by first | omega | (simp; omega))) ?_
        refine And.intro (Yes.add (by omega) (by omega) (by omega)) ?_
        refine And.intro (by first | (simp [obsB, AV.bddss, AV.bdds, AV.bdd]; done) | (simp [obsB, AV.bddss, AV.bdds, AV.bdd, -List.map_append]; done) | simp [obsB, AV.bddss, AV.bdds, AV.bdd, -List.map_append, -List.map_set, -List.map_take, -List.map_drop, -List.map_cons, -List.map_map]) ?_
        exact k2 h1 h2 h3
    · have h2' := h2
      try simp at h2'
      refine And.intro (evAppend_one (row := Card.row) (l := out) (x := (nth s i)) (T := tt) (e := 34) (te := { d := .struct [(30, 0), (3, 2), (3, 3), (2, 4), (32, 5), (4, 8)], size := 9, bytes := 88, zero := [.str ⟨#[]⟩, .str ⟨#[]⟩, .int .i64 0, .int .i64 0, .int .i64 0, .int .i64 0, .int .i64 0, .int .i64 0, .bool false] }) (z := 1) (b := 24) (y := [.sl .nil 0 []]) (by kernel_rfl) (by kernel_rfl) rfl (by decide) (by decide) (by kernel_rfl) (by first | assumption | omega | (simp; done) | (simp; omega)) rfl rfl (by first | omega | (simp; omega))) ?_
      refine And.intro (Yes.add (by omega) (by omega) (by omega)) ?_
      refine And.intro (by first | (simp [obsB, AV.bddss, AV.bdds, AV.bdd]; done) | (simp [obsB, AV.bddss, AV.bdds, AV.bdd, -List.map_append]; done) | simp [obsB, AV.bddss, AV.bdds, AV.bdd, -List.map_append, -List.map_set, -List.map_take, -List.map_drop, -List.map_cons, -List.map_map]) ?_
      exact k3 h1 h2
  · have h1' := h1
    try simp at h1'
    exact k4 h1
theorem once_loop (s : List Card) (r : Nat) : ∀ (out : List Card) (i k g : Nat) (sF : List Card × Nat), i + r = s.length → k = out.length → k ≤ i → s.length < 1048576 → sF = (s.drop i).foldl onceStep (out, g) →
    LoopTo (codeQ Try.prog (X once_ann) (loopOf Try.f28 0)) (some [3, 8, 9, 10]) (some [3, 8, 9, 10]) (mkF 40 [(3, (AV.osl 0 g 9 0 k)), (8, (AV.sl .any 9 (List.map Card.row s))), (9, (AV.int .i64 ((s.length : Nat) : Int))), (10, (AV.int .i64 ((i : Nat) : Int)))]) ([⟨g, 9, (List.map Card.row out), none⟩] : Heap) (.exit 0) (mkF 40 [(3, (AV.osl 0 sF.2 9 0 sF.1.length)), (8, (AV.sl .any 9 (List.map Card.row s))), (9, (AV.int .i64 ((s.length : Nat) : Int))), (10, (AV.int .i64 ((s.length : Nat) : Int)))]) ([⟨sF.2, 9, (List.map Card.row sF.1), none⟩] : Heap) := by
  induction r with
  | zero =>
    intro out i k g sF hi hk hki hl h
    refine once_step s out i k g hk (by omega) hl (fun h => by simp at h; omega) (fun h => by simp at h; omega) (fun h => by simp at h; omega) fun _ => ?_
    have : s.drop i = [] := List.drop_of_length_le (by omega)
    rw [this] at h
    have e3 : i = s.length := by omega
    rw [h, e3, hk]
    rfl
  | succ r ih =>
    intro out i k g sF hi hk hki hl h
    rw [drop_nth (by omega), List.foldl_cons] at h
    refine once_step s out i k g hk (by omega) hl (fun _ h2 h3 => ?_) (fun _ h2 h3 => ?_) (fun _ h2 => ?_) fun h => by simp at h; omega
    · rw [hk] at h2 h3
      exact ih (out.set (k - 1) (nth s i)) (i + 1) k g sF (by omega) (by simp [hk]) (by omega) hl (by rw [h, hk]; simp only [onceStep]; rw [if_pos h2, if_pos h3])
    · rw [hk] at h2 h3
      exact ih (out ++ [nth s i]) (i + 1) (k + 1) (g + 1) sF (by omega) (by simp [hk]) (by omega) hl (by rw [h]; simp only [onceStep]; rw [if_pos h2, if_neg (by rw [h3]; simp)])
    · rw [hk] at h2
      exact ih (out ++ [nth s i]) (i + 1) (k + 1) (g + 1) sF (by omega) (by simp [hk]) (by omega) hl (by rw [h]; simp only [onceStep]; rw [if_neg (by rw [h2]; simp)])
set_option maxRecDepth 100000 in
theorem once_spec (l : List Card) (hl : l.length < 1048576) : ACalls Try.prog 28 [(AV.sl .any 9 (List.map Card.row l))] ([] : Heap) ((AV.sl .any 9 (List.map Card.row (onceK l))), ([] : Heap)) := by
  have hs := sortK_len l
  refine spec (fn := Try.f28) (ann := once_ann) (t := (.reg [] [] [] (.reg [] [] [] (.reg [(1, ((AV.sl .any 9 (List.map Card.row (sortK l))), ([⟨0, 9, (List.map Card.row []), none⟩] : Heap))), (2, ((AV.int .i64 (((sortK l).length : Nat) : Int)), ([⟨0, 9, (List.map Card.row []), none⟩] : Heap)))] [] [] (.loop (.exit 0) (mkF 40 [(3, (AV.osl 0 ((onceS (sortK l)).2) 9 0 ((onceS (sortK l)).1.length))), (8, (AV.sl .any 9 (List.map Card.row (sortK l)))), (9, (AV.int .i64 (((sortK l).length : Nat) : Int))), (10, (AV.int .i64 (((sortK l).length : Nat) : Int)))]) ([⟨((onceS (sortK l)).2), 9, (List.map Card.row ((onceS (sortK l)).1)), none⟩] : Heap) (.reg [] [] [(2, (List.map Card.row ((onceS (sortK l)).1)))] .nil)))))) (Nat.le_of_ble_eq_true (by kernel_rfl)) ⟨Try.func28, by kernel_rfl, by kernel_rfl, by kernel_rfl⟩ ?_
  refine Eq.mp (by kernel_rfl : ((ACalls Try.prog 63 [(AV.sl .any 9 (List.map Card.row l))] ([⟨0, 9, (List.map Card.row []), none⟩] : Heap) ((AV.sl .any 9 (List.map Card.row (sortK l))), ([⟨0, 9, (List.map Card.row []), none⟩] : Heap))) ∧ (Yes (.int .i64 ((List.length (List.map Card.row (sortK l)) : Nat) : Int)) ([⟨0, 9, (List.map Card.row []), none⟩] : Heap) (AV.int .i64 (((sortK l).length : Nat) : Int))) ∧ (LoopTo (codeQ Try.prog (X once_ann) (loopOf Try.f28 0)) (some [3, 8, 9, 10]) (some [3, 8, 9, 10]) (mkF 40 [(3, (AV.osl 0 0 9 0 0)), (8, (AV.sl .any 9 (List.map Card.row (sortK l)))), (9, (AV.int .i64 (((sortK l).length : Nat) : Int))), (10, (AV.int .i64 0))]) ([⟨0, 9, (List.map Card.row []), none⟩] : Heap) (.exit 0) (mkF 40 [(3, (AV.osl 0 ((onceS (sortK l)).2) 9 0 ((onceS (sortK l)).1.length))), (8, (AV.sl .any 9 (List.map Card.row (sortK l)))), (9, (AV.int .i64 (((sortK l).length : Nat) : Int))), (10, (AV.int .i64 (((sortK l).length : Nat) : Int)))]) ([⟨((onceS (sortK l)).2), 9, (List.map Card.row ((onceS (sortK l)).1)), none⟩] : Heap)) ∧ (rowsIn ([⟨((onceS (sortK l)).2), 9, (List.map Card.row ((onceS (sortK l)).1)), none⟩] : Heap) 9 (AV.osl 0 ((onceS (sortK l)).2) 9 0 ((onceS (sortK l)).1.length)) = some (List.map Card.row ((onceS (sortK l)).1)) ∧ AV.bddss 0 (List.map Card.row ((onceS (sortK l)).1)) = true) ∧ (AV.bdd 0 (AV.sl .any 9 (List.map Card.row ((onceS (sortK l)).1))) = true ∧ obsB 0 ([] : Heap) = true) ∧ ((AV.sl .any 9 (List.map Card.row ((onceS (sortK l)).1))), ([] : Heap)) = ((AV.sl .any 9 (List.map Card.row (onceK l))), ([] : Heap))) = _) ?_
  refine And.intro (rsort_at l (by first | omega | assumption | (simp; done) | (simp; omega) | (simp_all; done) | (simp_all; omega)) ([⟨0, 9, (List.map Card.row []), none⟩] : Heap)) ?_
  refine And.intro (Yes.len _ _ _) ?_
  refine And.intro ((once_loop (sortK l) (List.length (sortK l)) [] 0 0 0 _ (by omega) rfl (by omega) (by omega) rfl)) ?_
  refine And.intro (And.intro (rowsIn_all (room := none) (by kernel_rfl) (by first | omega | (simp; done) | (simp; omega))) (Card.rows_bdd _ _)) ?_
  refine And.intro (by first | (simp [obsB, AV.bddss, AV.bdds, AV.bdd]; done) | (simp [obsB, AV.bddss, AV.bdds, AV.bdd, -List.map_append]; done) | simp [obsB, AV.bddss, AV.bdds, AV.bdd, -List.map_append, -List.map_set, -List.map_take, -List.map_drop, -List.map_cons, -List.map_map]) ?_
  rfl
theorem once_at (l : List Card) (hl : l.length < 1048576) (H : Heap) : ACalls Try.prog 28 [(AV.sl .any 9 (List.map Card.row l))] H ((AV.sl .any 9 (List.map Card.row (onceK l))), H) := (once_spec l hl).lift (by kernel_rfl) (by kernel_rfl) H
def madeE (t : Tp) : List Card → List Entry
  | [] => []
  | c :: cs => ⟨c, (t.next 120 : Nat)⟩ :: madeE (t.step 120) cs
def madeT (t : Tp) : List Card → Tp
  | [] => t
  | _ :: cs => madeT (t.step 120) cs
theorem madeE_len (cs : List Card) : ∀ (t : Tp), (madeE t cs).length = cs.length := by
  induction cs with
  | nil => intro t; rfl
  | cons c cs ih => intro t; simp only [madeE, List.length_cons, ih]
def made_ann : Ann := { gha := [(2, .vir 6 10), (7, .cut 2), (8, .frz 4)], fin := some 0, live := [(4, [5, 6, 15, 16, 17])], out := [(4, [5, 6, 15, 16, 17])] }
set_option maxRecDepth 100000 in
theorem made_step (cs : List Card) (t : Tp) (out : List Entry) (i k g : Nat) (hl : t.l.length < 9223372036854775808) (hk : k = out.length) (hki : k ≤ cs.length) (hl2 : cs.length < 1048576) {eX : Ex} {FX : Fr} {HX : Heap} (k1 : (decide (((i : Nat) : Int) < ((cs.length : Nat) : Int))) = true → LoopTo (codeQ Try.prog (X made_ann) (loopOf Try.f37 0)) (some [5, 6, 15, 16, 17]) (some [5, 6, 15, 16, 17]) (mkF 30 [(5, (AV.obj 0 0 0 0)), (6, (AV.osl 1 (g + 1) 10 0 (k + 1))), (15, (AV.sl .any 9 (List.map Card.row cs))), (16, (AV.int .i64 ((cs.length : Nat) : Int))), (17, (AV.int .i64 ((i + 1 : Nat) : Int)))]) ([⟨0, 2, [(Tp.row (t.step 120))], none⟩, ⟨(g + 1), 10, (List.map Entry.row (out ++ [(Entry.mk (nth cs i) ((t.next 120 : Nat) : Int))])), none⟩] : Heap) eX FX HX) (k2 : (decide (((i : Nat) : Int) < ((cs.length : Nat) : Int))) = false → ((.exit 0 : Ex), (mkF 30 [(5, (AV.obj 0 0 0 0)), (6, (AV.osl 1 g 10 0 k)), (15, (AV.sl .any 9 (List.map Card.row cs))), (16, (AV.int .i64 ((cs.length : Nat) : Int))), (17, (AV.int .i64 ((i : Nat) : Int)))]), ([⟨0, 2, [(Tp.row t)], none⟩, ⟨g, 10, (List.map Entry.row out), none⟩] : Heap)) = (eX, FX, HX)) : LoopTo (codeQ Try.prog (X made_ann) (loopOf Try.f37 0)) (some [5, 6, 15, 16, 17]) (some [5, 6, 15, 16, 17]) (mkF 30 [(5, (AV.obj 0 0 0 0)), (6, (AV.osl 1 g 10 0 k)), (15, (AV.sl .any 9 (List.map Card.row cs))), (16, (AV.int .i64 ((cs.length : Nat) : Int))), (17, (AV.int .i64 ((i : Nat) : Int)))]) ([⟨0, 2, [(Tp.row t)], none⟩, ⟨g, 10, (List.map Entry.row out), none⟩] : Heap) eX FX HX := by
  refine LoopTo.step (.reg [] [] [] (.two (.reg [(0, ((AV.ref (Card.row (nth cs i)) 0), ([⟨0, 2, [(Tp.row t)], none⟩, ⟨g, 10, (List.map Entry.row out), none⟩, ⟨0, 9, [[(AV.str (ByteArray.mk #[])), (AV.str (ByteArray.mk #[])), (AV.int .i64 0), (AV.int .i64 0), (AV.int .i64 0), (AV.int .i64 0), (AV.int .i64 0), (AV.int .i64 0), (AV.bool false)]], none⟩] : Heap)))] [] [] (.reg [(3, ((AV.int .i64 ((t.next 120 : Nat) : Int)), ([⟨0, 2, [(Tp.row (t.step 120))], none⟩, ⟨g, 10, (List.map Entry.row out), none⟩, ⟨0, 9, [(Card.row (nth cs i))], none⟩] : Heap))), (6, ((AV.osl 1 (g + 1) 10 0 (k + 1)), ([⟨0, 2, [(Tp.row (t.step 120))], none⟩, ⟨(g + 1), 10, (List.map Entry.row (out ++ [(Entry.mk (nth cs i) ((t.next 120 : Nat) : Int))])), none⟩, ⟨0, 9, [(Card.row (nth cs i))], none⟩] : Heap)))] [] [] (.reg [(0, ((AV.int .i64 ((i + 1 : Nat) : Int)), ([⟨0, 2, [(Tp.row (t.step 120))], none⟩, ⟨(g + 1), 10, (List.map Entry.row (out ++ [(Entry.mk (nth cs i) ((t.next 120 : Nat) : Int))])), none⟩, ⟨0, 9, [(Card.row (nth cs i))], none⟩] : Heap)))] [] [] .nil))) .nil)) ?_
  refine Eq.mp (by kernel_rfl : (cond (decide (((i : Nat) : Int) < ((cs.length : Nat) : Int))) ((IdxSl 9 9 (List.map Card.row cs) ((i : Nat) : Int) ([⟨0, 2, [(Tp.row t)], none⟩, ⟨g, 10, (List.map Entry.row out), none⟩, ⟨0, 9, [[(AV.str (ByteArray.mk #[])), (AV.str (ByteArray.mk #[])), (AV.int .i64 0), (AV.int .i64 0), (AV.int .i64 0), (AV.int .i64 0), (AV.int .i64 0), (AV.int .i64 0), (AV.bool false)]], none⟩] : Heap) (Card.row (nth cs i))) ∧ (ACalls Try.prog 21 [(AV.obj 0 0 0 0), (AV.int .i64 120)] ([⟨0, 2, [(Tp.row t)], none⟩, ⟨g, 10, (List.map Entry.row out), none⟩, ⟨0, 9, [(Card.row (nth cs i))], none⟩] : Heap) ((AV.int .i64 ((t.next 120 : Nat) : Int)), ([⟨0, 2, [(Tp.row (t.step 120))], none⟩, ⟨g, 10, (List.map Entry.row out), none⟩, ⟨0, 9, [(Card.row (nth cs i))], none⟩] : Heap))) ∧ (evAppend tt ([⟨0, 2, [(Tp.row (t.step 120))], none⟩, ⟨g, 10, (List.map Entry.row out), none⟩, ⟨0, 9, [(Card.row (nth cs i))], none⟩] : Heap) 52 (AV.osl 1 g 10 0 k) (AV.sl .clip 10 [[(AV.str (nth cs i).key.app), (AV.str (nth cs i).key.id), (AV.int .i64 (nth cs i).status), (AV.int .i64 (nth cs i).over), (AV.int .i64 (nth cs i).lease), (AV.int .i64 (nth cs i).stamp.t), (AV.int .i64 (nth cs i).stamp.node), (AV.int .i64 (nth cs i).stamp.n), (AV.bool (nth cs i).gone), (AV.int .i64 ((t.next 120 : Nat) : Int))]]) = some ((AV.osl 1 (g + 1) 10 0 (k + 1)), ([⟨0, 2, [(Tp.row (t.step 120))], none⟩, ⟨(g + 1), 10, (List.map Entry.row (out ++ [(Entry.mk (nth cs i) ((t.next 120 : Nat) : Int))])), none⟩, ⟨0, 9, [(Card.row (nth cs i))], none⟩] : Heap))) ∧ (some ((AV.agg (Card.row (nth cs i))), ([⟨0, 2, [(Tp.row (t.step 120))], none⟩, ⟨g, 10, (List.map Entry.row out), none⟩, ⟨0, 9, [(Card.row (nth cs i))], none⟩] : Heap)) = some ((AV.agg (Card.row (nth cs i))), ([⟨0, 2, [(Tp.row (t.step 120))], none⟩, ⟨g, 10, (List.map Entry.row out), none⟩, ⟨0, 9, [(Card.row (nth cs i))], none⟩] : Heap))) ∧ (Yes (.int .i64 (IntKind.i64.wrap (((i : Nat) : Int) + 1))) ([⟨0, 2, [(Tp.row (t.step 120))], none⟩, ⟨(g + 1), 10, (List.map Entry.row (out ++ [(Entry.mk (nth cs i) ((t.next 120 : Nat) : Int))])), none⟩, ⟨0, 9, [(Card.row (nth cs i))], none⟩] : Heap) (AV.int .i64 ((i + 1 : Nat) : Int))) ∧ (obsB 2 ([⟨0, 2, [(Tp.row (t.step 120))], none⟩, ⟨(g + 1), 10, (List.map Entry.row (out ++ [(Entry.mk (nth cs i) ((t.next 120 : Nat) : Int))])), none⟩] : Heap) = true) ∧ LoopTo (codeQ Try.prog (X made_ann) (loopOf Try.f37 0)) (some [5, 6, 15, 16, 17]) (some [5, 6, 15, 16, 17]) (mkF 30 [(5, (AV.obj 0 0 0 0)), (6, (AV.osl 1 (g + 1) 10 0 (k + 1))), (15, (AV.sl .any 9 (List.map Card.row cs))), (16, (AV.int .i64 ((cs.length : Nat) : Int))), (17, (AV.int .i64 ((i + 1 : Nat) : Int)))]) ([⟨0, 2, [(Tp.row (t.step 120))], none⟩, ⟨(g + 1), 10, (List.map Entry.row (out ++ [(Entry.mk (nth cs i) ((t.next 120 : Nat) : Int))])), none⟩] : Heap) eX FX HX) (((.exit 0 : Ex), (mkF 30 [(5, (AV.obj 0 0 0 0)), (6, (AV.osl 1 g 10 0 k)), (15, (AV.sl .any 9 (List.map Card.row cs))), (16, (AV.int .i64 ((cs.length : Nat) : Int))), (17, (AV.int .i64 ((i : Nat) : Int)))]), ([⟨0, 2, [(Tp.row t)], none⟩, ⟨g, 10, (List.map Entry.row out), none⟩] : Heap)) = (eX, FX, HX))) = _) ?_
  refine cond_split (fun h1 => ?_) (fun h1 => ?_)
  · have h1' := h1
    try simp at h1'
    refine And.intro (IdxSl.mk _ (by omega) (by omega)) ?_
    refine And.intro ((next_at t 120 (by first | omega | assumption | (simp; done) | (simp; omega) | (simp_all; done) | (simp_all; omega)) ([⟨g, 10, (List.map Entry.row out), none⟩, ⟨0, 9, [(Card.row (nth cs i))], none⟩] : Heap)).pre ⟨AV.wk_refl_any _, AV.wk_refl_any _, trivial⟩) ?_
    refine And.intro (evAppend_one (row := Entry.row) (l := out) (x := (Entry.mk (nth cs i) ((t.next 120 : Nat) : Int))) (T := tt) (e := 42) (te := { d := .struct [(34, 0), (2, 9)], size := 10, bytes := 96, zero := [.str ⟨#[]⟩, .str ⟨#[]⟩, .int .i64 0, .int .i64 0, .int .i64 0, .int .i64 0, .int .i64 0, .int .i64 0, .bool false, .int .i64 0] }) (z := 1) (b := 24) (y := [.sl .nil 0 []]) (by kernel_rfl) (by kernel_rfl) rfl (by decide) (by decide) (by kernel_rfl) (by first | assumption | omega | (simp; done) | (simp; omega)) rfl rfl (by first | omega | (simp; omega))) ?_
    refine And.intro (rfl) ?_
    refine And.intro (Yes.add (by omega) (by omega) (by omega)) ?_
    refine And.intro (by first | (simp [obsB, AV.bddss, AV.bdds, AV.bdd]; done) | (simp [obsB, AV.bddss, AV.bdds, AV.bdd, -List.map_append]; done) | simp [obsB, AV.bddss, AV.bdds, AV.bdd, -List.map_append, -List.map_set, -List.map_take, -List.map_drop, -List.map_cons, -List.map_map]) ?_
    exact k1 h1
  · have h1' := h1
    try simp at h1'
    exact k2 h1
theorem made_loop (cs : List Card) (r : Nat) : ∀ (t : Tp) (out : List Entry) (i k g : Nat) (kF gF : Nat) (tF : Tp) (outF : List Entry), i + r = cs.length → t.l.length < 9223372036854775808 → k = out.length → k = i → cs.length < 1048576 → kF = k + r → gF = g + r → tF = madeT t (cs.drop i) → outF = out ++ madeE t (cs.drop i) →
    LoopTo (codeQ Try.prog (X made_ann) (loopOf Try.f37 0)) (some [5, 6, 15, 16, 17]) (some [5, 6, 15, 16, 17]) (mkF 30 [(5, (AV.obj 0 0 0 0)), (6, (AV.osl 1 g 10 0 k)), (15, (AV.sl .any 9 (List.map Card.row cs))), (16, (AV.int .i64 ((cs.length : Nat) : Int))), (17, (AV.int .i64 ((i : Nat) : Int)))]) ([⟨0, 2, [(Tp.row t)], none⟩, ⟨g, 10, (List.map Entry.row out), none⟩] : Heap) (.exit 0) (mkF 30 [(5, (AV.obj 0 0 0 0)), (6, (AV.osl 1 gF 10 0 kF)), (15, (AV.sl .any 9 (List.map Card.row cs))), (16, (AV.int .i64 ((cs.length : Nat) : Int))), (17, (AV.int .i64 ((cs.length : Nat) : Int)))]) ([⟨0, 2, [(Tp.row tF)], none⟩, ⟨gF, 10, (List.map Entry.row outF), none⟩] : Heap) := by
  induction r with
  | zero =>
    intro t out i k g kF gF tF outF hi hl hk hki hl2 h1 h2 h3 h4
    refine made_step cs t out i k g hl hk (by omega) hl2 (fun h => by simp at h; omega) fun _ => ?_
    have hd : cs.drop i = [] := List.drop_of_length_le (by omega)
    rw [hd] at h3 h4
    have e1 : kF = k := by omega
    have e2 : gF = g := by omega
    have e3 : i = cs.length := by omega
    have e4 : outF = out := by rw [h4]; simp [madeE]
    have e5 : tF = t := by rw [h3]; simp only [madeT]
    rw [e1, e2, e3, e4, e5]
  | succ r ih =>
    intro t out i k g kF gF tF outF hi hl hk hki hl2 h1 h2 h3 h4
    rw [drop_nth (by omega)] at h3 h4
    refine made_step cs t out i k g hl hk (by omega) hl2 (fun _ => ?_) fun h => by simp at h; omega
    exact ih (t.step 120) (out ++ [⟨nth cs i, (t.next 120 : Nat)⟩]) (i + 1) (k + 1) (g + 1) kF gF tF outF (by omega) (by rw [Tp.step_l]; exact hl) (by simp [hk]) (by omega) hl2 (by omega) (by omega) (by rw [h3]; simp only [madeT]) (by rw [h4]; simp [madeE])
def madeT0 (tape : List Int) (most : Nat) : Tp := ((⟨tape, 0⟩ : Tp).step (most + 1)).cardsT ((⟨tape, 0⟩ : Tp).next (most + 1))
def madeC (tape : List Int) (most : Nat) : List Card := onceK (((⟨tape, 0⟩ : Tp).step (most + 1)).cards ((⟨tape, 0⟩ : Tp).next (most + 1)))
def madeL (tape : List Int) (most : Nat) : List Entry := madeE (madeT0 tape most) (madeC tape most)
theorem madeC_len (tape : List Int) (most : Nat) : (madeC tape most).length ≤ most := by
  have h1 := onceK_len (((⟨tape, 0⟩ : Tp).step (most + 1)).cards ((⟨tape, 0⟩ : Tp).next (most + 1)))
  have h2 := Tp.next_lt ⟨tape, 0⟩ (most + 1) (by omega)
  rw [Tp.cards_len] at h1
  unfold madeC
  omega
theorem madeL_len (tape : List Int) (most : Nat) : (madeL tape most).length ≤ most := by
  have := madeC_len tape most
  simpa [madeL, madeE_len] using this
set_option maxRecDepth 100000 in
theorem made_spec (tape : List Int) (most : Nat) (hl : tape.length < 9223372036854775808) (hm : most < 1000000) : ACalls Try.prog 37 [(AV.sl .any 1 (List.map rI64 tape)), (AV.int .i64 ((most : Nat) : Int))] ([] : Heap) ((AV.sl .any 10 (List.map Entry.row (madeL tape most))), ([] : Heap)) := by
  have h1 := madeC_len tape most
  have h2 := Tp.next_lt ⟨tape, 0⟩ (most + 1) (by omega)
  have h3 := Tp.cards_len ((⟨tape, 0⟩ : Tp).next (most + 1)) ((⟨tape, 0⟩ : Tp).step (most + 1))
  have h4 : (madeT0 tape most).l.length < 9223372036854775808 := by unfold madeT0; rw [Tp.cardsT_l, Tp.step_l]; exact hl
  unfold madeC at h1
  refine spec (fn := Try.f37) (ann := made_ann) (t := (.reg [] [] [] (.reg [] [] [] (.reg [] [] [] (.reg [(2, ((AV.sl .any 9 (List.map Card.row ((Tp.mk tape 0).step (most + 1) |>.cards ((Tp.mk tape 0).next (most + 1))))), ([⟨0, 2, [(Tp.row (((Tp.mk tape 0).step (most + 1)).cardsT ((Tp.mk tape 0).next (most + 1))))], none⟩, ⟨0, 10, (List.map Entry.row []), none⟩] : Heap))), (3, ((AV.sl .any 9 (List.map Card.row (onceK ((Tp.mk tape 0).step (most + 1) |>.cards ((Tp.mk tape 0).next (most + 1)))))), ([⟨0, 2, [(Tp.row (((Tp.mk tape 0).step (most + 1)).cardsT ((Tp.mk tape 0).next (most + 1))))], none⟩, ⟨0, 10, (List.map Entry.row []), none⟩] : Heap))), (4, ((AV.int .i64 (((onceK ((Tp.mk tape 0).step (most + 1) |>.cards ((Tp.mk tape 0).next (most + 1)))).length : Nat) : Int)), ([⟨0, 2, [(Tp.row (((Tp.mk tape 0).step (most + 1)).cardsT ((Tp.mk tape 0).next (most + 1))))], none⟩, ⟨0, 10, (List.map Entry.row []), none⟩] : Heap)))] [] [] (.loop (.exit 0) (mkF 30 [(5, (AV.obj 0 0 0 0)), (6, (AV.osl 1 (onceK ((Tp.mk tape 0).step (most + 1) |>.cards ((Tp.mk tape 0).next (most + 1)))).length 10 0 (onceK ((Tp.mk tape 0).step (most + 1) |>.cards ((Tp.mk tape 0).next (most + 1)))).length)), (15, (AV.sl .any 9 (List.map Card.row (onceK ((Tp.mk tape 0).step (most + 1) |>.cards ((Tp.mk tape 0).next (most + 1))))))), (16, (AV.int .i64 (((onceK ((Tp.mk tape 0).step (most + 1) |>.cards ((Tp.mk tape 0).next (most + 1)))).length : Nat) : Int))), (17, (AV.int .i64 (((onceK ((Tp.mk tape 0).step (most + 1) |>.cards ((Tp.mk tape 0).next (most + 1)))).length : Nat) : Int)))]) ([⟨0, 2, [(Tp.row (madeT (((Tp.mk tape 0).step (most + 1)).cardsT ((Tp.mk tape 0).next (most + 1))) (onceK ((Tp.mk tape 0).step (most + 1) |>.cards ((Tp.mk tape 0).next (most + 1))))))], none⟩, ⟨(onceK ((Tp.mk tape 0).step (most + 1) |>.cards ((Tp.mk tape 0).next (most + 1)))).length, 10, (List.map Entry.row (madeE (((Tp.mk tape 0).step (most + 1)).cardsT ((Tp.mk tape 0).next (most + 1))) (onceK ((Tp.mk tape 0).step (most + 1) |>.cards ((Tp.mk tape 0).next (most + 1)))))), none⟩] : Heap) (.reg [] [] [(4, (List.map Entry.row (madeE (((Tp.mk tape 0).step (most + 1)).cardsT ((Tp.mk tape 0).next (most + 1))) (onceK ((Tp.mk tape 0).step (most + 1) |>.cards ((Tp.mk tape 0).next (most + 1)))))))] .nil))))))) (Nat.le_of_ble_eq_true (by kernel_rfl)) ⟨Try.func37, by kernel_rfl, by kernel_rfl, by kernel_rfl⟩ ?_
  refine Eq.mp (by kernel_rfl : ((ACalls Try.prog 29 [(AV.obj 0 0 0 0), (AV.int .i64 ((most : Nat) : Int))] ([⟨0, 2, [[(AV.sl .any 1 (List.map rI64 tape)), (AV.int .i64 0)]], none⟩, ⟨0, 10, (List.map Entry.row []), none⟩] : Heap) ((AV.sl .any 9 (List.map Card.row ((Tp.mk tape 0).step (most + 1) |>.cards ((Tp.mk tape 0).next (most + 1))))), ([⟨0, 2, [(Tp.row (((Tp.mk tape 0).step (most + 1)).cardsT ((Tp.mk tape 0).next (most + 1))))], none⟩, ⟨0, 10, (List.map Entry.row []), none⟩] : Heap))) ∧ (ACalls Try.prog 28 [(AV.sl .any 9 (List.map Card.row ((Tp.mk tape 0).step (most + 1) |>.cards ((Tp.mk tape 0).next (most + 1)))))] ([⟨0, 2, [(Tp.row (((Tp.mk tape 0).step (most + 1)).cardsT ((Tp.mk tape 0).next (most + 1))))], none⟩, ⟨0, 10, (List.map Entry.row []), none⟩] : Heap) ((AV.sl .any 9 (List.map Card.row (onceK ((Tp.mk tape 0).step (most + 1) |>.cards ((Tp.mk tape 0).next (most + 1)))))), ([⟨0, 2, [(Tp.row (((Tp.mk tape 0).step (most + 1)).cardsT ((Tp.mk tape 0).next (most + 1))))], none⟩, ⟨0, 10, (List.map Entry.row []), none⟩] : Heap))) ∧ (Yes (.int .i64 ((List.length (List.map Card.row (onceK ((Tp.mk tape 0).step (most + 1) |>.cards ((Tp.mk tape 0).next (most + 1))))) : Nat) : Int)) ([⟨0, 2, [(Tp.row (((Tp.mk tape 0).step (most + 1)).cardsT ((Tp.mk tape 0).next (most + 1))))], none⟩, ⟨0, 10, (List.map Entry.row []), none⟩] : Heap) (AV.int .i64 (((onceK ((Tp.mk tape 0).step (most + 1) |>.cards ((Tp.mk tape 0).next (most + 1)))).length : Nat) : Int))) ∧ (LoopTo (codeQ Try.prog (X made_ann) (loopOf Try.f37 0)) (some [5, 6, 15, 16, 17]) (some [5, 6, 15, 16, 17]) (mkF 30 [(5, (AV.obj 0 0 0 0)), (6, (AV.osl 1 0 10 0 0)), (15, (AV.sl .any 9 (List.map Card.row (onceK ((Tp.mk tape 0).step (most + 1) |>.cards ((Tp.mk tape 0).next (most + 1))))))), (16, (AV.int .i64 (((onceK ((Tp.mk tape 0).step (most + 1) |>.cards ((Tp.mk tape 0).next (most + 1)))).length : Nat) : Int))), (17, (AV.int .i64 0))]) ([⟨0, 2, [(Tp.row (((Tp.mk tape 0).step (most + 1)).cardsT ((Tp.mk tape 0).next (most + 1))))], none⟩, ⟨0, 10, (List.map Entry.row []), none⟩] : Heap) (.exit 0) (mkF 30 [(5, (AV.obj 0 0 0 0)), (6, (AV.osl 1 (onceK ((Tp.mk tape 0).step (most + 1) |>.cards ((Tp.mk tape 0).next (most + 1)))).length 10 0 (onceK ((Tp.mk tape 0).step (most + 1) |>.cards ((Tp.mk tape 0).next (most + 1)))).length)), (15, (AV.sl .any 9 (List.map Card.row (onceK ((Tp.mk tape 0).step (most + 1) |>.cards ((Tp.mk tape 0).next (most + 1))))))), (16, (AV.int .i64 (((onceK ((Tp.mk tape 0).step (most + 1) |>.cards ((Tp.mk tape 0).next (most + 1)))).length : Nat) : Int))), (17, (AV.int .i64 (((onceK ((Tp.mk tape 0).step (most + 1) |>.cards ((Tp.mk tape 0).next (most + 1)))).length : Nat) : Int)))]) ([⟨0, 2, [(Tp.row (madeT (((Tp.mk tape 0).step (most + 1)).cardsT ((Tp.mk tape 0).next (most + 1))) (onceK ((Tp.mk tape 0).step (most + 1) |>.cards ((Tp.mk tape 0).next (most + 1))))))], none⟩, ⟨(onceK ((Tp.mk tape 0).step (most + 1) |>.cards ((Tp.mk tape 0).next (most + 1)))).length, 10, (List.map Entry.row (madeE (((Tp.mk tape 0).step (most + 1)).cardsT ((Tp.mk tape 0).next (most + 1))) (onceK ((Tp.mk tape 0).step (most + 1) |>.cards ((Tp.mk tape 0).next (most + 1)))))), none⟩] : Heap)) ∧ (rowsIn ([⟨0, 2, [(Tp.row (madeT (((Tp.mk tape 0).step (most + 1)).cardsT ((Tp.mk tape 0).next (most + 1))) (onceK ((Tp.mk tape 0).step (most + 1) |>.cards ((Tp.mk tape 0).next (most + 1))))))], none⟩, ⟨(onceK ((Tp.mk tape 0).step (most + 1) |>.cards ((Tp.mk tape 0).next (most + 1)))).length, 10, (List.map Entry.row (madeE (((Tp.mk tape 0).step (most + 1)).cardsT ((Tp.mk tape 0).next (most + 1))) (onceK ((Tp.mk tape 0).step (most + 1) |>.cards ((Tp.mk tape 0).next (most + 1)))))), none⟩] : Heap) 10 (AV.osl 1 (onceK ((Tp.mk tape 0).step (most + 1) |>.cards ((Tp.mk tape 0).next (most + 1)))).length 10 0 (onceK ((Tp.mk tape 0).step (most + 1) |>.cards ((Tp.mk tape 0).next (most + 1)))).length) = some (List.map Entry.row (madeE (((Tp.mk tape 0).step (most + 1)).cardsT ((Tp.mk tape 0).next (most + 1))) (onceK ((Tp.mk tape 0).step (most + 1) |>.cards ((Tp.mk tape 0).next (most + 1)))))) ∧ AV.bddss 0 (List.map Entry.row (madeE (((Tp.mk tape 0).step (most + 1)).cardsT ((Tp.mk tape 0).next (most + 1))) (onceK ((Tp.mk tape 0).step (most + 1) |>.cards ((Tp.mk tape 0).next (most + 1)))))) = true) ∧ (AV.bdd 0 (AV.sl .any 10 (List.map Entry.row (madeE (((Tp.mk tape 0).step (most + 1)).cardsT ((Tp.mk tape 0).next (most + 1))) (onceK ((Tp.mk tape 0).step (most + 1) |>.cards ((Tp.mk tape 0).next (most + 1))))))) = true ∧ obsB 0 ([] : Heap) = true) ∧ ((AV.sl .any 10 (List.map Entry.row (madeE (((Tp.mk tape 0).step (most + 1)).cardsT ((Tp.mk tape 0).next (most + 1))) (onceK ((Tp.mk tape 0).step (most + 1) |>.cards ((Tp.mk tape 0).next (most + 1))))))), ([] : Heap)) = ((AV.sl .any 10 (List.map Entry.row (madeL tape most))), ([] : Heap))) = _) ?_
  refine And.intro (cards_at (Tp.mk tape 0) most (by first | omega | assumption | (simp; done) | (simp; omega) | (simp_all; done) | (simp_all; omega)) (by first | omega | assumption | (simp; done) | (simp; omega) | (simp_all; done) | (simp_all; omega)) ([⟨0, 10, (List.map Entry.row []), none⟩] : Heap)) ?_
  refine And.intro (once_at ((Tp.mk tape 0).step (most + 1) |>.cards ((Tp.mk tape 0).next (most + 1))) (by first | omega | assumption | (simp; done) | (simp; omega) | (simp_all; done) | (simp_all; omega)) ([⟨0, 2, [(Tp.row (((Tp.mk tape 0).step (most + 1)).cardsT ((Tp.mk tape 0).next (most + 1))))], none⟩, ⟨0, 10, (List.map Entry.row []), none⟩] : Heap)) ?_
  refine And.intro (Yes.len _ _ _) ?_
  refine And.intro ((made_loop (onceK ((Tp.mk tape 0).step (most + 1) |>.cards ((Tp.mk tape 0).next (most + 1)))) (List.length (onceK ((Tp.mk tape 0).step (most + 1) |>.cards ((Tp.mk tape 0).next (most + 1))))) (((Tp.mk tape 0).step (most + 1)).cardsT ((Tp.mk tape 0).next (most + 1))) [] 0 0 0 _ _ _ _ (by omega) h4 rfl rfl (by omega) (by omega) (by omega) rfl (by simp))) ?_
  refine And.intro (And.intro (rowsIn_all (room := none) (by kernel_rfl) (by first | omega | (simp [madeE_len]; done) | (simp [madeE_len]; omega))) (Entry.rows_bdd _ _)) ?_
  refine And.intro (by first | (simp [obsB, AV.bddss, AV.bdds, AV.bdd]; done) | (simp [obsB, AV.bddss, AV.bdds, AV.bdd, -List.map_append]; done) | simp [obsB, AV.bddss, AV.bdds, AV.bdd, -List.map_append, -List.map_set, -List.map_take, -List.map_drop, -List.map_cons, -List.map_map]) ?_
  rfl
theorem made_at (tape : List Int) (most : Nat) (hl : tape.length < 9223372036854775808) (hm : most < 1000000) (H : Heap) : ACalls Try.prog 37 [(AV.sl .any 1 (List.map rI64 tape)), (AV.int .i64 ((most : Nat) : Int))] H ((AV.sl .any 10 (List.map Entry.row (madeL tape most))), H) := (made_spec tape most hl hm).lift (by kernel_rfl) (by kernel_rfl) H
end Go.Proofs.Ytpkgpldgoajphaa.AM

set_option linter.unusedVariables false
set_option linter.unusedSimpArgs false
namespace Go.Proofs.Ytpkgpldgoajphaa.AM
open Go

theorem ACalls.orNil {P : Program} {f : FuncId} {k : Nat} {xs : List (List AV)} {as_ : List AV} {H : Heap} {r : AV × Heap} (h1 : xs = [] → ACalls P f (.sl .nil 0 [] :: as_) H r) (h2 : ACalls P f (.sl .op k xs :: as_) H r) :
    ACalls P f (.sl .any k xs :: as_) H r := by
  intro G w C vs hsz hargs hH
  have h0 := hargs 0 (by simp)
  have hr : ∀ i, 0 < i → i < as_.length + 1 → ∀ v : AV, (v :: as_).getD i .skip = (AV.sl .any k xs :: as_).getD i .skip := by
    intro i hi _ v
    cases i with
    | zero => omega
    | succ i => rfl
  have key : ∀ v : AV, VR G w C v (vs.getD 0 undef) → ∀ i, i < (v :: as_).length → VR G w C ((v :: as_).getD i .skip) (vs.getD i undef) := by
    intro v hv i hi
    cases i with
    | zero => exact hv
    | succ i =>
      have := hargs (i + 1) (by simpa using hi)
      rw [hr (i + 1) (by omega) (by simpa using hi) v]
      exact this
  simp only [List.getD_cons_zero] at h0
  generalize hv0 : vs.getD 0 undef = v0 at h0
  cases h0 with
  | nils _ _ _ hg => exact h1 rfl G w C vs (by simpa using hsz) (key _ (by rw [hv0]; exact .nils _ _ _ (.inl rfl))) hH
  | sl _ _ _ _ ad cap hg hclip hle hs cv hk hc h1' h => exact h2 G w C vs (by simpa using hsz) (key _ (by rw [hv0]; exact .sl _ _ _ _ ad cap (by simp) (by simp) hle hs cv hk hc h1' h)) hH
theorem slice_max {H : Heap} {k : Nat} {rows xs : List (List AV)} {g : Tg} {lo hi mx : Int} {l h : Nat} (hlo : lo = (l : Int)) (hhi : hi = (h : Int)) (h1 : l ≤ h) (h2 : h ≤ rows.length) (hx : (rows.take h).drop l = xs) (hm : hi = mx) :
    Option.map (fun a => (a, H)) (if k = k ∨ rows.isEmpty = true then (if hi = mx then (bounds lo hi rows.length).map fun p => AV.sl g k ((List.take p.2 rows).drop p.1) else none) else none) = some (.sl g k xs, H) := by
  rw [if_pos hm]
  exact slice_sl hlo hhi h1 h2 hx
def AV.scal : AV → Bool
  | .bool _ | .int _ _ | .str _ => true
  | _ => false
theorem VR.scal {G G' : Nat → Prop} {w w' : World} {C C' : Cx} {a : AV} {v : Value} (h : VR G w C a v) (ha : a.scal = true) : VR G' w' C' a v := by
  cases h <;> simp [AV.scal] at ha
  · exact .bool ..
  · exact .int ..
  · exact .str ..
/-- The argument as it is, and as the function is told of it. -/
def Br (H : Heap) (a' a : AV) : Prop := (a' = a ∧ AV.bdd 0 a = true) ∨ ∃ id g k e n rows, a' = .osl id g k e n ∧ a = .sl .any k rows ∧ rowsIn H k (.osl id g k e n) = some rows ∧ AV.bddss 0 rows = true
theorem Br.same {H : Heap} {a : AV} (h : AV.bdd 0 a = true) : Br H a a := .inl ⟨rfl, h⟩
theorem Br.osl {H : Heap} {id g k e n : Nat} {rows : List (List AV)} (h : rowsIn H k (.osl id g k e n) = some rows) (hb : AV.bddss 0 rows = true) : Br H (.osl id g k e n) (.sl .any k rows) := .inr ⟨id, g, k, e, n, rows, rfl, rfl, h, hb⟩
def Brs (H : Heap) : List AV → List AV → Prop
  | [], [] => True
  | a :: l, b :: m => Br H a b ∧ Brs H l m
  | _, _ => False
theorem Brs.get {H : Heap} : ∀ {l m : List AV}, Brs H l m → l.length = m.length ∧ ∀ i, i < m.length → Br H (l.getD i .skip) (m.getD i .skip)
  | [], [], _ => ⟨rfl, fun i hi => by simp at hi⟩
  | [], _ :: _, h => h.elim
  | _ :: _, [], h => h.elim
  | a :: l, b :: m, h => by
    obtain ⟨h1, h2⟩ := Brs.get h.2
    refine ⟨by simp [h1], fun i hi => ?_⟩
    cases i with
    | zero => simpa using h.1
    | succ i => simpa using h2 i (by simpa using hi)
theorem ACalls.borrow {P : Program} {f : FuncId} {args args' : List AV} {a : AV} (h : ACalls P f args [] (a, [])) (ha : a.scal = true) {H : Heap} (hb : Brs H args' args) : ACalls P f args' H (a, H) := by
  intro G w C vs hsz hargs hH
  obtain ⟨hl, hbr⟩ := hb.get
  have key : ∀ i, i < args.length → VR (fun b => G b ∨ ∃ id l, C.ι id = some l ∧ l.b = some b) w Cx.none (args.getD i .skip) (vs.getD i undef) := by
    intro i hi
    have hv := hargs i (by omega)
    rcases hbr i hi with ⟨e, h0⟩ | ⟨id, g, k, e, n, rows, h1, h2, h3, h4⟩
    · rw [e] at hv
      have := hv.cut 0 h0
      rw [cut_zero] at this
      exact this.mono (fun b hb => .inl hb) (fun _ _ => rfl) (CxLe.refl _)
    · rw [h1] at hv
      rw [h2]
      obtain ⟨G', C', e1, e2, e3, _⟩ := freeze_sound hH hv h3 h4
      have := e3.cut 0 rfl
      rw [cut_zero] at this
      refine this.mono (fun b hb => ?_) (fun _ _ => rfl) (CxLe.refl _)
      rcases e1.grow b hb with h5 | h5 | h5
      · exact .inl h5
      · exact .inr h5
      · have := e2.gsz b hb; omega
  have hE : HR (fun b => G b ∨ ∃ id l, C.ι id = some l ∧ l.b = some b) w Cx.none [] :=
    ⟨fun id o ho => by simp at ho, fun id _ => ⟨rfl, rfl⟩, fun id l b hl => by simp [Cx.none] at hl, fun i j l l' b hl => by simp [Cx.none] at hl, fun id o l ho => by simp at ho,
      fun b hb => hb.elim (hH.gsz b) fun ⟨id, l, h1, h2⟩ => (hH.own id l b h1 h2).1⟩
  refine (h _ w Cx.none vs (by omega) key hE).mono fun v w' ⟨G', C', he, hh, hv, hp⟩ => ?_
  have hall : ∀ b, b < w.heap.size → w'.heap[b]? = w.heap[b]? := fun b hb => he.rest b hb fun id l hl => by simp [Cx.none] at hl
  have hev : Ev G w C G w' C := ⟨he.os, he.tape, he.output, he.size, fun _ h => h, fun b hb => hall b (hH.gsz b hb), CxLe.refl _, fun b hb _ => hall b hb, fun _ h => .inl h, fun id l b h1 h2 => .inl ⟨id, l, h1, h2⟩, he.frz⟩
  refine ⟨G, C, hev, ⟨hH.gen, hH.out, fun id l b h1 h2 => ⟨Nat.lt_of_lt_of_le (hH.own id l b h1 h2).1 he.size, (hH.own id l b h1 h2).2⟩, hH.inj, fun id o l ho hl' => (hH.ob id o l ho hl').ev hev fun b hb => hall b (hH.own id l b hl' hb).1, fun b hb => Nat.lt_of_lt_of_le (hH.gsz b hb) he.size⟩, hv.scal ha, Pd.refl⟩
/-- A call that needs objects and makes one, which it hands back as a slice, among more objects. -/
theorem ACalls.ext_osl {P : Program} {f : FuncId} {args : List AV} {g k n : Nat} {Hs H1 : Heap} {o : Ob} (h : ACalls P f args Hs (.osl Hs.length g k 0 n, H1 ++ [o])) (hargs : AV.bdds Hs.length args = true) (hbs : obsB Hs.length Hs = true) (hbs' : obsB Hs.length H1 = true) (ho : AV.bddss 0 o.els = true) (hlen : H1.length = Hs.length) (E : Heap) :
    ACalls P f args (Hs ++ E) (.osl (Hs ++ E).length g k 0 n, (H1 ++ E) ++ [o]) := by
  have hτ : ∀ i, i < Hs.length → (fun i => if i < Hs.length then i else i + E.length) i = i := fun i hi => by simp [hi]
  have lt_of : ∀ {l : Heap} {i : Nat} {o : Ob}, l[i]? = some o → i < l.length := fun {l i o} ho => by
    rcases Nat.lt_or_ge i l.length with h' | h'
    · exact h'
    · rw [List.getElem?_eq_none h'] at ho; simp at ho
  have := h.frame (τ := fun i => if i < Hs.length then i else i + E.length) (Hb := Hs ++ E) (Hb' := (H1 ++ E) ++ [o])
    ⟨fun i hi => by simp [hi]; omega, fun i hi => by have : ¬ i < Hs.length := by omega
                                                     simp [this]; omega, fun i j hi hj e => by simpa [hi, hj] using e, fun i o ho => by
      have hi := lt_of ho
      simp only [hi, if_true]
      rw [List.getElem?_append_left hi, Ob.ren_fix hτ o (obsB_get hbs ho)]
      exact ho⟩ hargs (fun i o ho => obsB_get hbs ho) (by simp [hlen]; omega) (fun i o' ho' => by
      rcases Nat.lt_or_ge i Hs.length with hi | hi
      · simp only [hi, if_true]
        rw [List.getElem?_append_left (by omega)] at ho'
        rw [List.append_assoc, List.getElem?_append_left (by omega), Ob.ren_fix hτ o' (obsB_get hbs' ho')]
        exact ho'
      · have hi2 := lt_of ho'
        simp only [List.length_append, List.length_singleton] at hi2
        obtain rfl : i = Hs.length := by omega
        rw [List.getElem?_append_right (by omega)] at ho'
        simp [hlen] at ho'
        subst ho'
        have hn : ¬ Hs.length < Hs.length := by omega
        simp only [hn, if_false]
        rw [List.getElem?_append_right (by simp [hlen])]
        have h0 : ∀ i, i < 0 → (fun i => if i < Hs.length then i else i + E.length) i = i := fun i hi => by omega
        rw [Ob.ren_fix h0 o ho]
        simp [hlen]) fun j hj hn => by
      have hj' : Hs.length ≤ j := by
        rcases Nat.lt_or_ge j Hs.length with h' | h'
        · exact absurd (hτ j h') (hn j h')
        · exact h'
      simp only [List.length_append] at hj
      have e1 : ((H1 ++ E) ++ [o])[j]? = E[j - Hs.length]? := by rw [List.append_assoc, List.getElem?_append_right (by omega), hlen, List.getElem?_append_left (by omega)]
      have e2 : (Hs ++ E)[j]? = E[j - Hs.length]? := List.getElem?_append_right hj'
      exact e1.trans e2.symm
  rw [rens_fix hτ args hargs] at this
  simpa [AV.ren] using this
end Go.Proofs.Ytpkgpldgoajphaa.AM

set_option maxRecDepth 100000
set_option linter.unusedVariables false
set_option linter.unusedSimpArgs false
namespace Go.Proofs.Ytpkgpldgoajphaa.AM
open Go Go.Proofs.Ytpkgpldgoajphaa
attribute [local irreducible] ACalls funT codeT codeQ LoopTo
attribute [local irreducible] Tp.card Tp.cardT Tp.next Tp.step Tp.cards Tp.cardsT Tp.key Tp.keyT sink insSort pickS pickL pickN pickK mostN cmpL lateE orderK sortK insK posK beforeK onceStep onceS onceK
def cloneCN_ann : Ann := { gha := [(2, .vir 2 9)], fin := some 1 }
set_option maxRecDepth 100000 in
theorem cloneCN_spec   : ACalls Try.prog 98 [(AV.sl .nil 0 [])] ([] : Heap) ((AV.osl 0 0 9 0 0), ([⟨0, 9, (List.map Card.row []), none⟩] : Heap)) := by
  refine spec (fn := Try.f98) (ann := cloneCN_ann) (t := (.reg [] [] [] (.reg [] [] [] (.two (.reg [] [] [] .nil) .nil)))) (Nat.le_of_ble_eq_true (by kernel_rfl)) ⟨Try.func98, by kernel_rfl, by kernel_rfl, by kernel_rfl⟩ ?_
  refine Eq.mp (by kernel_rfl : ((AV.bdd 1 (AV.osl 0 0 9 0 0) = true ∧ obsB 1 ([⟨0, 9, (List.map Card.row []), none⟩] : Heap) = true) ∧ ((AV.osl 0 0 9 0 0), ([⟨0, 9, (List.map Card.row []), none⟩] : Heap)) = ((AV.osl 0 0 9 0 0), ([⟨0, 9, (List.map Card.row []), none⟩] : Heap))) = _) ?_
  refine And.intro (by first | (simp [obsB, AV.bddss, AV.bdds, AV.bdd]; done) | (simp [obsB, AV.bddss, AV.bdds, AV.bdd, -List.map_append]; done) | simp [obsB, AV.bddss, AV.bdds, AV.bdd, -List.map_append, -List.map_set, -List.map_take, -List.map_drop, -List.map_cons, -List.map_map]) ?_
  rfl
def cloneCO_ann : Ann := { own := [7], fin := some 1 }
set_option maxRecDepth 100000 in
theorem cloneCO_spec (l : List Card) (hl : l.length < 1099511627776) : ACalls Try.prog 98 [(AV.sl .op 9 (List.map Card.row l))] ([] : Heap) ((AV.osl 0 0 9 0 l.length), ([⟨0, 9, (List.map Card.row l), none⟩] : Heap)) := by
  refine spec (fn := Try.f98) (ann := cloneCO_ann) (t := (.reg [] [] [] (.reg [] [] [] (.two .nil (.reg [(2, ((AV.osl 0 0 9 0 l.length), ([⟨0, 9, (List.map Card.row l), none⟩] : Heap)))] [] [] .nil))))) (Nat.le_of_ble_eq_true (by kernel_rfl)) ⟨Try.func98, by kernel_rfl, by kernel_rfl, by kernel_rfl⟩ ?_
  refine Eq.mp (by kernel_rfl : ((evAppendO tt ([] : Heap) 48 (AV.sl .clip 9 []) (AV.sl .op 9 (List.map Card.row l)) = some ((AV.osl 0 0 9 0 l.length), ([⟨0, 9, (List.map Card.row l), none⟩] : Heap))) ∧ (AV.bdd 1 (AV.osl 0 0 9 0 l.length) = true ∧ obsB 1 ([⟨0, 9, (List.map Card.row l), none⟩] : Heap) = true) ∧ ((AV.osl 0 0 9 0 l.length), ([⟨0, 9, (List.map Card.row l), none⟩] : Heap)) = ((AV.osl 0 0 9 0 l.length), ([⟨0, 9, (List.map Card.row l), none⟩] : Heap))) = _) ?_
  refine And.intro (evAppendO_fresh (T := tt) (e := 34) (te := { d := .struct [(30, 0), (3, 2), (3, 3), (2, 4), (32, 5), (4, 8)], size := 9, bytes := 88, zero := [.str ⟨#[]⟩, .str ⟨#[]⟩, .int .i64 0, .int .i64 0, .int .i64 0, .int .i64 0, .int .i64 0, .int .i64 0, .bool false] }) (z := 1) (b := 24) (y := [.sl .nil 0 []]) (row := Card.row) (by kernel_rfl) (by kernel_rfl) rfl (by decide) (by decide) (by simp) (by first | (simp [rowsIn, List.map_take, List.map_drop, List.take_of_length_le]; done) | simp [rowsIn, rU8, rI64, rStr, rBool]) rfl rfl rfl (by first | omega | (simp; done) | (simp; omega))) ?_
  refine And.intro (by first | (simp [obsB, AV.bddss, AV.bdds, AV.bdd]; done) | (simp [obsB, AV.bddss, AV.bdds, AV.bdd, -List.map_append]; done) | simp [obsB, AV.bddss, AV.bdds, AV.bdd, -List.map_append, -List.map_set, -List.map_take, -List.map_drop, -List.map_cons, -List.map_map]) ?_
  rfl
theorem cloneC_spec (l : List Card) (hl : l.length < 1099511627776) : ACalls Try.prog 98 [(AV.sl .any 9 (List.map Card.row l))] ([] : Heap) ((AV.osl 0 0 9 0 l.length), ([⟨0, 9, (List.map Card.row l), none⟩] : Heap)) := ACalls.orNil (fun h => by
    have h2 : l = [] := by simpa using h
    subst h2; exact cloneCN_spec) (cloneCO_spec l hl)
theorem cloneC_at (l : List Card) (hl : l.length < 1099511627776) (H : Heap) : ACalls Try.prog 98 [(AV.sl .any 9 (List.map Card.row l))] H (.osl H.length 0 9 0 l.length, H ++ ([⟨0, 9, (List.map Card.row l), none⟩] : Heap)) := (cloneC_spec l hl).lift_osl (by kernel_rfl) (by simp [AV.bddss, Card.rows_bdd]) H
def sortcmp_ann : Ann := { refs := [2, 3], fin := some 0 }
set_option maxRecDepth 100000 in
theorem sortcmp_spec (a b : Card)  : ACalls Try.prog 119 [(AV.agg (Card.row a)), (AV.agg (Card.row b))] ([] : Heap) ((AV.int .i64 (cmpK a.key b.key)), ([] : Heap)) := by
  refine spec (fn := Try.f119) (ann := sortcmp_ann) (t := (.reg [] [] [] (.reg [(4, ((AV.int .i64 (cmpK a.key b.key)), ([] : Heap)))] [] [] .nil))) (Nat.le_of_ble_eq_true (by kernel_rfl)) ⟨Try.func119, by kernel_rfl, by kernel_rfl, by kernel_rfl⟩ ?_
  refine Eq.mp (by kernel_rfl : ((ACalls Try.prog 120 [(AV.agg (Key.row a.key)), (AV.agg (Key.row b.key))] ([] : Heap) ((AV.int .i64 (cmpK a.key b.key)), ([] : Heap))) ∧ (AV.bdd 0 (AV.int .i64 (cmpK a.key b.key)) = true ∧ obsB 0 ([] : Heap) = true) ∧ ((AV.int .i64 (cmpK a.key b.key)), ([] : Heap)) = ((AV.int .i64 (cmpK a.key b.key)), ([] : Heap))) = _) ?_
  refine And.intro (keyCmp_at a.key b.key  ([] : Heap)) ?_
  refine And.intro (by first | (simp [obsB, AV.bddss, AV.bdds, AV.bdd]; done) | (simp [obsB, AV.bddss, AV.bdds, AV.bdd, -List.map_append]; done) | simp [obsB, AV.bddss, AV.bdds, AV.bdd, -List.map_append, -List.map_set, -List.map_take, -List.map_drop, -List.map_cons, -List.map_map]) ?_
  rfl
theorem sortcmp_at (a b : Card)  (H : Heap) : ACalls Try.prog 119 [(AV.agg (Card.row a)), (AV.agg (Card.row b))] H ((AV.int .i64 (cmpK a.key b.key)), H) := (sortcmp_spec a b ).lift (by kernel_rfl) (by kernel_rfl) H
def clipC_ann : Ann := { fin := some 0 }
set_option maxRecDepth 100000 in
theorem clipC_spec (l : List Card) (hl : l.length < 1099511627776) : ACalls Try.prog 121 [(AV.sl .any 9 (List.map Card.row l))] ([] : Heap) ((AV.sl .cn 9 (List.map Card.row l)), ([] : Heap)) := by
  refine spec (fn := Try.f121) (ann := clipC_ann) (t := (.reg [] [] [] (.reg [(2, ((AV.int .i64 ((l.length : Nat) : Int)), ([] : Heap))), (4, ((AV.int .i64 ((l.length : Nat) : Int)), ([] : Heap))), (5, ((AV.sl .cn 9 (List.map Card.row l)), ([] : Heap)))] [] [] .nil))) (Nat.le_of_ble_eq_true (by kernel_rfl)) ⟨Try.func121, by kernel_rfl, by kernel_rfl, by kernel_rfl⟩ ?_
  refine Eq.mp (by kernel_rfl : ((Yes (.int .i64 ((List.length (List.map Card.row l) : Nat) : Int)) ([] : Heap) (AV.int .i64 ((l.length : Nat) : Int))) ∧ (Yes (.int .i64 ((List.length (List.map Card.row l) : Nat) : Int)) ([] : Heap) (AV.int .i64 ((l.length : Nat) : Int))) ∧ (Option.map (fun a => (a, ([] : Heap))) (if 9 = 9 ∨ ((List.map Card.row l)).isEmpty = true then (if ((l.length : Nat) : Int) = ((l.length : Nat) : Int) then (bounds 0 ((l.length : Nat) : Int) (List.length (List.map Card.row l))).map fun p => AV.sl .cn 9 ((List.take p.2 (List.map Card.row l)).drop p.1) else none) else none) = some ((AV.sl .cn 9 (List.map Card.row l)), ([] : Heap))) ∧ (AV.bdd 0 (AV.sl .cn 9 (List.map Card.row l)) = true ∧ obsB 0 ([] : Heap) = true) ∧ ((AV.sl .cn 9 (List.map Card.row l)), ([] : Heap)) = ((AV.sl .cn 9 (List.map Card.row l)), ([] : Heap))) = _) ?_
  refine And.intro (Yes.len _ _ _) ?_
  refine And.intro (Yes.len _ _ _) ?_
  refine And.intro (slice_max (l := 0) (h := l.length) (by first | omega | (simp; done) | (simp; omega)) (by first | omega | (simp; done) | (simp; omega)) (by first | omega | (simp; done) | (simp; omega)) (by first | omega | (simp; done) | (simp; omega)) (by simp [List.map_take, List.map_drop, List.take_of_length_le]) (by first | rfl | omega | (simp; done) | (simp; omega))) ?_
  refine And.intro (by first | (simp [obsB, AV.bddss, AV.bdds, AV.bdd]; done) | (simp [obsB, AV.bddss, AV.bdds, AV.bdd, -List.map_append]; done) | simp [obsB, AV.bddss, AV.bdds, AV.bdd, -List.map_append, -List.map_set, -List.map_take, -List.map_drop, -List.map_cons, -List.map_map]) ?_
  rfl
theorem clipC_at (l : List Card) (hl : l.length < 1099511627776) (H : Heap) : ACalls Try.prog 121 [(AV.sl .any 9 (List.map Card.row l))] H ((AV.sl .cn 9 (List.map Card.row l)), H) := (clipC_spec l hl).lift (by kernel_rfl) (by kernel_rfl) H
def sortP (l : List Card) : List Card := insSort (fun a b => cmpK a.key b.key) 0 (l.length - 1) 1 l
theorem sortP_len (l : List Card) : (sortP l).length = l.length := by unfold sortP; rw [insSort_len]
def sortCard0_ann : Ann := { gha := [(2, .frz 3)], fin := some 0 }
set_option maxRecDepth 100000 in
theorem sortCard0_spec (l : List Card) (hl : l.length < 20) : ACalls Try.prog 87 [(AV.sl .any 9 (List.map Card.row l))] ([] : Heap) ((AV.sl .cn 9 (List.map Card.row (sortP l))), ([] : Heap)) := by
  have hpl := sortP_len l
  refine spec (fn := Try.f87) (ann := sortCard0_ann) (t := (.reg [] [] [] (.reg [(1, ((AV.osl 0 0 9 0 l.length), ([⟨0, 9, (List.map Card.row l), none⟩] : Heap)))] [] [] (.reg [(1, ((AV.tup []), ([⟨0, 9, (List.map Card.row (insSort (fun a b => cmpK a.key b.key) 0 (l.length - 1) 1 l)), none⟩] : Heap)))] [] [(3, (List.map Card.row (insSort (fun a b => cmpK a.key b.key) 0 (l.length - 1) 1 l)))] (.reg [(1, ((AV.sl .cn 9 (List.map Card.row (insSort (fun a b => cmpK a.key b.key) 0 (l.length - 1) 1 l))), ([⟨1, 9, [], none⟩] : Heap)))] [] [] .nil))))) (Nat.le_of_ble_eq_true (by kernel_rfl)) ⟨Try.func87, by kernel_rfl, by kernel_rfl, by kernel_rfl⟩ ?_
  refine Eq.mp (by kernel_rfl : ((ACalls Try.prog 98 [(AV.sl .any 9 (List.map Card.row l))] ([] : Heap) ((AV.osl 0 0 9 0 l.length), ([⟨0, 9, (List.map Card.row l), none⟩] : Heap))) ∧ (ACalls Try.prog 118 [(AV.osl 0 0 9 0 l.length), (AV.func 119 [])] ([⟨0, 9, (List.map Card.row l), none⟩] : Heap) ((AV.tup []), ([⟨0, 9, (List.map Card.row (insSort (fun a b => cmpK a.key b.key) 0 (l.length - 1) 1 l)), none⟩] : Heap))) ∧ (rowsIn ([⟨0, 9, (List.map Card.row (insSort (fun a b => cmpK a.key b.key) 0 (l.length - 1) 1 l)), none⟩] : Heap) 9 (AV.osl 0 0 9 0 l.length) = some (List.map Card.row (insSort (fun a b => cmpK a.key b.key) 0 (l.length - 1) 1 l)) ∧ AV.bddss 0 (List.map Card.row (insSort (fun a b => cmpK a.key b.key) 0 (l.length - 1) 1 l)) = true) ∧ (ACalls Try.prog 121 [(AV.sl .any 9 (List.map Card.row (insSort (fun a b => cmpK a.key b.key) 0 (l.length - 1) 1 l)))] ([⟨1, 9, [], none⟩] : Heap) ((AV.sl .cn 9 (List.map Card.row (insSort (fun a b => cmpK a.key b.key) 0 (l.length - 1) 1 l))), ([⟨1, 9, [], none⟩] : Heap))) ∧ (AV.bdd 0 (AV.sl .cn 9 (List.map Card.row (insSort (fun a b => cmpK a.key b.key) 0 (l.length - 1) 1 l))) = true ∧ obsB 0 ([] : Heap) = true) ∧ ((AV.sl .cn 9 (List.map Card.row (insSort (fun a b => cmpK a.key b.key) 0 (l.length - 1) 1 l))), ([] : Heap)) = ((AV.sl .cn 9 (List.map Card.row (sortP l))), ([] : Heap))) = _) ?_
  refine And.intro (cloneC_at l (by first | omega | assumption | (simp; done) | (simp; omega) | (simp_all; done) | (simp_all; omega)) ([] : Heap)) ?_
  refine And.intro (sortC_at (fun a b => cmpK a.key b.key) 119 [] l.length 0 l (fun x y H => sortcmp_at x y H) (rfl) (by first | omega | assumption | (simp; done) | (simp; omega) | (simp_all; done) | (simp_all; omega)) (by first | omega | assumption | (simp; done) | (simp; omega) | (simp_all; done) | (simp_all; omega)) ([] : Heap)) ?_
  refine And.intro (And.intro (rowsIn_all (room := none) (by kernel_rfl) (by first | omega | (simp [insSort_len]; done) | (simp [insSort_len]; omega))) (Card.rows_bdd _ _)) ?_
  refine And.intro (clipC_at (insSort (fun a b => cmpK a.key b.key) 0 (l.length - 1) 1 l) (by rw [insSort_len]; omega) ([⟨1, 9, [], none⟩] : Heap)) ?_
  refine And.intro (by first | (simp [obsB, AV.bddss, AV.bdds, AV.bdd]; done) | (simp [obsB, AV.bddss, AV.bdds, AV.bdd, -List.map_append]; done) | simp [obsB, AV.bddss, AV.bdds, AV.bdd, -List.map_append, -List.map_set, -List.map_take, -List.map_drop, -List.map_cons, -List.map_map]) ?_
  rfl
theorem sortCard_spec (l : List Card) (hl : l.length < 20) : ACalls Try.prog 87 [(AV.sl .any 9 (List.map Card.row l))] ([] : Heap) ((AV.sl .any 9 (List.map Card.row (sortP l))), ([] : Heap)) := (sortCard0_spec l hl).post ⟨rfl, rfl, .inl rfl⟩
theorem sortCard_at (l : List Card) (hl : l.length < 20) (H : Heap) : ACalls Try.prog 87 [(AV.sl .any 9 (List.map Card.row l))] H ((AV.sl .any 9 (List.map Card.row (sortP l))), H) := (sortCard_spec l hl).lift (by kernel_rfl) (by kernel_rfl) H
def lastS (s : List Card) : List Card × Nat := s.foldl onceStep ([], 0)
def lastK (l : List Card) : List Card := (lastS (sortP l)).1
theorem lastK_len (l : List Card) : (lastK l).length ≤ l.length := by
  have := onceF_len (sortP l) ([], 0)
  rw [sortP_len] at this
  simpa [lastK, lastS] using this
def last_ann : Ann := { gha := [(1, .vir 3 9), (9, .cut 1), (10, .frz 2)], fin := some 0, live := [(3, [3, 8, 9, 10])], out := [(3, [3, 8, 9, 10])] }
set_option maxRecDepth 100000 in
theorem last_step (s out : List Card) (i k g : Nat) (hk : k = out.length) (hki : k ≤ s.length) (hl : s.length < 1048576) {eX : Ex} {FX : Fr} {HX : Heap} (k1 : (decide (((i : Nat) : Int) < ((s.length : Nat) : Int))) = true → (decide (((k : Nat) : Int) > 0)) = true → (Key.eqb (nth out (k - 1)).key (nth s i).key) = true → LoopTo (codeQ Try.prog (X last_ann) (loopOf Try.f96 0)) (some [3, 8, 9, 10]) (some [3, 8, 9, 10]) (mkF 40 [(3, (AV.osl 0 g 9 0 k)), (8, (AV.sl .any 9 (List.map Card.row s))), (9, (AV.int .i64 ((s.length : Nat) : Int))), (10, (AV.int .i64 ((i + 1 : Nat) : Int)))]) ([⟨g, 9, (List.map Card.row (out.set (k - 1) (nth s i))), none⟩] : Heap) eX FX HX) (k2 : (decide (((i : Nat) : Int) < ((s.length : Nat) : Int))) = true → (decide (((k : Nat) : Int) > 0)) = true → (Key.eqb (nth out (k - 1)).key (nth s i).key) = false → LoopTo (codeQ Try.prog (X last_ann) (loopOf Try.f96 0)) (some [3, 8, 9, 10]) (some [3, 8, 9, 10]) (mkF 40 [(3, (AV.osl 0 (g + 1) 9 0 (k + 1))), (8, (AV.sl .any 9 (List.map Card.row s))), (9, (AV.int .i64 ((s.length : Nat) : Int))), (10, (AV.int .i64 ((i + 1 : Nat) : Int)))]) ([⟨(g + 1), 9, (List.map Card.row (out ++ [(nth s i)])), none⟩] : Heap) eX FX HX) (k3 : (decide (((i : Nat) : Int) < ((s.length : Nat) : Int))) = true → (decide (((k : Nat) : Int) > 0)) = false → LoopTo (codeQ Try.prog (X last_ann) (loopOf Try.f96 0)) (some [3, 8, 9, 10]) (some [3, 8, 9, 10]) (mkF 40 [(3, (AV.osl 0 (g + 1) 9 0 (k + 1))), (8, (AV.sl .any 9 (List.map Card.row s))), (9, (AV.int .i64 ((s.length : Nat) : Int))), (10, (AV.int .i64 ((i + 1 : Nat) : Int)))]) ([⟨(g + 1), 9, (List.map Card.row (out ++ [(nth s i)])), none⟩] : Heap) eX FX HX) (k4 : (decide (((i : Nat) : Int) < ((s.length : Nat) : Int))) = false → ((.exit 0 : Ex), (mkF 40 [(3, (AV.osl 0 g 9 0 k)), (8, (AV.sl .any 9 (List.map Card.row s))), (9, (AV.int .i64 ((s.length : Nat) : Int))), (10, (AV.int .i64 ((i : Nat) : Int)))]), ([⟨g, 9, (List.map Card.row out), none⟩] : Heap)) = (eX, FX, HX)) : LoopTo (codeQ Try.prog (X last_ann) (loopOf Try.f96 0)) (some [3, 8, 9, 10]) (some [3, 8, 9, 10]) (mkF 40 [(3, (AV.osl 0 g 9 0 k)), (8, (AV.sl .any 9 (List.map Card.row s))), (9, (AV.int .i64 ((s.length : Nat) : Int))), (10, (AV.int .i64 ((i : Nat) : Int)))]) ([⟨g, 9, (List.map Card.row out), none⟩] : Heap) eX FX HX := by
  refine LoopTo.step (.reg [] [] [] (.two (.reg [(0, ((AV.ref (Card.row (nth s i)) 0), ([⟨g, 9, (List.map Card.row out), none⟩, ⟨0, 9, [[(AV.str (ByteArray.mk #[])), (AV.str (ByteArray.mk #[])), (AV.int .i64 0), (AV.int .i64 0), (AV.int .i64 0), (AV.int .i64 0), (AV.int .i64 0), (AV.int .i64 0), (AV.bool false)]], none⟩] : Heap)))] [] [] (.reg [] [] [] (.reg [(5, ((AV.int .i64 ((k - 1 : Nat) : Int)), ([⟨g, 9, (List.map Card.row out), none⟩, ⟨0, 9, [(Card.row (nth s i))], none⟩] : Heap))), (6, ((AV.obj 0 g (k - 1) 0), ([⟨g, 9, (List.map Card.row out), none⟩, ⟨0, 9, [(Card.row (nth s i))], none⟩] : Heap))), (8, ((AV.agg (Key.row (nth out (k - 1)).key)), ([⟨g, 9, (List.map Card.row out), none⟩, ⟨0, 9, [(Card.row (nth s i))], none⟩] : Heap)))] [] [] (.two (.two (.two (.two (.two (.two (.two (.two (.two (.two (.reg [(2, ((AV.int .i64 ((k - 1 : Nat) : Int)), ([⟨g, 9, (List.map Card.row out), none⟩, ⟨0, 9, [(Card.row (nth s i))], none⟩] : Heap))), (4, ((AV.obj 0 g (k - 1) 0), ([⟨g, 9, (List.map Card.row out), none⟩, ⟨0, 9, [(Card.row (nth s i))], none⟩] : Heap))), (5, (AV.skip, ([⟨g, 9, (List.map Card.row (out.set (k - 1) (nth s i))), none⟩, ⟨0, 9, [(Card.row (nth s i))], none⟩] : Heap)))] [] [] (.reg [(0, ((AV.int .i64 ((i + 1 : Nat) : Int)), ([⟨g, 9, (List.map Card.row (out.set (k - 1) (nth s i))), none⟩, ⟨0, 9, [(Card.row (nth s i))], none⟩] : Heap)))] [] [] .nil)) (.reg [(3, ((AV.osl 0 (g + 1) 9 0 (k + 1)), ([⟨(g + 1), 9, (List.map Card.row (out ++ [(nth s i)])), none⟩, ⟨0, 9, [(Card.row (nth s i))], none⟩] : Heap)))] [] [] (.reg [(0, ((AV.int .i64 ((i + 1 : Nat) : Int)), ([⟨(g + 1), 9, (List.map Card.row (out ++ [(nth s i)])), none⟩, ⟨0, 9, [(Card.row (nth s i))], none⟩] : Heap)))] [] [] .nil))) .nil) .nil) .nil) .nil) .nil) .nil) .nil) .nil) (.two .nil (.two .nil (.two .nil (.two .nil (.two .nil (.two .nil (.two .nil (.two .nil (.two .nil (.reg [(3, ((AV.osl 0 (g + 1) 9 0 (k + 1)), ([⟨(g + 1), 9, (List.map Card.row (out ++ [(nth s i)])), none⟩, ⟨0, 9, [(Card.row (nth s i))], none⟩] : Heap)))] [] [] (.reg [(0, ((AV.int .i64 ((i + 1 : Nat) : Int)), ([⟨(g + 1), 9, (List.map Card.row (out ++ [(nth s i)])), none⟩, ⟨0, 9, [(Card.row (nth s i))], none⟩] : Heap)))] [] [] .nil))))))))))))))) .nil)) ?_
  refine Eq.mp (by kernel_rfl : (cond (decide (((i : Nat) : Int) < ((s.length : Nat) : Int))) ((IdxSl 9 9 (List.map Card.row s) ((i : Nat) : Int) ([⟨g, 9, (List.map Card.row out), none⟩, ⟨0, 9, [[(AV.str (ByteArray.mk #[])), (AV.str (ByteArray.mk #[])), (AV.int .i64 0), (AV.int .i64 0), (AV.int .i64 0), (AV.int .i64 0), (AV.int .i64 0), (AV.int .i64 0), (AV.bool false)]], none⟩] : Heap) (Card.row (nth s i))) ∧ cond (decide (((k : Nat) : Int) > 0)) ((Yes (.int .i64 (IntKind.i64.wrap (((k : Nat) : Int) - 1))) ([⟨g, 9, (List.map Card.row out), none⟩, ⟨0, 9, [(Card.row (nth s i))], none⟩] : Heap) (AV.int .i64 ((k - 1 : Nat) : Int))) ∧ (IdxOsl 0 g 9 9 0 k ((k - 1 : Nat) : Int) ([⟨g, 9, (List.map Card.row out), none⟩, ⟨0, 9, [(Card.row (nth s i))], none⟩] : Heap) (k - 1)) ∧ (LoadTo tt 30 0 ([⟨g, 9, (List.map Card.row out), none⟩, ⟨0, 9, [(Card.row (nth s i))], none⟩] : Heap) (rowAt ([⟨g, 9, (List.map Card.row out), none⟩, ⟨0, 9, [(Card.row (nth s i))], none⟩] : Heap) 0 g (k - 1)) = some ((AV.agg (Key.row (nth out (k - 1)).key)), ([⟨g, 9, (List.map Card.row out), none⟩, ⟨0, 9, [(Card.row (nth s i))], none⟩] : Heap))) ∧ cond (Key.eqb (nth out (k - 1)).key (nth s i).key) ((Yes (.int .i64 (IntKind.i64.wrap (((k : Nat) : Int) - 1))) ([⟨g, 9, (List.map Card.row out), none⟩, ⟨0, 9, [(Card.row (nth s i))], none⟩] : Heap) (AV.int .i64 ((k - 1 : Nat) : Int))) ∧ (IdxOsl 0 g 9 9 0 k ((k - 1 : Nat) : Int) ([⟨g, 9, (List.map Card.row out), none⟩, ⟨0, 9, [(Card.row (nth s i))], none⟩] : Heap) (k - 1)) ∧ (StoreTo ([⟨g, 9, (List.map Card.row out), none⟩, ⟨0, 9, [(Card.row (nth s i))], none⟩] : Heap) 0 (k - 1) 9 0 (rowAt ([⟨g, 9, (List.map Card.row out), none⟩, ⟨0, 9, [(Card.row (nth s i))], none⟩] : Heap) 0 g (k - 1)) (AV.fit (AV.agg (Card.row (nth s i))) 9) = some (AV.skip, ([⟨g, 9, (List.map Card.row (out.set (k - 1) (nth s i))), none⟩, ⟨0, 9, [(Card.row (nth s i))], none⟩] : Heap))) ∧ (Yes (.int .i64 (IntKind.i64.wrap (((i : Nat) : Int) + 1))) ([⟨g, 9, (List.map Card.row (out.set (k - 1) (nth s i))), none⟩, ⟨0, 9, [(Card.row (nth s i))], none⟩] : Heap) (AV.int .i64 ((i + 1 : Nat) : Int))) ∧ (obsB 1 ([⟨g, 9, (List.map Card.row (out.set (k - 1) (nth s i))), none⟩] : Heap) = true) ∧ LoopTo (codeQ Try.prog (X last_ann) (loopOf Try.f96 0)) (some [3, 8, 9, 10]) (some [3, 8, 9, 10]) (mkF 40 [(3, (AV.osl 0 g 9 0 k)), (8, (AV.sl .any 9 (List.map Card.row s))), (9, (AV.int .i64 ((s.length : Nat) : Int))), (10, (AV.int .i64 ((i + 1 : Nat) : Int)))]) ([⟨g, 9, (List.map Card.row (out.set (k - 1) (nth s i))), none⟩] : Heap) eX FX HX) ((evAppend tt ([⟨g, 9, (List.map Card.row out), none⟩, ⟨0, 9, [(Card.row (nth s i))], none⟩] : Heap) 48 (AV.osl 0 g 9 0 k) (AV.sl .clip 9 [(Card.row (nth s i))]) = some ((AV.osl 0 (g + 1) 9 0 (k + 1)), ([⟨(g + 1), 9, (List.map Card.row (out ++ [(nth s i)])), none⟩, ⟨0, 9, [(Card.row (nth s i))], none⟩] : Heap))) ∧ (Yes (.int .i64 (IntKind.i64.wrap (((i : Nat) : Int) + 1))) ([⟨(g + 1), 9, (List.map Card.row (out ++ [(nth s i)])), none⟩, ⟨0, 9, [(Card.row (nth s i))], none⟩] : Heap) (AV.int .i64 ((i + 1 : Nat) : Int))) ∧ (obsB 1 ([⟨(g + 1), 9, (List.map Card.row (out ++ [(nth s i)])), none⟩] : Heap) = true) ∧ LoopTo (codeQ Try.prog (X last_ann) (loopOf Try.f96 0)) (some [3, 8, 9, 10]) (some [3, 8, 9, 10]) (mkF 40 [(3, (AV.osl 0 (g + 1) 9 0 (k + 1))), (8, (AV.sl .any 9 (List.map Card.row s))), (9, (AV.int .i64 ((s.length : Nat) : Int))), (10, (AV.int .i64 ((i + 1 : Nat) : Int)))]) ([⟨(g + 1), 9, (List.map Card.row (out ++ [(nth s i)])), none⟩] : Heap) eX FX HX)) ((evAppend tt ([⟨g, 9, (List.map Card.row out), none⟩, ⟨0, 9, [(Card.row (nth s i))], none⟩] : Heap) 48 (AV.osl 0 g 9 0 k) (AV.sl .clip 9 [(Card.row (nth s i))]) = some ((AV.osl 0 (g + 1) 9 0 (k + 1)), ([⟨(g + 1), 9, (List.map Card.row (out ++ [(nth s i)])), none⟩, ⟨0, 9, [(Card.row (nth s i))], none⟩] : Heap))) ∧ (Yes (.int .i64 (IntKind.i64.wrap (((i : Nat) : Int) + 1))) ([⟨(g + 1), 9, (List.map Card.row (out ++ [(nth s i)])), none⟩, ⟨0, 9, [(Card.row (nth s i))], none⟩] : Heap) (AV.int .i64 ((i + 1 : Nat) : Int))) ∧ (obsB 1 ([⟨(g + 1), 9, (List.map Card.row (out ++ [(nth s i)])), none⟩] : Heap) = true) ∧ LoopTo (codeQ Try.prog (X last_ann) (loopOf Try.f96 0)) (some [3, 8, 9, 10]) (some [3, 8, 9, 10]) (mkF 40 [(3, (AV.osl 0 (g + 1) 9 0 (k + 1))), (8, (AV.sl .any 9 (List.map Card.row s))), (9, (AV.int .i64 ((s.length : Nat) : Int))), (10, (AV.int .i64 ((i + 1 : Nat) : Int)))]) ([⟨(g + 1), 9, (List.map Card.row (out ++ [(nth s i)])), none⟩] : Heap) eX FX HX)) (((.exit 0 : Ex), (mkF 40 [(3, (AV.osl 0 g 9 0 k)), (8, (AV.sl .any 9 (List.map Card.row s))), (9, (AV.int .i64 ((s.length : Nat) : Int))), (10, (AV.int .i64 ((i : Nat) : Int)))]), ([⟨g, 9, (List.map Card.row out), none⟩] : Heap)) = (eX, FX, HX))) = _) ?_
  refine cond_split (fun h1 => ?_) (fun h1 => ?_)
  · have h1' := h1
    try simp at h1'
    refine And.intro (IdxSl.mk _ (by omega) (by omega)) ?_
    refine cond_split (fun h2 => ?_) (fun h2 => ?_)
    · have h2' := h2
      try simp at h2'
      refine And.intro (Yes.add (by omega) (by omega) (by omega)) ?_
      refine And.intro (IdxOsl.mk _ (by omega) (by omega)) ?_
      refine And.intro (load_row (rowAt_map (row := Card.row) (l := out) (k := 9) (room := none) (by kernel_rfl) (by first | omega | (simp; done) | (simp; omega))) (by kernel_rfl)) ?_
      refine cond_split (fun h3 => ?_) (fun h3 => ?_)
      · have h3' := h3
        try simp at h3'
        refine And.intro (Yes.add (by omega) (by omega) (by omega)) ?_
        refine And.intro (IdxOsl.mk _ (by omega) (by omega)) ?_
        refine And.intro (store_row (us := (Card.row (nth s i))) (rowAt_map (row := Card.row) (l := out) (k := 9) (room := none) (by kernel_rfl) (by first | omega | (simp; done) | (simp; omega))) (by kernel_rfl) (by simp [Card.row]) (by simp [setAt, fillAt, List.map_set, Card.row])) ?_
        refine And.intro (Yes.add (by omega) (by omega) (by omega)) ?_
        refine And.intro (by first | (simp [obsB, AV.bddss, AV.bdds, AV.bdd]; done) | (simp [obsB, AV.bddss, AV.bdds, AV.bdd, -List.map_append]; done) | simp [obsB, AV.bddss, AV.bdds, AV.bdd, -List.map_append, -List.map_set, -List.map_take, -List.map_drop, -List.map_cons, -List.map_map]) ?_
        exact k1 h1 h2 h3
      · have h3' := h3
        try simp at h3'
        refine And.intro (evAppend_one (row := Card.row) (l := out) (x := (nth s i)) (T := tt) (e := 34) (te := { d := .struct [(30, 0), (3, 2), (3, 3), (2, 4), (32, 5), (4, 8)], size := 9, bytes := 88, zero := [.str ⟨#[]⟩, .str ⟨#[]⟩, .int .i64 0, .int .i64 0, .int .i64 0, .int .i64 0, .int .i64 0, .int .i64 0, .bool false] }) (z := 1) (b := 24) (y := [.sl .nil 0 []]) (by kernel_rfl) (by kernel_rfl) rfl (by decide) (by decide) (by kernel_rfl) (by first | assumption | omega | (simp; done) | (simp; omega)) rfl rfl (by first | omega | (simp; omega))) ?_
        refine And.intro (Yes.add (by omega) (by omega) (by omega)) ?_
        refine And.intro (by first | (simp [obsB, AV.bddss, AV.bdds, AV.bdd]; done) | (simp [obsB, AV.bddss, AV.bdds, AV.bdd, -List.map_append]; done) | simp [obsB, AV.bddss, AV.bdds, AV.bdd, -List.map_append, -List.map_set, -List.map_take, -List.map_drop, -List.map_cons, -List.map_map]) ?_
        exact k2 h1 h2 h3
    · have h2' := h2
      try simp at h2'
      refine And.intro (evAppend_one (row := Card.row) (l := out) (x := (nth s i)) (T := tt) (e := 34) (te := { d := .struct [(30, 0), (3, 2), (3, 3), (2, 4), (32, 5), (4, 8)], size := 9, bytes := 88, zero := [.str ⟨#[]⟩, .str ⟨#[]⟩, .int .i64 0, .int .i64 0, .int .i64 0, .int .i64 0, .int .i64 0, .int .i64 0, .bool false] }) (z := 1) (b := 24) (y := [.sl .nil 0 []]) (by kernel_rfl) (by kernel_rfl) rfl (by decide) (by decide) (by kernel_rfl) (by first | assumption | omega | (simp; done) | (simp; omega)) rfl rfl (by first | omega | (simp; omega))) ?_
      refine And.intro (Yes.add (by omega) (by omega) (by omega)) ?_
      refine And.intro (by first | (simp [obsB, AV.bddss, AV.bdds, AV.bdd]; done) | (simp [obsB, AV.bddss, AV.bdds, AV.bdd, -List.map_append]; done) | simp [obsB, AV.bddss, AV.bdds, AV.bdd, -List.map_append, -List.map_set, -List.map_take, -List.map_drop, -List.map_cons, -List.map_map]) ?_
      exact k3 h1 h2
  · have h1' := h1
    try simp at h1'
    exact k4 h1
theorem last_loop (s : List Card) (r : Nat) : ∀ (out : List Card) (i k g : Nat) (sF : List Card × Nat), i + r = s.length → k = out.length → k ≤ i → s.length < 1048576 → sF = (s.drop i).foldl onceStep (out, g) →
    LoopTo (codeQ Try.prog (X last_ann) (loopOf Try.f96 0)) (some [3, 8, 9, 10]) (some [3, 8, 9, 10]) (mkF 40 [(3, (AV.osl 0 g 9 0 k)), (8, (AV.sl .any 9 (List.map Card.row s))), (9, (AV.int .i64 ((s.length : Nat) : Int))), (10, (AV.int .i64 ((i : Nat) : Int)))]) ([⟨g, 9, (List.map Card.row out), none⟩] : Heap) (.exit 0) (mkF 40 [(3, (AV.osl 0 sF.2 9 0 sF.1.length)), (8, (AV.sl .any 9 (List.map Card.row s))), (9, (AV.int .i64 ((s.length : Nat) : Int))), (10, (AV.int .i64 ((s.length : Nat) : Int)))]) ([⟨sF.2, 9, (List.map Card.row sF.1), none⟩] : Heap) := by
  induction r with
  | zero =>
    intro out i k g sF hi hk hki hl h
    refine last_step s out i k g hk (by omega) hl (fun h => by simp at h; omega) (fun h => by simp at h; omega) (fun h => by simp at h; omega) fun _ => ?_
    have : s.drop i = [] := List.drop_of_length_le (by omega)
    rw [this] at h
    have e3 : i = s.length := by omega
    rw [h, e3, hk]
    rfl
  | succ r ih =>
    intro out i k g sF hi hk hki hl h
    rw [drop_nth (by omega), List.foldl_cons] at h
    refine last_step s out i k g hk (by omega) hl (fun _ h2 h3 => ?_) (fun _ h2 h3 => ?_) (fun _ h2 => ?_) fun h => by simp at h; omega
    · rw [hk] at h2 h3
      exact ih (out.set (k - 1) (nth s i)) (i + 1) k g sF (by omega) (by simp [hk]) (by omega) hl (by rw [h, hk]; simp only [onceStep]; rw [if_pos h2, if_pos h3])
    · rw [hk] at h2 h3
      exact ih (out ++ [nth s i]) (i + 1) (k + 1) (g + 1) sF (by omega) (by simp [hk]) (by omega) hl (by rw [h]; simp only [onceStep]; rw [if_pos h2, if_neg (by rw [h3]; simp)])
    · rw [hk] at h2
      exact ih (out ++ [nth s i]) (i + 1) (k + 1) (g + 1) sF (by omega) (by simp [hk]) (by omega) hl (by rw [h]; simp only [onceStep]; rw [if_neg (by rw [h2]; simp)])
set_option maxRecDepth 100000 in
theorem last_spec (l : List Card) (hl : l.length < 20) : ACalls Try.prog 96 [(AV.sl .any 9 (List.map Card.row l))] ([] : Heap) ((AV.sl .any 9 (List.map Card.row (lastK l))), ([] : Heap)) := by
  have hs := sortP_len l
  refine spec (fn := Try.f96) (ann := last_ann) (t := (.reg [] [] [] (.reg [] [] [] (.reg [(1, ((AV.sl .any 9 (List.map Card.row (sortP l))), ([⟨0, 9, (List.map Card.row []), none⟩] : Heap))), (2, ((AV.int .i64 (((sortP l).length : Nat) : Int)), ([⟨0, 9, (List.map Card.row []), none⟩] : Heap)))] [] [] (.loop (.exit 0) (mkF 40 [(3, (AV.osl 0 ((lastS (sortP l)).2) 9 0 ((lastS (sortP l)).1.length))), (8, (AV.sl .any 9 (List.map Card.row (sortP l)))), (9, (AV.int .i64 (((sortP l).length : Nat) : Int))), (10, (AV.int .i64 (((sortP l).length : Nat) : Int)))]) ([⟨((lastS (sortP l)).2), 9, (List.map Card.row ((lastS (sortP l)).1)), none⟩] : Heap) (.reg [] [] [(2, (List.map Card.row ((lastS (sortP l)).1)))] .nil)))))) (Nat.le_of_ble_eq_true (by kernel_rfl)) ⟨Try.func96, by kernel_rfl, by kernel_rfl, by kernel_rfl⟩ ?_
  refine Eq.mp (by kernel_rfl : ((ACalls Try.prog 87 [(AV.sl .any 9 (List.map Card.row l))] ([⟨0, 9, (List.map Card.row []), none⟩] : Heap) ((AV.sl .any 9 (List.map Card.row (sortP l))), ([⟨0, 9, (List.map Card.row []), none⟩] : Heap))) ∧ (Yes (.int .i64 ((List.length (List.map Card.row (sortP l)) : Nat) : Int)) ([⟨0, 9, (List.map Card.row []), none⟩] : Heap) (AV.int .i64 (((sortP l).length : Nat) : Int))) ∧ (LoopTo (codeQ Try.prog (X last_ann) (loopOf Try.f96 0)) (some [3, 8, 9, 10]) (some [3, 8, 9, 10]) (mkF 40 [(3, (AV.osl 0 0 9 0 0)), (8, (AV.sl .any 9 (List.map Card.row (sortP l)))), (9, (AV.int .i64 (((sortP l).length : Nat) : Int))), (10, (AV.int .i64 0))]) ([⟨0, 9, (List.map Card.row []), none⟩] : Heap) (.exit 0) (mkF 40 [(3, (AV.osl 0 ((lastS (sortP l)).2) 9 0 ((lastS (sortP l)).1.length))), (8, (AV.sl .any 9 (List.map Card.row (sortP l)))), (9, (AV.int .i64 (((sortP l).length : Nat) : Int))), (10, (AV.int .i64 (((sortP l).length : Nat) : Int)))]) ([⟨((lastS (sortP l)).2), 9, (List.map Card.row ((lastS (sortP l)).1)), none⟩] : Heap)) ∧ (rowsIn ([⟨((lastS (sortP l)).2), 9, (List.map Card.row ((lastS (sortP l)).1)), none⟩] : Heap) 9 (AV.osl 0 ((lastS (sortP l)).2) 9 0 ((lastS (sortP l)).1.length)) = some (List.map Card.row ((lastS (sortP l)).1)) ∧ AV.bddss 0 (List.map Card.row ((lastS (sortP l)).1)) = true) ∧ (AV.bdd 0 (AV.sl .any 9 (List.map Card.row ((lastS (sortP l)).1))) = true ∧ obsB 0 ([] : Heap) = true) ∧ ((AV.sl .any 9 (List.map Card.row ((lastS (sortP l)).1))), ([] : Heap)) = ((AV.sl .any 9 (List.map Card.row (lastK l))), ([] : Heap))) = _) ?_
  refine And.intro (sortCard_at l (by first | omega | assumption | (simp; done) | (simp; omega) | (simp_all; done) | (simp_all; omega)) ([⟨0, 9, (List.map Card.row []), none⟩] : Heap)) ?_
  refine And.intro (Yes.len _ _ _) ?_
  refine And.intro ((last_loop (sortP l) (List.length (sortP l)) [] 0 0 0 _ (by omega) rfl (by omega) (by omega) rfl)) ?_
  refine And.intro (And.intro (rowsIn_all (room := none) (by kernel_rfl) (by first | omega | (simp; done) | (simp; omega))) (Card.rows_bdd _ _)) ?_
  refine And.intro (by first | (simp [obsB, AV.bddss, AV.bdds, AV.bdd]; done) | (simp [obsB, AV.bddss, AV.bdds, AV.bdd, -List.map_append]; done) | simp [obsB, AV.bddss, AV.bdds, AV.bdd, -List.map_append, -List.map_set, -List.map_take, -List.map_drop, -List.map_cons, -List.map_map]) ?_
  rfl
theorem last_at (l : List Card) (hl : l.length < 20) (H : Heap) : ACalls Try.prog 96 [(AV.sl .any 9 (List.map Card.row l))] H ((AV.sl .any 9 (List.map Card.row (lastK l))), H) := (last_spec l hl).lift (by kernel_rfl) (by kernel_rfl) H
def Stamp.eqb (a b : Stamp) : Bool := (a.t == b.t) && ((a.node == b.node) && ((a.n == b.n) && true))
def Card.eqb (a b : Card) : Bool := (Key.eqb a.key b.key) && ((a.status == b.status) && ((a.over == b.over) && ((a.lease == b.lease) && ((Stamp.eqb a.stamp b.stamp) && ((a.gone == b.gone) && true)))))
theorem Key.eqb_refl (a : Key) : Key.eqb a a = true := by simp [Key.eqb]
theorem Card.eqb_refl (a : Card) : Card.eqb a a = true := by simp [Card.eqb, Stamp.eqb, Key.eqb]
def sameC_ann : Ann := { fin := some 0, live := [(4, [0, 1, 12, 13])], out := [(4, [0, 1, 12, 13])] }
set_option maxRecDepth 100000 in
theorem sameC_step (a : List Card) (b : List Card)  (i : Nat) (hl : a.length < 1099511627776) (hb : a.length = b.length) (hle_ : i ≤ a.length) {eX : Ex} {FX : Fr} {HX : Heap} (k1 : (decide (((i : Nat) : Int) < ((a.length : Nat) : Int))) = true → (!(Card.eqb (nth a i) (nth b i))) = true → ((.ret : Ex), (mkF 26 [(0, (AV.sl .any 9 (List.map Card.row a))), (1, (AV.sl .any 9 (List.map Card.row b))), (12, (AV.int .i64 ((a.length : Nat) : Int))), (13, (AV.int .i64 ((i : Nat) : Int)))]), ([] : Heap)) = (eX, FX, HX)) (k2 : (decide (((i : Nat) : Int) < ((a.length : Nat) : Int))) = true → (!(Card.eqb (nth a i) (nth b i))) = false → LoopTo (codeQ Try.prog (X sameC_ann) (loopOf Try.f55 0)) (some [0, 1, 12, 13]) (some [0, 1, 12, 13]) (mkF 26 [(0, (AV.sl .any 9 (List.map Card.row a))), (1, (AV.sl .any 9 (List.map Card.row b))), (12, (AV.int .i64 ((a.length : Nat) : Int))), (13, (AV.int .i64 ((i + 1 : Nat) : Int)))]) ([] : Heap) eX FX HX) (k3 : (decide (((i : Nat) : Int) < ((a.length : Nat) : Int))) = false → ((.exit 0 : Ex), (mkF 26 [(0, (AV.sl .any 9 (List.map Card.row a))), (1, (AV.sl .any 9 (List.map Card.row b))), (12, (AV.int .i64 ((a.length : Nat) : Int))), (13, (AV.int .i64 ((i : Nat) : Int)))]), ([] : Heap)) = (eX, FX, HX)) : LoopTo (codeQ Try.prog (X sameC_ann) (loopOf Try.f55 0)) (some [0, 1, 12, 13]) (some [0, 1, 12, 13]) (mkF 26 [(0, (AV.sl .any 9 (List.map Card.row a))), (1, (AV.sl .any 9 (List.map Card.row b))), (12, (AV.int .i64 ((a.length : Nat) : Int))), (13, (AV.int .i64 ((i : Nat) : Int)))]) ([] : Heap) eX FX HX := by
  refine LoopTo.step (.reg [] [] [] (.two (.reg [] [] [] (.reg [(2, ((AV.ref (Card.row (nth a i)) 0), ([] : Heap))), (6, ((AV.ref (Card.row (nth b i)) 0), ([] : Heap)))] [] [] (.two (.reg [] [] [] .nil) (.reg [(0, ((AV.int .i64 ((i + 1 : Nat) : Int)), ([] : Heap)))] [] [] .nil)))) .nil)) ?_
  refine Eq.mp (by kernel_rfl : (cond (decide (((i : Nat) : Int) < ((a.length : Nat) : Int))) ((IdxSl 9 9 (List.map Card.row a) ((i : Nat) : Int) ([] : Heap) (Card.row (nth a i))) ∧ (IdxSl 9 9 (List.map Card.row b) ((i : Nat) : Int) ([] : Heap) (Card.row (nth b i))) ∧ cond (!(Card.eqb (nth a i) (nth b i))) (((.ret : Ex), (mkF 26 [(0, (AV.sl .any 9 (List.map Card.row a))), (1, (AV.sl .any 9 (List.map Card.row b))), (12, (AV.int .i64 ((a.length : Nat) : Int))), (13, (AV.int .i64 ((i : Nat) : Int)))]), ([] : Heap)) = (eX, FX, HX)) ((Yes (.int .i64 (IntKind.i64.wrap (((i : Nat) : Int) + 1))) ([] : Heap) (AV.int .i64 ((i + 1 : Nat) : Int))) ∧ LoopTo (codeQ Try.prog (X sameC_ann) (loopOf Try.f55 0)) (some [0, 1, 12, 13]) (some [0, 1, 12, 13]) (mkF 26 [(0, (AV.sl .any 9 (List.map Card.row a))), (1, (AV.sl .any 9 (List.map Card.row b))), (12, (AV.int .i64 ((a.length : Nat) : Int))), (13, (AV.int .i64 ((i + 1 : Nat) : Int)))]) ([] : Heap) eX FX HX)) (((.exit 0 : Ex), (mkF 26 [(0, (AV.sl .any 9 (List.map Card.row a))), (1, (AV.sl .any 9 (List.map Card.row b))), (12, (AV.int .i64 ((a.length : Nat) : Int))), (13, (AV.int .i64 ((i : Nat) : Int)))]), ([] : Heap)) = (eX, FX, HX))) = _) ?_
  refine cond_split (fun h1 => ?_) (fun h1 => ?_)
  · have h1' := h1
    try simp at h1'
    refine And.intro (IdxSl.mk _ (by omega) (by omega)) ?_
    refine And.intro (IdxSl.mk _ (by omega) (by omega)) ?_
    refine cond_split (fun h2 => ?_) (fun h2 => ?_)
    · have h2' := h2
      try simp at h2'
      exact k1 h1 h2
    · have h2' := h2
      try simp at h2'
      refine And.intro (Yes.add (by omega) (by omega) (by omega)) ?_
      exact k2 h1 h2
  · have h1' := h1
    try simp at h1'
    exact k3 h1
def sameC_f (a : List Card) (b : List Card) (i : Nat) (s : Unit) : Unit := ()
def sameC_bad (a : List Card) (b : List Card)  (i : Nat) : Prop := (((decide (((i : Nat) : Int) < ((a.length : Nat) : Int))) = true) ∧ ((!(Card.eqb (nth a i) (nth b i))) = true))
theorem sameC_loop (a : List Card) (b : List Card) (hl : a.length < 1099511627776) (hb : a.length = b.length)  (hbad : ∀ (i : Nat), i < a.length → ¬ sameC_bad a b  i) (r_ : Nat) : ∀  (i : Nat) (sF : Unit), i + r_ = a.length → () = (iter (sameC_f a b) i 0 ()) → sF = iter (sameC_f a b) r_ i () →
    LoopTo (codeQ Try.prog (X sameC_ann) (loopOf Try.f55 0)) (some [0, 1, 12, 13]) (some [0, 1, 12, 13]) (mkF 26 [(0, (AV.sl .any 9 (List.map Card.row a))), (1, (AV.sl .any 9 (List.map Card.row b))), (12, (AV.int .i64 ((a.length : Nat) : Int))), (13, (AV.int .i64 ((i : Nat) : Int)))]) ([] : Heap) (.exit 0) (mkF 26 [(0, (AV.sl .any 9 (List.map Card.row a))), (1, (AV.sl .any 9 (List.map Card.row b))), (12, (AV.int .i64 ((a.length : Nat) : Int))), (13, (AV.int .i64 ((a.length : Nat) : Int)))]) ([] : Heap) := by
  induction r_ with
  | zero =>
    intro  i sF hi_  hs_ hF
    obtain rfl : a.length = i := by omega
    have e_ : sF = () := hF
    refine sameC_step a b  a.length hl hb (Nat.le_refl _) (fun h _ => by simp at h <;> omega) (fun h _ => by simp at h <;> omega) (fun _ => ?_)
    first | done | rfl | (rw [e_]; done) | (rw [e_]; rfl)
  | succ r_ ih =>
    intro  i sF hi_  hs_ hF
    refine sameC_step a b  i hl hb (by omega) (fun h1 h2 => ?_) (fun h1 h2 => ?_) (fun h => by simp at h <;> omega)
    · exact False.elim (by
        have hb_ := hbad i (by omega)
        try rw [← hs_] at hb_
        exact hb_ (⟨h1, h2⟩))
    · exact ih  (i + 1) sF (by omega)  (by rw [iter_succ, ← hs_] <;> simp only [sameC_f, h2, if_true, Bool.false_eq_true, if_false]) (by rw [hF] <;> simp only [iter, sameC_f, h2, if_true, Bool.false_eq_true, if_false])
set_option maxRecDepth 100000 in
theorem sameC_spec (a b : List Card) (hl : a.length < 1099511627776) (h : a = b) : ACalls Try.prog 55 [(AV.sl .any 9 (List.map Card.row a)), (AV.sl .any 9 (List.map Card.row b))] ([] : Heap) ((AV.bool true), ([] : Heap)) := by
  have hb : a.length = b.length := by rw [h]
  refine spec (fn := Try.f55) (ann := sameC_ann) (t := (.reg [] [] [] (.reg [(1, ((AV.int .i64 ((a.length : Nat) : Int)), ([] : Heap))), (3, ((AV.int .i64 ((b.length : Nat) : Int)), ([] : Heap))), (4, ((AV.bool false), ([] : Heap)))] [] [] (.two .nil (.reg [(1, ((AV.int .i64 ((a.length : Nat) : Int)), ([] : Heap)))] [] [] (.loop (.exit 0) (mkF 26 [(0, (AV.sl .any 9 (List.map Card.row a))), (1, (AV.sl .any 9 (List.map Card.row b))), (12, (AV.int .i64 ((a.length : Nat) : Int))), (13, (AV.int .i64 ((a.length : Nat) : Int)))]) ([] : Heap) (.reg [] [] [] .nil))))))) (Nat.le_of_ble_eq_true (by kernel_rfl)) ⟨Try.func55, by kernel_rfl, by kernel_rfl, by kernel_rfl⟩ ?_
  refine Eq.mp (by kernel_rfl : ((Yes (.int .i64 ((List.length (List.map Card.row a) : Nat) : Int)) ([] : Heap) (AV.int .i64 ((a.length : Nat) : Int))) ∧ (Yes (.int .i64 ((List.length (List.map Card.row b) : Nat) : Int)) ([] : Heap) (AV.int .i64 ((b.length : Nat) : Int))) ∧ (Yes (AV.bool (((a.length : Nat) : Int) != ((b.length : Nat) : Int))) ([] : Heap) (AV.bool false)) ∧ (Yes (.int .i64 ((List.length (List.map Card.row a) : Nat) : Int)) ([] : Heap) (AV.int .i64 ((a.length : Nat) : Int))) ∧ (LoopTo (codeQ Try.prog (X sameC_ann) (loopOf Try.f55 0)) (some [0, 1, 12, 13]) (some [0, 1, 12, 13]) (mkF 26 [(0, (AV.sl .any 9 (List.map Card.row a))), (1, (AV.sl .any 9 (List.map Card.row b))), (12, (AV.int .i64 ((a.length : Nat) : Int))), (13, (AV.int .i64 0))]) ([] : Heap) (.exit 0) (mkF 26 [(0, (AV.sl .any 9 (List.map Card.row a))), (1, (AV.sl .any 9 (List.map Card.row b))), (12, (AV.int .i64 ((a.length : Nat) : Int))), (13, (AV.int .i64 ((a.length : Nat) : Int)))]) ([] : Heap)) ∧ (AV.bdd 0 (AV.bool true) = true ∧ obsB 0 ([] : Heap) = true) ∧ ((AV.bool true), ([] : Heap)) = ((AV.bool true), ([] : Heap))) = _) ?_
  refine And.intro (Yes.len _ _ _) ?_
  refine And.intro (Yes.len _ _ _) ?_
  refine And.intro (Yes.bool (by rw [hb]; simp)) ?_
  refine And.intro (Yes.len _ _ _) ?_
  refine And.intro ((sameC_loop a b hl hb (fun i hi => by subst h; simp [sameC_bad, Card.eqb_refl]) (List.length a) 0 () (by omega) rfl rfl)) ?_
  refine And.intro (by first | (simp [obsB, AV.bddss, AV.bdds, AV.bdd]; done) | (simp [obsB, AV.bddss, AV.bdds, AV.bdd, -List.map_append]; done) | simp [obsB, AV.bddss, AV.bdds, AV.bdd, -List.map_append, -List.map_set, -List.map_take, -List.map_drop, -List.map_cons, -List.map_map]) ?_
  rfl
theorem sameC_at (a b : List Card) (hl : a.length < 1099511627776) (h : a = b) (H : Heap) : ACalls Try.prog 55 [(AV.sl .any 9 (List.map Card.row a)), (AV.sl .any 9 (List.map Card.row b))] H ((AV.bool true), H) := (sameC_spec a b hl h).lift (by kernel_rfl) (by kernel_rfl) H
def sameK_ann : Ann := { fin := some 0, live := [(4, [0, 1, 12, 13])], out := [(4, [0, 1, 12, 13])] }
set_option maxRecDepth 100000 in
theorem sameK_step (a : List Key) (b : List Key)  (i : Nat) (hl : a.length < 1099511627776) (hb : a.length = b.length) (hle_ : i ≤ a.length) {eX : Ex} {FX : Fr} {HX : Heap} (k1 : (decide (((i : Nat) : Int) < ((a.length : Nat) : Int))) = true → (!(Key.eqb (nth a i) (nth b i))) = true → ((.ret : Ex), (mkF 26 [(0, (AV.sl .any 2 (List.map Key.row a))), (1, (AV.sl .any 2 (List.map Key.row b))), (12, (AV.int .i64 ((a.length : Nat) : Int))), (13, (AV.int .i64 ((i : Nat) : Int)))]), ([] : Heap)) = (eX, FX, HX)) (k2 : (decide (((i : Nat) : Int) < ((a.length : Nat) : Int))) = true → (!(Key.eqb (nth a i) (nth b i))) = false → LoopTo (codeQ Try.prog (X sameK_ann) (loopOf Try.f57 0)) (some [0, 1, 12, 13]) (some [0, 1, 12, 13]) (mkF 26 [(0, (AV.sl .any 2 (List.map Key.row a))), (1, (AV.sl .any 2 (List.map Key.row b))), (12, (AV.int .i64 ((a.length : Nat) : Int))), (13, (AV.int .i64 ((i + 1 : Nat) : Int)))]) ([] : Heap) eX FX HX) (k3 : (decide (((i : Nat) : Int) < ((a.length : Nat) : Int))) = false → ((.exit 0 : Ex), (mkF 26 [(0, (AV.sl .any 2 (List.map Key.row a))), (1, (AV.sl .any 2 (List.map Key.row b))), (12, (AV.int .i64 ((a.length : Nat) : Int))), (13, (AV.int .i64 ((i : Nat) : Int)))]), ([] : Heap)) = (eX, FX, HX)) : LoopTo (codeQ Try.prog (X sameK_ann) (loopOf Try.f57 0)) (some [0, 1, 12, 13]) (some [0, 1, 12, 13]) (mkF 26 [(0, (AV.sl .any 2 (List.map Key.row a))), (1, (AV.sl .any 2 (List.map Key.row b))), (12, (AV.int .i64 ((a.length : Nat) : Int))), (13, (AV.int .i64 ((i : Nat) : Int)))]) ([] : Heap) eX FX HX := by
  refine LoopTo.step (.reg [] [] [] (.two (.reg [] [] [] (.reg [(2, ((AV.ref (Key.row (nth a i)) 0), ([] : Heap))), (6, ((AV.ref (Key.row (nth b i)) 0), ([] : Heap)))] [] [] (.two (.reg [] [] [] .nil) (.reg [(0, ((AV.int .i64 ((i + 1 : Nat) : Int)), ([] : Heap)))] [] [] .nil)))) .nil)) ?_
  refine Eq.mp (by kernel_rfl : (cond (decide (((i : Nat) : Int) < ((a.length : Nat) : Int))) ((IdxSl 2 2 (List.map Key.row a) ((i : Nat) : Int) ([] : Heap) (Key.row (nth a i))) ∧ (IdxSl 2 2 (List.map Key.row b) ((i : Nat) : Int) ([] : Heap) (Key.row (nth b i))) ∧ cond (!(Key.eqb (nth a i) (nth b i))) (((.ret : Ex), (mkF 26 [(0, (AV.sl .any 2 (List.map Key.row a))), (1, (AV.sl .any 2 (List.map Key.row b))), (12, (AV.int .i64 ((a.length : Nat) : Int))), (13, (AV.int .i64 ((i : Nat) : Int)))]), ([] : Heap)) = (eX, FX, HX)) ((Yes (.int .i64 (IntKind.i64.wrap (((i : Nat) : Int) + 1))) ([] : Heap) (AV.int .i64 ((i + 1 : Nat) : Int))) ∧ LoopTo (codeQ Try.prog (X sameK_ann) (loopOf Try.f57 0)) (some [0, 1, 12, 13]) (some [0, 1, 12, 13]) (mkF 26 [(0, (AV.sl .any 2 (List.map Key.row a))), (1, (AV.sl .any 2 (List.map Key.row b))), (12, (AV.int .i64 ((a.length : Nat) : Int))), (13, (AV.int .i64 ((i + 1 : Nat) : Int)))]) ([] : Heap) eX FX HX)) (((.exit 0 : Ex), (mkF 26 [(0, (AV.sl .any 2 (List.map Key.row a))), (1, (AV.sl .any 2 (List.map Key.row b))), (12, (AV.int .i64 ((a.length : Nat) : Int))), (13, (AV.int .i64 ((i : Nat) : Int)))]), ([] : Heap)) = (eX, FX, HX))) = _) ?_
  refine cond_split (fun h1 => ?_) (fun h1 => ?_)
  · have h1' := h1
    try simp at h1'
    refine And.intro (IdxSl.mk _ (by omega) (by omega)) ?_
    refine And.intro (IdxSl.mk _ (by omega) (by omega)) ?_
    refine cond_split (fun h2 => ?_) (fun h2 => ?_)
    · have h2' := h2
      try simp at h2'
      exact k1 h1 h2
    · have h2' := h2
      try simp at h2'
      refine And.intro (Yes.add (by omega) (by omega) (by omega)) ?_
      exact k2 h1 h2
  · have h1' := h1
    try simp at h1'
    exact k3 h1
def sameK_f (a : List Key) (b : List Key) (i : Nat) (s : Unit) : Unit := ()
def sameK_bad (a : List Key) (b : List Key)  (i : Nat) : Prop := (((decide (((i : Nat) : Int) < ((a.length : Nat) : Int))) = true) ∧ ((!(Key.eqb (nth a i) (nth b i))) = true))
theorem sameK_loop (a : List Key) (b : List Key) (hl : a.length < 1099511627776) (hb : a.length = b.length)  (hbad : ∀ (i : Nat), i < a.length → ¬ sameK_bad a b  i) (r_ : Nat) : ∀  (i : Nat) (sF : Unit), i + r_ = a.length → () = (iter (sameK_f a b) i 0 ()) → sF = iter (sameK_f a b) r_ i () →
    LoopTo (codeQ Try.prog (X sameK_ann) (loopOf Try.f57 0)) (some [0, 1, 12, 13]) (some [0, 1, 12, 13]) (mkF 26 [(0, (AV.sl .any 2 (List.map Key.row a))), (1, (AV.sl .any 2 (List.map Key.row b))), (12, (AV.int .i64 ((a.length : Nat) : Int))), (13, (AV.int .i64 ((i : Nat) : Int)))]) ([] : Heap) (.exit 0) (mkF 26 [(0, (AV.sl .any 2 (List.map Key.row a))), (1, (AV.sl .any 2 (List.map Key.row b))), (12, (AV.int .i64 ((a.length : Nat) : Int))), (13, (AV.int .i64 ((a.length : Nat) : Int)))]) ([] : Heap) := by
  induction r_ with
  | zero =>
    intro  i sF hi_  hs_ hF
    obtain rfl : a.length = i := by omega
    have e_ : sF = () := hF
    refine sameK_step a b  a.length hl hb (Nat.le_refl _) (fun h _ => by simp at h <;> omega) (fun h _ => by simp at h <;> omega) (fun _ => ?_)
    first | done | rfl | (rw [e_]; done) | (rw [e_]; rfl)
  | succ r_ ih =>
    intro  i sF hi_  hs_ hF
    refine sameK_step a b  i hl hb (by omega) (fun h1 h2 => ?_) (fun h1 h2 => ?_) (fun h => by simp at h <;> omega)
    · exact False.elim (by
        have hb_ := hbad i (by omega)
        try rw [← hs_] at hb_
        exact hb_ (⟨h1, h2⟩))
    · exact ih  (i + 1) sF (by omega)  (by rw [iter_succ, ← hs_] <;> simp only [sameK_f, h2, if_true, Bool.false_eq_true, if_false]) (by rw [hF] <;> simp only [iter, sameK_f, h2, if_true, Bool.false_eq_true, if_false])
set_option maxRecDepth 100000 in
theorem sameK_spec (a b : List Key) (hl : a.length < 1099511627776) (h : a = b) : ACalls Try.prog 57 [(AV.sl .any 2 (List.map Key.row a)), (AV.sl .any 2 (List.map Key.row b))] ([] : Heap) ((AV.bool true), ([] : Heap)) := by
  have hb : a.length = b.length := by rw [h]
  refine spec (fn := Try.f57) (ann := sameK_ann) (t := (.reg [] [] [] (.reg [(1, ((AV.int .i64 ((a.length : Nat) : Int)), ([] : Heap))), (3, ((AV.int .i64 ((b.length : Nat) : Int)), ([] : Heap))), (4, ((AV.bool false), ([] : Heap)))] [] [] (.two .nil (.reg [(1, ((AV.int .i64 ((a.length : Nat) : Int)), ([] : Heap)))] [] [] (.loop (.exit 0) (mkF 26 [(0, (AV.sl .any 2 (List.map Key.row a))), (1, (AV.sl .any 2 (List.map Key.row b))), (12, (AV.int .i64 ((a.length : Nat) : Int))), (13, (AV.int .i64 ((a.length : Nat) : Int)))]) ([] : Heap) (.reg [] [] [] .nil))))))) (Nat.le_of_ble_eq_true (by kernel_rfl)) ⟨Try.func57, by kernel_rfl, by kernel_rfl, by kernel_rfl⟩ ?_
  refine Eq.mp (by kernel_rfl : ((Yes (.int .i64 ((List.length (List.map Key.row a) : Nat) : Int)) ([] : Heap) (AV.int .i64 ((a.length : Nat) : Int))) ∧ (Yes (.int .i64 ((List.length (List.map Key.row b) : Nat) : Int)) ([] : Heap) (AV.int .i64 ((b.length : Nat) : Int))) ∧ (Yes (AV.bool (((a.length : Nat) : Int) != ((b.length : Nat) : Int))) ([] : Heap) (AV.bool false)) ∧ (Yes (.int .i64 ((List.length (List.map Key.row a) : Nat) : Int)) ([] : Heap) (AV.int .i64 ((a.length : Nat) : Int))) ∧ (LoopTo (codeQ Try.prog (X sameK_ann) (loopOf Try.f57 0)) (some [0, 1, 12, 13]) (some [0, 1, 12, 13]) (mkF 26 [(0, (AV.sl .any 2 (List.map Key.row a))), (1, (AV.sl .any 2 (List.map Key.row b))), (12, (AV.int .i64 ((a.length : Nat) : Int))), (13, (AV.int .i64 0))]) ([] : Heap) (.exit 0) (mkF 26 [(0, (AV.sl .any 2 (List.map Key.row a))), (1, (AV.sl .any 2 (List.map Key.row b))), (12, (AV.int .i64 ((a.length : Nat) : Int))), (13, (AV.int .i64 ((a.length : Nat) : Int)))]) ([] : Heap)) ∧ (AV.bdd 0 (AV.bool true) = true ∧ obsB 0 ([] : Heap) = true) ∧ ((AV.bool true), ([] : Heap)) = ((AV.bool true), ([] : Heap))) = _) ?_
  refine And.intro (Yes.len _ _ _) ?_
  refine And.intro (Yes.len _ _ _) ?_
  refine And.intro (Yes.bool (by rw [hb]; simp)) ?_
  refine And.intro (Yes.len _ _ _) ?_
  refine And.intro ((sameK_loop a b hl hb (fun i hi => by subst h; simp [sameK_bad, Key.eqb_refl]) (List.length a) 0 () (by omega) rfl rfl)) ?_
  refine And.intro (by first | (simp [obsB, AV.bddss, AV.bdds, AV.bdd]; done) | (simp [obsB, AV.bddss, AV.bdds, AV.bdd, -List.map_append]; done) | simp [obsB, AV.bddss, AV.bdds, AV.bdd, -List.map_append, -List.map_set, -List.map_take, -List.map_drop, -List.map_cons, -List.map_map]) ?_
  rfl
theorem sameK_at (a b : List Key) (hl : a.length < 1099511627776) (h : a = b) (H : Heap) : ACalls Try.prog 57 [(AV.sl .any 2 (List.map Key.row a)), (AV.sl .any 2 (List.map Key.row b))] H ((AV.bool true), H) := (sameK_spec a b hl h).lift (by kernel_rfl) (by kernel_rfl) H
theorem fold_fmap' {α β : Type} (p : α → Bool) (f : α → β) (l : List α) : ∀ (out : List β) (k g : Nat),
    l.foldl (fun (s : List β × Nat × Nat) c => if p c = true then (s.1 ++ [f c], s.2.1 + 1, s.2.2 + 1) else s) (out, k, g) = (out ++ (l.filter p).map f, k + ((l.filter p).map f).length, g + ((l.filter p).map f).length) := by
  induction l with
  | nil => intro out k g; simp
  | cons c l ih =>
    intro out k g
    rw [List.foldl_cons]
    by_cases h : p c = true
    · rw [if_pos h, ih]; simp [List.filter_cons, h]; omega
    · rw [if_neg h, ih]; simp [List.filter_cons, h]
theorem iter_push {α : Type} (f : Nat → List α × Nat × Nat → List α × Nat × Nat) (h : Nat → List α × Nat × Nat → α) (hf : ∀ i s, f i s = (s.1 ++ [h i s], s.2.1 + 1, s.2.2 + 1)) (r : Nat) : ∀ (i : Nat) (s : List α × Nat × Nat),
    (iter f r i s).1.length = s.1.length + r ∧ (iter f r i s).2 = (s.2.1 + r, s.2.2 + r) := by
  induction r with
  | zero => intro i s; simp [iter]
  | succ r ih => intro i s; obtain ⟨h1, h2⟩ := ih (i + 1) (f i s); simp only [iter]; rw [h1, h2, hf]; simp; omega
end Go.Proofs.Ytpkgpldgoajphaa.AM

set_option linter.unusedVariables false
set_option linter.unusedSimpArgs false
namespace Go.Proofs.Ytpkgpldgoajphaa.AM
open Go

theorem osl_alive {G : Nat → Prop} {w : World} {C : Cx} {id g k e n : Nat} {v : Value} (h : VR G w C (.osl id g k e n) v) (hg : g = C.γ id) : ∃ l, C.ι id = some l ∧ l.k = k := by
  cases h with
  | osl _ _ _ _ _ _ ad cap hnc hle h => obtain ⟨l, b, h1, _, h2, _⟩ := h hg; exact ⟨l, h1, h2⟩
  | osl0 _ _ _ _ _ base hle h => obtain ⟨l, h1, _, h2⟩ := h hg; exact ⟨l, h1, h2⟩
theorem HR.set_ob {G : Nat → Prop} {w : World} {C : Cx} {H : Heap} (hH : HR G w C H) {id : Nat} {o o' : Ob} (ho : H[id]? = some o) (hg : o'.gen = o.gen) (hob : ∀ l, C.ι id = some l → ObR G w C o l → ObR G w C o' l) : HR G w C (H.set id o') := by
  have hlt : id < H.length := by
    rcases Nat.lt_or_ge id H.length with h' | h'
    · exact h'
    · rw [List.getElem?_eq_none h'] at ho; simp at ho
  refine ⟨fun j oj hj => ?_, fun j hj => hH.out j (by simpa using hj), hH.own, hH.inj, fun j oj l hj hl => ?_, hH.gsz⟩
  · by_cases hji : id = j
    · subst hji
      rw [List.getElem?_set_self hlt] at hj
      obtain rfl : o' = oj := by simpa using hj
      rw [hg]; exact hH.gen id o ho
    · rw [List.getElem?_set_ne hji] at hj
      exact hH.gen j oj hj
  · by_cases hji : id = j
    · subst hji
      rw [List.getElem?_set_self hlt] at hj
      obtain rfl : o' = oj := by simpa using hj
      exact hob l hl (hH.ob id o l ho hl)
    · rw [List.getElem?_set_ne hji] at hj
      exact hH.ob j oj l hj hl
/-- How many rows there is place for is a number: it may be given a name. -/
theorem ACalls.room {P : Program} {f : FuncId} {args : List AV} {H : Heap} {r : AV × Heap} {id i g k e n : Nat} {els : List (List AV)} (ho : H[id]? = some ⟨g, k, els, none⟩) (hi : args[i]? = some (.osl id g k e n))
    (h : ∀ rm, els.length ≤ rm → ACalls P f args (H.set id ⟨g, k, els, some rm⟩) r) : ACalls P f args H r := by
  intro G w C vs hsz hargs hH
  have hlt : i < args.length := by
    rcases Nat.lt_or_ge i args.length with h' | h'
    · exact h'
    · rw [List.getElem?_eq_none h'] at hi; simp at hi
  have hv := hargs i hlt
  rw [List.getD_eq_getElem?_getD, hi] at hv
  have hgen := hH.gen id _ ho
  obtain ⟨l, hl, _⟩ := osl_alive hv hgen
  have hob := hH.ob id _ l ho hl
  have hH2 : HR G w C (H.set id ⟨g, k, els, some l.room⟩) := hH.set_ob ho rfl fun l' hl' hx => by
    obtain rfl : l = l' := by rw [hl] at hl'; simpa using hl'
    exact ⟨hx.k, fun r hr => by simpa using hr, hx.no, hx.len, hx.row, hx.cells⟩
  refine (h l.room hob.len G w C vs hsz hargs hH2).mono fun v w' ⟨G', C', he, hh, hv', hp⟩ => ⟨G', C', he, hh, hv', by simpa using hp.1, fun j hj hs hι => ?_⟩
  obtain ⟨h1, h2, h3⟩ := hp.2 j (by simpa using hj) hs hι
  have hne : id ≠ j := fun e => by subst e; rw [hl] at hι; simp at hι
  rw [List.getElem?_set_ne hne] at h3
  exact ⟨h1, h2, h3⟩
/-- Rows behind number m are forgotten, and the room. -/
theorem ACalls.shrink {P : Program} {f : FuncId} {args : List AV} {H H1 : Heap} {id g k e n m : Nat} {els : List (List AV)} {room : Option Nat} (h : ACalls P f args H (.osl id g k e n, H1)) (ho : H1[id]? = some ⟨g, k, els, room⟩) :
    ACalls P f args H (.osl id g k e n, H1.set id ⟨g, k, els.take m, none⟩) := by
  intro G w C vs hsz hargs hH
  refine (h G w C vs hsz hargs hH).mono fun v w' ⟨G', C', he, hh, hv, hp⟩ => ?_
  obtain ⟨l, hl, _⟩ := osl_alive hv (hh.gen id _ ho)
  have hget : ∀ i, i < (els.take m).length → (els.take m).getD i [] = els.getD i [] := fun i hi => by
    simp only [List.length_take] at hi
    rw [List.getD_eq_getElem?_getD, List.getD_eq_getElem?_getD, List.getElem?_take_of_lt (by omega)]
  have hlen : (els.take m).length ≤ els.length := by simp; omega
  refine ⟨G', C', he, hh.set_ob ho rfl fun l' hl' hx => ?_, hv, by simpa using hp.1, fun j hj hs hι => ?_⟩
  · refine ⟨hx.k, fun r hr => by simp at hr, hx.no, Nat.le_trans hlen hx.len, fun i hi => by rw [hget i hi]; exact hx.row i (by simp only at hi ⊢; omega), fun b hb => ?_⟩
    obtain ⟨cs, t, h1, h2, h3⟩ := hx.cells b hb
    exact ⟨cs, t, h1, h2, fun i j hi hj => by rw [hget i hi]; exact h3 i j (by simp only at hi ⊢; omega) hj⟩
  · obtain ⟨h1, h2, h3⟩ := hp.2 j hj hs hι
    have hne : id ≠ j := fun e => by subst e; rw [hl] at h1; simp at h1
    exact ⟨h1, h2, by rw [List.getElem?_set_ne hne]; exact h3⟩
end Go.Proofs.Ytpkgpldgoajphaa.AM

set_option linter.unusedVariables false
set_option linter.unusedSimpArgs false
namespace Go.Proofs.Ytpkgpldgoajphaa.AM
open Go

theorem ssem_cap {P : Program} {F : Fr} {H : Heap} {dst : Option Tmp} {x : Operand} {t e0 : TypeId} {type : TypeId} {pos : String} {after : Array Edge} {guard : Option (Nat × Bool)} {id g k e n r : Nat} {els : List (List AV)}
    (ht : P.underlying t = some (.slice e0)) (hx : opv F x = some (.osl id g k e n)) (ho : H[id]? = some ⟨g, k, els, some r⟩) :
    SSem P F H ⟨dst, .call { callee := .builtin .cap, args := #[x], argTypes := #[t] }, type, pos, after, guard⟩ (.int .i64 ((r - e : Nat) : Int), H) := by
  intro G w C f hf hH
  have hv := hf x (by simp [Op.operands, Call.operands]) _ hx
  have hgen : g = C.γ id := hH.gen id _ ho
  have key : ∀ c : Nat, c = r - e → ∀ base m, f x = .slice base m c → ∃ v w', (execOp f (⟨dst, .call { callee := .builtin .cap, args := #[x], argTypes := #[t] }, type, pos, after, guard⟩ : Oper)).run P w = .ok (.value v) w' ∧ After G w C H (.int .i64 ((r - e : Nat) : Int), H) v w' := by
    intro c hc base m hfx
    have hr : (Builtin.cap_ #[t] type #[f x]).run P w = .ok (.int .i64 ((r - e : Nat) : Int)) w := by
      rw [hfx, ← hc]; simp [Builtin.cap_, run_underlying ht, goInt]
    refine ⟨_, w, ?_, G, C, Ev.refl .., hH, .int .., Pd.refl⟩
    simp [execOp, resolve, invoke, builtin, hr]
  generalize hu : f x = u at hv
  cases hv with
  | osl _ _ _ _ _ _ ad cap hnc hle h =>
    obtain ⟨l, b, h1, h2, h3, h4, h5, _⟩ := h hgen
    have := (hH.ob id _ l ho h1).rm r rfl
    exact key cap (by omega) _ _ hu
  | osl0 _ _ _ _ _ base hle h =>
    obtain ⟨l, h1, h2, h3⟩ := h hgen
    have hob := hH.ob id _ l ho h1
    have h4 := hob.no h2
    have h5 := hob.rm r rfl
    exact key 0 (by omega) _ _ hu
theorem optInt_f {G : Nat → Prop} {w : World} {C : Cx} {F : Fr} {o : Option Operand} {d n : Int} {f : Operand → Value} (h : optInt F o d = some n) (hf : ∀ x, o = some x → ∀ a, opv F x = some a → VR G w C a (f x)) : (o = none ∧ n = d) ∨ ∃ x k, o = some x ∧ f x = .int k n := by
  cases o with
  | none => simp [optInt] at h; exact .inl ⟨rfl, h.symm⟩
  | some x =>
    simp only [optInt] at h
    split at h
    · rename_i k m hx
      have hv := hf x rfl _ hx
      simp only [Option.some.injEq] at h
      subst h
      generalize hu : f x = u at hv
      cases hv
      exact .inr ⟨x, k, rfl, hu⟩
    · simp at h
theorem ssem_slice {P : Program} {F : Fr} {H : Heap} {dst : Option Tmp} {x y : Operand} {lo : Option Operand} {t e0 : TypeId} {type : TypeId} {pos : String} {after : Array Edge} {guard : Option (Nat × Bool)} {id g k e n r l h : Nat} {els : List (List AV)}
    (ht : P.underlying t = some (.slice e0)) (hk : ∀ w : World, (Go.sizeOf e0).run P w = .ok k w) (hx : opv F x = some (.osl id g k e n)) (ho : H[id]? = some ⟨g, k, els, some r⟩)
    (hlo : optInt F lo 0 = some (l : Int)) (hhi : optInt F (some y) 0 = some (h : Int)) (h1 : l ≤ h) (h2 : e + h ≤ r) :
    SSem P F H ⟨dst, .slice t x lo (some y) none, type, pos, after, guard⟩ (.osl id g k (e + l) (h - l), H) := by
  intro G w C f hf hH
  have hv := hf x (by simp [Op.operands]) _ hx
  have hgen : g = C.γ id := hH.gen id _ ho
  have hl := optInt_f (G := G) (w := w) (C := C) (f := f) hlo fun z hz a ha => hf z (by simp [Op.operands, hz]) a ha
  have hh := optInt_f (G := G) (w := w) (C := C) (f := f) hhi fun z hz a ha => hf z (by simp [Op.operands]; simp at hz; simp [hz]) a ha
  have hb : ∀ len cap : Nat, h ≤ cap → (Instr.sliceBounds true len cap (lo.map f) (some (f y)) none).run P w = .ok (l, h, cap) w := by
    intro len cap hc
    rcases hh with ⟨hh, _⟩ | ⟨z, kz, hz, hfz⟩
    · simp at hh
    · simp only [Option.some.injEq] at hz
      subst hz
      rcases hl with ⟨rfl, h0⟩ | ⟨z, kz', rfl, hz⟩
      · have : l = 0 := by omega
        subst this
        simp [Instr.sliceBounds, hfz, run_sliceBound, hc]
      · simp [Instr.sliceBounds, hz, hfz, run_sliceBound, hc, h1]
  generalize hu : f x = u at hv
  cases hv with
  | osl _ _ _ _ _ _ ad cap hnc hle hl' =>
    obtain ⟨L, b, hι, hLb, hLk, hen, hcap, had⟩ := hl' hgen
    have hrm := (hH.ob id _ L ho hι).rm r rfl
    have hr : (Instr.sliceAt t (f x) (lo.map f) (some (f y)) none).run P w = .ok (.slice (if cap = l then some ad else (some ad).map (·.add (l * k))) (h - l) (cap - l)) w := by
      rw [hu]
      simp only [Instr.sliceAt, Instr.slice, Sem.run_bind, run_underlying ht, Result.andThen_ok]
      rw [hb n cap (by omega)]
      simp only [Result.andThen_ok, hk w, Sem.run_pure, Sem.run_bind]
    refine ⟨.slice (if cap = l then some ad else (some ad).map (·.add (l * k))) (h - l) (cap - l), w, ?_, G, C, Ev.refl .., hH, ?_, Pd.refl⟩
    · simp only [execOp, Option.map_some, Option.map_none, Sem.run_bind, hr, Result.andThen_ok, Sem.run_pure]
    · have hif : (if cap = l then some ad else (some ad).map (·.add (l * k))) = some (if cap = l then ad else ad.add (l * k)) := by split <;> rfl
      rw [hif]
      refine .osl _ _ _ _ _ _ _ _ (by omega) hle fun hg => ?_
      refine ⟨L, b, hι, hLb, hLk, by omega, by omega, fun hlt => ?_⟩
      rw [if_neg (by omega), had (by omega), add_addr, Nat.add_assoc, ← Nat.add_mul]
  | osl0 _ _ _ _ _ base hle hl' =>
    obtain ⟨L, hι, hLb, hLk⟩ := hl' hgen
    have hob := hH.ob id _ L ho hι
    have h4 := hob.no hLb
    have h5 := hob.rm r rfl
    have hl0 : l = 0 := by omega
    have hh0 : h = 0 := by omega
    have hr : (Instr.sliceAt t (f x) (lo.map f) (some (f y)) none).run P w = .ok (.slice base 0 0) w := by
      rw [hu]
      simp only [Instr.sliceAt, Instr.slice, Sem.run_bind, run_underlying ht, Result.andThen_ok]
      rw [hb 0 0 (by omega)]
      simp [hk w, hl0, hh0]
    subst hl0; subst hh0
    refine ⟨.slice base 0 0, w, ?_, G, C, Ev.refl .., hH, .osl0 _ _ _ _ _ base hle hl', Pd.refl⟩
    simp only [execOp, Option.map_some, Option.map_none, Sem.run_bind, hr, Result.andThen_ok, Sem.run_pure]
end Go.Proofs.Ytpkgpldgoajphaa.AM

set_option linter.unusedVariables false
set_option linter.unusedSimpArgs false
namespace Go.Proofs.Ytpkgpldgoajphaa.AM
open Go

theorem place_row {xs new : List (List AV)} {q : Nat} (hq : q ≤ xs.length) (r : Nat) (hr : r < (xs.take q ++ new ++ xs.drop (q + new.length)).length) :
    if q ≤ r ∧ r < q + new.length then (xs.take q ++ new ++ xs.drop (q + new.length)).getD r [] = new.getD (r - q) [] else r < xs.length ∧ (xs.take q ++ new ++ xs.drop (q + new.length)).getD r [] = xs.getD r [] := by
  have hl : (xs.take q).length = q := by simp; omega
  simp only [List.getD_eq_getElem?_getD]
  split
  · rename_i h
    rw [List.append_assoc, List.getElem?_append_right (by omega), hl, List.getElem?_append_left (by omega)]
  · rename_i h
    simp only [List.length_append, hl, List.length_drop] at hr
    rcases Nat.lt_or_ge r q with h1 | h1
    · refine ⟨by omega, ?_⟩
      rw [List.append_assoc, List.getElem?_append_left (by omega), List.getElem?_take_of_lt h1]
    · have h2 : q + new.length ≤ r := by omega
      refine ⟨by omega, ?_⟩
      rw [List.getElem?_append_right (by simp [hl]; omega), List.getElem?_drop]
      congr 2
      simp [hl]; omega
theorem place_sound {G : Nat → Prop} {w : World} {C : Cx} {H : Heap} (hH : HR G w C H) {id : Nat} {o : Ob} {l : Loc} {bb k q : Nat} (ho : H[id]? = some o) (hι : C.ι id = some l) (hlb : l.b = some bb) (hlk : l.k = k)
    {new : List (List AV)} {nv : List Value} (hlen0 : nv.length = new.length * k) (hrow0 : ∀ i, i < new.length → (new.getD i []).length = k) (hrel0 : ∀ i j, i < new.length → j < k → (nv.getD (i * k + j) undef).oneCell' = true ∧ VR G w C ((new.getD i []).getD j .skip) (nv.getD (i * k + j) undef)) (hq : q ≤ o.els.length) (hroom : q + new.length ≤ l.room) {cur : Array Value} {et : TypeId} (hcur : w.heap[bb]? = some (.cells cur et (0, 0))) :
    Ev G w C G (w.setRow bb (cur.toList.take (l.sh + q * l.k) ++ nv ++ cur.toList.drop (l.sh + q * l.k + nv.length)).toArray) C ∧
    HR G (w.setRow bb (cur.toList.take (l.sh + q * l.k) ++ nv ++ cur.toList.drop (l.sh + q * l.k + nv.length)).toArray) C (H.set id { o with els := o.els.take q ++ new ++ o.els.drop (q + new.length) }) := by
  have hob := hH.ob id o l ho hι
  have hgγ := hH.gen id o ho
  obtain ⟨hk1, hrm1, hno1, hlen1, hrow1, hcs1⟩ := hob
  obtain ⟨cur', et', hcur', hcsz, hcell⟩ := hcs1 bb hlb
  obtain ⟨rfl, rfl⟩ : cur' = cur ∧ et' = et := by rw [hcur] at hcur'; simp at hcur'; exact ⟨hcur'.1.symm, hcur'.2.symm⟩
  have hlt : id < H.length := by
    rcases Nat.lt_or_ge id H.length with h' | h'
    · exact h'
    · rw [List.getElem?_eq_none h'] at ho; simp at ho
  have hm : (q + new.length) * l.k ≤ l.room * l.k := Nat.mul_le_mul_right _ hroom
  rw [Nat.add_mul] at hm
  have hnvl : nv.length = new.length * l.k := by rw [hlen0, hlk]
  have hev : Mv G w C G (w.setRow bb (cur'.toList.take (l.sh + q * l.k) ++ nv ++ cur'.toList.drop (l.sh + q * l.k + nv.length)).toArray) C :=
    ⟨fun _ h => h, fun b' hb' => setRow_other w _ _ _ fun e' => (hH.own id l bb hι hlb).2 (e' ▸ hb'), CxLe.refl _⟩
  refine hH.upd (G' := G) (C' := C) id { o with els := o.els.take q ++ new ++ o.els.drop (q + new.length) } rfl rfl rfl (fun j hj => ⟨rfl, rfl⟩) (Nat.le_refl _) (fun _ l2 hl2 => hl2)
    (fun j hj => List.getElem?_set_ne (Ne.symm hj)) (List.getElem?_set_self hlt) (by simp) (by omega) hgγ (fun _ h => h) (fun _ h => .inl h)
    (fun b' _ hb' => setRow_other w _ _ _ fun e' => hb' l hι (by rw [hlb, e'])) (by simp) (fun b' hb' => by simpa using hH.gsz b' hb') (fun l2 b2 hl2 hb2 => .inl ⟨l2, hl2, hb2⟩) (frozen_setRow w _ _ _ _ _ hcur) fun l2 hl2 => ?_
  obtain rfl : l = l2 := by rw [hι] at hl2; simpa using hl2
  have hlsz : (cur'.toList.take (l.sh + q * l.k) ++ nv ++ cur'.toList.drop (l.sh + q * l.k + nv.length)).length = cur'.size := by simp; omega
  have hlb' : ∀ b2, l.b = some b2 → b2 = bb := fun b2 h2 => by rw [hlb] at h2; simpa using h2.symm
  refine ⟨fun b2 hb2 => ?_, hk1, hrm1, hno1, by simp only [List.length_append, List.length_take, List.length_drop]; omega, fun r hr' => ?_, fun b2 hb2 => ?_⟩
  · rw [hlb' b2 hb2]
    exact ⟨by simpa using (hH.own id l bb hι hlb).1, (hH.own id l bb hι hlb).2, fun j hj l2 hl2 e' => hj (hH.inj _ _ _ _ bb hl2 hι e' hlb)⟩
  · have := place_row hq r hr'
    split at this
    · rw [this, hlk]; exact hrow0 _ (by omega)
    · rw [this.2]; exact hrow1 _ this.1
  · rw [hlb' b2 hb2]
    refine ⟨_, et', setRow_heap w _ _ _ _ _ hcur, ?_, fun r j hr' hj => ?_⟩
    · have h2 : (cur'.toList.take (l.sh + q * l.k) ++ nv ++ cur'.toList.drop (l.sh + q * l.k + nv.length)).toArray.size = cur'.size := by simpa using hlsz
      rw [h2]; exact hcsz
    · have hA2 : ((cur'.toList.take (l.sh + q * l.k) ++ nv ++ cur'.toList.drop (l.sh + q * l.k + nv.length)).toArray).getD (l.sh + r * l.k + j) undef = if q ≤ r ∧ r < q + new.length then nv.getD ((r - q) * l.k + j) undef else cur'.toList.getD (l.sh + r * l.k + j) undef := by
        rw [← over_get (xs := new) hnvl (by rw [hnvl]; simp; omega) hj]
        simp [Array.getD_eq_getD_getElem?, List.getD_eq_getElem?_getD]
      rw [hA2]
      have := place_row hq r hr'
      split at this
      · rename_i hin
        rw [if_pos hin, this]
        obtain ⟨h3, h4⟩ := hrel0 (r - q) j (by omega) (by omega)
        rw [← hlk] at h3 h4
        exact ⟨h3, h4.mv hev⟩
      · rename_i hin
        rw [if_neg hin, this.2]
        have hcg : cur'.toList.getD (l.sh + r * l.k + j) undef = cur'.getD (l.sh + r * l.k + j) undef := by simp [Array.getD_eq_getD_getElem?, List.getD_eq_getElem?_getD]
        rw [hcg]
        obtain ⟨h3, h4⟩ := hcell r j this.1 hj
        exact ⟨h3, h4.mv hev⟩
theorem ssem_copy {P : Program} {F : Fr} {H : Heap} {dst : Option Tmp} {x y : Operand} {t t' e0 : TypeId} {type : TypeId} {pos : String} {after : Array Edge} {guard : Option (Nat × Bool)} {id g k e n : Nat} {els new : List (List AV)} {room : Option Nat} {s : AV}
    (ht : P.underlying t = some (.slice e0)) (hk : ∀ w : World, (Go.sizeOf e0).run P w = .ok k w) (hx : opv F x = some (.osl id g k e n)) (ho : H[id]? = some ⟨g, k, els, room⟩) (hy : opv F y = some s) (hs : rowsIn H k s = some new)
    (h0 : 0 < new.length) (hn : new.length ≤ n) (he : e ≤ els.length) :
    SSem P F H ⟨dst, .call { callee := .builtin .copy, args := #[x, y], argTypes := #[t, t'] }, type, pos, after, guard⟩ (.int .i64 (new.length : Int), H.set id ⟨g, k, els.take e ++ new ++ els.drop (e + new.length), room⟩) := by
  intro G w C f hf hH
  have hv := hf x (by simp [Op.operands, Call.operands]) _ hx
  have hvs := hf y (by simp [Op.operands, Call.operands]) _ hy
  have hgen : g = C.γ id := hH.gen id _ ho
  obtain ⟨nv, hsrc⟩ := rowsIn_src (P := P) hH hvs hs
  generalize hu : f x = u at hv
  cases hv with
  | osl0 => omega
  | osl _ _ _ _ _ _ ad cap hnc hle h =>
    obtain ⟨l, bb, hι, hlb, hlk, hen, hcap, had⟩ := h hgen
    have had' := had (by omega)
    subst had'
    have hob := hH.ob id _ l ho hι
    obtain ⟨cur, et, hcur, hcsz, _⟩ := hob.cells bb hlb
    obtain ⟨h1, h2⟩ := place_sound hH ho hι hlb hlk hsrc.length hsrc.row hsrc.rel he (by omega) hcur
    have hm : (e + new.length) * l.k ≤ l.room * l.k := Nat.mul_le_mul_right _ (by omega)
    rw [Nat.add_mul] at hm
    have hnvl : nv.length = new.length * l.k := by rw [hsrc.length, hlk]
    have hst := run_storeCells_at P bb (l.sh + e * k) et nv 0 cur w hcur (by rw [← hlk]; simp; omega) hsrc.oneCell
    simp only [Nat.add_zero] at hst
    have hmin : Nat.min new.length n = new.length := Nat.min_eq_left hn
    have hr : (Builtin.copy_ #[t, t'] type #[f x, f y]).run P w = .ok (.int .i64 (new.length : Int)) (w.setRow bb (cur.toList.take (l.sh + e * l.k) ++ nv ++ cur.toList.drop (l.sh + e * l.k + nv.length)).toArray) := by
      rw [hu, hlk]
      simp [Builtin.copy_, run_underlying ht, hsrc.len w, hmin, hk w, hsrc.cells w rfl, hst, goInt]
    refine ⟨_, _, ?_, G, C, h1, h2, .int .., ?_⟩
    · simp [execOp, resolve, invoke, builtin, hr]
    · refine ⟨by simp, fun j hj _ hιj => ⟨hιj, rfl, ?_⟩⟩
      have hne : id ≠ j := fun e' => by subst e'; rw [hι] at hιj; simp at hιj
      exact List.getElem?_set_ne hne
theorem ssem_clear {P : Program} {F : Fr} {H : Heap} {dst : Option Tmp} {x : Operand} {t e0 : TypeId} {type : TypeId} {pos : String} {after : Array Edge} {guard : Option (Nat × Bool)} {id g k e n : Nat} {els : List (List AV)} {room : Option Nat} {z : Value}
    (ht : P.underlying t = some (.slice e0)) (hz : ∀ w : World, (zeroValue e0).run P w = .ok z w) (hzs : z.cells.size = k) (hz1 : ∀ v ∈ z.cells.toList, v.oneCell' = true) (hk0 : 0 < k) (hx : opv F x = some (.osl id g k e n)) (ho : H[id]? = some ⟨g, k, els, room⟩)
    (h0 : 0 < n) (he : e ≤ els.length) :
    SSem P F H ⟨dst, .call { callee := .builtin .clear, args := #[x], argTypes := #[t] }, type, pos, after, guard⟩ (.unk, H.set id ⟨g, k, els.take e ++ List.replicate n (List.replicate k .unk) ++ els.drop (e + n), room⟩) := by
  intro G w C f hf hH
  have hv := hf x (by simp [Op.operands, Call.operands]) _ hx
  have hgen : g = C.γ id := hH.gen id _ ho
  generalize hu : f x = u at hv
  cases hv with
  | osl0 => omega
  | osl _ _ _ _ _ _ ad cap hnc hle h =>
    obtain ⟨l, bb, hι, hlb, hlk, hen, hcap, had⟩ := h hgen
    have had' := had (by omega)
    subst had'
    have hob := hH.ob id _ l ho hι
    obtain ⟨cur, et, hcur, hcsz, _⟩ := hob.cells bb hlb
    have hzl : (Builtin.zeroCells z.cells n).toList.length = n * k := by simp [Builtin.zeroCells, hzs]
    have hone : ∀ v ∈ (Builtin.zeroCells z.cells n).toList, v.oneCell' = true := fun v hv => by
      simp only [Builtin.zeroCells, Array.toList_map, List.mem_map] at hv
      obtain ⟨i, hi, rfl⟩ := hv
      refine hz1 _ ?_
      have hlt : i % z.cells.size < z.cells.size := Nat.mod_lt _ (by omega)
      rw [getElem!_pos z.cells _ hlt]
      simp
    have hl2 : (List.replicate n (List.replicate k AV.unk)).length = n := by simp
    obtain ⟨h1, h2⟩ := place_sound (new := List.replicate n (List.replicate k AV.unk)) (nv := (Builtin.zeroCells z.cells n).toList) hH ho hι hlb hlk (by rw [hl2, hzl]) (fun i hi => by
        rw [hl2] at hi
        simp [List.getD_eq_getElem?_getD, List.getElem?_replicate, hi]) (fun i j hi hj => by
        rw [hl2] at hi
        have hlt := row_lt hi hj
        refine ⟨?_, ?_⟩
        · rw [List.getD_eq_getElem?_getD, List.getElem?_eq_getElem (by rw [hzl]; exact hlt)]
          exact hone _ (List.getElem_mem _)
        · simp only [List.getD_eq_getElem?_getD, List.getElem?_replicate, hi, hj, if_true, Option.getD_some]
          exact .unk ..) he (by rw [hl2]; omega) hcur
    rw [hl2] at h2
    have hm : (e + n) * l.k ≤ l.room * l.k := Nat.mul_le_mul_right _ (by omega)
    rw [Nat.add_mul] at hm
    have hst := run_storeCells_at P bb (l.sh + e * k) et (Builtin.zeroCells z.cells n).toList 0 cur w hcur (by rw [hzl, ← hlk]; simp; omega) hone
    simp only [Nat.add_zero] at hst
    have hn0 : n ≠ 0 := by omega
    have hr : (Builtin.clear_ #[t] type #[f x]).run P w = .ok (.tuple #[]) (w.setRow bb (cur.toList.take (l.sh + e * l.k) ++ (Builtin.zeroCells z.cells n).toList ++ cur.toList.drop (l.sh + e * l.k + (Builtin.zeroCells z.cells n).toList.length)).toArray) := by
      rw [hu, hlk]
      simp only [Builtin.clear_]
      cases n with
      | zero => omega
      | succ n => simp [run_underlying ht, hz w, hst]
    refine ⟨.tuple #[], _, ?_, G, C, h1, h2, .unk .., ?_⟩
    · simp [execOp, resolve, invoke, builtin, hr]
    · refine ⟨by simp, fun j hj _ hιj => ⟨hιj, rfl, ?_⟩⟩
      have hne : id ≠ j := fun e' => by subst e'; rw [hι] at hιj; simp at hιj
      exact List.getElem?_set_ne hne
end Go.Proofs.Ytpkgpldgoajphaa.AM

set_option linter.unusedVariables false
set_option linter.unusedSimpArgs false
namespace Go.Proofs.Ytpkgpldgoajphaa.AM
open Go

theorem run_append_make {P : Program} {G : Nat → Prop} {w : World} {C : Cx} {t t' ty e : TypeId} {i : TypeInfo} {z : Value} {kk kx : IntKind} (ht : P.underlying t = some (.slice e)) (ht' : P.underlying t' = some (.int kk)) (hi : P.info? e = some i) (hz : i.zero = some z)
    (c : Nat) {ys : List (List AV)} {ov : List Value} (base : Option Addr) (sLen sCap : Nat) (ho : Src P G w C i.size (.slice base sLen sCap) ys ov) (hlen : ys.length = sLen)
    (hg : sCap < sLen + c) (hb : 0 < i.bytes) (hs : 0 < i.size) (hc : 0 < c) (hby : (sLen + c) * i.bytes ≤ 140737488355328) :
    (Builtin.append_ #[t, t'] ty #[.slice base sLen sCap, .int kx (c : Int)]).run P w =
      .ok (.slice (some ⟨w.heap.size, 0, none⟩) (sLen + c) (grownCap w (sLen + c) sCap e))
        (w.drew.alloc (.cells (ov.toArray ++ Builtin.zeroCells z.cells c ++ Builtin.zeroCells z.cells (grownCap w (sLen + c) sCap e - (sLen + c))) e)) := by
  subst hlen
  have hn : ¬ (ys.length + c ≤ sCap) := by omega
  have hfit := growslice_fits hg hby
  have h48' : ¬ (281474976710656 < Builtin.nextslicecap (ys.length + c) sCap * i.bytes) := by omega
  have hb0 : ¬ i.bytes = 0 := by omega
  have hfo := ho.cells w.drew rfl
  have hcb : c * 1 ≤ c * i.bytes := Nat.mul_le_mul_left _ hb
  have hcm : c * i.bytes ≤ (ys.length + c) * i.bytes := Nat.mul_le_mul_right _ (by omega)
  have hcs : c ≤ 140737488355328 := by omega
  have hw : IntKind.i64.wrap (c : Int) = (c : Int) := i64_id (by omega) (by omega)
  have hcs0 : ¬ (c * i.size = 0) := by
    have := Nat.mul_pos hc hs; omega
  have h0 : ¬ ((c : Int) < 0) := by omega
  have h48 : ¬ ((281474976710656 : Int) < (c : Int) * (i.bytes : Int)) := by
    have : ((c * i.bytes : Nat) : Int) ≤ 140737488355328 := by omega
    rw [Int.natCast_mul] at this; omega
  have hmx : ¬ ((9223372036854775807 : Int) < (ys.length : Int) + (c : Int)) := by
    have : (ys.length + c) * 1 ≤ (ys.length + c) * i.bytes := Nat.mul_le_mul_left _ hb
    omega
  simp [Builtin.append_, run_underlying ht, run_underlying ht', Go.sizeOf, typeInfo, zeroValue, hi, hz, asInt, asIntOf, hw, h0, h48, hn, hb0, h48', hmx, hcs0, Question.forced, hfo, newRow, grownCap]
theorem zero_get {z : Value} {k c : Nat} (hzs : z.cells.size = k) (hk0 : 0 < k) (hz1 : ∀ v ∈ z.cells.toList, v.oneCell' = true) : (Builtin.zeroCells z.cells c).size = c * k ∧ ∀ v ∈ (Builtin.zeroCells z.cells c).toList, v.oneCell' = true := by
  refine ⟨by simp [Builtin.zeroCells, hzs], fun v hv => ?_⟩
  simp only [Builtin.zeroCells, Array.toList_map, List.mem_map] at hv
  obtain ⟨i, hi, rfl⟩ := hv
  refine hz1 _ ?_
  have hlt : i % z.cells.size < z.cells.size := Nat.mod_lt _ (by omega)
  rw [getElem!_pos z.cells _ hlt]
  simp
theorem grow_make {P : Program} {G : Nat → Prop} {w : World} {C : Cx} {H : Heap} (hH : HR G w C H) {t t' ty e : TypeId} {i : TypeInfo} {z : Value} {kk kx : IntKind} (ht : P.underlying t = some (.slice e)) (ht' : P.underlying t' = some (.int kk)) (hi : P.info? e = some i) (hz : i.zero = some z)
    (hzs : z.cells.size = i.size) (hz1 : ∀ v ∈ z.cells.toList, v.oneCell' = true) (c : Nat) {ys : List (List AV)} {ov : List Value} (base : Option Addr) (sLen sCap : Nat) (ho : Src P G w C i.size (.slice base sLen sCap) ys ov) (hlen : ys.length = sLen)
    (hg : sCap < sLen + c) (hb : 0 < i.bytes) (hs : 0 < i.size) (hc : 0 < c) (hby : (sLen + c) * i.bytes ≤ 140737488355328) :
    ∃ v w', (Builtin.append_ #[t, t'] ty #[.slice base sLen sCap, .int kx (c : Int)]).run P w = .ok v w' ∧ After G w C H (.osl H.length 0 i.size 0 (sLen + c), H ++ [⟨0, i.size, ys ++ List.replicate c (List.replicate i.size .unk), none⟩]) v w' := by
  have hr := run_append_make (ty := ty) (kx := kx) ht ht' hi hz c base sLen sCap ho hlen hg hb hs hc hby
  subst hlen
  have hge := grownCap_ge w (ys.length + c) sCap e
  generalize grownCap w (ys.length + c) sCap e = cap at hr hge
  obtain ⟨z1, z2⟩ := zero_get (c := c) hzs hs hz1
  have hl2 : (List.replicate c (List.replicate i.size AV.unk)).length = c := by simp
  have hnone := hH.out H.length (Nat.le_refl _)
  have hcells : ∀ q, (ov.toArray ++ Builtin.zeroCells z.cells c ++ Builtin.zeroCells z.cells (cap - (ys.length + c))).getD q undef = (ov ++ (Builtin.zeroCells z.cells c).toList ++ (Builtin.zeroCells z.cells (cap - (ys.length + c))).toList).getD q undef := fun q => by
    rw [List.getD_eq_getElem?_getD, Array.getD_eq_getD_getElem?]
    congr 1
    rw [← Array.getElem?_toList]
    simp
  have hrow2 : ∀ q, q < c → ((List.replicate c (List.replicate i.size AV.unk)).getD q []) = List.replicate i.size AV.unk := fun q hq => by simp [List.getD_eq_getElem?_getD, List.getElem?_replicate, hq]
  have hm := hH.made (w' := w.drew.alloc (.cells (ov.toArray ++ Builtin.zeroCells z.cells c ++ Builtin.zeroCells z.cells (cap - (ys.length + c))) e)) (H' := H ++ [⟨0, i.size, ys ++ List.replicate c (List.replicate i.size .unk), none⟩]) H.length i.size (ys ++ List.replicate c (List.replicate i.size .unk))
    (ov.toArray ++ Builtin.zeroCells z.cells c ++ Builtin.zeroCells z.cells (cap - (ys.length + c))) e rfl rfl rfl rfl cap 0 (by simpa using hge) ?_ (fun q hq => ?_) (by omega) (fun _ => hnone.2) (fun j hj => by
      rcases Nat.lt_or_ge j H.length with h' | h'
      · rw [List.getElem?_append_left h']
      · rw [List.getElem?_eq_none (by simp; omega), List.getElem?_eq_none (by omega)]) (by simp) (by simp) (Nat.le_refl _) fun q j hq hj => ?_
  · refine ⟨_, _, hr, G, _, hm.1, hm.2, .osl _ _ _ _ _ _ _ _ hge (by rw [Cx.lay_γ]; exact Nat.le_refl _) fun _ => ⟨_, _, Cx.lay_ι .., rfl, rfl, by simpa using hge, by simp, fun _ => by simp⟩, by simp, fun id hl _ hιd => ?_⟩
    have hne : id ≠ H.length := by omega
    exact ⟨by rw [(Cx.lay_ne _ _ _ _ hne).1]; exact hιd, (Cx.lay_ne _ _ _ _ hne).2, by rw [List.getElem?_append_left hl]⟩
  · simp only [Array.size_append, List.size_toArray, size_zeroCells, hzs, ho.length, ← Nat.add_mul]
    refine Nat.mul_le_mul_right _ ?_
    omega
  · simp only [List.length_append, hl2] at hq
    rw [cat_row]
    split
    · rename_i h; exact ho.row _ h
    · rw [hrow2 _ (by omega)]; simp
  · simp only [List.length_append, hl2] at hq
    rw [hcells, cat_get (xs := List.replicate c (List.replicate i.size AV.unk)) ho.length (by rw [hl2]; simpa using z1) (by rw [hl2]; exact hq) hj, cat_row]
    split
    · rename_i h; exact ho.rel _ _ h hj
    · rename_i h
      rw [hrow2 _ (by omega)]
      have hlt := row_lt (show q - ys.length < c by omega) hj
      refine ⟨?_, ?_⟩
      · rw [List.getD_eq_getElem?_getD, List.getElem?_eq_getElem (show _ < (Builtin.zeroCells z.cells c).size by rw [z1]; exact hlt)]
        exact z2 _ (List.getElem_mem _)
      · simp only [List.getD_eq_getElem?_getD, List.getElem?_replicate, hj, if_true, Option.getD_some]
        exact .unk ..
theorem ssem_make {P : Program} {F : Fr} {H : Heap} {dst : Option Tmp} {x y : Operand} {t t' e0 : TypeId} {type : TypeId} {pos : String} {after : Array Edge} {guard : Option (Nat × Bool)} {id g e n r c : Nat} {els ys : List (List AV)} {i : TypeInfo} {z : Value} {kk kx : IntKind}
    (ht : P.underlying t = some (.slice e0)) (ht' : P.underlying t' = some (.int kk)) (hi : P.info? e0 = some i) (hz : i.zero = some z) (hzs : z.cells.size = i.size) (hz1 : ∀ v ∈ z.cells.toList, v.oneCell' = true)
    (hx : opv F x = some (.osl id g i.size e n)) (ho : H[id]? = some ⟨g, i.size, els, some r⟩) (hrows : rowsIn H i.size (.osl id g i.size e n) = some ys) (hlen : ys.length = n) (hy : opv F y = some (.int kx (c : Int)))
    (hg : r - e < n + c) (hb : 0 < i.bytes) (hs : 0 < i.size) (hc : 0 < c) (hby : (n + c) * i.bytes ≤ 140737488355328) :
    SSem P F H ⟨dst, .call { callee := .builtin .append, args := #[x, y], argTypes := #[t, t'] }, type, pos, after, guard⟩ (.osl H.length 0 i.size 0 (n + c), H ++ [⟨0, i.size, ys ++ List.replicate c (List.replicate i.size .unk), none⟩]) := by
  intro G w C f hf hH
  have hv := hf x (by simp [Op.operands, Call.operands]) _ hx
  have hvy := hf y (by simp [Op.operands, Call.operands]) _ hy
  have hgen : g = C.γ id := hH.gen id _ ho
  obtain ⟨ov, hsrc⟩ := rowsIn_src (P := P) hH hv hrows
  generalize huy : f y = uy at hvy
  cases hvy
  have fin : ∀ base sCap, f x = .slice base n sCap → sCap < n + c → ∃ v w', (execOp f (⟨dst, .call { callee := .builtin .append, args := #[x, y], argTypes := #[t, t'] }, type, pos, after, guard⟩ : Oper)).run P w = .ok (.value v) w' ∧ After G w C H (.osl H.length 0 i.size 0 (n + c), H ++ [⟨0, i.size, ys ++ List.replicate c (List.replicate i.size .unk), none⟩]) v w' := by
    intro base sCap hfx hcap
    rw [hfx] at hsrc
    obtain ⟨v, w', h1, h2⟩ := grow_make (ty := type) (kx := kx) hH ht ht' hi hz hzs hz1 c base n sCap hsrc hlen hcap hb hs hc hby
    refine ⟨v, w', ?_, h2⟩
    simp [execOp, resolve, invoke, builtin, hfx, huy, h1]
  generalize hu : f x = u at hv
  cases hv with
  | osl _ _ _ _ _ _ ad cap hnc hle h =>
    obtain ⟨l, bb, hι, hlb, hlk, hen, hcap, _⟩ := h hgen
    have := (hH.ob id _ l ho hι).rm r rfl
    exact fin _ _ hu (by omega)
  | osl0 _ _ _ _ _ base hle h => exact fin _ _ hu (by omega)
end Go.Proofs.Ytpkgpldgoajphaa.AM

set_option linter.unusedVariables false
set_option linter.unusedSimpArgs false
namespace Go.Proofs.Ytpkgpldgoajphaa.AM
open Go

theorem ssem_slice3 {P : Program} {F : Fr} {H : Heap} {dst : Option Tmp} {x y m : Operand} {lo : Option Operand} {t e0 : TypeId} {type : TypeId} {pos : String} {after : Array Edge} {guard : Option (Nat × Bool)} {id g k e n l h c : Nat}
    (ht : P.underlying t = some (.slice e0)) (hk : ∀ w : World, (Go.sizeOf e0).run P w = .ok k w) (hx : opv F x = some (.osl id g k e n))
    (hlo : optInt F lo 0 = some (l : Int)) (hhi : optInt F (some y) 0 = some (h : Int)) (hmx : optInt F (some m) 0 = some (c : Int)) (h1 : l ≤ h) (h2 : h ≤ c) (h3 : c ≤ n) :
    SSem P F H ⟨dst, .slice t x lo (some y) (some m), type, pos, after, guard⟩ (.unk, H) := by
  intro G w C f hf hH
  have hv := hf x (by simp [Op.operands]) _ hx
  have hl := optInt_f (G := G) (w := w) (C := C) (f := f) hlo fun z hz a ha => hf z (by simp [Op.operands, hz]) a ha
  have hh := optInt_f (G := G) (w := w) (C := C) (f := f) hhi fun z hz a ha => hf z (by simp [Op.operands]; simp at hz; simp [hz]) a ha
  have hm := optInt_f (G := G) (w := w) (C := C) (f := f) hmx fun z hz a ha => hf z (by simp [Op.operands]; simp at hz; simp [hz]) a ha
  have hb : ∀ len cap : Nat, c ≤ cap → (Instr.sliceBounds true len cap (lo.map f) (some (f y)) (some (f m))).run P w = .ok (l, h, c) w := by
    intro len cap hc
    rcases hm with ⟨hm, _⟩ | ⟨z, kz, hz, hfm⟩
    · simp at hm
    · simp only [Option.some.injEq] at hz
      subst hz
      rcases hh with ⟨hh, _⟩ | ⟨z, kz, hz, hfz⟩
      · simp at hh
      · simp only [Option.some.injEq] at hz
        subst hz
        rcases hl with ⟨rfl, h0⟩ | ⟨z, kz', rfl, hz⟩
        · have : l = 0 := by omega
          subst this
          simp [Instr.sliceBounds, hfz, hfm, run_sliceBound, hc, h2]
        · simp [Instr.sliceBounds, hz, hfz, hfm, run_sliceBound, hc, h1, h2]
  have fin : ∀ base cap, f x = .slice base n cap → n ≤ cap → ∃ v, (Instr.sliceAt t (f x) (lo.map f) (some (f y)) (some (f m))).run P w = .ok v w := by
    intro base cap hu hcap
    rw [hu]
    simp only [Instr.sliceAt, Instr.slice, Sem.run_bind, run_underlying ht, Result.andThen_ok]
    rw [hb n cap (by omega)]
    simp only [Result.andThen_ok, hk w, Sem.run_pure, Sem.run_bind]
    exact ⟨_, rfl⟩
  have done : (∃ v, (Instr.sliceAt t (f x) (lo.map f) (some (f y)) (some (f m))).run P w = .ok v w) → ∃ v w', (execOp f (⟨dst, .slice t x lo (some y) (some m), type, pos, after, guard⟩ : Oper)).run P w = .ok (.value v) w' ∧ After G w C H (.unk, H) v w' := by
    intro ⟨v, hr⟩
    refine ⟨v, w, ?_, G, C, Ev.refl .., hH, .unk .., Pd.refl⟩
    simp only [execOp, Option.map_some, Option.map_none, Sem.run_bind, hr, Result.andThen_ok, Sem.run_pure]
  generalize hu : f x = u at hv
  cases hv with
  | osl _ _ _ _ _ _ ad cap hnc hle h => exact done (fin _ _ hu hnc)
  | osl0 _ _ _ _ _ base hle h => exact done (fin _ _ hu (Nat.le_refl _))
end Go.Proofs.Ytpkgpldgoajphaa.AM

set_option linter.unusedVariables false
set_option linter.unusedSimpArgs false
namespace Go.Proofs.Ytpkgpldgoajphaa.AM
open Go

theorem heap_lt {H : Heap} {i : Nat} {o : Ob} (ho : H[i]? = some o) : i < H.length := by
  rcases Nat.lt_or_ge i H.length with h' | h'
  · exact h'
  · rw [List.getElem?_eq_none h'] at ho; simp at ho

/-- A value that points at an object that is not given away: the object is made. -/
theorem VR.shows {G : Nat → Prop} {w : World} {C : Cx} {a : AV} {v : Value} (h : VR G w C a v) {id g : Nat} (ha : (∃ e c, a = .obj id g e c) ∨ ∃ k e n, a = .osl id g k e n) (hg : g = C.γ id) : ∃ l, C.ι id = some l := by
  rcases ha with ⟨e, c, rfl⟩ | ⟨k, e, n, rfl⟩
  · cases h with
    | obj _ _ _ _ _ ad hle hl => obtain ⟨l, b, h1, _⟩ := hl hg; exact ⟨l, h1⟩
  · obtain ⟨l, h1, _⟩ := osl_alive h hg
    exact ⟨l, h1⟩

/-- What is known behind a call may be said otherwise, if an argument shows that object id is made. -/
theorem ACalls.ghost {P : Program} {f : FuncId} {args : List AV} {H H1 H2 : Heap} {a a' x : AV} {i id g : Nat} {o o1 : Ob} (h : ACalls P f args H (a, H1)) (hi : args[i]? = some x) (hx : (∃ e c, x = .obj id g e c) ∨ ∃ k e n, x = .osl id g k e n)
    (ho : H[id]? = some o) (hg : o.gen = g) (ho1 : H1[id]? = some o1) (hg1 : o1.gen = g)
    (k : ∀ (G : Nat → Prop) (w : World) (C : Cx) (v : Value), HR G w C H1 → VR G w C a v → (∃ l, C.ι id = some l) → ∃ G' C', Ev G w C G' w C' ∧ HR G' w C' H2 ∧ VR G' w C' a' v ∧ Pd AnyId C H1 C' H2) : ACalls P f args H (a', H2) := by
  intro G w C vs hsz hargs hH
  have hlt : i < args.length := by
    rcases Nat.lt_or_ge i args.length with h' | h'
    · exact h'
    · rw [List.getElem?_eq_none h'] at hi; simp at hi
  have hv := hargs i hlt
  rw [List.getD_eq_getElem?_getD, hi] at hv
  have hγ := hH.gen id o ho
  obtain ⟨l, hl⟩ := VR.shows hv hx (by omega)
  refine (h G w C vs hsz hargs hH).mono fun v w' ⟨G', C', he, hh, hv, hp⟩ => ?_
  have hγ1 := hh.gen id o1 ho1
  have hl' : C'.ι id = some l := (he.cx id).2 (by omega) l hl
  obtain ⟨G2, C2, h1, h2, h3, h4⟩ := k G' w' C' v hh hv ⟨l, hl'⟩
  exact ⟨G2, C2, he.trans h1, h2, h3, hp.trans h4⟩
theorem ACalls.ghost0 {P : Program} {f : FuncId} {args : List AV} {H H1 H2 : Heap} {a a' : AV} (h : ACalls P f args H (a, H1))
    (k : ∀ (G : Nat → Prop) (w : World) (C : Cx) (v : Value), HR G w C H1 → VR G w C a v → ∃ G' C', Ev G w C G' w C' ∧ HR G' w C' H2 ∧ VR G' w C' a' v ∧ Pd AnyId C H1 C' H2) : ACalls P f args H (a', H2) := by
  intro G w C vs hsz hargs hH
  refine (h G w C vs hsz hargs hH).mono fun v w' ⟨G', C', he, hh, hv, hp⟩ => ?_
  obtain ⟨G2, C2, h1, h2, h3, h4⟩ := k G' w' C' v hh hv
  exact ⟨G2, C2, he.trans h1, h2, h3, hp.trans h4⟩

section
variable {P : Program} {G : Nat → Prop} {w : World} {C : Cx} {H : Heap}

theorem HR.get_cell (hH : HR G w C H) {id e c : Nat} {o : Ob} {l : Loc} (ho : H[id]? = some o) (hl : C.ι id = some l) (he : e < o.els.length) (hc : c < (o.els.getD e []).length) :
    ∃ b cs et, l.b = some b ∧ w.heap[b]? = some (.cells cs et (0, 0)) ∧ VR G w C ((o.els.getD e []).getD c .skip) (cs.getD (l.sh + e * l.k + c) undef) := by
  have hob := hH.ob id o l ho hl
  cases hb : l.b with
  | none => have := hob.no hb; have := hob.len; omega
  | some b =>
    obtain ⟨cs, et, h1, h2, h3⟩ := hob.cells b hb
    exact ⟨b, cs, et, rfl, h1, (h3 e c he (by rw [hob.row e he] at hc; exact hc)).2⟩
theorem HR.set_cell (hH : HR G w C H) {id e c : Nat} {o : Ob} {l : Loc} {a' : AV} {b : Nat} {cs : Array Value} {et : TypeId} (ho : H[id]? = some o) (hl : C.ι id = some l) (hb : l.b = some b) (hw : w.heap[b]? = some (.cells cs et (0, 0)))
    (hv : VR G w C a' (cs.getD (l.sh + e * l.k + c) undef)) : HR G w C (H.set id { o with els := o.els.set e ((o.els.getD e []).set c a') }) := by
  refine hH.set_ob ho rfl fun l' hl' hx => ?_
  obtain rfl : l = l' := by rw [hl] at hl'; simpa using hl'
  have hlen : ∀ i, i < o.els.length → ((o.els.set e ((o.els.getD e []).set c a')).getD i []).length = l.k := fun i hi => by
    by_cases h' : e = i
    · subst h'
      rw [List.getD_eq_getElem?_getD, List.getElem?_set_self hi, Option.getD_some, List.length_set]
      exact hx.row e hi
    · rw [List.getD_eq_getElem?_getD, List.getElem?_set_ne h', ← List.getD_eq_getElem?_getD]
      exact hx.row i hi
  refine ⟨hx.k, hx.rm, hx.no, by simpa using hx.len, fun i hi => hlen i (by simpa using hi), fun b' hb' => ?_⟩
  obtain rfl : b = b' := by rw [hb] at hb'; simpa using hb'
  obtain ⟨cs', et', h1, h2, h3⟩ := hx.cells b hb
  rw [hw] at h1
  simp only [Option.some.injEq, Obj.cells.injEq] at h1
  obtain ⟨rfl, rfl, _⟩ := h1
  refine ⟨cs, et, hw, h2, fun i j hi hj => ?_⟩
  simp only [List.length_set] at hi
  obtain ⟨h4, h5⟩ := h3 i j hi hj
  refine ⟨h4, ?_⟩
  by_cases h' : e = i
  · subst h'
    rw [List.getD_eq_getElem?_getD (l := o.els.set _ _), List.getElem?_set_self hi, Option.getD_some]
    have hlr := hx.row e hi
    by_cases hj' : c = j
    · subst hj'
      rw [List.getD_eq_getElem?_getD, List.getElem?_set_self (by omega), Option.getD_some]
      exact hv
    · rw [List.getD_eq_getElem?_getD, List.getElem?_set_ne hj', ← List.getD_eq_getElem?_getD]
      exact h5
  · rw [List.getD_eq_getElem?_getD (l := o.els.set _ _), List.getElem?_set_ne h', ← List.getD_eq_getElem?_getD]
    exact h5

/-- A slice that lies in an object is frozen. -/
theorem frz_cell_sound (hH : HR G w C H) {id e c id2 g2 k e2 n2 : Nat} {o : Ob} {a : AV} {v : Value} {xs : List (List AV)} (ho : H[id]? = some o) (hne : id ≠ id2) (he : e < o.els.length) (hc : c < (o.els.getD e []).length)
    (hcell : (o.els.getD e []).getD c .skip = .osl id2 g2 k e2 n2) (hr : rowsIn H k (.osl id2 g2 k e2 n2) = some xs) (hb : AV.bddss 0 xs = true) (hv : VR G w C a v) (hl : ∃ l, C.ι id = some l) :
    ∃ G' C', Ev G w C G' w C' ∧ HR G' w C' ((H.modify id2 fun o => { gen := o.gen + 1, k := o.k, els := [] }).set id { o with els := o.els.set e ((o.els.getD e []).set c (.sl .any k xs)) }) ∧ VR G' w C' a v ∧
      Pd AnyId C H C' ((H.modify id2 fun o => { gen := o.gen + 1, k := o.k, els := [] }).set id { o with els := o.els.set e ((o.els.getD e []).set c (.sl .any k xs)) }) := by
  obtain ⟨l, hl⟩ := hl
  obtain ⟨b, cs, et, h1, h2, h3⟩ := hH.get_cell ho hl he hc
  rw [hcell] at h3
  obtain ⟨G', C', hev, hh, hvv, hp⟩ := freeze_sound hH h3 hr hb
  have ho' : (H.modify id2 fun o => { gen := o.gen + 1, k := o.k, els := [] })[id]? = some o := by
    rw [List.getElem?_modify]; simp [ho, Ne.symm hne]
  have hl' : C'.ι id = some l := (hev.cx id).2 (by rw [← hh.gen id o ho', ← hH.gen id o ho]) l hl
  refine ⟨G', C', hev, hh.set_cell ho' hl' h1 h2 hvv, hv.ev hev, by simp, fun j hj hs hi => ?_⟩
  obtain ⟨p1, p2, p3⟩ := hp.2 j hj hs hi
  have hne' : id ≠ j := fun e => by subst e; rw [hl] at hi; simp at hi
  exact ⟨p1, p2, by rw [List.getElem?_set_ne hne']; exact p3⟩
/-- A nil slice that lies in an object is made exclusive. -/
theorem vir_cell_sound (hH : HR G w C H) {id e c k0 : Nat} (k : Nat) {o : Ob} {a : AV} {v : Value} (ho : H[id]? = some o) (he : e < o.els.length) (hc : c < (o.els.getD e []).length)
    (hcell : (o.els.getD e []).getD c .skip = .sl .nil k0 []) (hv : VR G w C a v) (hl : ∃ l, C.ι id = some l) :
    ∃ G' C', Ev G w C G' w C' ∧ HR G' w C' (H.set id { o with els := o.els.set e ((o.els.getD e []).set c (.osl H.length 0 k 0 0)) } ++ [{ gen := 0, k := k, els := [] }]) ∧ VR G' w C' a v ∧
      Pd AnyId C H C' (H.set id { o with els := o.els.set e ((o.els.getD e []).set c (.osl H.length 0 k 0 0)) } ++ [{ gen := 0, k := k, els := [] }]) := by
  obtain ⟨l, hl⟩ := hl
  obtain ⟨b, cs, et, h1, h2, h3⟩ := hH.get_cell ho hl he hc
  rw [hcell] at h3
  obtain ⟨C', hev, hh, hvv, hp⟩ := vir_sound hH h3 k
  have hlt := heap_lt ho
  have ho' : (H ++ [({ gen := 0, k := k, els := [] } : Ob)])[id]? = some o := by rw [List.getElem?_append_left hlt]; exact ho
  have hl' : C'.ι id = some l := (hev.cx id).2 (by rw [← hh.gen id o ho', ← hH.gen id o ho]) l hl
  have hset : (H ++ [({ gen := 0, k := k, els := [] } : Ob)]).set id { o with els := o.els.set e ((o.els.getD e []).set c (.osl H.length 0 k 0 0)) } = H.set id { o with els := o.els.set e ((o.els.getD e []).set c (.osl H.length 0 k 0 0)) } ++ [{ gen := 0, k := k, els := [] }] := List.set_append_left _ _ hlt
  rw [← hset]
  refine ⟨G, C', hev, hh.set_cell ho' hl' h1 h2 hvv, hv.ev hev, by simp, fun j hj hs hi => ?_⟩
  obtain ⟨p1, p2, p3⟩ := hp.2 j hj hs hi
  have hne' : id ≠ j := fun e => by subst e; rw [hl] at hi; simp at hi
  exact ⟨p1, p2, by rw [List.getElem?_set_ne hne']; exact p3⟩
/-- The rows of object j are taken over by object id. -/
theorem steal_sound (hH : HR G w C H) {id j g gj k n : Nat} {o oj : Ob} {v : Value} (hne : id ≠ j) (ho : H[id]? = some o) (hoj : H[j]? = some oj) (hgo : o.gen = g) (hgj : oj.gen = gj) (hv : VR G w C (.osl j gj k 0 n) v) (hl : ∃ l, C.ι id = some l) :
    ∃ G' C', Ev G w C G' w C' ∧ HR G' w C' ((H.set id { oj with gen := g + 1 }).set j ⟨gj + 1, k, [], none⟩) ∧ VR G' w C' (.osl id (g + 1) k 0 n) v ∧ Pd AnyId C H C' ((H.set id { oj with gen := g + 1 }).set j ⟨gj + 1, k, [], none⟩) := by
  obtain ⟨l, hl⟩ := hl
  have hγ := hH.gen id o ho
  have hγj := hH.gen j oj hoj
  have hlt := heap_lt ho
  have hltj := heap_lt hoj
  obtain ⟨lj, hlj, hlk⟩ := osl_alive hv (by omega)
  have hC1 : ((C.lay id (C.ι j) (g + 1)).lay j none (gj + 1)).ι j = none := Cx.lay_ι ..
  have hC2 : ((C.lay id (C.ι j) (g + 1)).lay j none (gj + 1)).γ j = gj + 1 := Cx.lay_γ ..
  have hC3 : ((C.lay id (C.ι j) (g + 1)).lay j none (gj + 1)).ι id = some lj := by rw [(Cx.lay_ne _ _ _ _ hne).1, Cx.lay_ι, hlj]
  have hC4 : ((C.lay id (C.ι j) (g + 1)).lay j none (gj + 1)).γ id = g + 1 := by rw [(Cx.lay_ne _ _ _ _ hne).2, Cx.lay_γ]
  have hC5 : ∀ i, i ≠ id → i ≠ j → ((C.lay id (C.ι j) (g + 1)).lay j none (gj + 1)).ι i = C.ι i ∧ ((C.lay id (C.ι j) (g + 1)).lay j none (gj + 1)).γ i = C.γ i := fun i h1 h2 => by
    rw [(Cx.lay_ne _ _ _ _ h2).1, (Cx.lay_ne _ _ _ _ h2).2, (Cx.lay_ne _ _ _ _ h1).1, (Cx.lay_ne _ _ _ _ h1).2]; exact ⟨rfl, rfl⟩
  generalize (C.lay id (C.ι j) (g + 1)).lay j none (gj + 1) = C' at hC1 hC2 hC3 hC4 hC5
  have hcx : CxLe C C' := fun i => by
    by_cases h1 : i = id
    · subst h1; rw [hC4]; exact ⟨by omega, fun e => by omega⟩
    · by_cases h2 : i = j
      · subst h2; rw [hC2]; exact ⟨by omega, fun e => by omega⟩
      · rw [(hC5 i h1 h2).1, (hC5 i h1 h2).2]; exact ⟨Nat.le_refl _, fun _ l hl => hl⟩
  have hback : ∀ i m, C'.ι i = some m → ∃ i', C.ι i' = some m ∧ (i = id → i' = j) ∧ (i ≠ id → i' = i) ∧ i ≠ j := fun i m hm => by
    by_cases h2 : i = j
    · subst h2; rw [hC1] at hm; simp at hm
    · by_cases h1 : i = id
      · subst h1; rw [hC3] at hm; exact ⟨j, by rw [hlj]; exact hm, fun _ => rfl, fun h => absurd rfl h, h2⟩
      · rw [(hC5 i h1 h2).1] at hm; exact ⟨i, hm, fun h => absurd h h1, fun _ => rfl, h2⟩
  have hev : Ev G w C G w C' := ⟨rfl, rfl, rfl, Nat.le_refl _, fun _ h => h, fun _ _ => rfl, hcx, fun _ _ _ => rfl, fun _ h => .inl h, fun i m b hm hb => by
    obtain ⟨i', h1, _⟩ := hback i m hm
    exact .inl ⟨i', m, h1, hb⟩, fun _ => rfl⟩
  have hget1 : ((H.set id { oj with gen := g + 1 }).set j ⟨gj + 1, k, [], none⟩)[j]? = some ⟨gj + 1, k, [], none⟩ := List.getElem?_set_self (by simpa using hltj)
  have hget2 : ((H.set id { oj with gen := g + 1 }).set j ⟨gj + 1, k, [], none⟩)[id]? = some { oj with gen := g + 1 } := by rw [List.getElem?_set_ne (Ne.symm hne), List.getElem?_set_self hlt]
  have hget3 : ∀ i, i ≠ id → i ≠ j → ((H.set id { oj with gen := g + 1 }).set j ⟨gj + 1, k, [], none⟩)[i]? = H[i]? := fun i h1 h2 => by rw [List.getElem?_set_ne (Ne.symm h2), List.getElem?_set_ne (Ne.symm h1)]
  refine ⟨G, C', hev, ⟨fun i oi hi => ?_, fun i hi => ?_, fun i m b hm hb => ?_, fun i i2 m m2 b hi hi2 hb hb2 => ?_, fun i oi m hi hm => ?_, hH.gsz⟩, ?_, by simp, fun i hi hs hi0 => ?_⟩
  · by_cases h2 : i = j
    · subst h2; rw [hget1] at hi; simp at hi; subst hi; exact hC2.symm
    · by_cases h1 : i = id
      · subst h1; rw [hget2] at hi; simp at hi; subst hi; exact hC4.symm
      · rw [hget3 i h1 h2] at hi; rw [(hC5 i h1 h2).2]; exact hH.gen i oi hi
  · simp only [List.length_set] at hi
    have h1 : i ≠ id := by omega
    have h2 : i ≠ j := by omega
    rw [(hC5 i h1 h2).1, (hC5 i h1 h2).2]; exact hH.out i hi
  · obtain ⟨i', h1, _⟩ := hback i m hm
    exact hH.own i' m b h1 hb
  · obtain ⟨i', p1, p2, p3, p4⟩ := hback i m hi
    obtain ⟨i2', q1, q2, q3, q4⟩ := hback i2 m2 hi2
    have := hH.inj _ _ _ _ b p1 q1 hb hb2
    by_cases h1 : i = id <;> by_cases h2 : i2 = id
    · omega
    · have := p2 h1; have := q3 h2; omega
    · have := p3 h1; have := q2 h2; omega
    · have := p3 h1; have := q3 h2; omega
  · obtain ⟨i', p1, p2, p3, p4⟩ := hback i m hm
    by_cases h1 : i = id
    · have e := p2 h1
      subst e h1
      rw [hget2] at hi
      simp only [Option.some.injEq] at hi
      subst hi
      have := (hH.ob i' oj m hoj p1).ev hev (fun _ _ => rfl)
      exact ⟨this.k, this.rm, this.no, this.len, this.row, this.cells⟩
    · have e := p3 h1
      subst e
      rw [hget3 i' h1 p4] at hi
      exact (hH.ob i' oi m hi p1).ev hev (fun _ _ => rfl)
  · cases hv with
    | osl _ _ _ _ _ _ ad cap hnc hle hl2 =>
      refine .osl _ _ _ _ _ _ _ _ hnc (by omega) fun _ => ?_
      obtain ⟨l2, b, q1, q2⟩ := hl2 (by omega)
      rw [hlj] at q1
      simp only [Option.some.injEq] at q1
      subst q1
      exact ⟨lj, b, hC3, q2⟩
    | osl0 _ _ _ _ _ base hle hl2 =>
      refine .osl0 _ _ _ _ _ _ (by omega) fun _ => ?_
      obtain ⟨l2, q1, q2⟩ := hl2 (by omega)
      rw [hlj] at q1
      simp only [Option.some.injEq] at q1
      subst q1
      exact ⟨lj, hC3, q2⟩
  · have h1 : i ≠ id := fun e => by subst e; rw [hl] at hi0; simp at hi0
    have h2 : i ≠ j := fun e => by subst e; rw [hlj] at hi0; simp at hi0
    exact ⟨by rw [(hC5 i h1 h2).1]; exact hi0, (hC5 i h1 h2).2, hget3 i h1 h2⟩
end

/-- The number of an object among more of them. -/
def tauOf (ids : List Nat) (n : Nat) (i : Nat) : Nat := if i < ids.length then ids.getD i 0 else n + (i - ids.length)
def RenL (τ : Nat → Nat) : Heap → Heap → Prop
  | [], [] => True
  | o :: l, o' :: l' => o.ren τ = o' ∧ RenL τ l l'
  | _, _ => False
theorem RenL.get {τ : Nat → Nat} : ∀ {l l' : Heap}, RenL τ l l' → l.length = l'.length ∧ ∀ (i : Nat) (o : Ob), l[i]? = some o → l'[i]? = some (o.ren τ)
  | [], [], _ => ⟨rfl, fun i o h => by simp at h⟩
  | o :: l, o' :: l', h => by
    obtain ⟨h1, h2⟩ := RenL.get h.2
    refine ⟨by simp [h1], fun i oi hi => ?_⟩
    cases i with
    | zero => simp at hi; subst hi; simp [h.1]
    | succ i => simpa using h2 i oi (by simpa using hi)
def setAll (H : Heap) : List Nat → Heap → Heap
  | i :: ids, o :: os => setAll (H.set i o) ids os
  | _, _ => H
theorem setAll_len : ∀ (ids : List Nat) (os : Heap) (H : Heap), (setAll H ids os).length = H.length
  | [], _, H => by simp [setAll]
  | _ :: _, [], H => by simp [setAll]
  | i :: ids, o :: os, H => by rw [setAll, setAll_len ids os]; simp
theorem setAll_other : ∀ (ids : List Nat) (os : Heap) (H : Heap) (j : Nat), (∀ i ∈ ids, i ≠ j) → (setAll H ids os)[j]? = H[j]?
  | [], _, H, j, _ => by simp [setAll]
  | _ :: _, [], H, j, _ => by simp [setAll]
  | i :: ids, o :: os, H, j, h => by
    rw [setAll, setAll_other ids os _ j (fun i hi => h i (by simp [hi])), List.getElem?_set_ne (h i (by simp))]
def nodupB : List Nat → Bool
  | [] => true
  | i :: ids => !ids.contains i && nodupB ids
theorem setAll_get : ∀ (ids : List Nat) (os : Heap) (H : Heap), nodupB ids = true → (∀ i ∈ ids, i < H.length) → ids.length = os.length → ∀ (q : Nat) (o : Ob), os[q]? = some o → (setAll H ids os)[ids.getD q 0]? = some o
  | [], [], H, _, _, _, q, o, hq => by simp at hq
  | i :: ids, o :: os, H, hn, hlt, hlen, q, o', hq => by
    simp only [nodupB, Bool.and_eq_true, Bool.not_eq_true', List.contains_eq_mem, decide_eq_false_iff_not] at hn
    simp only [setAll]
    cases q with
    | zero =>
      simp at hq; subst hq
      simp only [List.getD_cons_zero]
      rw [setAll_other ids os _ i (fun j hj e => hn.1 (e ▸ hj)), List.getElem?_set_self (hlt i (by simp))]
    | succ q =>
      simp only [List.getD_cons_succ]
      exact setAll_get ids os _ hn.2 (fun j hj => by simpa using hlt j (by simp [hj])) (by simpa using hlen) q o' (by simpa using hq)
theorem nodup_get : ∀ (ids : List Nat), nodupB ids = true → ∀ i j, i < ids.length → j < ids.length → ids.getD i 0 = ids.getD j 0 → i = j
  | [], _, i, _, hi, _, _ => by simp at hi
  | a :: ids, hn, i, j, hi, hj, e => by
    simp only [nodupB, Bool.and_eq_true, Bool.not_eq_true', List.contains_eq_mem, decide_eq_false_iff_not] at hn
    have hmem : ∀ q, q < ids.length → ids.getD q 0 ∈ ids := fun q hq => by
      rw [List.getD_eq_getElem?_getD, List.getElem?_eq_getElem hq]; exact List.getElem_mem _
    cases i with
    | zero =>
      cases j with
      | zero => rfl
      | succ j => simp only [List.getD_cons_zero, List.getD_cons_succ] at e; exact absurd (e ▸ hmem j (by simpa using hj)) hn.1
    | succ i =>
      cases j with
      | zero => simp only [List.getD_cons_zero, List.getD_cons_succ] at e; exact absurd (e.symm ▸ hmem i (by simpa using hi)) hn.1
      | succ j => simp only [List.getD_cons_succ] at e; rw [nodup_get ids hn.2 i j (by simpa using hi) (by simpa using hj) e]
theorem Ob.ren0 {τ : Nat → Nat} {o : Ob} (h : AV.bddss 0 o.els = true) : o.ren τ = o := Ob.ren_fix (fun i hi => absurd hi (Nat.not_lt_zero i)) o h
/-- A call over objects Hs is known of objects that lie at ids among Hb. -/
theorem ACalls.put {P : Program} {f : FuncId} {args args' : List AV} {a a' : AV} {Hs H1 N Hb Hg H1' N' : Heap} (ids : List Nat) (h : ACalls P f args Hs (a, H1 ++ N)) (hids : (nodupB ids && ids.all (fun i => decide (i < Hb.length))) = true)
    (hlen : ids.length = Hs.length) (hn : H1.length = Hs.length) (hargs : AV.bdds Hs.length args = true) (hbs : obsB Hs.length Hs = true) (hg : (ids.map fun i => Hb.getD i default) = Hg) (hget : RenL (tauOf ids Hb.length) Hs Hg)
    (h1 : RenL (tauOf ids Hb.length) H1 H1') (h2 : RenL (tauOf ids Hb.length) N N') (ha : AV.rens (tauOf ids Hb.length) args = args') (hr : a.ren (tauOf ids Hb.length) = a') : ACalls P f args' Hb (a', setAll Hb ids H1' ++ N') := by
  simp only [Bool.and_eq_true, List.all_eq_true, decide_eq_true_eq] at hids
  obtain ⟨hnd, hlt⟩ := hids
  subst ha hr hg
  have hτ : ∀ i, i < Hs.length → tauOf ids Hb.length i = ids.getD i 0 := fun i hi => by simp [tauOf, hlen, hi]
  have hτ2 : ∀ i, Hs.length ≤ i → tauOf ids Hb.length i = Hb.length + (i - Hs.length) := fun i hi => by
    have : ¬ i < Hs.length := by omega
    simp [tauOf, hlen, this]
  have hmem : ∀ q, q < Hs.length → ids.getD q 0 ∈ ids := fun q hq => by
    rw [List.getD_eq_getElem?_getD, List.getElem?_eq_getElem (by omega)]; exact List.getElem_mem _
  obtain ⟨g1, g2⟩ := hget.get
  obtain ⟨p1, p2⟩ := h1.get
  obtain ⟨n1, n2⟩ := h2.get
  refine h.frame (τ := tauOf ids Hb.length) (Hb := Hb) (Hb' := setAll Hb ids H1' ++ N') ⟨fun i hi => by rw [hτ i hi]; exact hlt _ (hmem i hi), hτ2, fun i j hi hj e => by
      rw [hτ i hi, hτ j hj] at e; exact nodup_get ids hnd i j (by omega) (by omega) e, fun i o ho => ?_⟩ hargs (fun i o ho => obsB_get hbs ho) (by simp [setAll_len, hn, n1]) (fun i o ho => ?_) fun j hj hj2 => ?_
  · have hi := heap_lt ho
    rw [hτ i hi]
    have := g2 i o ho
    rw [List.getElem?_map] at this
    have hi' : i < ids.length := by omega
    rw [List.getElem?_eq_getElem hi'] at this
    simp only [Option.map_some, Option.some.injEq] at this
    have hlt' := hlt _ (List.getElem_mem hi')
    rw [List.getD_eq_getElem?_getD (l := ids), List.getElem?_eq_getElem hi', Option.getD_some, ← this, List.getD_eq_getElem?_getD, List.getElem?_eq_getElem hlt', Option.getD_some]
  · rcases Nat.lt_or_ge i H1.length with hi | hi
    · rw [List.getElem?_append_left hi] at ho
      rw [hτ i (by omega), List.getElem?_append_left (by rw [setAll_len]; exact hlt _ (hmem i (by omega)))]
      exact setAll_get ids H1' Hb hnd hlt (by omega) i _ (p2 i o ho)
    · rw [List.getElem?_append_right hi] at ho
      rw [hτ2 i (by omega), List.getElem?_append_right (by rw [setAll_len]; omega), setAll_len]
      have : Hb.length + (i - Hs.length) - Hb.length = i - H1.length := by omega
      rw [this]
      exact n2 _ o ho
  · rw [List.getElem?_append_left (by rw [setAll_len]; exact hj)]
    refine setAll_other ids H1' Hb j fun i hi e => ?_
    obtain ⟨q, hq, e2⟩ := List.getElem_of_mem hi
    refine hj2 q (by omega) ?_
    rw [hτ q (by omega), List.getD_eq_getElem?_getD, List.getElem?_eq_getElem hq, Option.getD_some, e2, e]
end Go.Proofs.Ytpkgpldgoajphaa.AM

set_option linter.unusedVariables false
set_option linter.unusedSimpArgs false
namespace Go.Proofs.Ytpkgpldgoajphaa.AM
open Go

/-- Where how much room there is is not told, a slice may be cut up to the rows that are there. -/
theorem ssem_sliceR {P : Program} {F : Fr} {H : Heap} {dst : Option Tmp} {x y : Operand} {lo : Option Operand} {t e0 : TypeId} {type : TypeId} {pos : String} {after : Array Edge} {guard : Option (Nat × Bool)} {id g k e n l h : Nat} {els : List (List AV)} {room : Option Nat}
    (ht : P.underlying t = some (.slice e0)) (hk : ∀ w : World, (Go.sizeOf e0).run P w = .ok k w) (hx : opv F x = some (.osl id g k e n)) (ho : H[id]? = some ⟨g, k, els, room⟩)
    (hlo : optInt F lo 0 = some (l : Int)) (hhi : optInt F (some y) 0 = some (h : Int)) (h1 : l ≤ h) (h2 : e + h ≤ els.length) :
    SSem P F H ⟨dst, .slice t x lo (some y) none, type, pos, after, guard⟩ (.osl id g k (e + l) (h - l), H) := by
  intro G w C f hf hH
  have hv := hf x (by simp [Op.operands]) _ hx
  have hgen : g = C.γ id := hH.gen id _ ho
  have hl := optInt_f (G := G) (w := w) (C := C) (f := f) hlo fun z hz a ha => hf z (by simp [Op.operands, hz]) a ha
  have hh := optInt_f (G := G) (w := w) (C := C) (f := f) hhi fun z hz a ha => hf z (by simp [Op.operands]; simp at hz; simp [hz]) a ha
  have hb : ∀ len cap : Nat, h ≤ cap → (Instr.sliceBounds true len cap (lo.map f) (some (f y)) none).run P w = .ok (l, h, cap) w := by
    intro len cap hc
    rcases hh with ⟨hh, _⟩ | ⟨z, kz, hz, hfz⟩
    · simp at hh
    · simp only [Option.some.injEq] at hz
      subst hz
      rcases hl with ⟨rfl, h0⟩ | ⟨z, kz', rfl, hz⟩
      · have : l = 0 := by omega
        subst this
        simp [Instr.sliceBounds, hfz, run_sliceBound, hc]
      · simp [Instr.sliceBounds, hz, hfz, run_sliceBound, hc, h1]
  generalize hu : f x = u at hv
  cases hv with
  | osl _ _ _ _ _ _ ad cap hnc hle hl' =>
    obtain ⟨L, b, hι, hLb, hLk, hen, hcap, had⟩ := hl' hgen
    have hrm := (hH.ob id _ L ho hι).len
    simp only at hrm
    have hr : (Instr.sliceAt t (f x) (lo.map f) (some (f y)) none).run P w = .ok (.slice (if cap = l then some ad else (some ad).map (·.add (l * k))) (h - l) (cap - l)) w := by
      rw [hu]
      simp only [Instr.sliceAt, Instr.slice, Sem.run_bind, run_underlying ht, Result.andThen_ok]
      rw [hb n cap (by omega)]
      simp only [Result.andThen_ok, hk w, Sem.run_pure, Sem.run_bind]
    refine ⟨.slice (if cap = l then some ad else (some ad).map (·.add (l * k))) (h - l) (cap - l), w, ?_, G, C, Ev.refl .., hH, ?_, Pd.refl⟩
    · simp only [execOp, Option.map_some, Option.map_none, Sem.run_bind, hr, Result.andThen_ok, Sem.run_pure]
    · have hif : (if cap = l then some ad else (some ad).map (·.add (l * k))) = some (if cap = l then ad else ad.add (l * k)) := by split <;> rfl
      rw [hif]
      refine .osl _ _ _ _ _ _ _ _ (by omega) hle fun hg => ?_
      refine ⟨L, b, hι, hLb, hLk, by omega, by omega, fun hlt => ?_⟩
      rw [if_neg (by omega), had (by omega), add_addr, Nat.add_assoc, ← Nat.add_mul]
  | osl0 _ _ _ _ _ base hle hl' =>
    obtain ⟨L, hι, hLb, hLk⟩ := hl' hgen
    have hob := hH.ob id _ L ho hι
    have h4 := hob.no hLb
    have h5 := hob.len
    simp only at h5
    have hl0 : l = 0 := by omega
    have hh0 : h = 0 := by omega
    have hr : (Instr.sliceAt t (f x) (lo.map f) (some (f y)) none).run P w = .ok (.slice base 0 0) w := by
      rw [hu]
      simp only [Instr.sliceAt, Instr.slice, Sem.run_bind, run_underlying ht, Result.andThen_ok]
      rw [hb 0 0 (by omega)]
      simp [hk w, hl0, hh0]
    subst hl0; subst hh0
    refine ⟨.slice base 0 0, w, ?_, G, C, Ev.refl .., hH, .osl0 _ _ _ _ _ base hle hl', Pd.refl⟩
    simp only [execOp, Option.map_some, Option.map_none, Sem.run_bind, hr, Result.andThen_ok, Sem.run_pure]

/-- A copy whose source is longer than its target: the first rows are laid. -/
theorem ssem_copyN {P : Program} {F : Fr} {H : Heap} {dst : Option Tmp} {x y : Operand} {t t' e0 : TypeId} {type : TypeId} {pos : String} {after : Array Edge} {guard : Option (Nat × Bool)} {id g k e n id2 g2 e2 n2 : Nat} {els els2 : List (List AV)} {room room2 : Option Nat}
    (ht : P.underlying t = some (.slice e0)) (hk : ∀ w : World, (Go.sizeOf e0).run P w = .ok k w) (hx : opv F x = some (.osl id g k e n)) (ho : H[id]? = some ⟨g, k, els, room⟩) (hy : opv F y = some (.osl id2 g2 k e2 n2)) (ho2 : H[id2]? = some ⟨g2, k, els2, room2⟩)
    (h0 : 0 < n) (hn : n ≤ n2) (he : e ≤ els.length) (he2 : e2 + n ≤ els2.length) :
    SSem P F H ⟨dst, .call { callee := .builtin .copy, args := #[x, y], argTypes := #[t, t'] }, type, pos, after, guard⟩ (.int .i64 (n : Int), H.set id ⟨g, k, els.take e ++ (els2.drop e2).take n ++ els.drop (e + n), room⟩) := by
  intro G w C f hf hH
  have hv := hf x (by simp [Op.operands, Call.operands]) _ hx
  have hvs := hf y (by simp [Op.operands, Call.operands]) _ hy
  have hgen : g = C.γ id := hH.gen id _ ho
  have hgen2 : g2 = C.γ id2 := hH.gen id2 _ ho2
  have hnl : ((els2.drop e2).take n).length = n := by simp; omega
  generalize hu2 : f y = u2 at hvs
  cases hvs with
  | osl0 => omega
  | osl _ _ _ _ _ _ ad2 cap2 hnc2 hle2 hl2 =>
  have hvs' : VR G w C (.osl id2 g2 k e2 n) (.slice (some ad2) n cap2) := .osl _ _ _ _ _ _ _ _ (by omega) hle2 fun hg => by
    obtain ⟨l, b, q1, q2, q3, q4, q5⟩ := hl2 hg
    exact ⟨l, b, q1, q2, q3, by omega, q5⟩
  obtain ⟨nv, hsrc⟩ := rowsIn_src (P := P) (k := k) (xs := (els2.drop e2).take n) hH hvs' (by simp [rowsIn, ho2, he2])
  generalize hu : f x = u at hv
  cases hv with
  | osl0 => omega
  | osl _ _ _ _ _ _ ad cap hnc hle h =>
    obtain ⟨l, bb, hι, hlb, hlk, hen, hcap, had⟩ := h hgen
    have had' := had (by omega)
    subst had'
    have hob := hH.ob id _ l ho hι
    obtain ⟨cur, et, hcur, hcsz, _⟩ := hob.cells bb hlb
    obtain ⟨h1, h2⟩ := place_sound hH ho hι hlb hlk hsrc.length hsrc.row hsrc.rel he (by omega) hcur
    rw [hnl] at h2
    have hm : (e + n) * l.k ≤ l.room * l.k := Nat.mul_le_mul_right _ (by omega)
    rw [Nat.add_mul] at hm
    have hnvl : nv.length = n * l.k := by rw [hsrc.length, hlk, hnl]
    have hst := run_storeCells_at P bb (l.sh + e * k) et nv 0 cur w hcur (by rw [← hlk]; simp; omega) hsrc.oneCell
    simp only [Nat.add_zero] at hst
    have hmin : Nat.min n2 n = n := Nat.min_eq_right hn
    have hfc : (Builtin.firstCells k n (.slice (some ad2) n2 cap2)).run P w = .ok nv.toArray w := by
      have := hsrc.cells w rfl
      rw [hnl] at this
      exact this
    have hr : (Builtin.copy_ #[t, t'] type #[f x, f y]).run P w = .ok (.int .i64 (n : Int)) (w.setRow bb (cur.toList.take (l.sh + e * l.k) ++ nv ++ cur.toList.drop (l.sh + e * l.k + nv.length)).toArray) := by
      rw [hu, hu2, hlk]
      simp [Builtin.copy_, run_underlying ht, Builtin.lenOf, hmin, hk w, hfc, hst, goInt]
    refine ⟨_, _, ?_, G, C, h1, h2, .int .., ?_⟩
    · simp [execOp, resolve, invoke, builtin, hr]
    · refine ⟨by simp, fun j hj _ hιj => ⟨hιj, rfl, ?_⟩⟩
      have hne : id ≠ j := fun e' => by subst e'; rw [hι] at hιj; simp at hιj
      exact List.getElem?_set_ne hne

theorem run_overlaps_b {P : Program} (w : World) (tS tR e : TypeId) (ht : P.underlying tS = some (.slice e)) (size : Nat) (hz : ∀ w, (Go.sizeOf e).run P w = .ok size w)
    (a b : Addr) (la ca lb cb : Nat) (hne : a.block ≠ b.block) (tA tB : TypeId) (kA kB : Nat)
    (hsa : w.shape? a.block = some (tA, kA)) (hsb : w.shape? b.block = some (tB, kB)) (hkB : kB ≠ 0) (hkA : kA ≠ 0)
    (hfb : w.frozen? b = false) (hfe : w.frozen? { block := b.block, off := kB } = false) :
    (Extern.SlicesOverlaps.overlaps #[tS, tS] #[tR] #[.slice (some a) la ca, .slice (some b) lb cb]).run P w = .ok (.bool false) w := by
  have hnb : (a.block != b.block) = true := by simpa using hne
  have hnb' : (a.block == b.block) = false := by simpa using hne
  change Sem.run P (α := Value) (do
    let some t := (#[tS, tS] : Array TypeId)[0]? | stuck "slices.overlaps: no parameter types"
    let .slice elem ← underlying t | stuck "slices.overlaps: slice type expected"
    let size ← Go.sizeOf elem
    match (some a : Option Addr), (some b : Option Addr) with
    | some a, some b =>
      if la = 0 ∨ lb = 0 ∨ size = 0 then pure (Value.bool false)
      else if a.block != b.block && (← frozen a) && (← frozen b) then unsupported .addressObserved
      else do
        if a.block != b.block then do
          noView a; noView b
          if ← mayBeOne a b then return Value.bool ((← choose (.extern "sameAddr.stringBytes" 2)) == 1)
        pure (Value.bool (a.block == b.block && a.off < b.off + lb * size && b.off < a.off + la * size))
    | _, _ => pure (Value.bool false)) w = _
  by_cases h0 : la = 0 ∨ lb = 0 ∨ size = 0
  · simp [run_underlying ht, hz, h0]
  · cases kB with
    | zero => exact absurd rfl hkB
    | succ kB =>
      cases kA with
      | zero => exact absurd rfl hkA
      | succ kA =>
      cases hfa : w.frozen? a <;> cases hfa2 : w.frozen? { block := a.block, off := kA + 1 } <;>
      simp [run_underlying ht, hz, h0, hnb, hnb', frozen, noView, viewAt, mayBeOne, stringish, shape, Sem.run, hsa, hsb, hfb, hfe, hfa, hfa2]
/-- Immutable rows and exclusive ones do not overlap. -/
theorem acalls_overlaps {P : Program} {f : FuncId} {tS tR e0 : TypeId} {k : Nat} (hc : ∀ vs w, (callFunc f vs).run P w = ((Extern.SlicesOverlaps.overlaps #[tS, tS] #[tR] vs).run P w).andThen fun v w' => .ok (.value v) w')
    (ht : P.underlying tS = some (.slice e0)) (hk : ∀ w : World, (Go.sizeOf e0).run P w = .ok k w) (hk0 : 0 < k) {tg : Tg} {rows : List (List AV)} {id g e n : Nat} {H : Heap} {o : Ob} (ho : H[id]? = some o) (hg : o.gen = g) :
    ACalls P f [.sl tg k rows, .osl id g k e n] H (.bool false, H) := by
  intro G w C vs hsz hargs hH
  have h0 := hargs 0 (by simp)
  have h1 := hargs 1 (by simp)
  have hvs : vs = #[vs.getD 0 undef, vs.getD 1 undef] := by
    have hs2 : vs.size = 2 := by simpa using hsz
    apply Array.ext
    · simp [hs2]
    · intro i hi1 hi2
      rcases i with _ | _ | i
      · simp [Array.getD_eq_getD_getElem?, hs2]
      · simp [Array.getD_eq_getD_getElem?, hs2]
      · omega
  simp only [List.getD_cons_zero, List.getD_cons_succ] at h0 h1
  generalize vs.getD 0 undef = v0 at h0 hvs
  generalize vs.getD 1 undef = v1 at h1 hvs
  subst hvs
  have hdone : (Extern.SlicesOverlaps.overlaps #[tS, tS] #[tR] #[v0, v1]).run P w = .ok (.bool false) w → FCalls P f #[v0, v1] w (After G w C H (.bool false, H)) := fun hr => by
    unfold FCalls
    have := hc #[v0, v1] w
    rw [this]
    rw [hr, Result.andThen_ok]
    exact ⟨G, C, Ev.refl .., hH, .bool .., Pd.refl⟩
  apply hdone
  have hgen : g = C.γ id := by rw [← hg]; exact hH.gen id o ho
  have hsome : ∀ (a : Option Addr) la ca (b : Option Addr) lb cb, (a = none ∨ b = none ∨ la = 0 ∨ lb = 0) → (Extern.SlicesOverlaps.overlaps #[tS, tS] #[tR] #[.slice a la ca, .slice b lb cb]).run P w = .ok (.bool false) w := by
    intro a la ca b lb cb h
    change Sem.run P (α := Value) (do
      let some t := (#[tS, tS] : Array TypeId)[0]? | stuck "slices.overlaps: no parameter types"
      let .slice elem ← underlying t | stuck "slices.overlaps: slice type expected"
      let size ← Go.sizeOf elem
      match (a : Option Addr), (b : Option Addr) with
      | some a, some b =>
        if la = 0 ∨ lb = 0 ∨ size = 0 then pure (Value.bool false)
        else if a.block != b.block && (← frozen a) && (← frozen b) then unsupported .addressObserved
        else do
          if a.block != b.block then do
            noView a; noView b
            if ← mayBeOne a b then return Value.bool ((← choose (.extern "sameAddr.stringBytes" 2)) == 1)
          pure (Value.bool (a.block == b.block && a.off < b.off + lb * size && b.off < a.off + la * size))
      | _, _ => pure (Value.bool false)) w = _
    cases a <;> cases b <;> simp [run_underlying ht, hk w]
    intro h1 h2 h3
    rcases h with h | h | h | h
    · simp at h
    · simp at h
    · exact absurd h h1
    · exact absurd h h2
  generalize hu0 : v0 = u0 at h0
  cases h0 with
  | nils => 
    cases h1 with
    | osl => subst hu0; exact hsome _ _ _ _ _ _ (.inl rfl)
    | osl0 => subst hu0; exact hsome _ _ _ _ _ _ (.inl rfl)
  | sl _ _ _ _ ad cap htg hclip hle hs cv hkl hcl h1' hv =>
    subst hu0
    cases h1 with
    | osl0 => exact hsome _ _ _ _ _ _ (.inr (.inr (.inr rfl)))
    | osl _ _ _ _ _ _ ad2 cap2 hnc hle2 hl2 =>
      by_cases hr0 : rows.length = 0
      · exact hsome _ _ _ _ _ _ (.inr (.inr (.inl hr0)))
      by_cases hn0 : n = 0
      · exact hsome _ _ _ _ _ _ (.inr (.inr (.inr hn0)))
      obtain ⟨l, b, hι, hlb, hlk, hen, hcap, had⟩ := hl2 hgen
      have had' := had (by omega)
      have hne : rows ≠ [] := fun e => by simp [e] at hr0
      obtain ⟨hsp, hG⟩ := hs hne
      have hcell := hcl 0 0 (by omega) hk0
      obtain ⟨cs, et, hcs, hcsz, _⟩ := (hH.ob id o l ho hι).cells b hlb
      have hbG := (hH.own id l b hι hlb).2
      have hm : (e + n) * l.k ≤ l.room * l.k := Nat.mul_le_mul_right _ hen
      have hm2 : 1 * l.k ≤ (e + n) * l.k := Nat.mul_le_mul_right _ (by omega)
      have hsa : ∃ tA kA, w.shape? ad.block = some (tA, kA) ∧ kA ≠ 0 := by
        unfold World.cell? at hcell
        unfold World.shape?
        split at hcell
        · rename_i c t fr hw
          refine ⟨t, c.size, by simp only at hw; rw [hw], fun e0 => ?_⟩
          have : c = #[] := Array.eq_empty_of_size_eq_zero e0
          simp [this] at hcell
        · simp at hcell
      obtain ⟨tA, kA, hsa, hkA⟩ := hsa
      have hb2 : ad2.block = b := by rw [had']
      refine run_overlaps_b w tS tR e0 ht k hk ad ad2 _ _ _ _ (fun e' => ?_) tA et kA cs.size hsa (by rw [hb2]; simp [World.shape?, hcs]) (by omega) hkA (by simp [World.frozen?, hb2, hcs]) (by simp [World.frozen?, hb2, hcs])
      rw [hb2] at e'
      exact hbG (e' ▸ hG)
end Go.Proofs.Ytpkgpldgoajphaa.AM

set_option linter.unusedVariables false
set_option linter.unusedSimpArgs false
namespace Go.Proofs.Ytpkgpldgoajphaa.AM
open Go

def regsOf : Code → Nat → Option (Array Oper)
  | .region id ops _, r => bif Nat.beq id r then some ops else none
  | .seq a b, r => match regsOf a r with
    | some x => some x
    | none => regsOf b r
  | .cond _ a b, r => match regsOf a r with
    | some x => some x
    | none => regsOf b r
  | .block _ c, r => regsOf c r
  | .loop c, r => regsOf c r
  | _, _ => none
def opIn (fn : Func) (r i : Nat) : Oper := match (fn.body.bind (regsOf · r)).bind (·[i]?) with
  | some o => o
  | none => ⟨none, .move (.tmp 0), 0, "", #[], none⟩
/-- The operation's arguments. -/
def argO (o : Oper) (i : Nat) : Operand := match o.op with
  | .call c => c.args.getD i (.tmp 0)
  | .slice _ x _ _ _ => x
  | _ => .tmp 0
def loO (o : Oper) : Option Operand := match o.op with
  | .slice _ _ lo _ _ => lo
  | _ => none
def hiO (o : Oper) : Operand := match o.op with
  | .slice _ _ _ (some hi) _ => hi
  | _ => .tmp 0
def mxO (o : Oper) : Operand := match o.op with
  | .slice _ _ _ _ (some m) => m
  | _ => .tmp 0

section
variable {P : Program} {X : Env} {F : Fr} {H H2 : Heap} {ar : Nat} {o : Oper} {a : AV}
theorem Sat.sem (hs : isSem X o = true) (h : SSem P F H o (a, H2)) : Sat P X F H ar o a H2 := by
  unfold Sat
  rw [hs]
  exact .inl h
theorem tok_slice {T : TT} (hT : TOk P T) {t e : TypeId} {ti : TI} (ht : T t = some ti) (hd : ti.d = .slice e) : P.underlying t = some (.slice e) := by
  have := (hT t ti ht).und
  rw [hd] at this
  exact this
theorem tok_int {T : TT} (hT : TOk P T) {t : TypeId} {ti : TI} {k : IntKind} (ht : T t = some ti) (hd : ti.d = .int k) : P.underlying t = some (.int k) := by
  have := (hT t ti ht).und
  rw [hd] at this
  exact this
theorem one_of_scalar {v : Value} {a : AV} (h : ofScalar v = some a) : v.oneCell' = true := by
  unfold ofScalar at h
  split at h <;> first | rfl | simp at h
theorem one_of_scalars : ∀ {vs : List Value} {as_ : List AV}, ofScalars vs = some as_ → ∀ v ∈ vs, v.oneCell' = true
  | [], _, _, v, hv => by simp at hv
  | x :: xs, as_, h, v, hv => by
    simp only [ofScalars] at h
    split at h
    · rename_i a l h1 h2
      simp only [List.mem_cons] at hv
      rcases hv with rfl | hv
      · exact one_of_scalar h1
      · exact one_of_scalars h2 v hv
    · simp at h
theorem scalars_len : ∀ {vs : List Value} {as_ : List AV}, ofScalars vs = some as_ → vs.length = as_.length
  | [], as_, h => by simp [ofScalars] at h; subst h; rfl
  | x :: xs, as_, h => by
    simp only [ofScalars] at h
    split at h
    · rename_i a l h1 h2
      simp only [Option.some.injEq] at h
      subst h
      simp [scalars_len h2]
    · simp at h

theorem sat_copy (hT : TOk P X.T) {t t' e0 : TypeId} {ti te : TI} (hop : o.op = .call { callee := .builtin .copy, args := #[argO o 0, argO o 1], argTypes := #[t, t'] }) (hsem : isSem X o = true) (ht : X.T t = some ti) (htd : ti.d = .slice e0) (hte : X.T e0 = some te)
    {id g k e n : Nat} {els new els' : List (List AV)} {room : Option Nat} {s : AV} {c : Int} (hk : te.size = k) (hx : opv F (argO o 0) = some (.osl id g k e n)) (ho : H[id]? = some ⟨g, k, els, room⟩) (hy : opv F (argO o 1) = some s) (hs : rowsIn H k s = some new)
    (h0 : 0 < new.length) (hn : new.length ≤ n) (he : e ≤ els.length) (hels : els.take e ++ new ++ els.drop (e + new.length) = els') (hc : c = (new.length : Int)) (hH : H.set id ⟨g, k, els', room⟩ = H2) : Sat P X F H ar o (.int .i64 c) H2 := by
  refine Sat.sem hsem ?_
  subst hH hels hc hk
  obtain ⟨dst, op, type, pos, after, guard⟩ := o
  simp only at hop
  generalize argO _ 0 = x at hop hx
  generalize argO _ 1 = y at hop hy
  subst hop
  exact ssem_copy (tok_slice hT ht htd) (fun w => (hT _ _ hte).sizeOf w) hx ho hy hs h0 hn he
theorem sat_copyN (hT : TOk P X.T) {t t' e0 : TypeId} {ti te : TI} (hop : o.op = .call { callee := .builtin .copy, args := #[argO o 0, argO o 1], argTypes := #[t, t'] }) (hsem : isSem X o = true) (ht : X.T t = some ti) (htd : ti.d = .slice e0) (hte : X.T e0 = some te)
    {id g k e n id2 g2 e2 n2 : Nat} {els els2 els' : List (List AV)} {room room2 : Option Nat} {c : Int} (hk : te.size = k) (hx : opv F (argO o 0) = some (.osl id g k e n)) (ho : H[id]? = some ⟨g, k, els, room⟩) (hy : opv F (argO o 1) = some (.osl id2 g2 k e2 n2)) (ho2 : H[id2]? = some ⟨g2, k, els2, room2⟩)
    (h0 : 0 < n) (hn : n ≤ n2) (he : e ≤ els.length) (he2 : e2 + n ≤ els2.length) (hels : els.take e ++ (els2.drop e2).take n ++ els.drop (e + n) = els') (hc : c = (n : Int)) (hH : H.set id ⟨g, k, els', room⟩ = H2) : Sat P X F H ar o (.int .i64 c) H2 := by
  refine Sat.sem hsem ?_
  subst hH hels hc hk
  obtain ⟨dst, op, type, pos, after, guard⟩ := o
  simp only at hop
  generalize argO _ 0 = x at hop hx
  generalize argO _ 1 = y at hop hy
  subst hop
  exact ssem_copyN (tok_slice hT ht htd) (fun w => (hT _ _ hte).sizeOf w) hx ho hy ho2 h0 hn he he2
theorem sat_cap (hT : TOk P X.T) {t e0 : TypeId} {ti : TI} (hop : o.op = .call { callee := .builtin .cap, args := #[argO o 0], argTypes := #[t] }) (hsem : isSem X o = true) (ht : X.T t = some ti) (htd : ti.d = .slice e0)
    {id g k e n r : Nat} {els : List (List AV)} {c : Int} (hx : opv F (argO o 0) = some (.osl id g k e n)) (ho : H[id]? = some ⟨g, k, els, some r⟩) (hc : c = ((r - e : Nat) : Int)) : Sat P X F H ar o (.int .i64 c) H := by
  refine Sat.sem hsem ?_
  subst hc
  obtain ⟨dst, op, type, pos, after, guard⟩ := o
  simp only at hop
  generalize argO _ 0 = x at hop hx
  subst hop
  exact ssem_cap (tok_slice hT ht htd) hx ho
theorem sat_clear (hT : TOk P X.T) {t e0 : TypeId} {ti te : TI} (hop : o.op = .call { callee := .builtin .clear, args := #[argO o 0], argTypes := #[t] }) (hsem : isSem X o = true) (ht : X.T t = some ti) (htd : ti.d = .slice e0) (hte : X.T e0 = some te)
    {id g k e n : Nat} {els els' : List (List AV)} {room : Option Nat} (hk : te.size = k) (hk0 : 0 < k) (hx : opv F (argO o 0) = some (.osl id g k e n)) (ho : H[id]? = some ⟨g, k, els, room⟩)
    (h0 : 0 < n) (he : e ≤ els.length) (hels : els.take e ++ List.replicate n (List.replicate k .unk) ++ els.drop (e + n) = els') (hH : H.set id ⟨g, k, els', room⟩ = H2) : Sat P X F H ar o .unk H2 := by
  refine Sat.sem hsem ?_
  subst hH hels hk
  obtain ⟨dst, op, type, pos, after, guard⟩ := o
  simp only at hop
  generalize argO _ 0 = x at hop hx
  subst hop
  obtain ⟨i, hi, hsz, hby, z, hz, hzs, hzl, hza⟩ := (hT _ _ hte).info
  refine ssem_clear (tok_slice hT ht htd) (z := z) (fun w => by simp [zeroValue, typeInfo, hi, hz]) (by have := scalars_len hzs; simp at this; omega) (one_of_scalars hzs) hk0 hx ho h0 he
theorem sat_slice (hT : TOk P X.T) {t e0 : TypeId} {ti te : TI} (hop : o.op = .slice t (argO o 0) (loO o) (some (hiO o)) none) (hsem : isSem X o = true) (ht : X.T t = some ti) (htd : ti.d = .slice e0) (hte : X.T e0 = some te)
    {id g k e n r l h e' n' : Nat} {els : List (List AV)} (hk : te.size = k) (hx : opv F (argO o 0) = some (.osl id g k e n)) (ho : H[id]? = some ⟨g, k, els, some r⟩) (hlo : optInt F (loO o) 0 = some (l : Int)) (hhi : optInt F (some (hiO o)) 0 = some (h : Int)) (h1 : l ≤ h) (h2 : e + h ≤ r) (he' : e' = e + l) (hn' : n' = h - l) :
    Sat P X F H ar o (.osl id g k e' n') H := by
  refine Sat.sem hsem ?_
  subst hk he' hn'
  obtain ⟨dst, op, type, pos, after, guard⟩ := o
  simp only at hop
  generalize argO _ 0 = x at hop hx
  generalize loO _ = lo at hop hlo
  generalize hiO _ = hi at hop hhi
  subst hop
  exact ssem_slice (tok_slice hT ht htd) (fun w => (hT _ _ hte).sizeOf w) hx ho hlo hhi h1 h2
theorem sat_sliceR (hT : TOk P X.T) {t e0 : TypeId} {ti te : TI} (hop : o.op = .slice t (argO o 0) (loO o) (some (hiO o)) none) (hsem : isSem X o = true) (ht : X.T t = some ti) (htd : ti.d = .slice e0) (hte : X.T e0 = some te)
    {id g k e n l h e' n' : Nat} {els : List (List AV)} {room : Option Nat} (hk : te.size = k) (hx : opv F (argO o 0) = some (.osl id g k e n)) (ho : H[id]? = some ⟨g, k, els, room⟩) (hlo : optInt F (loO o) 0 = some (l : Int)) (hhi : optInt F (some (hiO o)) 0 = some (h : Int)) (h1 : l ≤ h) (h2 : e + h ≤ els.length) (he' : e' = e + l) (hn' : n' = h - l) :
    Sat P X F H ar o (.osl id g k e' n') H := by
  refine Sat.sem hsem ?_
  subst hk he' hn'
  obtain ⟨dst, op, type, pos, after, guard⟩ := o
  simp only at hop
  generalize argO _ 0 = x at hop hx
  generalize loO _ = lo at hop hlo
  generalize hiO _ = hi at hop hhi
  subst hop
  exact ssem_sliceR (tok_slice hT ht htd) (fun w => (hT _ _ hte).sizeOf w) hx ho hlo hhi h1 h2
theorem sat_slice3 (hT : TOk P X.T) {t e0 : TypeId} {ti te : TI} (hop : o.op = .slice t (argO o 0) (loO o) (some (hiO o)) (some (mxO o))) (hsem : isSem X o = true) (ht : X.T t = some ti) (htd : ti.d = .slice e0) (hte : X.T e0 = some te)
    {id g k e n l h c : Nat} (hk : te.size = k) (hx : opv F (argO o 0) = some (.osl id g k e n)) (hlo : optInt F (loO o) 0 = some (l : Int)) (hhi : optInt F (some (hiO o)) 0 = some (h : Int)) (hmx : optInt F (some (mxO o)) 0 = some (c : Int)) (h1 : l ≤ h) (h2 : h ≤ c) (h3 : c ≤ n) :
    Sat P X F H ar o .unk H := by
  refine Sat.sem hsem ?_
  subst hk
  obtain ⟨dst, op, type, pos, after, guard⟩ := o
  simp only at hop
  generalize argO _ 0 = x at hop hx
  generalize loO _ = lo at hop hlo
  generalize hiO _ = hi at hop hhi
  generalize mxO _ = mx at hop hmx
  subst hop
  exact ssem_slice3 (tok_slice hT ht htd) (fun w => (hT _ _ hte).sizeOf w) hx hlo hhi hmx h1 h2 h3
theorem sat_make (hT : TOk P X.T) {t t' e0 : TypeId} {ti ti' te : TI} {kk kx : IntKind} (hop : o.op = .call { callee := .builtin .append, args := #[argO o 0, argO o 1], argTypes := #[t, t'] }) (hsem : isSem X o = true) (ht : X.T t = some ti) (htd : ti.d = .slice e0) (hte : X.T e0 = some te) (ht' : X.T t' = some ti') (htd' : ti'.d = .int kk)
    {id g k e n n' r c : Nat} {els ys els' : List (List AV)} (hk : te.size = k) (hx : opv F (argO o 0) = some (.osl id g k e n)) (ho : H[id]? = some ⟨g, k, els, some r⟩) (hrows : rowsIn H k (.osl id g k e n) = some ys) (hlen : ys.length = n) (hy : opv F (argO o 1) = some (.int kx (c : Int)))
    (hg : r - e < n + c) (hb : 0 < te.bytes) (hs : 0 < k) (hc : 0 < c) (hby : (n + c) * te.bytes ≤ 140737488355328) (hels : ys ++ List.replicate c (List.replicate k .unk) = els') (hn' : n' = n + c) (hH : H ++ [⟨0, k, els', none⟩] = H2) :
    Sat P X F H ar o (.osl H.length 0 k 0 n') H2 := by
  refine Sat.sem hsem ?_
  subst hk hels hH hn'
  obtain ⟨dst, op, type, pos, after, guard⟩ := o
  simp only at hop
  generalize argO _ 0 = x at hop hx
  generalize argO _ 1 = y at hop hy
  subst hop
  obtain ⟨i, hi, hsz, hbt, z, hz, hzs, hzl, hza⟩ := (hT _ _ hte).info
  rw [← hsz] at hx ho hrows hs ⊢
  rw [← hbt] at hb hby
  exact ssem_make (tok_slice hT ht htd) (tok_int hT ht' htd') hi hz (by have := scalars_len hzs; simp at this; omega) (one_of_scalars hzs) hx ho hrows hlen hy hg hb hs hc hby
end

/-- Appending a slice's own later rows to its first ones. -/
theorem evAppend_over {T : TT} {H H2 : Heap} {t e0 : TypeId} {ti te : TI} {id g k i j m n' : Nat} {els els' : List (List AV)} (ht : T t = some ti) (htd : ti.d = .slice e0) (hte : T e0 = some te) (hk : te.size = k) (hk0 : 0 < k) (ho : H[id]? = some ⟨g, k, els, none⟩) (hij : i < j) (hj : j + m ≤ els.length)
    (hels : els.take i ++ (els.drop j).take m ++ els.drop (i + m) = els') (hn : n' = i + m) (hH : H.set id ⟨g, k, els', none⟩ = H2) : evAppend T H t (.osl id g k 0 i) (.osl id g k j m) = some (.osl id g k 0 n', H2) := by
  obtain ⟨d, sz, bt, z⟩ := ti
  simp only at htd
  subst htd hk hn hels hH
  have hlt : id < H.length := heap_lt ho
  have hnl : ((els.drop j).take m).length = m := by simp; omega
  unfold evAppend
  simp only [ht, hte, rowsIn, ho, true_and, if_pos hj]
  cases hnew : (els.drop j).take m with
  | nil =>
    simp only
    have hm : m = 0 := by rw [hnew] at hnl; simpa using hnl.symm
    subst hm
    have hs : H.set id ⟨g, te.size, els, none⟩ = H := by
      apply List.ext_getElem?
      intro q
      by_cases hq : id = q
      · subst hq; rw [List.getElem?_set_self hlt, ho]
      · rw [List.getElem?_set_ne hq]
    simp [hs]
  | cons x xs =>
    rw [hnew] at hnl
    have h1 : ¬ (0 + i = els.length) := by omega
    have h2 : 0 + i + (x :: xs).length ≤ els.length := by omega
    simp only [hk0, and_self, if_true, if_neg h1, if_pos h2, hnl, Nat.zero_add]
    simp only [Nat.zero_add] at h1 h2
    rw [hnl] at h2
    simp [h1, h2]
section
variable {α : Type} (row : α → List AV) (x : α) (u : List AV)
theorem ins1 (l : List α) {i c : Nat} (hi : i ≤ l.length) (hc : 0 < c) : ((l.take i).map row ++ List.replicate c u).take i ++ [row x] ++ ((l.take i).map row ++ List.replicate c u).drop (i + 1) = (l.take i ++ [x]).map row ++ List.replicate (c - 1) u := by
  have hl : ((l.take i).map row).length = i := by simp; omega
  rw [List.take_append_of_le_length (by omega), List.take_of_length_le (by omega), List.drop_append, hl, List.drop_of_length_le (by omega)]
  simp
theorem ins2 (l : List α) {i c : Nat} (hi : i ≤ l.length) (hc : c = l.length - i) : ((l.take i ++ [x]).map row ++ List.replicate c u).take (i + 1) ++ (l.drop i).map row ++ ((l.take i ++ [x]).map row ++ List.replicate c u).drop (i + 1 + ((l.drop i).map row).length) = (l.take i ++ x :: l.drop i).map row := by
  have hl : ((l.take i ++ [x]).map row).length = i + 1 := by simp; omega
  have h2 : ((l.take i ++ [x]).map row ++ List.replicate c u).drop (i + 1 + ((l.drop i).map row).length) = [] := List.drop_of_length_le (by rw [List.length_append, hl, List.length_replicate, List.length_map, List.length_drop]; omega)
  rw [h2, List.take_append_of_le_length (by omega), List.take_of_length_le (by omega)]
  simp
theorem ins3 (l : List α) {i : Nat} (hi : i < l.length) : (l.map row).take (i + 1) ++ ((l.map row).drop i).take (l.length - i) ++ (l.map row).drop (i + 1 + (l.length - i)) = (l.take (i + 1) ++ l.drop i).map row := by
  rw [List.take_of_length_le (l := (l.map row).drop i) (by simp), List.drop_of_length_le (i := i + 1 + (l.length - i)) (by simp; omega)]
  simp [List.map_take, List.map_drop]
theorem ins4 (l : List α) {i : Nat} (hi : i < l.length) : ((l.take (i + 1) ++ l.drop i).map row).take i ++ [row x] ++ ((l.take (i + 1) ++ l.drop i).map row).drop (i + 1) = (l.take i ++ x :: l.drop i).map row := by
  have hl : (l.take (i + 1)).length = i + 1 := by simp; omega
  rw [← List.map_take, ← List.map_drop, List.take_append_of_le_length (by omega), List.take_take, List.drop_append, hl, List.drop_of_length_le (by omega)]
  simp
theorem del1 (l : List α) {i : Nat} (hi : i < l.length) : (l.map row).take i ++ ((l.map row).drop (i + 1)).take (l.length - (i + 1)) ++ (l.map row).drop (i + (l.length - (i + 1))) = (l.take i ++ l.drop (i + 1) ++ l.drop (l.length - 1)).map row := by
  rw [List.take_of_length_le (l := (l.map row).drop (i + 1)) (by simp), show i + (l.length - (i + 1)) = l.length - 1 by omega]
  simp [List.map_take, List.map_drop]
theorem del2 (l : List α) {i : Nat} (hi : i < l.length) : ((l.take i ++ l.drop (i + 1) ++ l.drop (l.length - 1)).map row).take (l.length - 1) ++ List.replicate 1 u ++ ((l.take i ++ l.drop (i + 1) ++ l.drop (l.length - 1)).map row).drop (l.length - 1 + 1) = (l.take i ++ l.drop (i + 1)).map row ++ [u] := by
  have hl : ((l.take i ++ l.drop (i + 1)).map row).length = l.length - 1 := by simp; omega
  have h2 : ((l.take i ++ l.drop (i + 1) ++ l.drop (l.length - 1)).map row).drop (l.length - 1 + 1) = [] := List.drop_of_length_le (by rw [List.map_append, List.length_append, hl, List.length_map, List.length_drop]; omega)
  rw [h2, List.map_append, List.take_append_of_le_length (by omega), List.take_of_length_le (by omega)]
  simp [List.replicate]
end
end Go.Proofs.Ytpkgpldgoajphaa.AM

set_option linter.unusedVariables false
set_option linter.unusedSimpArgs false
namespace Go.Proofs.Ytpkgpldgoajphaa.AM
open Go

theorem ACalls.insert {P : Program} {f : FuncId} {α : Type} {row : α → List AV} {k : Nat} (hrow : ∀ (n : Nat) (l : List α), AV.bddss n (l.map row) = true) {l : List α} {x : α} {g i : Nat} (hi : i ≤ l.length)
    (hE : ACalls P f [.osl 0 g k 0 l.length, .int .i64 (l.length : Int), .sl .clip k [row x]] [⟨g, k, l.map row, none⟩] (.osl 0 (g + 1) k 0 (l.length + 1), [⟨g + 1, k, (l ++ [x]).map row, none⟩]))
    (hG : i < l.length → ∀ r, r < l.length + 1 → ACalls P f [.osl 0 g k 0 l.length, .int .i64 (i : Int), .sl .clip k [row x]] [⟨g, k, l.map row, some r⟩] (.osl 1 0 k 0 (l.length + 1), [⟨g, k, l.map row, some r⟩, ⟨0, k, (l.take i ++ x :: l.drop i).map row, none⟩]))
    (hR : i < l.length → ∀ r, l.length + 1 ≤ r → ACalls P f [.osl 0 g k 0 l.length, .int .i64 (i : Int), .sl .clip k [row x]] [⟨g, k, l.map row, some r⟩] (.osl 0 g k 0 (l.length + 1), [⟨g, k, (l.take i ++ x :: l.drop i).map row, some r⟩])) :
    ACalls P f [.osl 0 g k 0 l.length, .int .i64 (i : Int), .sl .clip k [row x]] [⟨g, k, l.map row, none⟩] (.osl 0 (g + 1) k 0 (l.length + 1), [⟨g + 1, k, (l.take i ++ x :: l.drop i).map row, none⟩]) := by
  by_cases hil : i = l.length
  · subst hil
    rw [List.take_length, List.drop_length]
    exact hE
  have hlt : i < l.length := by omega
  refine ACalls.room (id := 0) (i := 0) (g := g) (k := k) (e := 0) (n := l.length) (els := l.map row) rfl rfl fun r hr => ?_
  show ACalls P f _ [⟨g, k, l.map row, some r⟩] _
  have hlen : (l.take i ++ x :: l.drop i).length = l.length + 1 := by simp; omega
  rcases Nat.lt_or_ge r (l.length + 1) with h | h
  · have h1 := (hG hlt r h).ghost (i := 0) (id := 0) (g := g) (x := .osl 0 g k 0 l.length) (a' := .osl 0 (g + 1) k 0 (l.length + 1)) (H2 := [⟨g + 1, k, (l.take i ++ x :: l.drop i).map row, none⟩] ++ [⟨1, k, [], none⟩]) rfl (.inr ⟨_, _, _, rfl⟩) rfl rfl rfl rfl
      fun G w C v hH hv hl => steal_sound (id := 0) (j := 1) (g := g) (gj := 0) hH (by decide) rfl rfl rfl rfl hv hl
    refine h1.forget rfl rfl fun id o ho => .inr ?_
    cases id with
    | zero =>
      simp only [List.getElem?_cons_zero, Option.some.injEq] at ho
      subst ho
      exact hrow _ _
    | succ id => simp at ho
  · have h1 := (hR hlt r h).ghost0 (a' := .osl 0 (g + 1) k 0 (l.length + 1)) (H2 := [⟨g + 1, k, (l.take i ++ x :: l.drop i).map row, some r⟩]) fun G w C v hH hv => by
      obtain ⟨C', q⟩ := gen_sound hH hv (o := ⟨g, k, (l.take i ++ x :: l.drop i).map row, some r⟩) rfl rfl (Nat.le_succ g)
      exact ⟨G, C', q⟩
    have h2 := h1.shrink (m := l.length + 1) rfl
    have e : ((l.take i ++ x :: l.drop i).map row).take (l.length + 1) = (l.take i ++ x :: l.drop i).map row := List.take_of_length_le (by rw [List.length_map]; omega)
    rw [e] at h2
    exact h2
theorem ACalls.delete {P : Program} {f : FuncId} {args : List AV} {H : Heap} {g k n : Nat} {els els' : List (List AV)} (h : ACalls P f args H (.osl 0 g k 0 n, [⟨g, k, els, none⟩])) (he : els.take n = els') : ACalls P f args H (.osl 0 g k 0 n, [⟨g, k, els', none⟩]) := by
  have := h.shrink (m := n) rfl
  rw [he] at this
  exact this
end Go.Proofs.Ytpkgpldgoajphaa.AM
