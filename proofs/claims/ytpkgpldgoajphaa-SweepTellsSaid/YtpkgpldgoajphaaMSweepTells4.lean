/-
  Texts of this claim, part 4 of 7: an abstract machine over the model; what functions come to; plain laws.
-/
import Derived.Test.YtpkgpldgoajphaaMSweepTells3
set_option maxRecDepth 100000
set_option linter.unusedVariables false
set_option linter.unusedSimpArgs false
namespace Go.Proofs.Ytpkgpldgoajphaa.AM
open Go Go.Proofs.Ytpkgpldgoajphaa
attribute [local irreducible] ACalls funT codeT codeQ LoopTo
attribute [local irreducible] Tp.card Tp.cardT Tp.next Tp.step Tp.cards Tp.cardsT Tp.key Tp.keyT sink insSort pickS pickL pickN pickK mostN cmpL lateE orderK sortK insK posK beforeK
def onceStep (s : List Card × Nat) (c : Card) : List Card × Nat :=
  if decide ((s.1.length : Int) > 0) = true then if Key.eqb (nth s.1 (s.1.length - 1)).key c.key = true then (s.1.set (s.1.length - 1) c, s.2) else (s.1 ++ [c], s.2 + 1) else (s.1 ++ [c], s.2 + 1)
def onceS (l : List Card) : List Card × Nat := l.foldl onceStep ([], 0)
def onceK (l : List Card) : List Card := (onceS (sortK l)).1
theorem onceStep_len (s : List Card × Nat) (c : Card) : (onceStep s c).1.length ≤ s.1.length + 1 := by
  unfold onceStep; split
  · split <;> simp
  · simp
theorem onceF_len (l : List Card) : ∀ (s : List Card × Nat), (l.foldl onceStep s).1.length ≤ s.1.length + l.length := by
  induction l with
  | nil => intro s; simp
  | cons c l ih => intro s; have h1 := ih (onceStep s c); have h2 := onceStep_len s c; simp only [List.foldl_cons, List.length_cons]; omega
theorem onceK_len (l : List Card) : (onceK l).length ≤ l.length := by
  have := onceF_len (sortK l) ([], 0)
  rw [sortK_len] at this
  simpa [onceK, onceS] using this
def once_ann : Ann := { gha := [(1, .vir 3 9), (9, .cut 1), (10, .frz 2)], fin := some 0, live := [(3, [3, 8, 9, 10])], out := [(3, [3, 8, 9, 10])] }
set_option maxRecDepth 100000 in
theorem once_step (s out : List Card) (i k g : Nat) (hk : k = out.length) (hki : k ≤ s.length) (hl : s.length < 1048576) {eX : Ex} {FX : Fr} {HX : Heap} (k1 : (decide (((i : Nat) : Int) < ((s.length : Nat) : Int))) = true → (decide (((k : Nat) : Int) > 0)) = true → (Key.eqb (nth out (k - 1)).key (nth s i).key) = true → LoopTo (codeQ Try.prog (X once_ann) (loopOf Try.f28 0)) (some [3, 8, 9, 10]) (some [3, 8, 9, 10]) (mkF 40 [(3, (AV.osl 0 g 9 0 k)), (8, (AV.sl .any 9 (List.map Card.row s))), (9, (AV.int .i64 ((s.length : Nat) : Int))), (10, (AV.int .i64 ((i + 1 : Nat) : Int)))]) ([⟨g, 9, (List.map Card.row (out.set (k - 1) (nth s i))), none⟩] : Heap) eX FX HX) (k2 : (decide (((i : Nat) : Int) < ((s.length : Nat) : Int))) = true → (decide (((k : Nat) : Int) > 0)) = true → (Key.eqb (nth out (k - 1)).key (nth s i).key) = false → LoopTo (codeQ Try.prog (X once_ann) (loopOf Try.f28 0)) (some [3, 8, 9, 10]) (some [3, 8, 9, 10]) (mkF 40 [(3, (AV.osl 0 (g + 1) 9 0 (k + 1))), (8, (AV.sl .any 9 (List.map Card.row s))), (9, (AV.int .i64 ((s.length : Nat) : Int))), (10, (AV.int .i64 ((i + 1 : Nat) : Int)))]) ([⟨(g + 1), 9, (List.map Card.row (out ++ [(nth s i)])), none⟩] : Heap) eX FX HX) (k3 : (decide (((i : Nat) : Int) < ((s.length : Nat) : Int))) = true → (decide (((k : Nat) : Int) > 0)) = false → LoopTo (codeQ Try.prog (X once_ann) (loopOf Try.f28 0)) (some [3, 8, 9, 10]) (some [3, 8, 9, 10]) (mkF 40 [(3, (AV.osl 0 (g + 1) 9 0 (k + 1))), (8, (AV.sl .any 9 (List.map Card.row s))), (9, (AV.int .i64 ((s.length : Nat) : Int))), (10, (AV.int .i64 ((i + 1 : Nat) : Int)))]) ([⟨(g + 1), 9, (List.map Card.row (out ++ [(nth s i)])), none⟩] : Heap) eX FX HX) (k4 : (decide (((i : Nat) : Int) < ((s.length : Nat) : Int))) = false → ((.exit 0 : Ex), (mkF 40 [(3, (AV.osl 0 g 9 0 k)), (8, (AV.sl .any 9 (List.map Card.row s))), (9, (AV.int .i64 ((s.length : Nat) : Int))), (10, (AV.int .i64 ((i : Nat) : Int)))]), ([⟨g, 9, (List.map Card.row out), none⟩] : Heap)) = (eX, FX, HX)) : LoopTo (codeQ Try.prog (X once_ann) (loopOf Try.f28 0)) (some [3, 8, 9, 10]) (some [3, 8, 9, 10]) (mkF 40 [(3, (AV.osl 0 g 9 0 k)), (8, (AV.sl .any 9 (List.map Card.row s))), (9, (AV.int .i64 ((s.length : Nat) : Int))), (10, (AV.int .i64 ((i : Nat) : Int)))]) ([⟨g, 9, (List.map Card.row out), none⟩] : Heap) eX FX HX := by
  refine LoopTo.step (.reg [] [] [] (.two (.reg [(0, ((AV.ref (Card.row (nth s i)) 0), ([⟨g, 9, (List.map Card.row out), none⟩, ⟨0, 9, [[(AV.str (ByteArray.mk #[])), (AV.str (ByteArray.mk #[])), (AV.int .i64 0), (AV.int .i64 0), (AV.int .i64 0), (AV.int .i64 0), (AV.int .i64 0), (AV.int .i64 0), (AV.bool false)]], none⟩] : Heap)))] [] [] (.reg [] [] [] (.reg [(5, ((AV.int .i64 ((k - 1 : Nat) : Int)), ([⟨g, 9, (List.map Card.row out), none⟩, ⟨0, 9, [(Card.row (nth s i))], none⟩] : Heap))), (6, ((AV.obj 0 g (k - 1) 0), ([⟨g, 9, (List.map Card.row out), none⟩, ⟨0, 9, [(Card.row (nth s i))], none⟩] : Heap))), (8, ((AV.agg (Key.row (nth out (k - 1)).key)), ([⟨g, 9, (List.map Card.row out), none⟩, ⟨0, 9, [(Card.row (nth s i))], none⟩] : Heap)))] [] [] (.two (.two (.two (.two (.two (.two (.two (.two (.two (.two (.reg [(2, ((AV.int .i64 ((k - 1 : Nat) : Int)), ([⟨g, 9, (List.map Card.row out), none⟩, ⟨0, 9, [(Card.row (nth s i))], none⟩] : Heap))), (4, ((AV.obj 0 g (k - 1) 0), ([⟨g, 9, (List.map Card.row out), none⟩, ⟨0, 9, [(Card.row (nth s i))], none⟩] : Heap))), (5, (AV.skip, ([⟨g, 9, (List.map Card.row (out.set (k - 1) (nth s i))), none⟩, ⟨0, 9, [(Card.row (nth s i))], none⟩] : Heap)))] [] [] (.reg [(0, ((AV.int .i64 ((i + 1 : Nat) : Int)), ([⟨g, 9, (List.map Card.row (out.set (k - 1) (nth s i))), none⟩, ⟨0, 9, [(Card.row (nth s i))], none⟩] : Heap)))] [] [] .nil)) (.reg [(3, ((AV.osl 0 (g + 1) 9 0 (k + 1)), ([⟨(g + 1), 9, (List.map Card.row (out ++ [(nth s i)])), none⟩, ⟨0, 9, [(Card.row (nth s i))], none⟩] : Heap)))] [] [] (.reg [(0, ((AV.int .i64 ((i + 1 : Nat) : Int)), ([⟨(g + 1), 9, (List.map Card.row (out ++ [(nth s i)])), none⟩, ⟨0, 9, [(Card.row (nth s i))], none⟩] : Heap)))] [] [] .nil))) .nil) .nil) .nil) .nil) .nil) .nil) .nil) .nil) (.two .nil (.two .nil (.two .nil (.two .nil (.two .nil (.two .nil (.two .nil (.two .nil (.two .nil (.reg [(3, ((AV.osl 0 (g + 1) 9 0 (k + 1)), ([⟨(g + 1), 9, (List.map Card.row (out ++ [(nth s i)])), none⟩, ⟨0, 9, [(Card.row (nth s i))], none⟩] : Heap)))] [] [] (.reg [(0, ((AV.int .i64 ((i + 1 : Nat) : Int)), ([⟨(g + 1), 9, (List.map Card.row (out ++ [(nth s i)])), none⟩, ⟨0, 9, [(Card.row (nth s i))], none⟩] : Heap)))] [] [] .nil))))))))))))))) .nil)) ?_
  refine Eq.mp (by kernel_rfl : (cond (decide (((i : Nat) : Int) < ((s.length : Nat) : Int))) ((IdxSl 9 9 (List.map Card.row s) ((i : Nat) : Int) ([⟨g, 9, (List.map Card.row out), none⟩, ⟨0, 9, [[(AV.str (ByteArray.mk #[])), (AV.str (ByteArray.mk #[])), (AV.int .i64 0), (AV.int .i64 0), (AV.int .i64 0), (AV.int .i64 0), (AV.int .i64 0), (AV.int .i64 0), (AV.bool false)]], none⟩] : Heap) (Card.row (nth s i))) ∧ cond (decide (((k : Nat) : Int) > 0)) ((Yes (.int .i64 (IntKind.i64.wrap (((k : Nat) : Int) - 1))) ([⟨g, 9, (List.map Card.row out), none⟩, ⟨0, 9, [(Card.row (nth s i))], none⟩] : Heap) (AV.int .i64 ((k - 1 : Nat) : Int))) ∧ (IdxOsl 0 g 9 9 0 k ((k - 1 : Nat) : Int) ([⟨g, 9, (List.map Card.row out), none⟩, ⟨0, 9, [(Card.row (nth s i))], none⟩] : Heap) (k - 1)) ∧ (LoadTo tt 30 0 ([⟨g, 9, (List.map Card.row out), none⟩, ⟨0, 9, [(Card.row (nth s i))], none⟩] : Heap) (rowAt ([⟨g, 9, (List.map Card.row out), none⟩, ⟨0, 9, [(Card.row (nth s i))], none⟩] : Heap) 0 g (k - 1)) = some ((AV.agg (Key.row (nth out (k - 1)).key)), ([⟨g, 9, (List.map Card.row out), none⟩, ⟨0, 9, [(Card.row (nth s i))], none⟩] : Heap))) ∧ cond (Key.eqb (nth out (k - 1)).key (nth s i).key) ((Yes (.int .i64 (IntKind.i64.wrap (((k : Nat) : Int) - 1))) ([⟨g, 9, (List.map Card.row out), none⟩, ⟨0, 9, [(Card.row (nth s i))], none⟩] : Heap) (AV.int .i64 ((k - 1 : Nat) : Int))) ∧ (IdxOsl 0 g 9 9 0 k ((k - 1 : Nat) : Int) ([⟨g, 9, (List.map Card.row out), none⟩, ⟨0, 9, [(Card.row (nth s i))], none⟩] : Heap) (k - 1)) ∧ (StoreTo ([⟨g, 9, (List.map Card.row out), none⟩, ⟨0, 9, [(Card.row (nth s i))], none⟩] : Heap) 0 (k - 1) 9 0 (rowAt ([⟨g, 9, (List.map Card.row out), none⟩, ⟨0, 9, [(Card.row (nth s i))], none⟩] : Heap) 0 g (k - 1)) (AV.fit (AV.agg (Card.row (nth s i))) 9) = some (AV.skip, ([⟨g, 9, (List.map Card.row (out.set (k - 1) (nth s i))), none⟩, ⟨0, 9, [(Card.row (nth s i))], none⟩] : Heap))) ∧ (Yes (.int .i64 (IntKind.i64.wrap (((i : Nat) : Int) + 1))) ([⟨g, 9, (List.map Card.row (out.set (k - 1) (nth s i))), none⟩, ⟨0, 9, [(Card.row (nth s i))], none⟩] : Heap) (AV.int .i64 ((i + 1 : Nat) : Int))) ∧ (obsB 1 ([⟨g, 9, (List.map Card.row (out.set (k - 1) (nth s i))), none⟩] : Heap) = true) ∧ LoopTo (codeQ Try.prog (X once_ann) (loopOf Try.f28 0)) (some [3, 8, 9, 10]) (some [3, 8, 9, 10]) (mkF 40 [(3, (AV.osl 0 g 9 0 k)), (8, (AV.sl .any 9 (List.map Card.row s))), (9, (AV.int .i64 ((s.length : Nat) : Int))), (10, (AV.int .i64 ((i + 1 : Nat) : Int)))]) ([⟨g, 9, (List.map Card.row (out.set (k - 1) (nth s i))), none⟩] : Heap) eX FX HX) ((evAppend tt ([⟨g, 9, (List.map Card.row out), none⟩, ⟨0, 9, [(Card.row (nth s i))], none⟩] : Heap) 48 (AV.osl 0 g 9 0 k) (AV.sl .clip 9 [(Card.row (nth s i))]) = some ((AV.osl 0 (g + 1) 9 0 (k + 1)), ([⟨(g + 1), 9, (List.map Card.row (out ++ [(nth s i)])), none⟩, ⟨0, 9, [(Card.row (nth s i))], none⟩] : Heap))) ∧ (Yes (.int .i64 (IntKind.i64.wrap (((i : Nat) : Int) + 1))) ([⟨(g + 1), 9, (List.map Card.row (out ++ [(nth s i)])), none⟩, ⟨0, 9, [(Card.row (nth s i))], none⟩] : Heap) (AV.int .i64 ((i + 1 : Nat) : Int))) ∧ (obsB 1 ([⟨(g + 1), 9, (List.map Card.row (out ++ [(nth s i)])), none⟩] : Heap) = true) ∧ LoopTo (codeQ Try.prog (X once_ann) (loopOf Try.f28 0)) (some [3, 8, 9, 10]) (some [3, 8, 9, 10]) (mkF 40 [(3, (AV.osl 0 (g + 1) 9 0 (k + 1))), (8, (AV.sl .any 9 (List.map Card.row s))), (9, (AV.int .i64 ((s.length : Nat) : Int))), (10, (AV.int .i64 ((i + 1 : Nat) : Int)))]) ([⟨(g + 1), 9, (List.map Card.row (out ++ [(nth s i)])), none⟩] : Heap) eX FX HX)) ((evAppend tt ([⟨g, 9, (List.map Card.row out), none⟩, ⟨0, 9, [(Card.row (nth s i))], none⟩] : Heap) 48 (AV.osl 0 g 9 0 k) (AV.sl .clip 9 [(Card.row (nth s i))]) = some ((AV.osl 0 (g + 1) 9 0 (k + 1)), ([⟨(g + 1), 9, (List.map Card.row (out ++ [(nth s i)])), none⟩, ⟨0, 9, [(Card.row (nth s i))], none⟩] : Heap))) ∧ (Yes (.int .i64 (IntKind.i64.wrap (((i : Nat) : Int) + 1))) ([⟨(g + 1), 9, (List.map Card.row (out ++ [(nth s i)])), none⟩, ⟨0, 9, [(Card.row (nth s i))], none⟩] : Heap) (AV.int .i64 ((i + 1 : Nat) : Int))) ∧ (obsB 1 ([⟨(g + 1), 9, (List.map Card.row (out ++ [(nth s i)])), none⟩] : Heap) = true) ∧ LoopTo (codeQ Try.prog (X once_ann) (loopOf Try.f28 0)) (some [3, 8, 9, 10]) (some [3, 8, 9, 10]) (mkF 40 [(3, (AV.osl 0 (g + 1) 9 0 (k + 1))), (8, (AV.sl .any 9 (List.map Card.row s))), (9, (AV.int .i64 ((s.length : Nat) : Int))), (10, (AV.int .i64 ((i + 1 : Nat) : Int)))]) ([⟨(g + 1), 9, (List.map Card.row (out ++ [(nth s i)])), none⟩] : Heap) eX FX HX)) (((.exit 0 : Ex), (mkF 40 [(3, (AV.osl 0 g 9 0 k)), (8, (AV.sl .any 9 (List.map Card.row s))), (9, (AV.int .i64 ((s.length : Nat) : Int))), (10, (AV.int .i64 ((i : Nat) : Int)))]), ([⟨g, 9, (List.map Card.row out), none⟩] : Heap)) = (eX, FX, HX))) = _) ?_
  refine cond_split (fun h1 => ?_) (fun h1 => ?_)
  · have h1' := h1
    try simp at h1'
    refine And.intro (IdxSl.mk _ (by omega) (by omega)) ?_
    refine cond_split (fun h2 => ?_) (fun h2 => ?_)
    · have h2' := h2
      try simp at h2'
      refine And.intro (Yes.add (by omega) (by omega) (by omega)) ?_
      refine And.intro (IdxOsl.mk _ (by omega) (by omega)) ?_
      refine And.intro (load_row (rowAt_map (row := Card.row) (l := out) (k := 9) (room := none) (by kernel_rfl) (by first | omega | (simp; done) | (simp; omega))) (by kernel_rfl)) ?_
      refine cond_split (fun h3 => ?_) (fun h3 => ?_)
      · have h3' := h3
        try simp at h3'
        refine And.intro (Yes.add (by omega) (by omega) (by omega)) ?_
        refine And.intro (IdxOsl.mk _ (by omega) (by omega)) ?_
        refine And.intro (store_row (us := (Card.row (nth s i))) (rowAt_map (row := Card.row) (l := out) (k := 9) (room := none) (by kernel_rfl) (by first | omega | (simp; done) | (simp; omega))) (by kernel_rfl) (by simp [Card.row]) (by simp [setAt, fillAt, List.map_set, Card.row])) ?_
        refine And.intro (Yes.add (by omega) (by omega) (by omega)) ?_
        refine And.intro (by first | (simp [obsB, AV.bddss, AV.bdds, AV.bdd]; done) | (simp [obsB, AV.bddss, AV.bdds, AV.bdd, -List.map_append]; done) | simp [obsB, AV.bddss, AV.bdds, AV.bdd, -List.map_append, -List.map_set, -List.map_take, -List.map_drop, -List.map_cons, -List.map_map]) ?_
        exact k1 h1 h2 h3
      · have h3' := h3
        try simp at h3'
        refine And.intro (evAppend_one (row := Card.row) (l := out) (x := (nth s i)) (T := tt) (e := 34) (te := { d := .struct [(30, 0), (3, 2), (3, 3), (2, 4), (32, 5), (4, 8)], size := 9, bytes := 88, zero := [.str ⟨#[]⟩, .str ⟨#[]⟩, .int .i64 0, .int .i64 0, .int .i64 0, .int .i64 0, .int .i64 0, .int .i64 0, .bool false] }) (z := 1) (b := 24) (y := [.sl .nil 0 []]) (by kernel_rfl) (by kernel_rfl) rfl (by decide) (by decide) (by kernel_rfl) (by first | assumption | omega | (simp; done) | (simp; omega)) rfl rfl (by first | omega | (simp; omega))) ?_
        refine And.intro (Yes.add (by omega) (by omega) (by omega)) ?_
        refine And.intro (by first | (simp [obsB, AV.bddss, AV.bdds, AV.bdd]; done) | (simp [obsB, AV.bddss, AV.bdds, AV.bdd, -List.map_append]; done) | simp [obsB, AV.bddss, AV.bdds, AV.bdd, -List.map_append, -List.map_set, -List.map_take, -List.map_drop, -List.map_cons, -List.map_map]) ?_
        exact k2 h1 h2 h3
    · have h2' := h2
      try simp at h2'
      refine And.intro (evAppend_one (row := Card.row) (l := out) (x := (nth s i)) (T := tt) (e := 34) (te := { d := .struct [(30, 0), (3, 2), (3, 3), (2, 4), (32, 5), (4, 8)], size := 9, bytes := 88, zero := [.str ⟨#[]⟩, .str ⟨#[]⟩, .int .i64 0, .int .i64 0, .int .i64 0, .int .i64 0, .int .i64 0, .int .i64 0, .bool false] }) (z := 1) (b := 24) (y := [.sl .nil 0 []]) (by kernel_rfl) (by kernel_rfl) rfl (by decide) (by decide) (by kernel_rfl) (by first | assumption | omega | (simp; done) | (simp; omega)) rfl rfl (by first | omega | (simp; omega))) ?_
      refine And.intro (Yes.add (by omega) (by omega) (by omega)) ?_
      refine And.intro (by first | (simp [obsB, AV.bddss, AV.bdds, AV.bdd]; done) | (simp [obsB, AV.bddss, AV.bdds, AV.bdd, -List.map_append]; done) | simp [obsB, AV.bddss, AV.bdds, AV.bdd, -List.map_append, -List.map_set, -List.map_take, -List.map_drop, -List.map_cons, -List.map_map]) ?_
      exact k3 h1 h2
  · have h1' := h1
    try simp at h1'
    exact k4 h1
theorem once_loop (s : List Card) (r : Nat) : ∀ (out : List Card) (i k g : Nat) (sF : List Card × Nat), i + r = s.length → k = out.length → k ≤ i → s.length < 1048576 → sF = (s.drop i).foldl onceStep (out, g) →
    LoopTo (codeQ Try.prog (X once_ann) (loopOf Try.f28 0)) (some [3, 8, 9, 10]) (some [3, 8, 9, 10]) (mkF 40 [(3, (AV.osl 0 g 9 0 k)), (8, (AV.sl .any 9 (List.map Card.row s))), (9, (AV.int .i64 ((s.length : Nat) : Int))), (10, (AV.int .i64 ((i : Nat) : Int)))]) ([⟨g, 9, (List.map Card.row out), none⟩] : Heap) (.exit 0) (mkF 40 [(3, (AV.osl 0 sF.2 9 0 sF.1.length)), (8, (AV.sl .any 9 (List.map Card.row s))), (9, (AV.int .i64 ((s.length : Nat) : Int))), (10, (AV.int .i64 ((s.length : Nat) : Int)))]) ([⟨sF.2, 9, (List.map Card.row sF.1), none⟩] : Heap) := by
  induction r with
  | zero =>
    intro out i k g sF hi hk hki hl h
    refine once_step s out i k g hk (by omega) hl (fun h => by simp at h; omega) (fun h => by simp at h; omega) (fun h => by simp at h; omega) fun _ => ?_
    have : s.drop i = [] := List.drop_of_length_le (by omega)
    rw [this] at h
    have e3 : i = s.length := by omega
    rw [h, e3, hk]
    rfl
  | succ r ih =>
    intro out i k g sF hi hk hki hl h
    rw [drop_nth (by omega), List.foldl_cons] at h
    refine once_step s out i k g hk (by omega) hl (fun _ h2 h3 => ?_) (fun _ h2 h3 => ?_) (fun _ h2 => ?_) fun h => by simp at h; omega
    · rw [hk] at h2 h3
      exact ih (out.set (k - 1) (nth s i)) (i + 1) k g sF (by omega) (by simp [hk]) (by omega) hl (by rw [h, hk]; simp only [onceStep]; rw [if_pos h2, if_pos h3])
    · rw [hk] at h2 h3
      exact ih (out ++ [nth s i]) (i + 1) (k + 1) (g + 1) sF (by omega) (by simp [hk]) (by omega) hl (by rw [h]; simp only [onceStep]; rw [if_pos h2, if_neg (by rw [h3]; simp)])
    · rw [hk] at h2
      exact ih (out ++ [nth s i]) (i + 1) (k + 1) (g + 1) sF (by omega) (by simp [hk]) (by omega) hl (by rw [h]; simp only [onceStep]; rw [if_neg (by rw [h2]; simp)])
set_option maxRecDepth 100000 in
theorem once_spec (l : List Card) (hl : l.length < 1048576) : ACalls Try.prog 28 [(AV.sl .any 9 (List.map Card.row l))] ([] : Heap) ((AV.sl .any 9 (List.map Card.row (onceK l))), ([] : Heap)) := by
  have hs := sortK_len l
  refine spec (fn := Try.f28) (ann := once_ann) (t := (.reg [] [] [] (.reg [] [] [] (.reg [(1, ((AV.sl .any 9 (List.map Card.row (sortK l))), ([⟨0, 9, (List.map Card.row []), none⟩] : Heap))), (2, ((AV.int .i64 (((sortK l).length : Nat) : Int)), ([⟨0, 9, (List.map Card.row []), none⟩] : Heap)))] [] [] (.loop (.exit 0) (mkF 40 [(3, (AV.osl 0 ((onceS (sortK l)).2) 9 0 ((onceS (sortK l)).1.length))), (8, (AV.sl .any 9 (List.map Card.row (sortK l)))), (9, (AV.int .i64 (((sortK l).length : Nat) : Int))), (10, (AV.int .i64 (((sortK l).length : Nat) : Int)))]) ([⟨((onceS (sortK l)).2), 9, (List.map Card.row ((onceS (sortK l)).1)), none⟩] : Heap) (.reg [] [] [(2, (List.map Card.row ((onceS (sortK l)).1)))] .nil)))))) (Nat.le_of_ble_eq_true (by kernel_rfl)) ⟨Try.func28, by kernel_rfl, by kernel_rfl, by kernel_rfl⟩ ?_
  refine Eq.mp (by kernel_rfl : ((ACalls Try.prog 63 [(AV.sl .any 9 (List.map Card.row l))] ([⟨0, 9, (List.map Card.row []), none⟩] : Heap) ((AV.sl .any 9 (List.map Card.row (sortK l))), ([⟨0, 9, (List.map Card.row []), none⟩] : Heap))) ∧ (Yes (.int .i64 ((List.length (List.map Card.row (sortK l)) : Nat) : Int)) ([⟨0, 9, (List.map Card.row []), none⟩] : Heap) (AV.int .i64 (((sortK l).length : Nat) : Int))) ∧ (LoopTo (codeQ Try.prog (X once_ann) (loopOf Try.f28 0)) (some [3, 8, 9, 10]) (some [3, 8, 9, 10]) (mkF 40 [(3, (AV.osl 0 0 9 0 0)), (8, (AV.sl .any 9 (List.map Card.row (sortK l)))), (9, (AV.int .i64 (((sortK l).length : Nat) : Int))), (10, (AV.int .i64 0))]) ([⟨0, 9, (List.map Card.row []), none⟩] : Heap) (.exit 0) (mkF 40 [(3, (AV.osl 0 ((onceS (sortK l)).2) 9 0 ((onceS (sortK l)).1.length))), (8, (AV.sl .any 9 (List.map Card.row (sortK l)))), (9, (AV.int .i64 (((sortK l).length : Nat) : Int))), (10, (AV.int .i64 (((sortK l).length : Nat) : Int)))]) ([⟨((onceS (sortK l)).2), 9, (List.map Card.row ((onceS (sortK l)).1)), none⟩] : Heap)) ∧ (rowsIn ([⟨((onceS (sortK l)).2), 9, (List.map Card.row ((onceS (sortK l)).1)), none⟩] : Heap) 9 (AV.osl 0 ((onceS (sortK l)).2) 9 0 ((onceS (sortK l)).1.length)) = some (List.map Card.row ((onceS (sortK l)).1)) ∧ AV.bddss 0 (List.map Card.row ((onceS (sortK l)).1)) = true) ∧ (AV.bdd 0 (AV.sl .any 9 (List.map Card.row ((onceS (sortK l)).1))) = true ∧ obsB 0 ([] : Heap) = true) ∧ ((AV.sl .any 9 (List.map Card.row ((onceS (sortK l)).1))), ([] : Heap)) = ((AV.sl .any 9 (List.map Card.row (onceK l))), ([] : Heap))) = _) ?_
  refine And.intro (rsort_at l (by first | omega | assumption | (simp; done) | (simp; omega) | (simp_all; done) | (simp_all; omega)) ([⟨0, 9, (List.map Card.row []), none⟩] : Heap)) ?_
  refine And.intro (Yes.len _ _ _) ?_
  refine And.intro ((once_loop (sortK l) (List.length (sortK l)) [] 0 0 0 _ (by omega) rfl (by omega) (by omega) rfl)) ?_
  refine And.intro (And.intro (rowsIn_all (room := none) (by kernel_rfl) (by first | omega | (simp; done) | (simp; omega))) (Card.rows_bdd _ _)) ?_
  refine And.intro (by first | (simp [obsB, AV.bddss, AV.bdds, AV.bdd]; done) | (simp [obsB, AV.bddss, AV.bdds, AV.bdd, -List.map_append]; done) | simp [obsB, AV.bddss, AV.bdds, AV.bdd, -List.map_append, -List.map_set, -List.map_take, -List.map_drop, -List.map_cons, -List.map_map]) ?_
  rfl
theorem once_at (l : List Card) (hl : l.length < 1048576) (H : Heap) : ACalls Try.prog 28 [(AV.sl .any 9 (List.map Card.row l))] H ((AV.sl .any 9 (List.map Card.row (onceK l))), H) := (once_spec l hl).lift (by kernel_rfl) (by kernel_rfl) H
def madeE (t : Tp) : List Card → List Entry
  | [] => []
  | c :: cs => ⟨c, (t.next 120 : Nat)⟩ :: madeE (t.step 120) cs
def madeT (t : Tp) : List Card → Tp
  | [] => t
  | _ :: cs => madeT (t.step 120) cs
theorem madeE_len (cs : List Card) : ∀ (t : Tp), (madeE t cs).length = cs.length := by
  induction cs with
  | nil => intro t; rfl
  | cons c cs ih => intro t; simp only [madeE, List.length_cons, ih]
def made_ann : Ann := { gha := [(2, .vir 6 10), (7, .cut 2), (8, .frz 4)], fin := some 0, live := [(4, [5, 6, 15, 16, 17])], out := [(4, [5, 6, 15, 16, 17])] }
set_option maxRecDepth 100000 in
theorem made_step (cs : List Card) (t : Tp) (out : List Entry) (i k g : Nat) (hl : t.l.length < 9223372036854775808) (hk : k = out.length) (hki : k ≤ cs.length) (hl2 : cs.length < 1048576) {eX : Ex} {FX : Fr} {HX : Heap} (k1 : (decide (((i : Nat) : Int) < ((cs.length : Nat) : Int))) = true → LoopTo (codeQ Try.prog (X made_ann) (loopOf Try.f37 0)) (some [5, 6, 15, 16, 17]) (some [5, 6, 15, 16, 17]) (mkF 30 [(5, (AV.obj 0 0 0 0)), (6, (AV.osl 1 (g + 1) 10 0 (k + 1))), (15, (AV.sl .any 9 (List.map Card.row cs))), (16, (AV.int .i64 ((cs.length : Nat) : Int))), (17, (AV.int .i64 ((i + 1 : Nat) : Int)))]) ([⟨0, 2, [(Tp.row (t.step 120))], none⟩, ⟨(g + 1), 10, (List.map Entry.row (out ++ [(Entry.mk (nth cs i) ((t.next 120 : Nat) : Int))])), none⟩] : Heap) eX FX HX) (k2 : (decide (((i : Nat) : Int) < ((cs.length : Nat) : Int))) = false → ((.exit 0 : Ex), (mkF 30 [(5, (AV.obj 0 0 0 0)), (6, (AV.osl 1 g 10 0 k)), (15, (AV.sl .any 9 (List.map Card.row cs))), (16, (AV.int .i64 ((cs.length : Nat) : Int))), (17, (AV.int .i64 ((i : Nat) : Int)))]), ([⟨0, 2, [(Tp.row t)], none⟩, ⟨g, 10, (List.map Entry.row out), none⟩] : Heap)) = (eX, FX, HX)) : LoopTo (codeQ Try.prog (X made_ann) (loopOf Try.f37 0)) (some [5, 6, 15, 16, 17]) (some [5, 6, 15, 16, 17]) (mkF 30 [(5, (AV.obj 0 0 0 0)), (6, (AV.osl 1 g 10 0 k)), (15, (AV.sl .any 9 (List.map Card.row cs))), (16, (AV.int .i64 ((cs.length : Nat) : Int))), (17, (AV.int .i64 ((i : Nat) : Int)))]) ([⟨0, 2, [(Tp.row t)], none⟩, ⟨g, 10, (List.map Entry.row out), none⟩] : Heap) eX FX HX := by
  refine LoopTo.step (.reg [] [] [] (.two (.reg [(0, ((AV.ref (Card.row (nth cs i)) 0), ([⟨0, 2, [(Tp.row t)], none⟩, ⟨g, 10, (List.map Entry.row out), none⟩, ⟨0, 9, [[(AV.str (ByteArray.mk #[])), (AV.str (ByteArray.mk #[])), (AV.int .i64 0), (AV.int .i64 0), (AV.int .i64 0), (AV.int .i64 0), (AV.int .i64 0), (AV.int .i64 0), (AV.bool false)]], none⟩] : Heap)))] [] [] (.reg [(3, ((AV.int .i64 ((t.next 120 : Nat) : Int)), ([⟨0, 2, [(Tp.row (t.step 120))], none⟩, ⟨g, 10, (List.map Entry.row out), none⟩, ⟨0, 9, [(Card.row (nth cs i))], none⟩] : Heap))), (6, ((AV.osl 1 (g + 1) 10 0 (k + 1)), ([⟨0, 2, [(Tp.row (t.step 120))], none⟩, ⟨(g + 1), 10, (List.map Entry.row (out ++ [(Entry.mk (nth cs i) ((t.next 120 : Nat) : Int))])), none⟩, ⟨0, 9, [(Card.row (nth cs i))], none⟩] : Heap)))] [] [] (.reg [(0, ((AV.int .i64 ((i + 1 : Nat) : Int)), ([⟨0, 2, [(Tp.row (t.step 120))], none⟩, ⟨(g + 1), 10, (List.map Entry.row (out ++ [(Entry.mk (nth cs i) ((t.next 120 : Nat) : Int))])), none⟩, ⟨0, 9, [(Card.row (nth cs i))], none⟩] : Heap)))] [] [] .nil))) .nil)) ?_
  refine Eq.mp (by kernel_rfl : (cond (decide (((i : Nat) : Int) < ((cs.length : Nat) : Int))) ((IdxSl 9 9 (List.map Card.row cs) ((i : Nat) : Int) ([⟨0, 2, [(Tp.row t)], none⟩, ⟨g, 10, (List.map Entry.row out), none⟩, ⟨0, 9, [[(AV.str (ByteArray.mk #[])), (AV.str (ByteArray.mk #[])), (AV.int .i64 0), (AV.int .i64 0), (AV.int .i64 0), (AV.int .i64 0), (AV.int .i64 0), (AV.int .i64 0), (AV.bool false)]], none⟩] : Heap) (Card.row (nth cs i))) ∧ (ACalls Try.prog 21 [(AV.obj 0 0 0 0), (AV.int .i64 120)] ([⟨0, 2, [(Tp.row t)], none⟩, ⟨g, 10, (List.map Entry.row out), none⟩, ⟨0, 9, [(Card.row (nth cs i))], none⟩] : Heap) ((AV.int .i64 ((t.next 120 : Nat) : Int)), ([⟨0, 2, [(Tp.row (t.step 120))], none⟩, ⟨g, 10, (List.map Entry.row out), none⟩, ⟨0, 9, [(Card.row (nth cs i))], none⟩] : Heap))) ∧ (evAppend tt ([⟨0, 2, [(Tp.row (t.step 120))], none⟩, ⟨g, 10, (List.map Entry.row out), none⟩, ⟨0, 9, [(Card.row (nth cs i))], none⟩] : Heap) 52 (AV.osl 1 g 10 0 k) (AV.sl .clip 10 [[(AV.str (nth cs i).key.app), (AV.str (nth cs i).key.id), (AV.int .i64 (nth cs i).status), (AV.int .i64 (nth cs i).over), (AV.int .i64 (nth cs i).lease), (AV.int .i64 (nth cs i).stamp.t), (AV.int .i64 (nth cs i).stamp.node), (AV.int .i64 (nth cs i).stamp.n), (AV.bool (nth cs i).gone), (AV.int .i64 ((t.next 120 : Nat) : Int))]]) = some ((AV.osl 1 (g + 1) 10 0 (k + 1)), ([⟨0, 2, [(Tp.row (t.step 120))], none⟩, ⟨(g + 1), 10, (List.map Entry.row (out ++ [(Entry.mk (nth cs i) ((t.next 120 : Nat) : Int))])), none⟩, ⟨0, 9, [(Card.row (nth cs i))], none⟩] : Heap))) ∧ (some ((AV.agg (Card.row (nth cs i))), ([⟨0, 2, [(Tp.row (t.step 120))], none⟩, ⟨g, 10, (List.map Entry.row out), none⟩, ⟨0, 9, [(Card.row (nth cs i))], none⟩] : Heap)) = some ((AV.agg (Card.row (nth cs i))), ([⟨0, 2, [(Tp.row (t.step 120))], none⟩, ⟨g, 10, (List.map Entry.row out), none⟩, ⟨0, 9, [(Card.row (nth cs i))], none⟩] : Heap))) ∧ (Yes (.int .i64 (IntKind.i64.wrap (((i : Nat) : Int) + 1))) ([⟨0, 2, [(Tp.row (t.step 120))], none⟩, ⟨(g + 1), 10, (List.map Entry.row (out ++ [(Entry.mk (nth cs i) ((t.next 120 : Nat) : Int))])), none⟩, ⟨0, 9, [(Card.row (nth cs i))], none⟩] : Heap) (AV.int .i64 ((i + 1 : Nat) : Int))) ∧ (obsB 2 ([⟨0, 2, [(Tp.row (t.step 120))], none⟩, ⟨(g + 1), 10, (List.map Entry.row (out ++ [(Entry.mk (nth cs i) ((t.next 120 : Nat) : Int))])), none⟩] : Heap) = true) ∧ LoopTo (codeQ Try.prog (X made_ann) (loopOf Try.f37 0)) (some [5, 6, 15, 16, 17]) (some [5, 6, 15, 16, 17]) (mkF 30 [(5, (AV.obj 0 0 0 0)), (6, (AV.osl 1 (g + 1) 10 0 (k + 1))), (15, (AV.sl .any 9 (List.map Card.row cs))), (16, (AV.int .i64 ((cs.length : Nat) : Int))), (17, (AV.int .i64 ((i + 1 : Nat) : Int)))]) ([⟨0, 2, [(Tp.row (t.step 120))], none⟩, ⟨(g + 1), 10, (List.map Entry.row (out ++ [(Entry.mk (nth cs i) ((t.next 120 : Nat) : Int))])), none⟩] : Heap) eX FX HX) (((.exit 0 : Ex), (mkF 30 [(5, (AV.obj 0 0 0 0)), (6, (AV.osl 1 g 10 0 k)), (15, (AV.sl .any 9 (List.map Card.row cs))), (16, (AV.int .i64 ((cs.length : Nat) : Int))), (17, (AV.int .i64 ((i : Nat) : Int)))]), ([⟨0, 2, [(Tp.row t)], none⟩, ⟨g, 10, (List.map Entry.row out), none⟩] : Heap)) = (eX, FX, HX))) = _) ?_
  refine cond_split (fun h1 => ?_) (fun h1 => ?_)
  · have h1' := h1
    try simp at h1'
    refine And.intro (IdxSl.mk _ (by omega) (by omega)) ?_
    refine And.intro ((next_at t 120 (by first | omega | assumption | (simp; done) | (simp; omega) | (simp_all; done) | (simp_all; omega)) ([⟨g, 10, (List.map Entry.row out), none⟩, ⟨0, 9, [(Card.row (nth cs i))], none⟩] : Heap)).pre ⟨AV.wk_refl_any _, AV.wk_refl_any _, trivial⟩) ?_
    refine And.intro (evAppend_one (row := Entry.row) (l := out) (x := (Entry.mk (nth cs i) ((t.next 120 : Nat) : Int))) (T := tt) (e := 42) (te := { d := .struct [(34, 0), (2, 9)], size := 10, bytes := 96, zero := [.str ⟨#[]⟩, .str ⟨#[]⟩, .int .i64 0, .int .i64 0, .int .i64 0, .int .i64 0, .int .i64 0, .int .i64 0, .bool false, .int .i64 0] }) (z := 1) (b := 24) (y := [.sl .nil 0 []]) (by kernel_rfl) (by kernel_rfl) rfl (by decide) (by decide) (by kernel_rfl) (by first | assumption | omega | (simp; done) | (simp; omega)) rfl rfl (by first | omega | (simp; omega))) ?_
    refine And.intro (rfl) ?_
    refine And.intro (Yes.add (by omega) (by omega) (by omega)) ?_
    refine And.intro (by first | (simp [obsB, AV.bddss, AV.bdds, AV.bdd]; done) | (simp [obsB, AV.bddss, AV.bdds, AV.bdd, -List.map_append]; done) | simp [obsB, AV.bddss, AV.bdds, AV.bdd, -List.map_append, -List.map_set, -List.map_take, -List.map_drop, -List.map_cons, -List.map_map]) ?_
    exact k1 h1
  · have h1' := h1
    try simp at h1'
    exact k2 h1
theorem made_loop (cs : List Card) (r : Nat) : ∀ (t : Tp) (out : List Entry) (i k g : Nat) (kF gF : Nat) (tF : Tp) (outF : List Entry), i + r = cs.length → t.l.length < 9223372036854775808 → k = out.length → k = i → cs.length < 1048576 → kF = k + r → gF = g + r → tF = madeT t (cs.drop i) → outF = out ++ madeE t (cs.drop i) →
    LoopTo (codeQ Try.prog (X made_ann) (loopOf Try.f37 0)) (some [5, 6, 15, 16, 17]) (some [5, 6, 15, 16, 17]) (mkF 30 [(5, (AV.obj 0 0 0 0)), (6, (AV.osl 1 g 10 0 k)), (15, (AV.sl .any 9 (List.map Card.row cs))), (16, (AV.int .i64 ((cs.length : Nat) : Int))), (17, (AV.int .i64 ((i : Nat) : Int)))]) ([⟨0, 2, [(Tp.row t)], none⟩, ⟨g, 10, (List.map Entry.row out), none⟩] : Heap) (.exit 0) (mkF 30 [(5, (AV.obj 0 0 0 0)), (6, (AV.osl 1 gF 10 0 kF)), (15, (AV.sl .any 9 (List.map Card.row cs))), (16, (AV.int .i64 ((cs.length : Nat) : Int))), (17, (AV.int .i64 ((cs.length : Nat) : Int)))]) ([⟨0, 2, [(Tp.row tF)], none⟩, ⟨gF, 10, (List.map Entry.row outF), none⟩] : Heap) := by
  induction r with
  | zero =>
    intro t out i k g kF gF tF outF hi hl hk hki hl2 h1 h2 h3 h4
    refine made_step cs t out i k g hl hk (by omega) hl2 (fun h => by simp at h; omega) fun _ => ?_
    have hd : cs.drop i = [] := List.drop_of_length_le (by omega)
    rw [hd] at h3 h4
    have e1 : kF = k := by omega
    have e2 : gF = g := by omega
    have e3 : i = cs.length := by omega
    have e4 : outF = out := by rw [h4]; simp [madeE]
    have e5 : tF = t := by rw [h3]; simp only [madeT]
    rw [e1, e2, e3, e4, e5]
  | succ r ih =>
    intro t out i k g kF gF tF outF hi hl hk hki hl2 h1 h2 h3 h4
    rw [drop_nth (by omega)] at h3 h4
    refine made_step cs t out i k g hl hk (by omega) hl2 (fun _ => ?_) fun h => by simp at h; omega
    exact ih (t.step 120) (out ++ [⟨nth cs i, (t.next 120 : Nat)⟩]) (i + 1) (k + 1) (g + 1) kF gF tF outF (by omega) (by rw [Tp.step_l]; exact hl) (by simp [hk]) (by omega) hl2 (by omega) (by omega) (by rw [h3]; simp only [madeT]) (by rw [h4]; simp [madeE])
def madeT0 (tape : List Int) (most : Nat) : Tp := ((⟨tape, 0⟩ : Tp).step (most + 1)).cardsT ((⟨tape, 0⟩ : Tp).next (most + 1))
def madeC (tape : List Int) (most : Nat) : List Card := onceK (((⟨tape, 0⟩ : Tp).step (most + 1)).cards ((⟨tape, 0⟩ : Tp).next (most + 1)))
def madeL (tape : List Int) (most : Nat) : List Entry := madeE (madeT0 tape most) (madeC tape most)
theorem madeC_len (tape : List Int) (most : Nat) : (madeC tape most).length ≤ most := by
  have h1 := onceK_len (((⟨tape, 0⟩ : Tp).step (most + 1)).cards ((⟨tape, 0⟩ : Tp).next (most + 1)))
  have h2 := Tp.next_lt ⟨tape, 0⟩ (most + 1) (by omega)
  rw [Tp.cards_len] at h1
  unfold madeC
  omega
theorem madeL_len (tape : List Int) (most : Nat) : (madeL tape most).length ≤ most := by
  have := madeC_len tape most
  simpa [madeL, madeE_len] using this
set_option maxRecDepth 100000 in
theorem made_spec (tape : List Int) (most : Nat) (hl : tape.length < 9223372036854775808) (hm : most < 1000000) : ACalls Try.prog 37 [(AV.sl .any 1 (List.map rI64 tape)), (AV.int .i64 ((most : Nat) : Int))] ([] : Heap) ((AV.sl .any 10 (List.map Entry.row (madeL tape most))), ([] : Heap)) := by
  have h1 := madeC_len tape most
  have h2 := Tp.next_lt ⟨tape, 0⟩ (most + 1) (by omega)
  have h3 := Tp.cards_len ((⟨tape, 0⟩ : Tp).next (most + 1)) ((⟨tape, 0⟩ : Tp).step (most + 1))
  have h4 : (madeT0 tape most).l.length < 9223372036854775808 := by unfold madeT0; rw [Tp.cardsT_l, Tp.step_l]; exact hl
  unfold madeC at h1
  refine spec (fn := Try.f37) (ann := made_ann) (t := (.reg [] [] [] (.reg [] [] [] (.reg [] [] [] (.reg [(2, ((AV.sl .any 9 (List.map Card.row ((Tp.mk tape 0).step (most + 1) |>.cards ((Tp.mk tape 0).next (most + 1))))), ([⟨0, 2, [(Tp.row (((Tp.mk tape 0).step (most + 1)).cardsT ((Tp.mk tape 0).next (most + 1))))], none⟩, ⟨0, 10, (List.map Entry.row []), none⟩] : Heap))), (3, ((AV.sl .any 9 (List.map Card.row (onceK ((Tp.mk tape 0).step (most + 1) |>.cards ((Tp.mk tape 0).next (most + 1)))))), ([⟨0, 2, [(Tp.row (((Tp.mk tape 0).step (most + 1)).cardsT ((Tp.mk tape 0).next (most + 1))))], none⟩, ⟨0, 10, (List.map Entry.row []), none⟩] : Heap))), (4, ((AV.int .i64 (((onceK ((Tp.mk tape 0).step (most + 1) |>.cards ((Tp.mk tape 0).next (most + 1)))).length : Nat) : Int)), ([⟨0, 2, [(Tp.row (((Tp.mk tape 0).step (most + 1)).cardsT ((Tp.mk tape 0).next (most + 1))))], none⟩, ⟨0, 10, (List.map Entry.row []), none⟩] : Heap)))] [] [] (.loop (.exit 0) (mkF 30 [(5, (AV.obj 0 0 0 0)), (6, (AV.osl 1 (onceK ((Tp.mk tape 0).step (most + 1) |>.cards ((Tp.mk tape 0).next (most + 1)))).length 10 0 (onceK ((Tp.mk tape 0).step (most + 1) |>.cards ((Tp.mk tape 0).next (most + 1)))).length)), (15, (AV.sl .any 9 (List.map Card.row (onceK ((Tp.mk tape 0).step (most + 1) |>.cards ((Tp.mk tape 0).next (most + 1))))))), (16, (AV.int .i64 (((onceK ((Tp.mk tape 0).step (most + 1) |>.cards ((Tp.mk tape 0).next (most + 1)))).length : Nat) : Int))), (17, (AV.int .i64 (((onceK ((Tp.mk tape 0).step (most + 1) |>.cards ((Tp.mk tape 0).next (most + 1)))).length : Nat) : Int)))]) ([⟨0, 2, [(Tp.row (madeT (((Tp.mk tape 0).step (most + 1)).cardsT ((Tp.mk tape 0).next (most + 1))) (onceK ((Tp.mk tape 0).step (most + 1) |>.cards ((Tp.mk tape 0).next (most + 1))))))], none⟩, ⟨(onceK ((Tp.mk tape 0).step (most + 1) |>.cards ((Tp.mk tape 0).next (most + 1)))).length, 10, (List.map Entry.row (madeE (((Tp.mk tape 0).step (most + 1)).cardsT ((Tp.mk tape 0).next (most + 1))) (onceK ((Tp.mk tape 0).step (most + 1) |>.cards ((Tp.mk tape 0).next (most + 1)))))), none⟩] : Heap) (.reg [] [] [(4, (List.map Entry.row (madeE (((Tp.mk tape 0).step (most + 1)).cardsT ((Tp.mk tape 0).next (most + 1))) (onceK ((Tp.mk tape 0).step (most + 1) |>.cards ((Tp.mk tape 0).next (most + 1)))))))] .nil))))))) (Nat.le_of_ble_eq_true (by kernel_rfl)) ⟨Try.func37, by kernel_rfl, by kernel_rfl, by kernel_rfl⟩ ?_
  refine Eq.mp (by kernel_rfl : ((ACalls Try.prog 29 [(AV.obj 0 0 0 0), (AV.int .i64 ((most : Nat) : Int))] ([⟨0, 2, [[(AV.sl .any 1 (List.map rI64 tape)), (AV.int .i64 0)]], none⟩, ⟨0, 10, (List.map Entry.row []), none⟩] : Heap) ((AV.sl .any 9 (List.map Card.row ((Tp.mk tape 0).step (most + 1) |>.cards ((Tp.mk tape 0).next (most + 1))))), ([⟨0, 2, [(Tp.row (((Tp.mk tape 0).step (most + 1)).cardsT ((Tp.mk tape 0).next (most + 1))))], none⟩, ⟨0, 10, (List.map Entry.row []), none⟩] : Heap))) ∧ (ACalls Try.prog 28 [(AV.sl .any 9 (List.map Card.row ((Tp.mk tape 0).step (most + 1) |>.cards ((Tp.mk tape 0).next (most + 1)))))] ([⟨0, 2, [(Tp.row (((Tp.mk tape 0).step (most + 1)).cardsT ((Tp.mk tape 0).next (most + 1))))], none⟩, ⟨0, 10, (List.map Entry.row []), none⟩] : Heap) ((AV.sl .any 9 (List.map Card.row (onceK ((Tp.mk tape 0).step (most + 1) |>.cards ((Tp.mk tape 0).next (most + 1)))))), ([⟨0, 2, [(Tp.row (((Tp.mk tape 0).step (most + 1)).cardsT ((Tp.mk tape 0).next (most + 1))))], none⟩, ⟨0, 10, (List.map Entry.row []), none⟩] : Heap))) ∧ (Yes (.int .i64 ((List.length (List.map Card.row (onceK ((Tp.mk tape 0).step (most + 1) |>.cards ((Tp.mk tape 0).next (most + 1))))) : Nat) : Int)) ([⟨0, 2, [(Tp.row (((Tp.mk tape 0).step (most + 1)).cardsT ((Tp.mk tape 0).next (most + 1))))], none⟩, ⟨0, 10, (List.map Entry.row []), none⟩] : Heap) (AV.int .i64 (((onceK ((Tp.mk tape 0).step (most + 1) |>.cards ((Tp.mk tape 0).next (most + 1)))).length : Nat) : Int))) ∧ (LoopTo (codeQ Try.prog (X made_ann) (loopOf Try.f37 0)) (some [5, 6, 15, 16, 17]) (some [5, 6, 15, 16, 17]) (mkF 30 [(5, (AV.obj 0 0 0 0)), (6, (AV.osl 1 0 10 0 0)), (15, (AV.sl .any 9 (List.map Card.row (onceK ((Tp.mk tape 0).step (most + 1) |>.cards ((Tp.mk tape 0).next (most + 1))))))), (16, (AV.int .i64 (((onceK ((Tp.mk tape 0).step (most + 1) |>.cards ((Tp.mk tape 0).next (most + 1)))).length : Nat) : Int))), (17, (AV.int .i64 0))]) ([⟨0, 2, [(Tp.row (((Tp.mk tape 0).step (most + 1)).cardsT ((Tp.mk tape 0).next (most + 1))))], none⟩, ⟨0, 10, (List.map Entry.row []), none⟩] : Heap) (.exit 0) (mkF 30 [(5, (AV.obj 0 0 0 0)), (6, (AV.osl 1 (onceK ((Tp.mk tape 0).step (most + 1) |>.cards ((Tp.mk tape 0).next (most + 1)))).length 10 0 (onceK ((Tp.mk tape 0).step (most + 1) |>.cards ((Tp.mk tape 0).next (most + 1)))).length)), (15, (AV.sl .any 9 (List.map Card.row (onceK ((Tp.mk tape 0).step (most + 1) |>.cards ((Tp.mk tape 0).next (most + 1))))))), (16, (AV.int .i64 (((onceK ((Tp.mk tape 0).step (most + 1) |>.cards ((Tp.mk tape 0).next (most + 1)))).length : Nat) : Int))), (17, (AV.int .i64 (((onceK ((Tp.mk tape 0).step (most + 1) |>.cards ((Tp.mk tape 0).next (most + 1)))).length : Nat) : Int)))]) ([⟨0, 2, [(Tp.row (madeT (((Tp.mk tape 0).step (most + 1)).cardsT ((Tp.mk tape 0).next (most + 1))) (onceK ((Tp.mk tape 0).step (most + 1) |>.cards ((Tp.mk tape 0).next (most + 1))))))], none⟩, ⟨(onceK ((Tp.mk tape 0).step (most + 1) |>.cards ((Tp.mk tape 0).next (most + 1)))).length, 10, (List.map Entry.row (madeE (((Tp.mk tape 0).step (most + 1)).cardsT ((Tp.mk tape 0).next (most + 1))) (onceK ((Tp.mk tape 0).step (most + 1) |>.cards ((Tp.mk tape 0).next (most + 1)))))), none⟩] : Heap)) ∧ (rowsIn ([⟨0, 2, [(Tp.row (madeT (((Tp.mk tape 0).step (most + 1)).cardsT ((Tp.mk tape 0).next (most + 1))) (onceK ((Tp.mk tape 0).step (most + 1) |>.cards ((Tp.mk tape 0).next (most + 1))))))], none⟩, ⟨(onceK ((Tp.mk tape 0).step (most + 1) |>.cards ((Tp.mk tape 0).next (most + 1)))).length, 10, (List.map Entry.row (madeE (((Tp.mk tape 0).step (most + 1)).cardsT ((Tp.mk tape 0).next (most + 1))) (onceK ((Tp.mk tape 0).step (most + 1) |>.cards ((Tp.mk tape 0).next (most + 1)))))), none⟩] : Heap) 10 (AV.osl 1 (onceK ((Tp.mk tape 0).step (most + 1) |>.cards ((Tp.mk tape 0).next (most + 1)))).length 10 0 (onceK ((Tp.mk tape 0).step (most + 1) |>.cards ((Tp.mk tape 0).next (most + 1)))).length) = some (List.map Entry.row (madeE (((Tp.mk tape 0).step (most + 1)).cardsT ((Tp.mk tape 0).next (most + 1))) (onceK ((Tp.mk tape 0).step (most + 1) |>.cards ((Tp.mk tape 0).next (most + 1)))))) ∧ AV.bddss 0 (List.map Entry.row (madeE (((Tp.mk tape 0).step (most + 1)).cardsT ((Tp.mk tape 0).next (most + 1))) (onceK ((Tp.mk tape 0).step (most + 1) |>.cards ((Tp.mk tape 0).next (most + 1)))))) = true) ∧ (AV.bdd 0 (AV.sl .any 10 (List.map Entry.row (madeE (((Tp.mk tape 0).step (most + 1)).cardsT ((Tp.mk tape 0).next (most + 1))) (onceK ((Tp.mk tape 0).step (most + 1) |>.cards ((Tp.mk tape 0).next (most + 1))))))) = true ∧ obsB 0 ([] : Heap) = true) ∧ ((AV.sl .any 10 (List.map Entry.row (madeE (((Tp.mk tape 0).step (most + 1)).cardsT ((Tp.mk tape 0).next (most + 1))) (onceK ((Tp.mk tape 0).step (most + 1) |>.cards ((Tp.mk tape 0).next (most + 1))))))), ([] : Heap)) = ((AV.sl .any 10 (List.map Entry.row (madeL tape most))), ([] : Heap))) = _) ?_
  refine And.intro (cards_at (Tp.mk tape 0) most (by first | omega | assumption | (simp; done) | (simp; omega) | (simp_all; done) | (simp_all; omega)) (by first | omega | assumption | (simp; done) | (simp; omega) | (simp_all; done) | (simp_all; omega)) ([⟨0, 10, (List.map Entry.row []), none⟩] : Heap)) ?_
  refine And.intro (once_at ((Tp.mk tape 0).step (most + 1) |>.cards ((Tp.mk tape 0).next (most + 1))) (by first | omega | assumption | (simp; done) | (simp; omega) | (simp_all; done) | (simp_all; omega)) ([⟨0, 2, [(Tp.row (((Tp.mk tape 0).step (most + 1)).cardsT ((Tp.mk tape 0).next (most + 1))))], none⟩, ⟨0, 10, (List.map Entry.row []), none⟩] : Heap)) ?_
  refine And.intro (Yes.len _ _ _) ?_
  refine And.intro ((made_loop (onceK ((Tp.mk tape 0).step (most + 1) |>.cards ((Tp.mk tape 0).next (most + 1)))) (List.length (onceK ((Tp.mk tape 0).step (most + 1) |>.cards ((Tp.mk tape 0).next (most + 1))))) (((Tp.mk tape 0).step (most + 1)).cardsT ((Tp.mk tape 0).next (most + 1))) [] 0 0 0 _ _ _ _ (by omega) h4 rfl rfl (by omega) (by omega) (by omega) rfl (by simp))) ?_
  refine And.intro (And.intro (rowsIn_all (room := none) (by kernel_rfl) (by first | omega | (simp [madeE_len]; done) | (simp [madeE_len]; omega))) (Entry.rows_bdd _ _)) ?_
  refine And.intro (by first | (simp [obsB, AV.bddss, AV.bdds, AV.bdd]; done) | (simp [obsB, AV.bddss, AV.bdds, AV.bdd, -List.map_append]; done) | simp [obsB, AV.bddss, AV.bdds, AV.bdd, -List.map_append, -List.map_set, -List.map_take, -List.map_drop, -List.map_cons, -List.map_map]) ?_
  rfl
theorem made_at (tape : List Int) (most : Nat) (hl : tape.length < 9223372036854775808) (hm : most < 1000000) (H : Heap) : ACalls Try.prog 37 [(AV.sl .any 1 (List.map rI64 tape)), (AV.int .i64 ((most : Nat) : Int))] H ((AV.sl .any 10 (List.map Entry.row (madeL tape most))), H) := (made_spec tape most hl hm).lift (by kernel_rfl) (by kernel_rfl) H
end Go.Proofs.Ytpkgpldgoajphaa.AM

set_option linter.unusedVariables false
set_option linter.unusedSimpArgs false
set_option maxRecDepth 100000
namespace Go.Proofs.Ytpkgpldgoajphaa.AM
open Go
attribute [local irreducible] Tp.card Tp.cardT Tp.next Tp.step Tp.cards Tp.cardsT Tp.key Tp.keyT

/-! ### texts -/
theorem bl_irrefl : ∀ (x : List UInt8), Op.bytesLess x x = false
  | [] => rfl
  | a :: x => by
    have := bl_irrefl x
    simp [Op.bytesLess, this]
theorem bl_asymm : ∀ (x y : List UInt8), Op.bytesLess x y = true → Op.bytesLess y x = false
  | [], [], h => by simp [Op.bytesLess] at h
  | [], b :: y, h => rfl
  | a :: x, [], h => by simp [Op.bytesLess] at h
  | a :: x, b :: y, h => by
    simp only [Op.bytesLess, Bool.or_eq_true, Bool.and_eq_true, decide_eq_true_eq, beq_iff_eq] at h
    rcases h with h | ⟨rfl, h⟩
    · have h1 : ¬ b < a := fun h' => by exact absurd (UInt8.lt_trans h h') (UInt8.lt_irrefl _)
      have h2 : ¬ b = a := fun e => by subst e; exact UInt8.lt_irrefl _ h
      simp [Op.bytesLess, h1, h2]
    · have := bl_asymm x y h
      simp [Op.bytesLess, this]
theorem bl_trans : ∀ (x y z : List UInt8), Op.bytesLess x y = true → Op.bytesLess y z = true → Op.bytesLess x z = true
  | [], [], z, h, _ => by simp [Op.bytesLess] at h
  | [], b :: y, [], _, h => by simp [Op.bytesLess] at h
  | [], b :: y, c :: z, _, _ => rfl
  | a :: x, [], z, h, _ => by simp [Op.bytesLess] at h
  | a :: x, b :: y, [], _, h => by simp [Op.bytesLess] at h
  | a :: x, b :: y, c :: z, h, k => by
    simp only [Op.bytesLess, Bool.or_eq_true, Bool.and_eq_true, decide_eq_true_eq, beq_iff_eq] at h k ⊢
    rcases h with h | ⟨rfl, h⟩
    · rcases k with k | ⟨rfl, k⟩
      · exact .inl (UInt8.lt_trans h k)
      · exact .inl h
    · rcases k with k | ⟨rfl, k⟩
      · exact .inl k
      · exact .inr ⟨rfl, bl_trans x y z h k⟩
theorem bl_tri : ∀ (x y : List UInt8), Op.bytesLess x y = false → Op.bytesLess y x = false → x = y
  | [], [], _, _ => rfl
  | [], b :: y, h, _ => by simp [Op.bytesLess] at h
  | a :: x, [], _, h => by simp [Op.bytesLess] at h
  | a :: x, b :: y, h, k => by
    simp only [Op.bytesLess, Bool.or_eq_false_iff, decide_eq_false_iff_not] at h k
    have e : a = b := by
      rcases UInt8.lt_or_lt_of_ne (a := a) (b := b) |> fun f => Classical.em (a = b) with e | e
      · exact e
      · rcases UInt8.lt_or_lt_of_ne e with h1 | h1
        · exact absurd h1 h.1
        · exact absurd h1 k.1
    subst e
    simp only [beq_self_eq_true, Bool.true_and] at h k
    rw [bl_tri x y h.2 k.2]
theorem ba_eq {a b : ByteArray} (h : a.toList = b.toList) : a = b := by
  rw [ByteArray.toList_eq, ByteArray.toList_eq] at h
  obtain ⟨⟨a⟩⟩ := a
  obtain ⟨⟨b⟩⟩ := b
  simp at h
  rw [h]

/-! ### keys -/
theorem Key.eqb_iff (a b : Key) : Key.eqb a b = true ↔ a = b := by
  unfold Key.eqb
  constructor
  · intro h
    simp only [Bool.and_true, Bool.and_eq_true, beq_iff_eq] at h
    cases a; cases b
    exact congr (congrArg Key.mk (ba_eq h.1)) (ba_eq h.2)
  · intro h; subst h; simp
theorem Key.eqb_false {a b : Key} : Key.eqb a b = false ↔ a ≠ b := by
  rw [Ne, ← Key.eqb_iff]; simp
theorem bk_irrefl (a : Key) : beforeK a a = false := by simp [beforeK, bl_irrefl]
theorem bk_asymm {a b : Key} (h : beforeK a b = true) : beforeK b a = false := by
  unfold beforeK at *
  by_cases e : a.app.toList = b.app.toList
  · have e' : b.app.toList = a.app.toList := e.symm
    simp [e] at h
    simp [e']
    exact bl_asymm _ _ h
  · have e' : ¬ b.app.toList = a.app.toList := fun x => e x.symm
    simp [e] at h
    simp [e']
    exact bl_asymm _ _ h
theorem bk_trans {a b c : Key} (h : beforeK a b = true) (k : beforeK b c = true) : beforeK a c = true := by
  unfold beforeK at *
  by_cases e : a.app.toList = b.app.toList
  · by_cases f : b.app.toList = c.app.toList
    · simp [e] at h; simp [f] at k; simp [e, f]
      exact bl_trans _ _ _ h k
    · simp [f] at k
      have : ¬ a.app.toList = c.app.toList := by rw [e]; exact f
      simp [this]; rw [e]; exact k
  · simp [e] at h
    by_cases f : b.app.toList = c.app.toList
    · have : ¬ a.app.toList = c.app.toList := by rw [← f]; exact e
      simp [this]; rw [← f]; exact h
    · simp [f] at k
      have h1 := bl_trans _ _ _ h k
      have : ¬ a.app.toList = c.app.toList := fun x => by rw [x] at h; have := bl_asymm _ _ h; rw [k] at this; simp at this
      simp [this]; exact h1
theorem bk_tri {a b : Key} (h : beforeK a b = false) (k : beforeK b a = false) : a = b := by
  unfold beforeK at *
  by_cases e : a.app.toList = b.app.toList
  · have e' : b.app.toList = a.app.toList := e.symm
    simp [e] at h; simp [e'] at k
    have h2 := bl_tri _ _ h k
    cases a; cases b
    exact congr (congrArg Key.mk (ba_eq e)) (ba_eq h2)
  · have e' : ¬ b.app.toList = a.app.toList := fun x => e x.symm
    simp [e] at h; simp [e'] at k
    exact absurd (bl_tri _ _ h k) e
theorem bk_ne {a b : Key} (h : beforeK a b = true) : a ≠ b := fun e => by subst e; rw [bk_irrefl] at h; simp at h
/-- not behind, and before: before. -/
theorem bk_le_lt {a b c : Key} (h : beforeK b a = false) (k : beforeK b c = true) : beforeK a c = true := by
  cases e : beforeK a b with
  | true => exact bk_trans e k
  | false => rw [bk_tri e h]; exact k
theorem bk_lt_le {a b c : Key} (h : beforeK a b = true) (k : beforeK c b = false) : beforeK a c = true := by
  cases e : beforeK b c with
  | true => exact bk_trans h e
  | false => rw [← bk_tri e k]; exact h
theorem bk_le_trans {a b c : Key} (h : beforeK b a = false) (k : beforeK c b = false) : beforeK c a = false := by
  cases e : beforeK c a with
  | false => rfl
  | true => have := bk_lt_le e h; rw [this] at k; simp at k
theorem less_before (a b : Key) : lessK a b = beforeK a b := by
  unfold lessK cmpK cmpS beforeK
  by_cases h1 : Op.bytesLess a.app.toList b.app.toList = true
  · have : ¬ a.app.toList = b.app.toList := fun e => by rw [e, bl_irrefl] at h1; simp at h1
    simp [h1, this]
  · by_cases h2 : a.app.toList = b.app.toList
    · simp [h2, bl_irrefl]
      by_cases h3 : Op.bytesLess a.id.toList b.id.toList = true
      · simp [h3]
      · by_cases h4 : a.id.toList = b.id.toList
        · simp [h4, bl_irrefl]
        · simp [h3, h4]
    · simp [h1, h2]

/-! ### the reference's sort -/
def WkC (a b : Card) : Prop := beforeK b.key a.key = false
def StC (a b : Card) : Prop := beforeK a.key b.key = true
theorem nth_mem {α : Type} [Inhabited α] {l : List α} {i : Nat} (h : i < l.length) : nth l i ∈ l := List.mem_of_getElem? (nth_get h)
theorem nth_getElem {α : Type} [Inhabited α] {l : List α} {i : Nat} (h : i < l.length) : nth l i = l[i] := by
  simp [nth, List.getD_eq_getElem?_getD, List.getElem?_eq_getElem h]
theorem pw_nth {α : Type} [Inhabited α] {R : α → α → Prop} {l : List α} : List.Pairwise R l ↔ ∀ i j, i < j → j < l.length → R (nth l i) (nth l j) := by
  rw [List.pairwise_iff_getElem]
  constructor
  · intro h i j hij hj
    rw [nth_getElem (show i < l.length by omega), nth_getElem hj]
    exact h i j _ _ hij
  · intro h i j hi hj hij
    have := h i j hij hj
    rwa [nth_getElem hi, nth_getElem hj] at this
theorem mem_nth {α : Type} [Inhabited α] {l : List α} {x : α} (h : x ∈ l) : ∃ i, i < l.length ∧ nth l i = x := by
  obtain ⟨i, hi, rfl⟩ := List.getElem_of_mem h
  exact ⟨i, hi, nth_getElem hi⟩
theorem nth_take {α : Type} [Inhabited α] {l : List α} {i k : Nat} (h : i < k) : nth (l.take k) i = nth l i := by
  simp [nth, List.getD_eq_getElem?_getD, List.getElem?_take, h]
theorem nth_drop {α : Type} [Inhabited α] {l : List α} {i k : Nat} : nth (l.drop k) i = nth l (k + i) := by
  simp [nth, List.getD_eq_getElem?_getD, List.getElem?_drop]

theorem posK_spec (c : Card) (out : List Card) (k : Nat) : (∀ i, posK c out k ≤ i → i < k → beforeK c.key (nth out i).key = true) ∧ (0 < posK c out k → beforeK c.key (nth out (posK c out k - 1)).key = false) := by
  induction k with
  | zero => simp only [posK]; exact ⟨fun i h1 h2 => by omega, fun h => by omega⟩
  | succ k ih =>
    simp only [posK]
    split
    · rename_i h
      refine ⟨fun i h1 h2 => ?_, ih.2⟩
      rcases Nat.lt_or_ge i k with h3 | h3
      · exact ih.1 i h1 h3
      · rw [show i = k by omega]; exact h
    · rename_i h
      exact ⟨fun i h1 h2 => by omega, fun _ => by simpa using h⟩
theorem insK_perm (out : List Card) (c : Card) : List.Perm (insK out c) (c :: out) := by
  unfold insK
  rw [List.append_assoc, List.singleton_append]
  refine List.perm_middle.trans ?_
  rw [List.take_append_drop]
theorem insK_sorted {out : List Card} (h : List.Pairwise WkC out) (c : Card) : List.Pairwise WkC (insK out c) := by
  obtain ⟨h1, h2⟩ := posK_spec c out out.length
  have hp := posK_le c out out.length
  generalize hpe : posK c out out.length = p at *
  have hs := pw_nth.1 h
  unfold insK
  rw [hpe, List.append_assoc, List.singleton_append, List.pairwise_append]
  refine ⟨h.sublist (List.take_sublist _ _), List.pairwise_cons.2 ⟨fun y hy => ?_, h.sublist (List.drop_sublist _ _)⟩, fun x hx y hy => ?_⟩
  · obtain ⟨i, hi, rfl⟩ := mem_nth hy
    simp only [List.length_drop] at hi
    rw [nth_drop]
    exact bk_asymm (h1 (p + i) (by omega) (by omega))
  · have hxp : beforeK c.key x.key = false := by
      obtain ⟨i, hi, rfl⟩ := mem_nth hx
      simp only [List.length_take] at hi
      rw [nth_take (by omega)]
      have h3 := h2 (by omega)
      rcases Nat.lt_or_ge i (p - 1) with h4 | h4
      · exact bk_le_trans (hs i (p - 1) h4 (by omega)) h3
      · rw [show i = p - 1 by omega]; exact h3
    rcases List.mem_cons.1 hy with rfl | hy
    · exact hxp
    · obtain ⟨i, hi, rfl⟩ := mem_nth hx
      obtain ⟨j, hj, rfl⟩ := mem_nth hy
      simp only [List.length_take] at hi
      simp only [List.length_drop] at hj
      rw [nth_take (by omega), nth_drop]
      exact hs i (p + j) (by omega) (by omega)
theorem foldl_insK (l : List Card) : ∀ (out : List Card), List.Pairwise WkC out → List.Pairwise WkC (l.foldl insK out) ∧ List.Perm (l.foldl insK out) (out ++ l) := by
  induction l with
  | nil => intro out h; exact ⟨h, by simp⟩
  | cons c l ih =>
    intro out h
    obtain ⟨h1, h2⟩ := ih (insK out c) (insK_sorted h c)
    refine ⟨h1, h2.trans ?_⟩
    exact ((insK_perm out c).append_right l).trans (by simpa using List.perm_middle.symm)
theorem sortK_sorted (l : List Card) : List.Pairwise WkC (sortK l) := (foldl_insK l [] List.Pairwise.nil).1
theorem sortK_perm (l : List Card) : List.Perm (sortK l) l := (foldl_insK l [] List.Pairwise.nil).2

/-! ### Once -/
theorem onceF (s : List Card) : ∀ (out : List Card) (g : Nat), List.Pairwise WkC (out ++ s) → List.Pairwise StC out →
    List.Pairwise StC (s.foldl onceStep (out, g)).1 ∧ ∀ x ∈ (s.foldl onceStep (out, g)).1, x ∈ out ∨ x ∈ s := by
  induction s with
  | nil => intro out g h1 h2; exact ⟨h2, fun x hx => .inl hx⟩
  | cons c s ih =>
    intro out g h1 h2
    rw [List.foldl_cons]
    have app : ∀ (hlt : ∀ x ∈ out, beforeK x.key c.key = true), List.Pairwise StC (s.foldl onceStep (out ++ [c], g + 1)).1 ∧ ∀ x ∈ (s.foldl onceStep (out ++ [c], g + 1)).1, x ∈ out ∨ x ∈ c :: s := by
      intro hlt
      obtain ⟨a1, a2⟩ := ih (out ++ [c]) (g + 1) (by simpa using h1) (List.pairwise_append.2 ⟨h2, List.pairwise_singleton _ _, fun x hx y hy => by simp at hy; subst hy; exact hlt x hx⟩)
      refine ⟨a1, fun x hx => ?_⟩
      rcases a2 x hx with h | h
      · rcases List.mem_append.1 h with h | h
        · exact .inl h
        · simp at h; subst h; exact .inr (by simp)
      · exact .inr (by simp [h])
    have hw := List.pairwise_append.1 h1
    rcases List.eq_nil_or_concat out with rfl | ⟨init, last, hc⟩
    · have : onceStep ([], g) c = ([] ++ [c], g + 1) := by simp [onceStep]
      rw [this]
      exact app (fun x hx => by simp at hx)
    · have hc' : out = init ++ [last] := by simpa using hc
      have hlen : out.length = init.length + 1 := by rw [hc']; simp
      have hlast : nth out (out.length - 1) = last := by rw [hlen, hc', Nat.add_sub_cancel]; exact nth_append_len init last []
      have h0 : decide ((out.length : Int) > 0) = true := by simp; omega
      have hlm : last ∈ out := by rw [hc']; simp
      by_cases he : Key.eqb last.key c.key = true
      · have hset : out.set (out.length - 1) c = init ++ [c] := by rw [hlen, Nat.add_sub_cancel, hc']; simp
        have : onceStep (out, g) c = (init ++ [c], g) := by
          simp only [onceStep]
          rw [if_pos h0, hlast, if_pos he, hset]
        rw [this]
        have hk := (Key.eqb_iff _ _).1 he
        rw [hc'] at h1 h2
        have hp2 := List.pairwise_append.1 h2
        obtain ⟨a1, a2⟩ := ih (init ++ [c]) g (h1.sublist (by
          rw [List.append_assoc, List.append_assoc]
          refine List.Sublist.append_left ?_ _
          simp)) (List.pairwise_append.2 ⟨hp2.1, List.pairwise_singleton _ _, fun x hx y hy => by
            simp at hy; subst hy
            have := hp2.2.2 x hx last (by simp)
            unfold StC at this ⊢
            rw [← hk]; exact this⟩)
        refine ⟨a1, fun x hx => ?_⟩
        rcases a2 x hx with h | h
        · rcases List.mem_append.1 h with h | h
          · exact .inl (by rw [hc']; simp [h])
          · simp at h; subst h; exact .inr (by simp)
        · exact .inr (by simp [h])
      · have : onceStep (out, g) c = (out ++ [c], g + 1) := by
          simp only [onceStep]
          rw [if_pos h0, hlast, if_neg he]
        rw [this]
        have hll : beforeK last.key c.key = true := by
          have h3 : beforeK c.key last.key = false := hw.2.2 last hlm c (by simp)
          cases h4 : beforeK last.key c.key with
          | true => rfl
          | false => exact absurd ((Key.eqb_iff _ _).2 (bk_tri h4 h3)) he
        refine app fun x hx => ?_
        rw [hc'] at hx
        rcases List.mem_append.1 hx with hx | hx
        · rw [hc'] at h2
          have := (List.pairwise_append.1 h2).2.2 x hx last (by simp)
          exact bk_trans this hll
        · simp at hx; subst hx; exact hll
theorem onceK_sorted (l : List Card) : List.Pairwise StC (onceK l) := (onceF (sortK l) [] 0 (by simpa using sortK_sorted l) List.Pairwise.nil).1
theorem onceK_mem {l : List Card} {x : Card} (h : x ∈ onceK l) : x ∈ l := by
  rcases (onceF (sortK l) [] 0 (by simpa using sortK_sorted l) List.Pairwise.nil).2 x h with h | h
  · simp at h
  · exact (sortK_perm l).mem_iff.1 h

/-! ### insertion sort in place -/
theorem swap_perm {α : Type} [Inhabited α] {l : List α} {i j : Nat} (hi : i < l.length) (hj : j < l.length) : List.Perm ((l.set i (nth l j)).set j (nth l i)) l := by
  rw [nth_getElem hi, nth_getElem hj]
  exact List.set_set_perm hi hj
theorem sink_perm {α : Type} [Inhabited α] (cmp : α → α → Int) (a j : Nat) : ∀ (l : List α), j < l.length → List.Perm (sink cmp a j l) l := by
  induction j with
  | zero => intro l _; simp only [sink]; exact List.Perm.refl _
  | succ j ih =>
    intro l h
    simp only [sink]
    split
    · split
      · exact (ih _ (by simp; omega)).trans (swap_perm h (by omega))
      · exact List.Perm.refl _
    · exact List.Perm.refl _
theorem insSort_perm {α : Type} [Inhabited α] (cmp : α → α → Int) (a k : Nat) : ∀ (i : Nat) (l : List α), i + k ≤ l.length → List.Perm (insSort cmp a k i l) l := by
  induction k with
  | zero => intro i l _; simp only [insSort]; exact List.Perm.refl _
  | succ k ih =>
    intro i l h
    simp only [insSort]
    exact (ih (i + 1) _ (by rw [sink_len]; omega)).trans (sink_perm cmp a i l (by omega))
theorem insSort_perm0 {α : Type} [Inhabited α] (cmp : α → α → Int) (l : List α) : List.Perm (insSort cmp 0 (l.length - 1) 1 l) l := by
  rcases Nat.eq_zero_or_pos l.length with h | h
  · have : l = [] := List.eq_nil_of_length_eq_zero h
    subst this; simp [insSort]
  · exact insSort_perm cmp 0 _ 1 l (by omega)

/-! ### what the tape makes -/
theorem Tp.cards_mem (n : Nat) : ∀ (t : Tp) (c : Card), c ∈ t.cards n → ∃ t' : Tp, c = t'.card := by
  induction n with
  | zero => intro t c h; simp [Tp.cards] at h
  | succ n ih =>
    intro t c h
    simp only [Tp.cards, List.mem_cons] at h
    rcases h with h | h
    · exact ⟨t, h⟩
    · exact ih _ c h
theorem madeE_card (cs : List Card) : ∀ (t : Tp), (madeE t cs).map (·.card) = cs := by
  induction cs with
  | nil => intro t; rfl
  | cons c cs ih => intro t; simp only [madeE, List.map_cons, ih]
theorem madeE_seen (cs : List Card) : ∀ (t : Tp) (e : Entry), e ∈ madeE t cs → 0 ≤ e.seen ∧ e.seen < 120 := by
  induction cs with
  | nil => intro t e h; simp [madeE] at h
  | cons c cs ih =>
    intro t e h
    simp only [madeE, List.mem_cons] at h
    rcases h with h | h
    · subst h
      have := t.next_lt 120 (by omega)
      simp only
      omega
    · exact ih _ e h
theorem madeC_mem {tape : List Int} {most : Nat} {c : Card} (h : c ∈ madeC tape most) : ∃ t' : Tp, c = t'.card := Tp.cards_mem _ _ c (onceK_mem h)
theorem madeL_mem {tape : List Int} {most : Nat} {e : Entry} (h : e ∈ madeL tape most) : e.card ∈ madeC tape most := by
  have : (madeL tape most).map (·.card) = madeC tape most := madeE_card _ _
  rw [← this]
  exact List.mem_map_of_mem h
/-- Entries of unlike keys, by key. -/
theorem madeL_sorted (tape : List Int) (most : Nat) : List.Pairwise (fun a b : Entry => beforeK a.card.key b.card.key = true) (madeL tape most) := by
  have h1 : (madeL tape most).map (·.card) = madeC tape most := madeE_card _ _
  have h2 : List.Pairwise StC (madeC tape most) := onceK_sorted _
  rw [← h1, List.pairwise_map] at h2
  exact h2
theorem madeL_seen {tape : List Int} {most : Nat} {e : Entry} (h : e ∈ madeL tape most) : 0 ≤ e.seen ∧ e.seen < 120 := madeE_seen _ _ e h
end Go.Proofs.Ytpkgpldgoajphaa.AM

set_option linter.unusedVariables false
set_option linter.unusedSimpArgs false
set_option maxRecDepth 100000
set_option linter.unusedSectionVars false
namespace Go.Proofs.Ytpkgpldgoajphaa.AM
open Go
section
variable {α : Type} [Inhabited α]
/-- Where x comes among the first k, from the right: behind all that it is not ahead of. -/
def posG (lt : α → α → Bool) (x : α) (out : List α) : Nat → Nat
  | 0 => 0
  | k + 1 => if lt x (nth out k) = true then posG lt x out k else k + 1
def insG (lt : α → α → Bool) (out : List α) (x : α) : List α := (out.take (posG lt x out out.length) ++ [x]) ++ out.drop (posG lt x out out.length)
theorem posG_le (lt : α → α → Bool) (x : α) (out : List α) (k : Nat) : posG lt x out k ≤ k := by
  induction k with
  | zero => simp only [posG]; omega
  | succ k ih => simp only [posG]; split <;> omega
theorem posG_congr (lt : α → α → Bool) (x : α) {out out' : List α} (k : Nat) (h : ∀ i, i < k → nth out i = nth out' i) : posG lt x out k = posG lt x out' k := by
  induction k with
  | zero => rfl
  | succ k ih => simp only [posG]; rw [h k (by omega), ih fun i hi => h i (by omega)]
theorem posG_spec (lt : α → α → Bool) (x : α) (out : List α) (k : Nat) : (∀ i, posG lt x out k ≤ i → i < k → lt x (nth out i) = true) ∧ (0 < posG lt x out k → lt x (nth out (posG lt x out k - 1)) = false) := by
  induction k with
  | zero => simp only [posG]; exact ⟨fun i h1 h2 => by omega, fun h => by omega⟩
  | succ k ih =>
    simp only [posG]
    split
    · rename_i h
      refine ⟨fun i h1 h2 => ?_, ih.2⟩
      rcases Nat.lt_or_ge i k with h3 | h3
      · exact ih.1 i h1 h3
      · rw [show i = k by omega]; exact h
    · rename_i h
      exact ⟨fun i h1 h2 => by omega, fun _ => by simpa using h⟩
theorem insG_perm (lt : α → α → Bool) (out : List α) (x : α) : List.Perm (insG lt out x) (x :: out) := by
  unfold insG
  rw [List.append_assoc, List.singleton_append]
  refine List.perm_middle.trans ?_
  rw [List.take_append_drop]
theorem insG_len (lt : α → α → Bool) (out : List α) (x : α) : (insG lt out x).length = out.length + 1 := by
  rw [(insG_perm lt out x).length_eq]; rfl
/-- A strict weak order. -/
structure Weak (lt : α → α → Bool) : Prop where
  asymm : ∀ a b, lt a b = true → lt b a = false
  trans : ∀ a b c, lt b a = false → lt c b = false → lt c a = false
abbrev Srt (lt : α → α → Bool) (l : List α) : Prop := List.Pairwise (fun a b => lt b a = false) l
theorem insG_sorted {lt : α → α → Bool} (W : Weak lt) {out : List α} (h : Srt lt out) (x : α) : Srt lt (insG lt out x) := by
  obtain ⟨h1, h2⟩ := posG_spec lt x out out.length
  have hp := posG_le lt x out out.length
  generalize hpe : posG lt x out out.length = p at *
  have hs := pw_nth.1 h
  unfold insG
  rw [hpe, List.append_assoc, List.singleton_append]
  refine List.pairwise_append.2 ⟨h.sublist (List.take_sublist _ _), List.pairwise_cons.2 ⟨fun y hy => ?_, h.sublist (List.drop_sublist _ _)⟩, fun a ha y hy => ?_⟩
  · obtain ⟨i, hi, rfl⟩ := mem_nth hy
    simp only [List.length_drop] at hi
    rw [nth_drop]
    exact W.asymm _ _ (h1 (p + i) (by omega) (by omega))
  · have hxp : lt x a = false := by
      obtain ⟨i, hi, rfl⟩ := mem_nth ha
      simp only [List.length_take] at hi
      rw [nth_take (by omega)]
      have h3 := h2 (by omega)
      rcases Nat.lt_or_ge i (p - 1) with h4 | h4
      · exact W.trans _ _ _ (hs i (p - 1) h4 (by omega)) h3
      · rw [show i = p - 1 by omega]; exact h3
    rcases List.mem_cons.1 hy with rfl | hy
    · exact hxp
    · obtain ⟨i, hi, rfl⟩ := mem_nth ha
      obtain ⟨j, hj, rfl⟩ := mem_nth hy
      simp only [List.length_take] at hi
      simp only [List.length_drop] at hj
      rw [nth_take (by omega), nth_drop]
      exact hs i (p + j) (by omega) (by omega)
def sortG (lt : α → α → Bool) (l : List α) : List α := l.foldl (insG lt) []
theorem foldG (lt : α → α → Bool) (l : List α) : ∀ (out : List α), List.Perm (l.foldl (insG lt) out) (out ++ l) := by
  induction l with
  | nil => intro out; simp
  | cons x l ih =>
    intro out
    exact (ih (insG lt out x)).trans (((insG_perm lt out x).append_right l).trans (by simpa using List.perm_middle.symm))
theorem foldG_sorted {lt : α → α → Bool} (W : Weak lt) (l : List α) : ∀ (out : List α), Srt lt out → Srt lt (l.foldl (insG lt) out) := by
  induction l with
  | nil => intro out h; exact h
  | cons x l ih => intro out h; exact ih _ (insG_sorted W h x)
theorem sortG_perm (lt : α → α → Bool) (l : List α) : List.Perm (sortG lt l) l := foldG lt l []
theorem sortG_sorted {lt : α → α → Bool} (W : Weak lt) (l : List α) : Srt lt (sortG lt l) := foldG_sorted W l [] List.Pairwise.nil
theorem insG_congr {lt lt' : α → α → Bool} {out : List α} {x : α} (h : ∀ y ∈ out, lt x y = lt' x y) : insG lt out x = insG lt' out x := by
  have : ∀ k, k ≤ out.length → posG lt x out k = posG lt' x out k := by
    intro k
    induction k with
    | zero => intro _; rfl
    | succ k ih => intro hk; simp only [posG]; rw [h _ (nth_mem (by omega)), ih (by omega)]
  unfold insG
  rw [this _ (Nat.le_refl _)]

/-- A step of the sort in place is an insertion. -/
theorem sink_ins (cmp : α → α → Int) (j : Nat) : ∀ (l : List α), j < l.length → sink cmp 0 j l = insG (fun a b => decide (cmp a b < 0)) (l.take j) (nth l j) ++ l.drop (j + 1) := by
  induction j with
  | zero =>
    intro l h
    simp only [sink]
    have hd : l = nth l 0 :: l.drop 1 := by
      have := drop_nth (l := l) (i := 0) h
      simpa using this
    conv => lhs; rw [hd]
    simp [insG, posG]
  | succ j ih =>
    intro l h
    simp only [sink]
    have h0 : decide (((j + 1 : Nat) : Int) > ((0 : Nat) : Int)) = true := decide_eq_true (by omega)
    rw [if_pos h0]
    have htk : l.take (j + 1) = l.take j ++ [nth l j] := by
      rw [List.take_add_one]
      congr 1
      rw [nth_get (by omega)]
      rfl
    have hdj : l.drop (j + 1) = nth l (j + 1) :: l.drop (j + 2) := drop_nth h
    have hlen : (l.take j).length = j := by simp; omega
    by_cases hc : decide (cmp (nth l (j + 1)) (nth l j) < 0) = true
    · rw [if_pos hc]
      rw [ih _ (by simp; omega)]
      have e1 : ((l.set (j + 1) (nth l j)).set j (nth l (j + 1))).take j = l.take j := by
        rw [List.take_set_of_le (by omega), List.take_set_of_le (by omega)]
      have e2 : nth ((l.set (j + 1) (nth l j)).set j (nth l (j + 1))) j = nth l (j + 1) := by
        unfold nth
        rw [List.getD_eq_getElem?_getD, List.getElem?_set_self (by simp; omega)]; rfl
      have e3 : ((l.set (j + 1) (nth l j)).set j (nth l (j + 1))).drop (j + 1) = nth l j :: l.drop (j + 2) := by
        rw [List.drop_set_of_lt (by omega), drop_nth (by simp; omega)]
        congr 1
        · unfold nth
          rw [List.getD_eq_getElem?_getD, List.getElem?_set_self (by omega)]; rfl
        · rw [List.drop_set_of_lt (by omega)]
      rw [e1, e2, e3]
      have hpos : posG (fun a b => decide (cmp a b < 0)) (nth l (j + 1)) (l.take (j + 1)) (l.take (j + 1)).length = posG (fun a b => decide (cmp a b < 0)) (nth l (j + 1)) (l.take j) j := by
        rw [show (l.take (j + 1)).length = j + 1 by rw [List.length_take]; omega]
        simp only [posG]
        rw [nth_take (by omega), if_pos hc]
        exact posG_congr _ _ _ fun i hi => by rw [nth_take (by omega), nth_take hi]
      have hle := posG_le (fun a b => decide (cmp a b < 0)) (nth l (j + 1)) (l.take j) j
      unfold insG
      rw [hpos, hlen]
      generalize posG (fun a b => decide (cmp a b < 0)) (nth l (j + 1)) (l.take j) j = p at *
      rw [htk, List.take_append_of_le_length (by omega), List.drop_append_of_le_length (by omega)]
      simp
    · rw [if_neg hc]
      have hpos : posG (fun a b => decide (cmp a b < 0)) (nth l (j + 1)) (l.take (j + 1)) (l.take (j + 1)).length = j + 1 := by
        rw [show (l.take (j + 1)).length = j + 1 by rw [List.length_take]; omega]
        simp only [posG]
        rw [nth_take (by omega), if_neg hc]
      unfold insG
      rw [hpos]
      rw [List.take_of_length_le (l := l.take (j + 1)) (by simp; omega), List.drop_of_length_le (l := l.take (j + 1)) (by simp; omega), List.append_nil, List.append_assoc, List.singleton_append, ← hdj, List.take_append_drop]
theorem insSort_fold (cmp : α → α → Int) (rest : List α) : ∀ (S : List α), insSort cmp 0 rest.length S.length (S ++ rest) = rest.foldl (insG fun a b => decide (cmp a b < 0)) S := by
  induction rest with
  | nil => intro S; simp [insSort]
  | cons x rest ih =>
    intro S
    simp only [List.length_cons, insSort, List.foldl_cons]
    rw [sink_ins cmp S.length _ (by simp)]
    have e1 : (S ++ x :: rest).take S.length = S := by simp
    have e3 : (S ++ x :: rest).drop (S.length + 1) = rest := by
      rw [List.drop_append]
      simp
    rw [e1, nth_append_len, e3]
    have := ih (insG (fun a b => decide (cmp a b < 0)) S x)
    rwa [insG_len] at this
theorem insSort_sortG (cmp : α → α → Int) (l : List α) : insSort cmp 0 (l.length - 1) 1 l = sortG (fun a b => decide (cmp a b < 0)) l := by
  cases l with
  | nil => rfl
  | cons x l =>
    have := insSort_fold cmp l [x]
    simpa [sortG, insG, posG] using this

/-- Sorted rows of the same things, of which no two are alike, are one. -/
theorem sorted_unique {lt : α → α → Bool} : ∀ (l m : List α), Srt lt l → Srt lt m → List.Perm l m → (∀ a ∈ l, ∀ b ∈ l, lt a b = false → lt b a = false → a = b) → l = m
  | [], m, _, _, h, _ => by simpa using h.symm
  | a :: l, [], _, _, h, _ => by simp at h
  | a :: l, b :: m, hl, hm, h, ht => by
    have hl' := List.pairwise_cons.1 hl
    have hm' := List.pairwise_cons.1 hm
    have e : a = b := by
      have hb : b ∈ a :: l := h.mem_iff.2 (by simp)
      have ha : a ∈ b :: m := h.mem_iff.1 (by simp)
      rcases List.mem_cons.1 hb with h1 | h1
      · exact h1.symm
      · rcases List.mem_cons.1 ha with h2 | h2
        · exact h2
        · exact ht a (by simp) b (by simp [h1]) (hm'.1 a h2) (hl'.1 b h1)
    subst e
    rw [sorted_unique l m hl'.2 hm'.2 ((List.perm_cons a).1 h) fun x hx y hy => ht x (by simp [hx]) y (by simp [hy])]
end
end Go.Proofs.Ytpkgpldgoajphaa.AM

set_option linter.unusedVariables false
set_option linter.unusedSimpArgs false
set_option maxRecDepth 100000
namespace Go.Proofs.Ytpkgpldgoajphaa.AM
open Go
section
variable {α : Type} [Inhabited α]
theorem insG_split {lt : α → α → Bool} (W : Weak lt) {out : List α} (h : Srt lt out) (x : α) : insG lt out x = out.filter (fun y => !lt x y) ++ x :: out.filter (fun y => lt x y) := by
  obtain ⟨h1, h2⟩ := posG_spec lt x out out.length
  have hp := posG_le lt x out out.length
  generalize hpe : posG lt x out out.length = p at *
  have hs := pw_nth.1 h
  have hA : ∀ y ∈ out.take p, lt x y = false := by
    intro y hy
    obtain ⟨i, hi, rfl⟩ := mem_nth hy
    simp only [List.length_take] at hi
    have hi' : i < p := by omega
    rw [nth_take hi']
    have h3 := h2 (by omega)
    rcases Nat.lt_or_ge i (p - 1) with h4 | h4
    · exact W.trans _ _ _ (hs i (p - 1) h4 (by omega)) (by simpa using h3)
    · rw [show i = p - 1 by omega]; simpa using h3
  have hB : ∀ y ∈ out.drop p, lt x y = true := by
    intro y hy
    obtain ⟨i, hi, rfl⟩ := mem_nth hy
    simp only [List.length_drop] at hi
    rw [nth_drop]
    exact h1 (p + i) (by omega) (by omega)
  have e1 : out.filter (fun y => !lt x y) = out.take p := by
    conv => lhs; rw [← List.take_append_drop p out]
    rw [List.filter_append, List.filter_eq_self.2 (fun y hy => by simp [hA y hy]), List.filter_eq_nil_iff.2 (fun y hy => by simp [hB y hy]), List.append_nil]
  have e2 : out.filter (fun y => lt x y) = out.drop p := by
    conv => lhs; rw [← List.take_append_drop p out]
    rw [List.filter_append, List.filter_eq_nil_iff.2 (fun y hy => by simp [hA y hy]), List.filter_eq_self.2 (fun y hy => by simp [hB y hy]), List.nil_append]
  unfold insG
  rw [hpe, e1, e2]; simp
theorem filter_insG {lt : α → α → Bool} (W : Weak lt) (p : α → Bool) {out : List α} (h : Srt lt out) (x : α) : (insG lt out x).filter p = if p x = true then insG lt (out.filter p) x else out.filter p := by
  have hf : Srt lt (out.filter p) := h.sublist List.filter_sublist
  rw [insG_split W h x, List.filter_append, List.filter_cons]
  have comm : ∀ q : α → Bool, (out.filter q).filter p = (out.filter p).filter q := fun q => by rw [List.filter_filter, List.filter_filter]; congr 1; funext y; rw [Bool.and_comm]
  split
  · rw [insG_split W hf x, comm, comm]
  · rw [← List.filter_append]
    have e := insG_split W h x
    have hperm : List.filter (fun y => !lt x y) out ++ List.filter (fun y => lt x y) out = out := by
      obtain ⟨h1, h2⟩ := posG_spec lt x out out.length
      have hi := e
      unfold insG at hi
      have hl := congrArg (fun l => l.filter p) hi
      clear hl
      have hp := posG_le lt x out out.length
      have hlen : (out.take (posG lt x out out.length)).length = (out.filter (fun y => !lt x y)).length := by
        have hs := pw_nth.1 h
        have e1 : out.filter (fun y => !lt x y) = out.take (posG lt x out out.length) := by
          conv => lhs; rw [← List.take_append_drop (posG lt x out out.length) out]
          rw [List.filter_append, List.filter_eq_self.2, List.filter_eq_nil_iff.2, List.append_nil]
          · intro y hy
            obtain ⟨i, hi, rfl⟩ := mem_nth hy
            simp only [List.length_drop] at hi
            rw [nth_drop]
            simp [h1 (posG lt x out out.length + i) (by omega) (by omega)]
          · intro y hy
            obtain ⟨i, hi, rfl⟩ := mem_nth hy
            simp only [List.length_take] at hi
            rw [nth_take (by omega)]
            have h3 := h2 (by omega)
            rcases Nat.lt_or_ge i (posG lt x out out.length - 1) with h4 | h4
            · have := W.trans _ _ _ (hs i (posG lt x out out.length - 1) h4 (by omega)) (by simpa using h3)
              simp [this]
            · rw [show i = posG lt x out out.length - 1 by omega]; simpa using h3
        rw [e1]
      have h5 := List.append_inj (show out.take (posG lt x out out.length) ++ (x :: out.drop (posG lt x out out.length)) = _ from by simpa using hi) hlen
      have h6 := (List.cons.inj h5.2).2
      rw [← h5.1, ← h6, List.take_append_drop]
    rw [hperm]
theorem filter_foldG {lt : α → α → Bool} (W : Weak lt) (p : α → Bool) (l : List α) : ∀ (out : List α), Srt lt out → (l.foldl (insG lt) out).filter p = (l.filter p).foldl (insG lt) (out.filter p) := by
  induction l with
  | nil => intro out h; rfl
  | cons x l ih =>
    intro out h
    rw [List.foldl_cons, ih _ (insG_sorted W h x), filter_insG W p h x, List.filter_cons]
    split
    · rw [List.foldl_cons]
    · rfl
theorem filter_sortG {lt : α → α → Bool} (W : Weak lt) (p : α → Bool) (l : List α) : (sortG lt l).filter p = sortG lt (l.filter p) := filter_foldG W p l [] List.Pairwise.nil
end
end Go.Proofs.Ytpkgpldgoajphaa.AM

set_option linter.unusedVariables false
set_option linter.unusedSimpArgs false
set_option linter.unusedSectionVars false
namespace Go.Proofs.Ytpkgpldgoajphaa.AM
open Go

section
variable {α : Type} [Inhabited α]
theorem nth_def (l : List α) (q : Nat) : nth l q = l.getD q default := rfl
theorem nth_setM (l : List α) {i : Nat} (h : i < l.length) (x : α) (q : Nat) : nth (l.set i x) q = if i = q then x else nth l q := by
  simp only [nth_def, List.getD_eq_getElem?_getD]
  by_cases e : i = q
  · subst e; rw [List.getElem?_set_self h, if_pos rfl]; rfl
  · rw [List.getElem?_set_ne e, if_neg e]
theorem nth_appM (l m : List α) (q : Nat) : nth (l ++ m) q = if q < l.length then nth l q else nth m (q - l.length) := by
  simp only [nth_def, List.getD_eq_getElem?_getD]
  split
  · rename_i h; rw [List.getElem?_append_left h]
  · rename_i h; rw [List.getElem?_append_right (by omega)]
theorem ext_nth {l m : List α} (hl : l.length = m.length) (h : ∀ q, q < l.length → nth l q = nth m q) : l = m := by
  apply List.ext_getElem hl
  intro q h1 h2
  have := h q h1
  rwa [nth_getElem h1, nth_getElem h2] at this
/-! ### swaps -/
def swapL (a b n : Nat) (l : List α) : List α := iter (fun i l => (l.set (a + i) (nth l (b + i))).set (b + i) (nth l (a + i))) n 0 l
theorem swapL_all (a b n : Nat) (l : List α) (hab : a + n ≤ b) (hb : b + n ≤ l.length) : ∀ k, k ≤ n → (swapL a b k l).length = l.length ∧ ∀ q, nth (swapL a b k l) q = if a ≤ q ∧ q < a + k then nth l (b + (q - a)) else if b ≤ q ∧ q < b + k then nth l (a + (q - b)) else nth l q := by
  intro k
  induction k with
  | zero =>
    intro _
    refine ⟨rfl, fun q => ?_⟩
    rw [if_neg (by omega), if_neg (by omega)]
    rfl
  | succ k ih =>
    intro hk
    obtain ⟨h1, h2⟩ := ih (by omega)
    have e : swapL a b (k + 1) l = ((swapL a b k l).set (a + k) (nth (swapL a b k l) (b + k))).set (b + k) (nth (swapL a b k l) (a + k)) := iter_succ _ _ _
    refine ⟨by rw [e]; simp [h1], fun q => ?_⟩
    rw [e, nth_setM _ (by simp; omega), nth_setM _ (by omega), h2, h2, h2]
    by_cases c1 : b + k = q
    · subst c1
      rw [if_pos rfl, if_neg (by omega), if_neg (by omega), if_neg (by omega), if_pos (by omega)]
      congr 1; omega
    · rw [if_neg c1]
      by_cases c2 : a + k = q
      · subst c2
        rw [if_pos rfl, if_neg (by omega), if_neg (by omega), if_pos (by omega)]
        congr 1; omega
      · rw [if_neg c2]
        have e1 : (a ≤ q ∧ q < a + (k + 1)) ↔ (a ≤ q ∧ q < a + k) := by omega
        have e2 : (b ≤ q ∧ q < b + (k + 1)) ↔ (b ≤ q ∧ q < b + k) := by omega
        simp only [e1, e2]
theorem swapL_len {a b n : Nat} {l : List α} (hab : a + n ≤ b) (hb : b + n ≤ l.length) : (swapL a b n l).length = l.length := (swapL_all a b n l hab hb n (Nat.le_refl _)).1
theorem swapL_parts (X U M V Y : List α) {a b n : Nat} (ha : a = X.length) (hU : U.length = n) (hV : V.length = n) (hb : b = X.length + n + M.length) :
    swapL a b n (X ++ (U ++ (M ++ (V ++ Y)))) = X ++ (V ++ (M ++ (U ++ Y))) := by
  obtain ⟨h1, h2⟩ := swapL_all a b n (X ++ (U ++ (M ++ (V ++ Y)))) (by omega) (by simp; omega) n (Nat.le_refl _)
  refine ext_nth (by rw [h1]; simp; omega) fun q hq => ?_
  rw [h2]
  simp only [nth_appM, hU, hV]
  by_cases c1 : q < X.length
  · rw [if_neg (by omega), if_neg (by omega), if_pos c1, if_pos c1]
  · rw [if_neg (c := q < X.length) c1, if_neg (c := q < X.length) c1]
    by_cases c2 : q - X.length < n
    · rw [if_pos (by omega), if_pos (c := q - X.length < n) c2, if_neg (by omega), if_neg (by omega), if_neg (by omega), if_pos (by omega)]
      congr 1; omega
    · rw [if_neg (by omega), if_neg (c := q - X.length < n) c2, if_neg (c := q - X.length < n) c2]
      by_cases c3 : q - X.length - n < M.length
      · rw [if_neg (by omega), if_pos c3, if_pos c3]
      · rw [if_neg (c := q - X.length - n < M.length) c3, if_neg (c := q - X.length - n < M.length) c3]
        by_cases c4 : q - X.length - n - M.length < n
        · rw [if_pos (by omega), if_pos (c := q - X.length - n - M.length < n) c4, if_neg (by omega), if_pos (by omega)]
          congr 1; omega
        · rw [if_neg (by omega), if_neg c4, if_neg c4]
/-! ### turns -/
def rotS (m : Nat) : Nat → Nat → Nat → List α → List α × Nat
  | 0, i, _, l => (l, i)
  | r + 1, i, j, l => if i = j then (l, i) else if j < i then rotS m r (i - j) j (swapL (m - i) m j l) else rotS m r i (j - i) (swapL (m - i) (m + j - i) i l)
def rotL (a m b : Nat) (l : List α) : List α := swapL (m - (rotS m (m - a + (b - m)) (m - a) (b - m) l).2) m (rotS m (m - a + (b - m)) (m - a) (b - m) l).2 (rotS m (m - a + (b - m)) (m - a) (b - m) l).1
theorem rotS_parts (m : Nat) (T : List α) (r : Nat) : ∀ (X U V Y : List α) (i j : Nat), i + j ≤ r + 1 → 0 < i → 0 < j → U.length = i → V.length = j → m = X.length + i → T = X ++ (V ++ (U ++ Y)) →
    0 < (rotS m r i j (X ++ (U ++ (V ++ Y)))).2 ∧ (rotS m r i j (X ++ (U ++ (V ++ Y)))).2 ≤ i ∧ (rotS m r i j (X ++ (U ++ (V ++ Y)))).2 ≤ j ∧ (rotS m r i j (X ++ (U ++ (V ++ Y)))).1.length = T.length ∧ swapL (m - (rotS m r i j (X ++ (U ++ (V ++ Y)))).2) m (rotS m r i j (X ++ (U ++ (V ++ Y)))).2 (rotS m r i j (X ++ (U ++ (V ++ Y)))).1 = T := by
  induction r with
  | zero => intro X U V Y i j h1 h2 h3; omega
  | succ r ih =>
    intro X U V Y i j h1 h2 h3 hU hV hm hT
    simp only [rotS]
    by_cases c1 : i = j
    · rw [if_pos c1]
      refine ⟨h2, Nat.le_refl _, by simp only; omega, by rw [hT]; simp; omega, ?_⟩
      subst c1
      have := swapL_parts X U [] V Y (a := m - i) (b := m) (n := i) (by omega) hU hV (by simp; omega)
      rw [hT]
      simpa using this
    · rw [if_neg c1]
      by_cases c2 : j < i
      · rw [if_pos c2]
        have hP : (U.take j).length = j := by simp; omega
        have hQ : (U.drop j).length = i - j := by simp; omega
        have e := swapL_parts X (U.take j) (U.drop j) V Y (a := m - i) (b := m) (n := j) (by omega) hP hV (by omega)
        rw [← List.append_assoc (U.take j), List.take_append_drop] at e
        rw [e]
        have := ih (X ++ V) (U.drop j) (U.take j) Y (i - j) j (by omega) (by omega) h3 hQ hP (by simp; omega) (by rw [hT, ← List.append_assoc (U.take j), List.take_append_drop]; simp)
        simp only [List.append_assoc] at this ⊢
        exact ⟨this.1, by omega, this.2.2.1, this.2.2.2⟩
      · rw [if_neg c2]
        have hP : (V.take (j - i)).length = j - i := by simp; omega
        have hQ : (V.drop (j - i)).length = i := by simp; omega
        have e := swapL_parts X U (V.take (j - i)) (V.drop (j - i)) Y (a := m - i) (b := m + j - i) (n := i) (by omega) hU hQ (by omega)
        rw [← List.append_assoc (V.take (j - i)) (V.drop (j - i)), List.take_append_drop] at e
        rw [e]
        have := ih X (V.drop (j - i)) (V.take (j - i)) (U ++ Y) i (j - i) (by omega) h2 (by omega) hQ hP hm (by rw [hT, ← List.append_assoc (V.take (j - i)) (V.drop (j - i)), List.take_append_drop])
        exact ⟨this.1, this.2.1, by omega, this.2.2.2⟩
theorem rotL_parts (X U V Y : List α) {a m b : Nat} (ha : a = X.length) (hm : m = X.length + U.length) (hb : b = X.length + U.length + V.length) (h1 : 0 < U.length) (h2 : 0 < V.length) : rotL a m b (X ++ (U ++ (V ++ Y))) = X ++ (V ++ (U ++ Y)) := by
  have e1 : m - a = U.length := by omega
  have e2 : b - m = V.length := by omega
  unfold rotL
  rw [e1, e2]
  exact (rotS_parts m _ _ X U V Y U.length V.length (by omega) h1 h2 rfl rfl hm rfl).2.2.2.2
/-! ### searches -/
def bsr (p : Nat → Bool) : Nat → Nat → Nat → Nat
  | 0, lo, _ => lo
  | r + 1, lo, hi => if lo < hi then if p ((lo + hi) / 2) = true then bsr p r ((lo + hi) / 2 + 1) hi else bsr p r lo ((lo + hi) / 2) else lo
theorem bsr_spec (p : Nat → Bool) (r : Nat) : ∀ (lo hi : Nat), hi - lo ≤ r → lo ≤ hi → lo ≤ bsr p r lo hi ∧ bsr p r lo hi ≤ hi ∧ (lo < bsr p r lo hi → p (bsr p r lo hi - 1) = true) ∧ (bsr p r lo hi < hi → p (bsr p r lo hi) = false) := by
  induction r with
  | zero =>
    intro lo hi h1 h2
    simp only [bsr]
    exact ⟨Nat.le_refl _, h2, fun h => by omega, fun h => by omega⟩
  | succ r ih =>
    intro lo hi h1 h2
    simp only [bsr]
    by_cases c : lo < hi
    · rw [if_pos c]
      by_cases d : p ((lo + hi) / 2) = true
      · rw [if_pos d]
        obtain ⟨k1, k2, k3, k4⟩ := ih ((lo + hi) / 2 + 1) hi (by omega) (by omega)
        refine ⟨by omega, k2, fun _ => ?_, k4⟩
        rcases Nat.lt_or_ge ((lo + hi) / 2 + 1) (bsr p r ((lo + hi) / 2 + 1) hi) with h | h
        · exact k3 h
        · have : bsr p r ((lo + hi) / 2 + 1) hi = (lo + hi) / 2 + 1 := by omega
          rw [this]; simpa using d
      · rw [if_neg d]
        obtain ⟨k1, k2, k3, k4⟩ := ih lo ((lo + hi) / 2) (by omega) (by omega)
        refine ⟨k1, by omega, k3, fun _ => ?_⟩
        rcases Nat.lt_or_ge (bsr p r lo ((lo + hi) / 2)) ((lo + hi) / 2) with h | h
        · exact k4 h
        · have : bsr p r lo ((lo + hi) / 2) = (lo + hi) / 2 := by omega
          rw [this]; simpa using d
    · rw [if_neg c]
      exact ⟨Nat.le_refl _, h2, fun h => by omega, fun h => by omega⟩
/-! ### merging -/
/-- Merging: the left one goes first where neither is less. -/
def mgL (lt : α → α → Bool) : Nat → List α → List α → List α
  | 0, L, R => L ++ R
  | _ + 1, [], R => R
  | _ + 1, L, [] => L
  | n + 1, x :: L, y :: R => if lt y x = true then y :: mgL lt n (x :: L) R else x :: mgL lt n L (y :: R)
def mg (lt : α → α → Bool) (L R : List α) : List α := mgL lt (L.length + R.length) L R
theorem mg_nil_l (lt : α → α → Bool) (R : List α) : mg lt [] R = R := by
  unfold mg; cases h : ([] : List α).length + R.length <;> simp [mgL]
theorem mg_nil_r (lt : α → α → Bool) (L : List α) : mg lt L [] = L := by
  unfold mg
  cases L with
  | nil => simp [mgL]
  | cons x L => simp [mgL]
theorem mg_cons (lt : α → α → Bool) (x y : α) (L R : List α) : mg lt (x :: L) (y :: R) = if lt y x = true then y :: mg lt (x :: L) R else x :: mg lt L (y :: R) := by
  unfold mg
  have h1 : (x :: L).length + (y :: R).length = ((x :: L).length + R.length) + 1 := by simp; omega
  have h2 : L.length + (y :: R).length = (x :: L).length + R.length := by simp; omega
  rw [h1, h2]
  rfl
theorem mg_split (lt : α → α → Bool) {L2 R2 : List α} (n : Nat) : ∀ (L1 R1 : List α), L1.length + R1.length ≤ n → (∀ x ∈ L2, ∀ y ∈ R1, lt y x = true) → (∀ x ∈ L1, ∀ y ∈ R2, lt y x = false) → mg lt (L1 ++ L2) (R1 ++ R2) = mg lt L1 R1 ++ mg lt L2 R2 := by
  induction n with
  | zero =>
    intro L1 R1 h _ _
    obtain rfl : L1 = [] := List.eq_nil_of_length_eq_zero (by omega)
    obtain rfl : R1 = [] := List.eq_nil_of_length_eq_zero (by omega)
    rw [mg_nil_l]; rfl
  | succ n ih =>
    intro L1 R1 h h1 h2
    cases L1 with
    | nil =>
      cases R1 with
      | nil => rw [mg_nil_l]; rfl
      | cons y R1 =>
        have := ih [] R1 (by simp at h ⊢; omega) (fun x hx y' hy' => h1 x hx y' (List.mem_cons_of_mem _ hy')) (fun x hx => by simp at hx)
        rw [mg_nil_l] at this ⊢
        simp only [List.nil_append, List.cons_append] at this ⊢
        cases L2 with
        | nil => rw [mg_nil_l, mg_nil_l]
        | cons x L2 => rw [mg_cons, if_pos (h1 x (by simp) y (by simp)), this]
    | cons x L1 =>
      cases R1 with
      | nil =>
        have := ih L1 [] (by simp at h ⊢; omega) (fun x hx y' hy' => by simp at hy') (fun x' hx' y hy => h2 x' (List.mem_cons_of_mem _ hx') y hy)
        rw [mg_nil_r] at this ⊢
        simp only [List.nil_append, List.cons_append] at this ⊢
        cases R2 with
        | nil => rw [mg_nil_r, mg_nil_r]
        | cons y R2 => rw [mg_cons, if_neg (by rw [h2 x (by simp) y (by simp)]; simp), this]
      | cons y R1 =>
        simp only [List.cons_append]
        rw [mg_cons, mg_cons]
        have k1 := ih (x :: L1) R1 (by simp at h ⊢; omega) (fun x hx y' hy' => h1 x hx y' (List.mem_cons_of_mem _ hy')) h2
        have k2 := ih L1 (y :: R1) (by simp at h ⊢; omega) h1 (fun x' hx' y hy => h2 x' (List.mem_cons_of_mem _ hx') y hy)
        simp only [List.cons_append] at k1 k2
        split
        · rw [k1]; rfl
        · rw [k2]; rfl
theorem mg_perm (lt : α → α → Bool) (n : Nat) : ∀ (L R : List α), L.length + R.length ≤ n → List.Perm (mg lt L R) (L ++ R) := by
  induction n with
  | zero =>
    intro L R h
    obtain rfl : L = [] := List.eq_nil_of_length_eq_zero (by omega)
    obtain rfl : R = [] := List.eq_nil_of_length_eq_zero (by omega)
    rw [mg_nil_l]; exact .refl _
  | succ n ih =>
    intro L R h
    cases L with
    | nil => rw [mg_nil_l]; exact .refl _
    | cons x L =>
      cases R with
      | nil => rw [mg_nil_r]; simp
      | cons y R =>
        rw [mg_cons]
        split
        · refine (List.Perm.cons y (ih (x :: L) R (by simp at h ⊢; omega))).trans ?_
          exact (List.perm_middle (a := y) (l₁ := x :: L) (l₂ := R)).symm
        · exact List.Perm.cons x (ih L (y :: R) (by simp at h ⊢; omega))
theorem mg_len (lt : α → α → Bool) (L R : List α) : (mg lt L R).length = L.length + R.length := by
  have := (mg_perm lt _ L R (Nat.le_refl _)).length_eq
  simpa using this
end
end Go.Proofs.Ytpkgpldgoajphaa.AM

set_option linter.unusedVariables false
set_option linter.unusedSimpArgs false
namespace Go.Proofs.Ytpkgpldgoajphaa.AM
open Go

theorem ACalls.orNil {P : Program} {f : FuncId} {k : Nat} {xs : List (List AV)} {as_ : List AV} {H : Heap} {r : AV × Heap} (h1 : xs = [] → ACalls P f (.sl .nil 0 [] :: as_) H r) (h2 : ACalls P f (.sl .op k xs :: as_) H r) :
    ACalls P f (.sl .any k xs :: as_) H r := by
  intro G w C vs hsz hargs hH
  have h0 := hargs 0 (by simp)
  have hr : ∀ i, 0 < i → i < as_.length + 1 → ∀ v : AV, (v :: as_).getD i .skip = (AV.sl .any k xs :: as_).getD i .skip := by
    intro i hi _ v
    cases i with
    | zero => omega
    | succ i => rfl
  have key : ∀ v : AV, VR G w C v (vs.getD 0 undef) → ∀ i, i < (v :: as_).length → VR G w C ((v :: as_).getD i .skip) (vs.getD i undef) := by
    intro v hv i hi
    cases i with
    | zero => exact hv
    | succ i =>
      have := hargs (i + 1) (by simpa using hi)
      rw [hr (i + 1) (by omega) (by simpa using hi) v]
      exact this
  simp only [List.getD_cons_zero] at h0
  generalize hv0 : vs.getD 0 undef = v0 at h0
  cases h0 with
  | nils _ _ _ hg => exact h1 rfl G w C vs (by simpa using hsz) (key _ (by rw [hv0]; exact .nils _ _ _ (.inl rfl))) hH
  | sl _ _ _ _ ad cap hg hclip hle hs cv hk hc h1' h => exact h2 G w C vs (by simpa using hsz) (key _ (by rw [hv0]; exact .sl _ _ _ _ ad cap (by simp) (by simp) hle hs cv hk hc h1' h)) hH
theorem slice_max {H : Heap} {k : Nat} {rows xs : List (List AV)} {g : Tg} {lo hi mx : Int} {l h : Nat} (hlo : lo = (l : Int)) (hhi : hi = (h : Int)) (h1 : l ≤ h) (h2 : h ≤ rows.length) (hx : (rows.take h).drop l = xs) (hm : hi = mx) :
    Option.map (fun a => (a, H)) (if k = k ∨ rows.isEmpty = true then (if hi = mx then (bounds lo hi rows.length).map fun p => AV.sl g k ((List.take p.2 rows).drop p.1) else none) else none) = some (.sl g k xs, H) := by
  rw [if_pos hm]
  exact slice_sl hlo hhi h1 h2 hx
def AV.scal : AV → Bool
  | .bool _ | .int _ _ | .str _ => true
  | _ => false
theorem VR.scal {G G' : Nat → Prop} {w w' : World} {C C' : Cx} {a : AV} {v : Value} (h : VR G w C a v) (ha : a.scal = true) : VR G' w' C' a v := by
  cases h <;> simp [AV.scal] at ha
  · exact .bool ..
  · exact .int ..
  · exact .str ..
/-- The argument as it is, and as the function is told of it. -/
def Br (H : Heap) (a' a : AV) : Prop := (a' = a ∧ AV.bdd 0 a = true) ∨ ∃ id g k e n rows, a' = .osl id g k e n ∧ a = .sl .any k rows ∧ rowsIn H k (.osl id g k e n) = some rows ∧ AV.bddss 0 rows = true
theorem Br.same {H : Heap} {a : AV} (h : AV.bdd 0 a = true) : Br H a a := .inl ⟨rfl, h⟩
theorem Br.osl {H : Heap} {id g k e n : Nat} {rows : List (List AV)} (h : rowsIn H k (.osl id g k e n) = some rows) (hb : AV.bddss 0 rows = true) : Br H (.osl id g k e n) (.sl .any k rows) := .inr ⟨id, g, k, e, n, rows, rfl, rfl, h, hb⟩
def Brs (H : Heap) : List AV → List AV → Prop
  | [], [] => True
  | a :: l, b :: m => Br H a b ∧ Brs H l m
  | _, _ => False
theorem Brs.get {H : Heap} : ∀ {l m : List AV}, Brs H l m → l.length = m.length ∧ ∀ i, i < m.length → Br H (l.getD i .skip) (m.getD i .skip)
  | [], [], _ => ⟨rfl, fun i hi => by simp at hi⟩
  | [], _ :: _, h => h.elim
  | _ :: _, [], h => h.elim
  | a :: l, b :: m, h => by
    obtain ⟨h1, h2⟩ := Brs.get h.2
    refine ⟨by simp [h1], fun i hi => ?_⟩
    cases i with
    | zero => simpa using h.1
    | succ i => simpa using h2 i (by simpa using hi)
theorem ACalls.borrow {P : Program} {f : FuncId} {args args' : List AV} {a : AV} (h : ACalls P f args [] (a, [])) (ha : a.scal = true) {H : Heap} (hb : Brs H args' args) : ACalls P f args' H (a, H) := by
  intro G w C vs hsz hargs hH
  obtain ⟨hl, hbr⟩ := hb.get
  have key : ∀ i, i < args.length → VR (fun b => G b ∨ ∃ id l, C.ι id = some l ∧ l.b = some b) w Cx.none (args.getD i .skip) (vs.getD i undef) := by
    intro i hi
    have hv := hargs i (by omega)
    rcases hbr i hi with ⟨e, h0⟩ | ⟨id, g, k, e, n, rows, h1, h2, h3, h4⟩
    · rw [e] at hv
      have := hv.cut 0 h0
      rw [cut_zero] at this
      exact this.mono (fun b hb => .inl hb) (fun _ _ => rfl) (CxLe.refl _)
    · rw [h1] at hv
      rw [h2]
      obtain ⟨G', C', e1, e2, e3, _⟩ := freeze_sound hH hv h3 h4
      have := e3.cut 0 rfl
      rw [cut_zero] at this
      refine this.mono (fun b hb => ?_) (fun _ _ => rfl) (CxLe.refl _)
      rcases e1.grow b hb with h5 | h5 | h5
      · exact .inl h5
      · exact .inr h5
      · have := e2.gsz b hb; omega
  have hE : HR (fun b => G b ∨ ∃ id l, C.ι id = some l ∧ l.b = some b) w Cx.none [] :=
    ⟨fun id o ho => by simp at ho, fun id _ => ⟨rfl, rfl⟩, fun id l b hl => by simp [Cx.none] at hl, fun i j l l' b hl => by simp [Cx.none] at hl, fun id o l ho => by simp at ho,
      fun b hb => hb.elim (hH.gsz b) fun ⟨id, l, h1, h2⟩ => (hH.own id l b h1 h2).1⟩
  refine (h _ w Cx.none vs (by omega) key hE).mono fun v w' ⟨G', C', he, hh, hv, hp⟩ => ?_
  have hall : ∀ b, b < w.heap.size → w'.heap[b]? = w.heap[b]? := fun b hb => he.rest b hb fun id l hl => by simp [Cx.none] at hl
  have hev : Ev G w C G w' C := ⟨he.os, he.tape, he.output, he.size, fun _ h => h, fun b hb => hall b (hH.gsz b hb), CxLe.refl _, fun b hb _ => hall b hb, fun _ h => .inl h, fun id l b h1 h2 => .inl ⟨id, l, h1, h2⟩, he.frz⟩
  refine ⟨G, C, hev, ⟨hH.gen, hH.out, fun id l b h1 h2 => ⟨Nat.lt_of_lt_of_le (hH.own id l b h1 h2).1 he.size, (hH.own id l b h1 h2).2⟩, hH.inj, fun id o l ho hl' => (hH.ob id o l ho hl').ev hev fun b hb => hall b (hH.own id l b hl' hb).1, fun b hb => Nat.lt_of_lt_of_le (hH.gsz b hb) he.size⟩, hv.scal ha, Pd.refl⟩
/-- A call that needs objects and makes one, which it hands back as a slice, among more objects. -/
theorem ACalls.ext_osl {P : Program} {f : FuncId} {args : List AV} {g k n : Nat} {Hs H1 : Heap} {o : Ob} (h : ACalls P f args Hs (.osl Hs.length g k 0 n, H1 ++ [o])) (hargs : AV.bdds Hs.length args = true) (hbs : obsB Hs.length Hs = true) (hbs' : obsB Hs.length H1 = true) (ho : AV.bddss 0 o.els = true) (hlen : H1.length = Hs.length) (E : Heap) :
    ACalls P f args (Hs ++ E) (.osl (Hs ++ E).length g k 0 n, (H1 ++ E) ++ [o]) := by
  have hτ : ∀ i, i < Hs.length → (fun i => if i < Hs.length then i else i + E.length) i = i := fun i hi => by simp [hi]
  have lt_of : ∀ {l : Heap} {i : Nat} {o : Ob}, l[i]? = some o → i < l.length := fun {l i o} ho => by
    rcases Nat.lt_or_ge i l.length with h' | h'
    · exact h'
    · rw [List.getElem?_eq_none h'] at ho; simp at ho
  have := h.frame (τ := fun i => if i < Hs.length then i else i + E.length) (Hb := Hs ++ E) (Hb' := (H1 ++ E) ++ [o])
    ⟨fun i hi => by simp [hi]; omega, fun i hi => by have : ¬ i < Hs.length := by omega
                                                     simp [this]; omega, fun i j hi hj e => by simpa [hi, hj] using e, fun i o ho => by
      have hi := lt_of ho
      simp only [hi, if_true]
      rw [List.getElem?_append_left hi, Ob.ren_fix hτ o (obsB_get hbs ho)]
      exact ho⟩ hargs (fun i o ho => obsB_get hbs ho) (by simp [hlen]; omega) (fun i o' ho' => by
      rcases Nat.lt_or_ge i Hs.length with hi | hi
      · simp only [hi, if_true]
        rw [List.getElem?_append_left (by omega)] at ho'
        rw [List.append_assoc, List.getElem?_append_left (by omega), Ob.ren_fix hτ o' (obsB_get hbs' ho')]
        exact ho'
      · have hi2 := lt_of ho'
        simp only [List.length_append, List.length_singleton] at hi2
        obtain rfl : i = Hs.length := by omega
        rw [List.getElem?_append_right (by omega)] at ho'
        simp [hlen] at ho'
        subst ho'
        have hn : ¬ Hs.length < Hs.length := by omega
        simp only [hn, if_false]
        rw [List.getElem?_append_right (by simp [hlen])]
        have h0 : ∀ i, i < 0 → (fun i => if i < Hs.length then i else i + E.length) i = i := fun i hi => by omega
        rw [Ob.ren_fix h0 o ho]
        simp [hlen]) fun j hj hn => by
      have hj' : Hs.length ≤ j := by
        rcases Nat.lt_or_ge j Hs.length with h' | h'
        · exact absurd (hτ j h') (hn j h')
        · exact h'
      simp only [List.length_append] at hj
      have e1 : ((H1 ++ E) ++ [o])[j]? = E[j - Hs.length]? := by rw [List.append_assoc, List.getElem?_append_right (by omega), hlen, List.getElem?_append_left (by omega)]
      have e2 : (Hs ++ E)[j]? = E[j - Hs.length]? := List.getElem?_append_right hj'
      exact e1.trans e2.symm
  rw [rens_fix hτ args hargs] at this
  simpa [AV.ren] using this
end Go.Proofs.Ytpkgpldgoajphaa.AM

set_option maxRecDepth 100000
set_option linter.unusedVariables false
set_option linter.unusedSimpArgs false
namespace Go.Proofs.Ytpkgpldgoajphaa.AM
open Go Go.Proofs.Ytpkgpldgoajphaa
attribute [local irreducible] ACalls funT codeT codeQ LoopTo
attribute [local irreducible] Tp.card Tp.cardT Tp.next Tp.step Tp.cards Tp.cardsT Tp.key Tp.keyT sink insSort pickS pickL pickN pickK mostN cmpL lateE orderK sortK insK posK beforeK onceStep onceS onceK
def cloneCN_ann : Ann := { gha := [(2, .vir 2 9)], fin := some 1 }
set_option maxRecDepth 100000 in
theorem cloneCN_spec   : ACalls Try.prog 98 [(AV.sl .nil 0 [])] ([] : Heap) ((AV.osl 0 0 9 0 0), ([⟨0, 9, (List.map Card.row []), none⟩] : Heap)) := by
  refine spec (fn := Try.f98) (ann := cloneCN_ann) (t := (.reg [] [] [] (.reg [] [] [] (.two (.reg [] [] [] .nil) .nil)))) (Nat.le_of_ble_eq_true (by kernel_rfl)) ⟨Try.func98, by kernel_rfl, by kernel_rfl, by kernel_rfl⟩ ?_
  refine Eq.mp (by kernel_rfl : ((AV.bdd 1 (AV.osl 0 0 9 0 0) = true ∧ obsB 1 ([⟨0, 9, (List.map Card.row []), none⟩] : Heap) = true) ∧ ((AV.osl 0 0 9 0 0), ([⟨0, 9, (List.map Card.row []), none⟩] : Heap)) = ((AV.osl 0 0 9 0 0), ([⟨0, 9, (List.map Card.row []), none⟩] : Heap))) = _) ?_
  refine And.intro (by first | (simp [obsB, AV.bddss, AV.bdds, AV.bdd]; done) | (simp [obsB, AV.bddss, AV.bdds, AV.bdd, -List.map_append]; done) | simp [obsB, AV.bddss, AV.bdds, AV.bdd, -List.map_append, -List.map_set, -List.map_take, -List.map_drop, -List.map_cons, -List.map_map]) ?_
  rfl
def cloneCO_ann : Ann := { own := [7], fin := some 1 }
set_option maxRecDepth 100000 in
theorem cloneCO_spec (l : List Card) (hl : l.length < 1099511627776) : ACalls Try.prog 98 [(AV.sl .op 9 (List.map Card.row l))] ([] : Heap) ((AV.osl 0 0 9 0 l.length), ([⟨0, 9, (List.map Card.row l), none⟩] : Heap)) := by
  refine spec (fn := Try.f98) (ann := cloneCO_ann) (t := (.reg [] [] [] (.reg [] [] [] (.two .nil (.reg [(2, ((AV.osl 0 0 9 0 l.length), ([⟨0, 9, (List.map Card.row l), none⟩] : Heap)))] [] [] .nil))))) (Nat.le_of_ble_eq_true (by kernel_rfl)) ⟨Try.func98, by kernel_rfl, by kernel_rfl, by kernel_rfl⟩ ?_
  refine Eq.mp (by kernel_rfl : ((evAppendO tt ([] : Heap) 48 (AV.sl .clip 9 []) (AV.sl .op 9 (List.map Card.row l)) = some ((AV.osl 0 0 9 0 l.length), ([⟨0, 9, (List.map Card.row l), none⟩] : Heap))) ∧ (AV.bdd 1 (AV.osl 0 0 9 0 l.length) = true ∧ obsB 1 ([⟨0, 9, (List.map Card.row l), none⟩] : Heap) = true) ∧ ((AV.osl 0 0 9 0 l.length), ([⟨0, 9, (List.map Card.row l), none⟩] : Heap)) = ((AV.osl 0 0 9 0 l.length), ([⟨0, 9, (List.map Card.row l), none⟩] : Heap))) = _) ?_
  refine And.intro (evAppendO_fresh (T := tt) (e := 34) (te := { d := .struct [(30, 0), (3, 2), (3, 3), (2, 4), (32, 5), (4, 8)], size := 9, bytes := 88, zero := [.str ⟨#[]⟩, .str ⟨#[]⟩, .int .i64 0, .int .i64 0, .int .i64 0, .int .i64 0, .int .i64 0, .int .i64 0, .bool false] }) (z := 1) (b := 24) (y := [.sl .nil 0 []]) (row := Card.row) (by kernel_rfl) (by kernel_rfl) rfl (by decide) (by decide) (by simp) (by first | (simp [rowsIn, List.map_take, List.map_drop, List.take_of_length_le]; done) | simp [rowsIn, rU8, rI64, rStr, rBool]) rfl rfl rfl (by first | omega | (simp; done) | (simp; omega))) ?_
  refine And.intro (by first | (simp [obsB, AV.bddss, AV.bdds, AV.bdd]; done) | (simp [obsB, AV.bddss, AV.bdds, AV.bdd, -List.map_append]; done) | simp [obsB, AV.bddss, AV.bdds, AV.bdd, -List.map_append, -List.map_set, -List.map_take, -List.map_drop, -List.map_cons, -List.map_map]) ?_
  rfl
theorem cloneC_spec (l : List Card) (hl : l.length < 1099511627776) : ACalls Try.prog 98 [(AV.sl .any 9 (List.map Card.row l))] ([] : Heap) ((AV.osl 0 0 9 0 l.length), ([⟨0, 9, (List.map Card.row l), none⟩] : Heap)) := ACalls.orNil (fun h => by
    have h2 : l = [] := by simpa using h
    subst h2; exact cloneCN_spec) (cloneCO_spec l hl)
theorem cloneC_at (l : List Card) (hl : l.length < 1099511627776) (H : Heap) : ACalls Try.prog 98 [(AV.sl .any 9 (List.map Card.row l))] H (.osl H.length 0 9 0 l.length, H ++ ([⟨0, 9, (List.map Card.row l), none⟩] : Heap)) := (cloneC_spec l hl).lift_osl (by kernel_rfl) (by simp [AV.bddss, Card.rows_bdd]) H
def sortcmp_ann : Ann := { refs := [2, 3], fin := some 0 }
set_option maxRecDepth 100000 in
theorem sortcmp_spec (a b : Card)  : ACalls Try.prog 119 [(AV.agg (Card.row a)), (AV.agg (Card.row b))] ([] : Heap) ((AV.int .i64 (cmpK a.key b.key)), ([] : Heap)) := by
  refine spec (fn := Try.f119) (ann := sortcmp_ann) (t := (.reg [] [] [] (.reg [(4, ((AV.int .i64 (cmpK a.key b.key)), ([] : Heap)))] [] [] .nil))) (Nat.le_of_ble_eq_true (by kernel_rfl)) ⟨Try.func119, by kernel_rfl, by kernel_rfl, by kernel_rfl⟩ ?_
  refine Eq.mp (by kernel_rfl : ((ACalls Try.prog 120 [(AV.agg (Key.row a.key)), (AV.agg (Key.row b.key))] ([] : Heap) ((AV.int .i64 (cmpK a.key b.key)), ([] : Heap))) ∧ (AV.bdd 0 (AV.int .i64 (cmpK a.key b.key)) = true ∧ obsB 0 ([] : Heap) = true) ∧ ((AV.int .i64 (cmpK a.key b.key)), ([] : Heap)) = ((AV.int .i64 (cmpK a.key b.key)), ([] : Heap))) = _) ?_
  refine And.intro (keyCmp_at a.key b.key  ([] : Heap)) ?_
  refine And.intro (by first | (simp [obsB, AV.bddss, AV.bdds, AV.bdd]; done) | (simp [obsB, AV.bddss, AV.bdds, AV.bdd, -List.map_append]; done) | simp [obsB, AV.bddss, AV.bdds, AV.bdd, -List.map_append, -List.map_set, -List.map_take, -List.map_drop, -List.map_cons, -List.map_map]) ?_
  rfl
theorem sortcmp_at (a b : Card)  (H : Heap) : ACalls Try.prog 119 [(AV.agg (Card.row a)), (AV.agg (Card.row b))] H ((AV.int .i64 (cmpK a.key b.key)), H) := (sortcmp_spec a b ).lift (by kernel_rfl) (by kernel_rfl) H
def clipC_ann : Ann := { fin := some 0 }
set_option maxRecDepth 100000 in
theorem clipC_spec (l : List Card) (hl : l.length < 1099511627776) : ACalls Try.prog 121 [(AV.sl .any 9 (List.map Card.row l))] ([] : Heap) ((AV.sl .cn 9 (List.map Card.row l)), ([] : Heap)) := by
  refine spec (fn := Try.f121) (ann := clipC_ann) (t := (.reg [] [] [] (.reg [(2, ((AV.int .i64 ((l.length : Nat) : Int)), ([] : Heap))), (4, ((AV.int .i64 ((l.length : Nat) : Int)), ([] : Heap))), (5, ((AV.sl .cn 9 (List.map Card.row l)), ([] : Heap)))] [] [] .nil))) (Nat.le_of_ble_eq_true (by kernel_rfl)) ⟨Try.func121, by kernel_rfl, by kernel_rfl, by kernel_rfl⟩ ?_
  refine Eq.mp (by kernel_rfl : ((Yes (.int .i64 ((List.length (List.map Card.row l) : Nat) : Int)) ([] : Heap) (AV.int .i64 ((l.length : Nat) : Int))) ∧ (Yes (.int .i64 ((List.length (List.map Card.row l) : Nat) : Int)) ([] : Heap) (AV.int .i64 ((l.length : Nat) : Int))) ∧ (Option.map (fun a => (a, ([] : Heap))) (if 9 = 9 ∨ ((List.map Card.row l)).isEmpty = true then (if ((l.length : Nat) : Int) = ((l.length : Nat) : Int) then (bounds 0 ((l.length : Nat) : Int) (List.length (List.map Card.row l))).map fun p => AV.sl .cn 9 ((List.take p.2 (List.map Card.row l)).drop p.1) else none) else none) = some ((AV.sl .cn 9 (List.map Card.row l)), ([] : Heap))) ∧ (AV.bdd 0 (AV.sl .cn 9 (List.map Card.row l)) = true ∧ obsB 0 ([] : Heap) = true) ∧ ((AV.sl .cn 9 (List.map Card.row l)), ([] : Heap)) = ((AV.sl .cn 9 (List.map Card.row l)), ([] : Heap))) = _) ?_
  refine And.intro (Yes.len _ _ _) ?_
  refine And.intro (Yes.len _ _ _) ?_
  refine And.intro (slice_max (l := 0) (h := l.length) (by first | omega | (simp; done) | (simp; omega)) (by first | omega | (simp; done) | (simp; omega)) (by first | omega | (simp; done) | (simp; omega)) (by first | omega | (simp; done) | (simp; omega)) (by simp [List.map_take, List.map_drop, List.take_of_length_le]) (by first | rfl | omega | (simp; done) | (simp; omega))) ?_
  refine And.intro (by first | (simp [obsB, AV.bddss, AV.bdds, AV.bdd]; done) | (simp [obsB, AV.bddss, AV.bdds, AV.bdd, -List.map_append]; done) | simp [obsB, AV.bddss, AV.bdds, AV.bdd, -List.map_append, -List.map_set, -List.map_take, -List.map_drop, -List.map_cons, -List.map_map]) ?_
  rfl
theorem clipC_at (l : List Card) (hl : l.length < 1099511627776) (H : Heap) : ACalls Try.prog 121 [(AV.sl .any 9 (List.map Card.row l))] H ((AV.sl .cn 9 (List.map Card.row l)), H) := (clipC_spec l hl).lift (by kernel_rfl) (by kernel_rfl) H
def sortP (l : List Card) : List Card := insSort (fun a b => cmpK a.key b.key) 0 (l.length - 1) 1 l
theorem sortP_len (l : List Card) : (sortP l).length = l.length := by unfold sortP; rw [insSort_len]
def sortCard0_ann : Ann := { gha := [(2, .frz 3)], fin := some 0 }
set_option maxRecDepth 100000 in
theorem sortCard0_spec (l : List Card) (hl : l.length < 20) : ACalls Try.prog 87 [(AV.sl .any 9 (List.map Card.row l))] ([] : Heap) ((AV.sl .cn 9 (List.map Card.row (sortP l))), ([] : Heap)) := by
  have hpl := sortP_len l
  refine spec (fn := Try.f87) (ann := sortCard0_ann) (t := (.reg [] [] [] (.reg [(1, ((AV.osl 0 0 9 0 l.length), ([⟨0, 9, (List.map Card.row l), none⟩] : Heap)))] [] [] (.reg [(1, ((AV.tup []), ([⟨0, 9, (List.map Card.row (insSort (fun a b => cmpK a.key b.key) 0 (l.length - 1) 1 l)), none⟩] : Heap)))] [] [(3, (List.map Card.row (insSort (fun a b => cmpK a.key b.key) 0 (l.length - 1) 1 l)))] (.reg [(1, ((AV.sl .cn 9 (List.map Card.row (insSort (fun a b => cmpK a.key b.key) 0 (l.length - 1) 1 l))), ([⟨1, 9, [], none⟩] : Heap)))] [] [] .nil))))) (Nat.le_of_ble_eq_true (by kernel_rfl)) ⟨Try.func87, by kernel_rfl, by kernel_rfl, by kernel_rfl⟩ ?_
  refine Eq.mp (by kernel_rfl : ((ACalls Try.prog 98 [(AV.sl .any 9 (List.map Card.row l))] ([] : Heap) ((AV.osl 0 0 9 0 l.length), ([⟨0, 9, (List.map Card.row l), none⟩] : Heap))) ∧ (ACalls Try.prog 118 [(AV.osl 0 0 9 0 l.length), (AV.func 119 [])] ([⟨0, 9, (List.map Card.row l), none⟩] : Heap) ((AV.tup []), ([⟨0, 9, (List.map Card.row (insSort (fun a b => cmpK a.key b.key) 0 (l.length - 1) 1 l)), none⟩] : Heap))) ∧ (rowsIn ([⟨0, 9, (List.map Card.row (insSort (fun a b => cmpK a.key b.key) 0 (l.length - 1) 1 l)), none⟩] : Heap) 9 (AV.osl 0 0 9 0 l.length) = some (List.map Card.row (insSort (fun a b => cmpK a.key b.key) 0 (l.length - 1) 1 l)) ∧ AV.bddss 0 (List.map Card.row (insSort (fun a b => cmpK a.key b.key) 0 (l.length - 1) 1 l)) = true) ∧ (ACalls Try.prog 121 [(AV.sl .any 9 (List.map Card.row (insSort (fun a b => cmpK a.key b.key) 0 (l.length - 1) 1 l)))] ([⟨1, 9, [], none⟩] : Heap) ((AV.sl .cn 9 (List.map Card.row (insSort (fun a b => cmpK a.key b.key) 0 (l.length - 1) 1 l))), ([⟨1, 9, [], none⟩] : Heap))) ∧ (AV.bdd 0 (AV.sl .cn 9 (List.map Card.row (insSort (fun a b => cmpK a.key b.key) 0 (l.length - 1) 1 l))) = true ∧ obsB 0 ([] : Heap) = true) ∧ ((AV.sl .cn 9 (List.map Card.row (insSort (fun a b => cmpK a.key b.key) 0 (l.length - 1) 1 l))), ([] : Heap)) = ((AV.sl .cn 9 (List.map Card.row (sortP l))), ([] : Heap))) = _) ?_
  refine And.intro (cloneC_at l (by first | omega | assumption | (simp; done) | (simp; omega) | (simp_all; done) | (simp_all; omega)) ([] : Heap)) ?_
  refine And.intro (sortC_at (fun a b => cmpK a.key b.key) 119 [] l.length 0 l (fun x y H => sortcmp_at x y H) (rfl) (by first | omega | assumption | (simp; done) | (simp; omega) | (simp_all; done) | (simp_all; omega)) (by first | omega | assumption | (simp; done) | (simp; omega) | (simp_all; done) | (simp_all; omega)) ([] : Heap)) ?_
  refine And.intro (And.intro (rowsIn_all (room := none) (by kernel_rfl) (by first | omega | (simp [insSort_len]; done) | (simp [insSort_len]; omega))) (Card.rows_bdd _ _)) ?_
  refine And.intro (clipC_at (insSort (fun a b => cmpK a.key b.key) 0 (l.length - 1) 1 l) (by rw [insSort_len]; omega) ([⟨1, 9, [], none⟩] : Heap)) ?_
  refine And.intro (by first | (simp [obsB, AV.bddss, AV.bdds, AV.bdd]; done) | (simp [obsB, AV.bddss, AV.bdds, AV.bdd, -List.map_append]; done) | simp [obsB, AV.bddss, AV.bdds, AV.bdd, -List.map_append, -List.map_set, -List.map_take, -List.map_drop, -List.map_cons, -List.map_map]) ?_
  rfl
theorem sortCard_spec (l : List Card) (hl : l.length < 20) : ACalls Try.prog 87 [(AV.sl .any 9 (List.map Card.row l))] ([] : Heap) ((AV.sl .any 9 (List.map Card.row (sortP l))), ([] : Heap)) := (sortCard0_spec l hl).post ⟨rfl, rfl, .inl rfl⟩
theorem sortCard_at (l : List Card) (hl : l.length < 20) (H : Heap) : ACalls Try.prog 87 [(AV.sl .any 9 (List.map Card.row l))] H ((AV.sl .any 9 (List.map Card.row (sortP l))), H) := (sortCard_spec l hl).lift (by kernel_rfl) (by kernel_rfl) H
def lastS (s : List Card) : List Card × Nat := s.foldl onceStep ([], 0)
def lastK (l : List Card) : List Card := (lastS (sortP l)).1
theorem lastK_len (l : List Card) : (lastK l).length ≤ l.length := by
  have := onceF_len (sortP l) ([], 0)
  rw [sortP_len] at this
  simpa [lastK, lastS] using this
def last_ann : Ann := { gha := [(1, .vir 3 9), (9, .cut 1), (10, .frz 2)], fin := some 0, live := [(3, [3, 8, 9, 10])], out := [(3, [3, 8, 9, 10])] }
set_option maxRecDepth 100000 in
theorem last_step (s out : List Card) (i k g : Nat) (hk : k = out.length) (hki : k ≤ s.length) (hl : s.length < 1048576) {eX : Ex} {FX : Fr} {HX : Heap} (k1 : (decide (((i : Nat) : Int) < ((s.length : Nat) : Int))) = true → (decide (((k : Nat) : Int) > 0)) = true → (Key.eqb (nth out (k - 1)).key (nth s i).key) = true → LoopTo (codeQ Try.prog (X last_ann) (loopOf Try.f96 0)) (some [3, 8, 9, 10]) (some [3, 8, 9, 10]) (mkF 40 [(3, (AV.osl 0 g 9 0 k)), (8, (AV.sl .any 9 (List.map Card.row s))), (9, (AV.int .i64 ((s.length : Nat) : Int))), (10, (AV.int .i64 ((i + 1 : Nat) : Int)))]) ([⟨g, 9, (List.map Card.row (out.set (k - 1) (nth s i))), none⟩] : Heap) eX FX HX) (k2 : (decide (((i : Nat) : Int) < ((s.length : Nat) : Int))) = true → (decide (((k : Nat) : Int) > 0)) = true → (Key.eqb (nth out (k - 1)).key (nth s i).key) = false → LoopTo (codeQ Try.prog (X last_ann) (loopOf Try.f96 0)) (some [3, 8, 9, 10]) (some [3, 8, 9, 10]) (mkF 40 [(3, (AV.osl 0 (g + 1) 9 0 (k + 1))), (8, (AV.sl .any 9 (List.map Card.row s))), (9, (AV.int .i64 ((s.length : Nat) : Int))), (10, (AV.int .i64 ((i + 1 : Nat) : Int)))]) ([⟨(g + 1), 9, (List.map Card.row (out ++ [(nth s i)])), none⟩] : Heap) eX FX HX) (k3 : (decide (((i : Nat) : Int) < ((s.length : Nat) : Int))) = true → (decide (((k : Nat) : Int) > 0)) = false → LoopTo (codeQ Try.prog (X last_ann) (loopOf Try.f96 0)) (some [3, 8, 9, 10]) (some [3, 8, 9, 10]) (mkF 40 [(3, (AV.osl 0 (g + 1) 9 0 (k + 1))), (8, (AV.sl .any 9 (List.map Card.row s))), (9, (AV.int .i64 ((s.length : Nat) : Int))), (10, (AV.int .i64 ((i + 1 : Nat) : Int)))]) ([⟨(g + 1), 9, (List.map Card.row (out ++ [(nth s i)])), none⟩] : Heap) eX FX HX) (k4 : (decide (((i : Nat) : Int) < ((s.length : Nat) : Int))) = false → ((.exit 0 : Ex), (mkF 40 [(3, (AV.osl 0 g 9 0 k)), (8, (AV.sl .any 9 (List.map Card.row s))), (9, (AV.int .i64 ((s.length : Nat) : Int))), (10, (AV.int .i64 ((i : Nat) : Int)))]), ([⟨g, 9, (List.map Card.row out), none⟩] : Heap)) = (eX, FX, HX)) : LoopTo (codeQ Try.prog (X last_ann) (loopOf Try.f96 0)) (some [3, 8, 9, 10]) (some [3, 8, 9, 10]) (mkF 40 [(3, (AV.osl 0 g 9 0 k)), (8, (AV.sl .any 9 (List.map Card.row s))), (9, (AV.int .i64 ((s.length : Nat) : Int))), (10, (AV.int .i64 ((i : Nat) : Int)))]) ([⟨g, 9, (List.map Card.row out), none⟩] : Heap) eX FX HX := by
  refine LoopTo.step (.reg [] [] [] (.two (.reg [(0, ((AV.ref (Card.row (nth s i)) 0), ([⟨g, 9, (List.map Card.row out), none⟩, ⟨0, 9, [[(AV.str (ByteArray.mk #[])), (AV.str (ByteArray.mk #[])), (AV.int .i64 0), (AV.int .i64 0), (AV.int .i64 0), (AV.int .i64 0), (AV.int .i64 0), (AV.int .i64 0), (AV.bool false)]], none⟩] : Heap)))] [] [] (.reg [] [] [] (.reg [(5, ((AV.int .i64 ((k - 1 : Nat) : Int)), ([⟨g, 9, (List.map Card.row out), none⟩, ⟨0, 9, [(Card.row (nth s i))], none⟩] : Heap))), (6, ((AV.obj 0 g (k - 1) 0), ([⟨g, 9, (List.map Card.row out), none⟩, ⟨0, 9, [(Card.row (nth s i))], none⟩] : Heap))), (8, ((AV.agg (Key.row (nth out (k - 1)).key)), ([⟨g, 9, (List.map Card.row out), none⟩, ⟨0, 9, [(Card.row (nth s i))], none⟩] : Heap)))] [] [] (.two (.two (.two (.two (.two (.two (.two (.two (.two (.two (.reg [(2, ((AV.int .i64 ((k - 1 : Nat) : Int)), ([⟨g, 9, (List.map Card.row out), none⟩, ⟨0, 9, [(Card.row (nth s i))], none⟩] : Heap))), (4, ((AV.obj 0 g (k - 1) 0), ([⟨g, 9, (List.map Card.row out), none⟩, ⟨0, 9, [(Card.row (nth s i))], none⟩] : Heap))), (5, (AV.skip, ([⟨g, 9, (List.map Card.row (out.set (k - 1) (nth s i))), none⟩, ⟨0, 9, [(Card.row (nth s i))], none⟩] : Heap)))] [] [] (.reg [(0, ((AV.int .i64 ((i + 1 : Nat) : Int)), ([⟨g, 9, (List.map Card.row (out.set (k - 1) (nth s i))), none⟩, ⟨0, 9, [(Card.row (nth s i))], none⟩] : Heap)))] [] [] .nil)) (.reg [(3, ((AV.osl 0 (g + 1) 9 0 (k + 1)), ([⟨(g + 1), 9, (List.map Card.row (out ++ [(nth s i)])), none⟩, ⟨0, 9, [(Card.row (nth s i))], none⟩] : Heap)))] [] [] (.reg [(0, ((AV.int .i64 ((i + 1 : Nat) : Int)), ([⟨(g + 1), 9, (List.map Card.row (out ++ [(nth s i)])), none⟩, ⟨0, 9, [(Card.row (nth s i))], none⟩] : Heap)))] [] [] .nil))) .nil) .nil) .nil) .nil) .nil) .nil) .nil) .nil) (.two .nil (.two .nil (.two .nil (.two .nil (.two .nil (.two .nil (.two .nil (.two .nil (.two .nil (.reg [(3, ((AV.osl 0 (g + 1) 9 0 (k + 1)), ([⟨(g + 1), 9, (List.map Card.row (out ++ [(nth s i)])), none⟩, ⟨0, 9, [(Card.row (nth s i))], none⟩] : Heap)))] [] [] (.reg [(0, ((AV.int .i64 ((i + 1 : Nat) : Int)), ([⟨(g + 1), 9, (List.map Card.row (out ++ [(nth s i)])), none⟩, ⟨0, 9, [(Card.row (nth s i))], none⟩] : Heap)))] [] [] .nil))))))))))))))) .nil)) ?_
  refine Eq.mp (by kernel_rfl : (cond (decide (((i : Nat) : Int) < ((s.length : Nat) : Int))) ((IdxSl 9 9 (List.map Card.row s) ((i : Nat) : Int) ([⟨g, 9, (List.map Card.row out), none⟩, ⟨0, 9, [[(AV.str (ByteArray.mk #[])), (AV.str (ByteArray.mk #[])), (AV.int .i64 0), (AV.int .i64 0), (AV.int .i64 0), (AV.int .i64 0), (AV.int .i64 0), (AV.int .i64 0), (AV.bool false)]], none⟩] : Heap) (Card.row (nth s i))) ∧ cond (decide (((k : Nat) : Int) > 0)) ((Yes (.int .i64 (IntKind.i64.wrap (((k : Nat) : Int) - 1))) ([⟨g, 9, (List.map Card.row out), none⟩, ⟨0, 9, [(Card.row (nth s i))], none⟩] : Heap) (AV.int .i64 ((k - 1 : Nat) : Int))) ∧ (IdxOsl 0 g 9 9 0 k ((k - 1 : Nat) : Int) ([⟨g, 9, (List.map Card.row out), none⟩, ⟨0, 9, [(Card.row (nth s i))], none⟩] : Heap) (k - 1)) ∧ (LoadTo tt 30 0 ([⟨g, 9, (List.map Card.row out), none⟩, ⟨0, 9, [(Card.row (nth s i))], none⟩] : Heap) (rowAt ([⟨g, 9, (List.map Card.row out), none⟩, ⟨0, 9, [(Card.row (nth s i))], none⟩] : Heap) 0 g (k - 1)) = some ((AV.agg (Key.row (nth out (k - 1)).key)), ([⟨g, 9, (List.map Card.row out), none⟩, ⟨0, 9, [(Card.row (nth s i))], none⟩] : Heap))) ∧ cond (Key.eqb (nth out (k - 1)).key (nth s i).key) ((Yes (.int .i64 (IntKind.i64.wrap (((k : Nat) : Int) - 1))) ([⟨g, 9, (List.map Card.row out), none⟩, ⟨0, 9, [(Card.row (nth s i))], none⟩] : Heap) (AV.int .i64 ((k - 1 : Nat) : Int))) ∧ (IdxOsl 0 g 9 9 0 k ((k - 1 : Nat) : Int) ([⟨g, 9, (List.map Card.row out), none⟩, ⟨0, 9, [(Card.row (nth s i))], none⟩] : Heap) (k - 1)) ∧ (StoreTo ([⟨g, 9, (List.map Card.row out), none⟩, ⟨0, 9, [(Card.row (nth s i))], none⟩] : Heap) 0 (k - 1) 9 0 (rowAt ([⟨g, 9, (List.map Card.row out), none⟩, ⟨0, 9, [(Card.row (nth s i))], none⟩] : Heap) 0 g (k - 1)) (AV.fit (AV.agg (Card.row (nth s i))) 9) = some (AV.skip, ([⟨g, 9, (List.map Card.row (out.set (k - 1) (nth s i))), none⟩, ⟨0, 9, [(Card.row (nth s i))], none⟩] : Heap))) ∧ (Yes (.int .i64 (IntKind.i64.wrap (((i : Nat) : Int) + 1))) ([⟨g, 9, (List.map Card.row (out.set (k - 1) (nth s i))), none⟩, ⟨0, 9, [(Card.row (nth s i))], none⟩] : Heap) (AV.int .i64 ((i + 1 : Nat) : Int))) ∧ (obsB 1 ([⟨g, 9, (List.map Card.row (out.set (k - 1) (nth s i))), none⟩] : Heap) = true) ∧ LoopTo (codeQ Try.prog (X last_ann) (loopOf Try.f96 0)) (some [3, 8, 9, 10]) (some [3, 8, 9, 10]) (mkF 40 [(3, (AV.osl 0 g 9 0 k)), (8, (AV.sl .any 9 (List.map Card.row s))), (9, (AV.int .i64 ((s.length : Nat) : Int))), (10, (AV.int .i64 ((i + 1 : Nat) : Int)))]) ([⟨g, 9, (List.map Card.row (out.set (k - 1) (nth s i))), none⟩] : Heap) eX FX HX) ((evAppend tt ([⟨g, 9, (List.map Card.row out), none⟩, ⟨0, 9, [(Card.row (nth s i))], none⟩] : Heap) 48 (AV.osl 0 g 9 0 k) (AV.sl .clip 9 [(Card.row (nth s i))]) = some ((AV.osl 0 (g + 1) 9 0 (k + 1)), ([⟨(g + 1), 9, (List.map Card.row (out ++ [(nth s i)])), none⟩, ⟨0, 9, [(Card.row (nth s i))], none⟩] : Heap))) ∧ (Yes (.int .i64 (IntKind.i64.wrap (((i : Nat) : Int) + 1))) ([⟨(g + 1), 9, (List.map Card.row (out ++ [(nth s i)])), none⟩, ⟨0, 9, [(Card.row (nth s i))], none⟩] : Heap) (AV.int .i64 ((i + 1 : Nat) : Int))) ∧ (obsB 1 ([⟨(g + 1), 9, (List.map Card.row (out ++ [(nth s i)])), none⟩] : Heap) = true) ∧ LoopTo (codeQ Try.prog (X last_ann) (loopOf Try.f96 0)) (some [3, 8, 9, 10]) (some [3, 8, 9, 10]) (mkF 40 [(3, (AV.osl 0 (g + 1) 9 0 (k + 1))), (8, (AV.sl .any 9 (List.map Card.row s))), (9, (AV.int .i64 ((s.length : Nat) : Int))), (10, (AV.int .i64 ((i + 1 : Nat) : Int)))]) ([⟨(g + 1), 9, (List.map Card.row (out ++ [(nth s i)])), none⟩] : Heap) eX FX HX)) ((evAppend tt ([⟨g, 9, (List.map Card.row out), none⟩, ⟨0, 9, [(Card.row (nth s i))], none⟩] : Heap) 48 (AV.osl 0 g 9 0 k) (AV.sl .clip 9 [(Card.row (nth s i))]) = some ((AV.osl 0 (g + 1) 9 0 (k + 1)), ([⟨(g + 1), 9, (List.map Card.row (out ++ [(nth s i)])), none⟩, ⟨0, 9, [(Card.row (nth s i))], none⟩] : Heap))) ∧ (Yes (.int .i64 (IntKind.i64.wrap (((i : Nat) : Int) + 1))) ([⟨(g + 1), 9, (List.map Card.row (out ++ [(nth s i)])), none⟩, ⟨0, 9, [(Card.row (nth s i))], none⟩] : Heap) (AV.int .i64 ((i + 1 : Nat) : Int))) ∧ (obsB 1 ([⟨(g + 1), 9, (List.map Card.row (out ++ [(nth s i)])), none⟩] : Heap) = true) ∧ LoopTo (codeQ Try.prog (X last_ann) (loopOf Try.f96 0)) (some [3, 8, 9, 10]) (some [3, 8, 9, 10]) (mkF 40 [(3, (AV.osl 0 (g + 1) 9 0 (k + 1))), (8, (AV.sl .any 9 (List.map Card.row s))), (9, (AV.int .i64 ((s.length : Nat) : Int))), (10, (AV.int .i64 ((i + 1 : Nat) : Int)))]) ([⟨(g + 1), 9, (List.map Card.row (out ++ [(nth s i)])), none⟩] : Heap) eX FX HX)) (((.exit 0 : Ex), (mkF 40 [(3, (AV.osl 0 g 9 0 k)), (8, (AV.sl .any 9 (List.map Card.row s))), (9, (AV.int .i64 ((s.length : Nat) : Int))), (10, (AV.int .i64 ((i : Nat) : Int)))]), ([⟨g, 9, (List.map Card.row out), none⟩] : Heap)) = (eX, FX, HX))) = _) ?_
  refine cond_split (fun h1 => ?_) (fun h1 => ?_)
  · have h1' := h1
    try simp at h1'
    refine And.intro (IdxSl.mk _ (by omega) (by omega)) ?_
    refine cond_split (fun h2 => ?_) (fun h2 => ?_)
    · have h2' := h2
      try simp at h2'
      refine And.intro (Yes.add (by omega) (by omega) (by omega)) ?_
      refine And.intro (IdxOsl.mk _ (by omega) (by omega)) ?_
      refine And.intro (load_row (rowAt_map (row := Card.row) (l := out) (k := 9) (room := none) (by kernel_rfl) (by first | omega | (simp; done) | (simp; omega))) (by kernel_rfl)) ?_
      refine cond_split (fun h3 => ?_) (fun h3 => ?_)
      · have h3' := h3
        try simp at h3'
        refine And.intro (Yes.add (by omega) (by omega) (by omega)) ?_
        refine And.intro (IdxOsl.mk _ (by omega) (by omega)) ?_
        refine And.intro (store_row (us := (Card.row (nth s i))) (rowAt_map (row := Card.row) (l := out) (k := 9) (room := none) (by kernel_rfl) (by first | omega | (simp; done) | (simp; omega))) (by kernel_rfl) (by simp [Card.row]) (by simp [setAt, fillAt, List.map_set, Card.row])) ?_
        refine And.intro (Yes.add (by omega) (by omega) (by omega)) ?_
        refine And.intro (by first | (simp [obsB, AV.bddss, AV.bdds, AV.bdd]; done) | (simp [obsB, AV.bddss, AV.bdds, AV.bdd, -List.map_append]; done) | simp [obsB, AV.bddss, AV.bdds, AV.bdd, -List.map_append, -List.map_set, -List.map_take, -List.map_drop, -List.map_cons, -List.map_map]) ?_
        exact k1 h1 h2 h3
      · have h3' := h3
        try simp at h3'
        refine And.intro (evAppend_one (row := Card.row) (l := out) (x := (nth s i)) (T := tt) (e := 34) (te := { d := .struct [(30, 0), (3, 2), (3, 3), (2, 4), (32, 5), (4, 8)], size := 9, bytes := 88, zero := [.str ⟨#[]⟩, .str ⟨#[]⟩, .int .i64 0, .int .i64 0, .int .i64 0, .int .i64 0, .int .i64 0, .int .i64 0, .bool false] }) (z := 1) (b := 24) (y := [.sl .nil 0 []]) (by kernel_rfl) (by kernel_rfl) rfl (by decide) (by decide) (by kernel_rfl) (by first | assumption | omega | (simp; done) | (simp; omega)) rfl rfl (by first | omega | (simp; omega))) ?_
        refine And.intro (Yes.add (by omega) (by omega) (by omega)) ?_
        refine And.intro (by first | (simp [obsB, AV.bddss, AV.bdds, AV.bdd]; done) | (simp [obsB, AV.bddss, AV.bdds, AV.bdd, -List.map_append]; done) | simp [obsB, AV.bddss, AV.bdds, AV.bdd, -List.map_append, -List.map_set, -List.map_take, -List.map_drop, -List.map_cons, -List.map_map]) ?_
        exact k2 h1 h2 h3
    · have h2' := h2
      try simp at h2'
      refine And.intro (evAppend_one (row := Card.row) (l := out) (x := (nth s i)) (T := tt) (e := 34) (te := { d := .struct [(30, 0), (3, 2), (3, 3), (2, 4), (32, 5), (4, 8)], size := 9, bytes := 88, zero := [.str ⟨#[]⟩, .str ⟨#[]⟩, .int .i64 0, .int .i64 0, .int .i64 0, .int .i64 0, .int .i64 0, .int .i64 0, .bool false] }) (z := 1) (b := 24) (y := [.sl .nil 0 []]) (by kernel_rfl) (by kernel_rfl) rfl (by decide) (by decide) (by kernel_rfl) (by first | assumption | omega | (simp; done) | (simp; omega)) rfl rfl (by first | omega | (simp; omega))) ?_
      refine And.intro (Yes.add (by omega) (by omega) (by omega)) ?_
      refine And.intro (by first | (simp [obsB, AV.bddss, AV.bdds, AV.bdd]; done) | (simp [obsB, AV.bddss, AV.bdds, AV.bdd, -List.map_append]; done) | simp [obsB, AV.bddss, AV.bdds, AV.bdd, -List.map_append, -List.map_set, -List.map_take, -List.map_drop, -List.map_cons, -List.map_map]) ?_
      exact k3 h1 h2
  · have h1' := h1
    try simp at h1'
    exact k4 h1
theorem last_loop (s : List Card) (r : Nat) : ∀ (out : List Card) (i k g : Nat) (sF : List Card × Nat), i + r = s.length → k = out.length → k ≤ i → s.length < 1048576 → sF = (s.drop i).foldl onceStep (out, g) →
    LoopTo (codeQ Try.prog (X last_ann) (loopOf Try.f96 0)) (some [3, 8, 9, 10]) (some [3, 8, 9, 10]) (mkF 40 [(3, (AV.osl 0 g 9 0 k)), (8, (AV.sl .any 9 (List.map Card.row s))), (9, (AV.int .i64 ((s.length : Nat) : Int))), (10, (AV.int .i64 ((i : Nat) : Int)))]) ([⟨g, 9, (List.map Card.row out), none⟩] : Heap) (.exit 0) (mkF 40 [(3, (AV.osl 0 sF.2 9 0 sF.1.length)), (8, (AV.sl .any 9 (List.map Card.row s))), (9, (AV.int .i64 ((s.length : Nat) : Int))), (10, (AV.int .i64 ((s.length : Nat) : Int)))]) ([⟨sF.2, 9, (List.map Card.row sF.1), none⟩] : Heap) := by
  induction r with
  | zero =>
    intro out i k g sF hi hk hki hl h
    refine last_step s out i k g hk (by omega) hl (fun h => by simp at h; omega) (fun h => by simp at h; omega) (fun h => by simp at h; omega) fun _ => ?_
    have : s.drop i = [] := List.drop_of_length_le (by omega)
    rw [this] at h
    have e3 : i = s.length := by omega
    rw [h, e3, hk]
    rfl
  | succ r ih =>
    intro out i k g sF hi hk hki hl h
    rw [drop_nth (by omega), List.foldl_cons] at h
    refine last_step s out i k g hk (by omega) hl (fun _ h2 h3 => ?_) (fun _ h2 h3 => ?_) (fun _ h2 => ?_) fun h => by simp at h; omega
    · rw [hk] at h2 h3
      exact ih (out.set (k - 1) (nth s i)) (i + 1) k g sF (by omega) (by simp [hk]) (by omega) hl (by rw [h, hk]; simp only [onceStep]; rw [if_pos h2, if_pos h3])
    · rw [hk] at h2 h3
      exact ih (out ++ [nth s i]) (i + 1) (k + 1) (g + 1) sF (by omega) (by simp [hk]) (by omega) hl (by rw [h]; simp only [onceStep]; rw [if_pos h2, if_neg (by rw [h3]; simp)])
    · rw [hk] at h2
      exact ih (out ++ [nth s i]) (i + 1) (k + 1) (g + 1) sF (by omega) (by simp [hk]) (by omega) hl (by rw [h]; simp only [onceStep]; rw [if_neg (by rw [h2]; simp)])
set_option maxRecDepth 100000 in
theorem last_spec (l : List Card) (hl : l.length < 20) : ACalls Try.prog 96 [(AV.sl .any 9 (List.map Card.row l))] ([] : Heap) ((AV.sl .any 9 (List.map Card.row (lastK l))), ([] : Heap)) := by
  have hs := sortP_len l
  refine spec (fn := Try.f96) (ann := last_ann) (t := (.reg [] [] [] (.reg [] [] [] (.reg [(1, ((AV.sl .any 9 (List.map Card.row (sortP l))), ([⟨0, 9, (List.map Card.row []), none⟩] : Heap))), (2, ((AV.int .i64 (((sortP l).length : Nat) : Int)), ([⟨0, 9, (List.map Card.row []), none⟩] : Heap)))] [] [] (.loop (.exit 0) (mkF 40 [(3, (AV.osl 0 ((lastS (sortP l)).2) 9 0 ((lastS (sortP l)).1.length))), (8, (AV.sl .any 9 (List.map Card.row (sortP l)))), (9, (AV.int .i64 (((sortP l).length : Nat) : Int))), (10, (AV.int .i64 (((sortP l).length : Nat) : Int)))]) ([⟨((lastS (sortP l)).2), 9, (List.map Card.row ((lastS (sortP l)).1)), none⟩] : Heap) (.reg [] [] [(2, (List.map Card.row ((lastS (sortP l)).1)))] .nil)))))) (Nat.le_of_ble_eq_true (by kernel_rfl)) ⟨Try.func96, by kernel_rfl, by kernel_rfl, by kernel_rfl⟩ ?_
  refine Eq.mp (by kernel_rfl : ((ACalls Try.prog 87 [(AV.sl .any 9 (List.map Card.row l))] ([⟨0, 9, (List.map Card.row []), none⟩] : Heap) ((AV.sl .any 9 (List.map Card.row (sortP l))), ([⟨0, 9, (List.map Card.row []), none⟩] : Heap))) ∧ (Yes (.int .i64 ((List.length (List.map Card.row (sortP l)) : Nat) : Int)) ([⟨0, 9, (List.map Card.row []), none⟩] : Heap) (AV.int .i64 (((sortP l).length : Nat) : Int))) ∧ (LoopTo (codeQ Try.prog (X last_ann) (loopOf Try.f96 0)) (some [3, 8, 9, 10]) (some [3, 8, 9, 10]) (mkF 40 [(3, (AV.osl 0 0 9 0 0)), (8, (AV.sl .any 9 (List.map Card.row (sortP l)))), (9, (AV.int .i64 (((sortP l).length : Nat) : Int))), (10, (AV.int .i64 0))]) ([⟨0, 9, (List.map Card.row []), none⟩] : Heap) (.exit 0) (mkF 40 [(3, (AV.osl 0 ((lastS (sortP l)).2) 9 0 ((lastS (sortP l)).1.length))), (8, (AV.sl .any 9 (List.map Card.row (sortP l)))), (9, (AV.int .i64 (((sortP l).length : Nat) : Int))), (10, (AV.int .i64 (((sortP l).length : Nat) : Int)))]) ([⟨((lastS (sortP l)).2), 9, (List.map Card.row ((lastS (sortP l)).1)), none⟩] : Heap)) ∧ (rowsIn ([⟨((lastS (sortP l)).2), 9, (List.map Card.row ((lastS (sortP l)).1)), none⟩] : Heap) 9 (AV.osl 0 ((lastS (sortP l)).2) 9 0 ((lastS (sortP l)).1.length)) = some (List.map Card.row ((lastS (sortP l)).1)) ∧ AV.bddss 0 (List.map Card.row ((lastS (sortP l)).1)) = true) ∧ (AV.bdd 0 (AV.sl .any 9 (List.map Card.row ((lastS (sortP l)).1))) = true ∧ obsB 0 ([] : Heap) = true) ∧ ((AV.sl .any 9 (List.map Card.row ((lastS (sortP l)).1))), ([] : Heap)) = ((AV.sl .any 9 (List.map Card.row (lastK l))), ([] : Heap))) = _) ?_
  refine And.intro (sortCard_at l (by first | omega | assumption | (simp; done) | (simp; omega) | (simp_all; done) | (simp_all; omega)) ([⟨0, 9, (List.map Card.row []), none⟩] : Heap)) ?_
  refine And.intro (Yes.len _ _ _) ?_
  refine And.intro ((last_loop (sortP l) (List.length (sortP l)) [] 0 0 0 _ (by omega) rfl (by omega) (by omega) rfl)) ?_
  refine And.intro (And.intro (rowsIn_all (room := none) (by kernel_rfl) (by first | omega | (simp; done) | (simp; omega))) (Card.rows_bdd _ _)) ?_
  refine And.intro (by first | (simp [obsB, AV.bddss, AV.bdds, AV.bdd]; done) | (simp [obsB, AV.bddss, AV.bdds, AV.bdd, -List.map_append]; done) | simp [obsB, AV.bddss, AV.bdds, AV.bdd, -List.map_append, -List.map_set, -List.map_take, -List.map_drop, -List.map_cons, -List.map_map]) ?_
  rfl
theorem last_at (l : List Card) (hl : l.length < 20) (H : Heap) : ACalls Try.prog 96 [(AV.sl .any 9 (List.map Card.row l))] H ((AV.sl .any 9 (List.map Card.row (lastK l))), H) := (last_spec l hl).lift (by kernel_rfl) (by kernel_rfl) H
def Stamp.eqb (a b : Stamp) : Bool := (a.t == b.t) && ((a.node == b.node) && ((a.n == b.n) && true))
def Card.eqb (a b : Card) : Bool := (Key.eqb a.key b.key) && ((a.status == b.status) && ((a.over == b.over) && ((a.lease == b.lease) && ((Stamp.eqb a.stamp b.stamp) && ((a.gone == b.gone) && true)))))
theorem Key.eqb_refl (a : Key) : Key.eqb a a = true := by simp [Key.eqb]
theorem Card.eqb_refl (a : Card) : Card.eqb a a = true := by simp [Card.eqb, Stamp.eqb, Key.eqb]
def sameC_ann : Ann := { fin := some 0, live := [(4, [0, 1, 12, 13])], out := [(4, [0, 1, 12, 13])] }
set_option maxRecDepth 100000 in
theorem sameC_step (a : List Card) (b : List Card)  (i : Nat) (hl : a.length < 1099511627776) (hb : a.length = b.length) (hle_ : i ≤ a.length) {eX : Ex} {FX : Fr} {HX : Heap} (k1 : (decide (((i : Nat) : Int) < ((a.length : Nat) : Int))) = true → (!(Card.eqb (nth a i) (nth b i))) = true → ((.ret : Ex), (mkF 26 [(0, (AV.sl .any 9 (List.map Card.row a))), (1, (AV.sl .any 9 (List.map Card.row b))), (12, (AV.int .i64 ((a.length : Nat) : Int))), (13, (AV.int .i64 ((i : Nat) : Int)))]), ([] : Heap)) = (eX, FX, HX)) (k2 : (decide (((i : Nat) : Int) < ((a.length : Nat) : Int))) = true → (!(Card.eqb (nth a i) (nth b i))) = false → LoopTo (codeQ Try.prog (X sameC_ann) (loopOf Try.f55 0)) (some [0, 1, 12, 13]) (some [0, 1, 12, 13]) (mkF 26 [(0, (AV.sl .any 9 (List.map Card.row a))), (1, (AV.sl .any 9 (List.map Card.row b))), (12, (AV.int .i64 ((a.length : Nat) : Int))), (13, (AV.int .i64 ((i + 1 : Nat) : Int)))]) ([] : Heap) eX FX HX) (k3 : (decide (((i : Nat) : Int) < ((a.length : Nat) : Int))) = false → ((.exit 0 : Ex), (mkF 26 [(0, (AV.sl .any 9 (List.map Card.row a))), (1, (AV.sl .any 9 (List.map Card.row b))), (12, (AV.int .i64 ((a.length : Nat) : Int))), (13, (AV.int .i64 ((i : Nat) : Int)))]), ([] : Heap)) = (eX, FX, HX)) : LoopTo (codeQ Try.prog (X sameC_ann) (loopOf Try.f55 0)) (some [0, 1, 12, 13]) (some [0, 1, 12, 13]) (mkF 26 [(0, (AV.sl .any 9 (List.map Card.row a))), (1, (AV.sl .any 9 (List.map Card.row b))), (12, (AV.int .i64 ((a.length : Nat) : Int))), (13, (AV.int .i64 ((i : Nat) : Int)))]) ([] : Heap) eX FX HX := by
  refine LoopTo.step (.reg [] [] [] (.two (.reg [] [] [] (.reg [(2, ((AV.ref (Card.row (nth a i)) 0), ([] : Heap))), (6, ((AV.ref (Card.row (nth b i)) 0), ([] : Heap)))] [] [] (.two (.reg [] [] [] .nil) (.reg [(0, ((AV.int .i64 ((i + 1 : Nat) : Int)), ([] : Heap)))] [] [] .nil)))) .nil)) ?_
  refine Eq.mp (by kernel_rfl : (cond (decide (((i : Nat) : Int) < ((a.length : Nat) : Int))) ((IdxSl 9 9 (List.map Card.row a) ((i : Nat) : Int) ([] : Heap) (Card.row (nth a i))) ∧ (IdxSl 9 9 (List.map Card.row b) ((i : Nat) : Int) ([] : Heap) (Card.row (nth b i))) ∧ cond (!(Card.eqb (nth a i) (nth b i))) (((.ret : Ex), (mkF 26 [(0, (AV.sl .any 9 (List.map Card.row a))), (1, (AV.sl .any 9 (List.map Card.row b))), (12, (AV.int .i64 ((a.length : Nat) : Int))), (13, (AV.int .i64 ((i : Nat) : Int)))]), ([] : Heap)) = (eX, FX, HX)) ((Yes (.int .i64 (IntKind.i64.wrap (((i : Nat) : Int) + 1))) ([] : Heap) (AV.int .i64 ((i + 1 : Nat) : Int))) ∧ LoopTo (codeQ Try.prog (X sameC_ann) (loopOf Try.f55 0)) (some [0, 1, 12, 13]) (some [0, 1, 12, 13]) (mkF 26 [(0, (AV.sl .any 9 (List.map Card.row a))), (1, (AV.sl .any 9 (List.map Card.row b))), (12, (AV.int .i64 ((a.length : Nat) : Int))), (13, (AV.int .i64 ((i + 1 : Nat) : Int)))]) ([] : Heap) eX FX HX)) (((.exit 0 : Ex), (mkF 26 [(0, (AV.sl .any 9 (List.map Card.row a))), (1, (AV.sl .any 9 (List.map Card.row b))), (12, (AV.int .i64 ((a.length : Nat) : Int))), (13, (AV.int .i64 ((i : Nat) : Int)))]), ([] : Heap)) = (eX, FX, HX))) = _) ?_
  refine cond_split (fun h1 => ?_) (fun h1 => ?_)
  · have h1' := h1
    try simp at h1'
    refine And.intro (IdxSl.mk _ (by omega) (by omega)) ?_
    refine And.intro (IdxSl.mk _ (by omega) (by omega)) ?_
    refine cond_split (fun h2 => ?_) (fun h2 => ?_)
    · have h2' := h2
      try simp at h2'
      exact k1 h1 h2
    · have h2' := h2
      try simp at h2'
      refine And.intro (Yes.add (by omega) (by omega) (by omega)) ?_
      exact k2 h1 h2
  · have h1' := h1
    try simp at h1'
    exact k3 h1
def sameC_f (a : List Card) (b : List Card) (i : Nat) (s : Unit) : Unit := ()
def sameC_bad (a : List Card) (b : List Card)  (i : Nat) : Prop := (((decide (((i : Nat) : Int) < ((a.length : Nat) : Int))) = true) ∧ ((!(Card.eqb (nth a i) (nth b i))) = true))
theorem sameC_loop (a : List Card) (b : List Card) (hl : a.length < 1099511627776) (hb : a.length = b.length)  (hbad : ∀ (i : Nat), i < a.length → ¬ sameC_bad a b  i) (r_ : Nat) : ∀  (i : Nat) (sF : Unit), i + r_ = a.length → () = (iter (sameC_f a b) i 0 ()) → sF = iter (sameC_f a b) r_ i () →
    LoopTo (codeQ Try.prog (X sameC_ann) (loopOf Try.f55 0)) (some [0, 1, 12, 13]) (some [0, 1, 12, 13]) (mkF 26 [(0, (AV.sl .any 9 (List.map Card.row a))), (1, (AV.sl .any 9 (List.map Card.row b))), (12, (AV.int .i64 ((a.length : Nat) : Int))), (13, (AV.int .i64 ((i : Nat) : Int)))]) ([] : Heap) (.exit 0) (mkF 26 [(0, (AV.sl .any 9 (List.map Card.row a))), (1, (AV.sl .any 9 (List.map Card.row b))), (12, (AV.int .i64 ((a.length : Nat) : Int))), (13, (AV.int .i64 ((a.length : Nat) : Int)))]) ([] : Heap) := by
  induction r_ with
  | zero =>
    intro  i sF hi_  hs_ hF
    obtain rfl : a.length = i := by omega
    have e_ : sF = () := hF
    refine sameC_step a b  a.length hl hb (Nat.le_refl _) (fun h _ => by simp at h <;> omega) (fun h _ => by simp at h <;> omega) (fun _ => ?_)
    first | done | rfl | (rw [e_]; done) | (rw [e_]; rfl)
  | succ r_ ih =>
    intro  i sF hi_  hs_ hF
    refine sameC_step a b  i hl hb (by omega) (fun h1 h2 => ?_) (fun h1 h2 => ?_) (fun h => by simp at h <;> omega)
    · exact False.elim (by
        have hb_ := hbad i (by omega)
        try rw [← hs_] at hb_
        exact hb_ (⟨h1, h2⟩))
    · exact ih  (i + 1) sF (by omega)  (by rw [iter_succ, ← hs_] <;> simp only [sameC_f, h2, if_true, Bool.false_eq_true, if_false]) (by rw [hF] <;> simp only [iter, sameC_f, h2, if_true, Bool.false_eq_true, if_false])
set_option maxRecDepth 100000 in
theorem sameC_spec (a b : List Card) (hl : a.length < 1099511627776) (h : a = b) : ACalls Try.prog 55 [(AV.sl .any 9 (List.map Card.row a)), (AV.sl .any 9 (List.map Card.row b))] ([] : Heap) ((AV.bool true), ([] : Heap)) := by
  have hb : a.length = b.length := by rw [h]
  refine spec (fn := Try.f55) (ann := sameC_ann) (t := (.reg [] [] [] (.reg [(1, ((AV.int .i64 ((a.length : Nat) : Int)), ([] : Heap))), (3, ((AV.int .i64 ((b.length : Nat) : Int)), ([] : Heap))), (4, ((AV.bool false), ([] : Heap)))] [] [] (.two .nil (.reg [(1, ((AV.int .i64 ((a.length : Nat) : Int)), ([] : Heap)))] [] [] (.loop (.exit 0) (mkF 26 [(0, (AV.sl .any 9 (List.map Card.row a))), (1, (AV.sl .any 9 (List.map Card.row b))), (12, (AV.int .i64 ((a.length : Nat) : Int))), (13, (AV.int .i64 ((a.length : Nat) : Int)))]) ([] : Heap) (.reg [] [] [] .nil))))))) (Nat.le_of_ble_eq_true (by kernel_rfl)) ⟨Try.func55, by kernel_rfl, by kernel_rfl, by kernel_rfl⟩ ?_
  refine Eq.mp (by kernel_rfl : ((Yes (.int .i64 ((List.length (List.map Card.row a) : Nat) : Int)) ([] : Heap) (AV.int .i64 ((a.length : Nat) : Int))) ∧ (Yes (.int .i64 ((List.length (List.map Card.row b) : Nat) : Int)) ([] : Heap) (AV.int .i64 ((b.length : Nat) : Int))) ∧ (Yes (AV.bool (((a.length : Nat) : Int) != ((b.length : Nat) : Int))) ([] : Heap) (AV.bool false)) ∧ (Yes (.int .i64 ((List.length (List.map Card.row a) : Nat) : Int)) ([] : Heap) (AV.int .i64 ((a.length : Nat) : Int))) ∧ (LoopTo (codeQ Try.prog (X sameC_ann) (loopOf Try.f55 0)) (some [0, 1, 12, 13]) (some [0, 1, 12, 13]) (mkF 26 [(0, (AV.sl .any 9 (List.map Card.row a))), (1, (AV.sl .any 9 (List.map Card.row b))), (12, (AV.int .i64 ((a.length : Nat) : Int))), (13, (AV.int .i64 0))]) ([] : Heap) (.exit 0) (mkF 26 [(0, (AV.sl .any 9 (List.map Card.row a))), (1, (AV.sl .any 9 (List.map Card.row b))), (12, (AV.int .i64 ((a.length : Nat) : Int))), (13, (AV.int .i64 ((a.length : Nat) : Int)))]) ([] : Heap)) ∧ (AV.bdd 0 (AV.bool true) = true ∧ obsB 0 ([] : Heap) = true) ∧ ((AV.bool true), ([] : Heap)) = ((AV.bool true), ([] : Heap))) = _) ?_
  refine And.intro (Yes.len _ _ _) ?_
  refine And.intro (Yes.len _ _ _) ?_
  refine And.intro (Yes.bool (by rw [hb]; simp)) ?_
  refine And.intro (Yes.len _ _ _) ?_
  refine And.intro ((sameC_loop a b hl hb (fun i hi => by subst h; simp [sameC_bad, Card.eqb_refl]) (List.length a) 0 () (by omega) rfl rfl)) ?_
  refine And.intro (by first | (simp [obsB, AV.bddss, AV.bdds, AV.bdd]; done) | (simp [obsB, AV.bddss, AV.bdds, AV.bdd, -List.map_append]; done) | simp [obsB, AV.bddss, AV.bdds, AV.bdd, -List.map_append, -List.map_set, -List.map_take, -List.map_drop, -List.map_cons, -List.map_map]) ?_
  rfl
theorem sameC_at (a b : List Card) (hl : a.length < 1099511627776) (h : a = b) (H : Heap) : ACalls Try.prog 55 [(AV.sl .any 9 (List.map Card.row a)), (AV.sl .any 9 (List.map Card.row b))] H ((AV.bool true), H) := (sameC_spec a b hl h).lift (by kernel_rfl) (by kernel_rfl) H
def sameK_ann : Ann := { fin := some 0, live := [(4, [0, 1, 12, 13])], out := [(4, [0, 1, 12, 13])] }
set_option maxRecDepth 100000 in
theorem sameK_step (a : List Key) (b : List Key)  (i : Nat) (hl : a.length < 1099511627776) (hb : a.length = b.length) (hle_ : i ≤ a.length) {eX : Ex} {FX : Fr} {HX : Heap} (k1 : (decide (((i : Nat) : Int) < ((a.length : Nat) : Int))) = true → (!(Key.eqb (nth a i) (nth b i))) = true → ((.ret : Ex), (mkF 26 [(0, (AV.sl .any 2 (List.map Key.row a))), (1, (AV.sl .any 2 (List.map Key.row b))), (12, (AV.int .i64 ((a.length : Nat) : Int))), (13, (AV.int .i64 ((i : Nat) : Int)))]), ([] : Heap)) = (eX, FX, HX)) (k2 : (decide (((i : Nat) : Int) < ((a.length : Nat) : Int))) = true → (!(Key.eqb (nth a i) (nth b i))) = false → LoopTo (codeQ Try.prog (X sameK_ann) (loopOf Try.f57 0)) (some [0, 1, 12, 13]) (some [0, 1, 12, 13]) (mkF 26 [(0, (AV.sl .any 2 (List.map Key.row a))), (1, (AV.sl .any 2 (List.map Key.row b))), (12, (AV.int .i64 ((a.length : Nat) : Int))), (13, (AV.int .i64 ((i + 1 : Nat) : Int)))]) ([] : Heap) eX FX HX) (k3 : (decide (((i : Nat) : Int) < ((a.length : Nat) : Int))) = false → ((.exit 0 : Ex), (mkF 26 [(0, (AV.sl .any 2 (List.map Key.row a))), (1, (AV.sl .any 2 (List.map Key.row b))), (12, (AV.int .i64 ((a.length : Nat) : Int))), (13, (AV.int .i64 ((i : Nat) : Int)))]), ([] : Heap)) = (eX, FX, HX)) : LoopTo (codeQ Try.prog (X sameK_ann) (loopOf Try.f57 0)) (some [0, 1, 12, 13]) (some [0, 1, 12, 13]) (mkF 26 [(0, (AV.sl .any 2 (List.map Key.row a))), (1, (AV.sl .any 2 (List.map Key.row b))), (12, (AV.int .i64 ((a.length : Nat) : Int))), (13, (AV.int .i64 ((i : Nat) : Int)))]) ([] : Heap) eX FX HX := by
  refine LoopTo.step (.reg [] [] [] (.two (.reg [] [] [] (.reg [(2, ((AV.ref (Key.row (nth a i)) 0), ([] : Heap))), (6, ((AV.ref (Key.row (nth b i)) 0), ([] : Heap)))] [] [] (.two (.reg [] [] [] .nil) (.reg [(0, ((AV.int .i64 ((i + 1 : Nat) : Int)), ([] : Heap)))] [] [] .nil)))) .nil)) ?_
  refine Eq.mp (by kernel_rfl : (cond (decide (((i : Nat) : Int) < ((a.length : Nat) : Int))) ((IdxSl 2 2 (List.map Key.row a) ((i : Nat) : Int) ([] : Heap) (Key.row (nth a i))) ∧ (IdxSl 2 2 (List.map Key.row b) ((i : Nat) : Int) ([] : Heap) (Key.row (nth b i))) ∧ cond (!(Key.eqb (nth a i) (nth b i))) (((.ret : Ex), (mkF 26 [(0, (AV.sl .any 2 (List.map Key.row a))), (1, (AV.sl .any 2 (List.map Key.row b))), (12, (AV.int .i64 ((a.length : Nat) : Int))), (13, (AV.int .i64 ((i : Nat) : Int)))]), ([] : Heap)) = (eX, FX, HX)) ((Yes (.int .i64 (IntKind.i64.wrap (((i : Nat) : Int) + 1))) ([] : Heap) (AV.int .i64 ((i + 1 : Nat) : Int))) ∧ LoopTo (codeQ Try.prog (X sameK_ann) (loopOf Try.f57 0)) (some [0, 1, 12, 13]) (some [0, 1, 12, 13]) (mkF 26 [(0, (AV.sl .any 2 (List.map Key.row a))), (1, (AV.sl .any 2 (List.map Key.row b))), (12, (AV.int .i64 ((a.length : Nat) : Int))), (13, (AV.int .i64 ((i + 1 : Nat) : Int)))]) ([] : Heap) eX FX HX)) (((.exit 0 : Ex), (mkF 26 [(0, (AV.sl .any 2 (List.map Key.row a))), (1, (AV.sl .any 2 (List.map Key.row b))), (12, (AV.int .i64 ((a.length : Nat) : Int))), (13, (AV.int .i64 ((i : Nat) : Int)))]), ([] : Heap)) = (eX, FX, HX))) = _) ?_
  refine cond_split (fun h1 => ?_) (fun h1 => ?_)
  · have h1' := h1
    try simp at h1'
    refine And.intro (IdxSl.mk _ (by omega) (by omega)) ?_
    refine And.intro (IdxSl.mk _ (by omega) (by omega)) ?_
    refine cond_split (fun h2 => ?_) (fun h2 => ?_)
    · have h2' := h2
      try simp at h2'
      exact k1 h1 h2
    · have h2' := h2
      try simp at h2'
      refine And.intro (Yes.add (by omega) (by omega) (by omega)) ?_
      exact k2 h1 h2
  · have h1' := h1
    try simp at h1'
    exact k3 h1
def sameK_f (a : List Key) (b : List Key) (i : Nat) (s : Unit) : Unit := ()
def sameK_bad (a : List Key) (b : List Key)  (i : Nat) : Prop := (((decide (((i : Nat) : Int) < ((a.length : Nat) : Int))) = true) ∧ ((!(Key.eqb (nth a i) (nth b i))) = true))
theorem sameK_loop (a : List Key) (b : List Key) (hl : a.length < 1099511627776) (hb : a.length = b.length)  (hbad : ∀ (i : Nat), i < a.length → ¬ sameK_bad a b  i) (r_ : Nat) : ∀  (i : Nat) (sF : Unit), i + r_ = a.length → () = (iter (sameK_f a b) i 0 ()) → sF = iter (sameK_f a b) r_ i () →
    LoopTo (codeQ Try.prog (X sameK_ann) (loopOf Try.f57 0)) (some [0, 1, 12, 13]) (some [0, 1, 12, 13]) (mkF 26 [(0, (AV.sl .any 2 (List.map Key.row a))), (1, (AV.sl .any 2 (List.map Key.row b))), (12, (AV.int .i64 ((a.length : Nat) : Int))), (13, (AV.int .i64 ((i : Nat) : Int)))]) ([] : Heap) (.exit 0) (mkF 26 [(0, (AV.sl .any 2 (List.map Key.row a))), (1, (AV.sl .any 2 (List.map Key.row b))), (12, (AV.int .i64 ((a.length : Nat) : Int))), (13, (AV.int .i64 ((a.length : Nat) : Int)))]) ([] : Heap) := by
  induction r_ with
  | zero =>
    intro  i sF hi_  hs_ hF
    obtain rfl : a.length = i := by omega
    have e_ : sF = () := hF
    refine sameK_step a b  a.length hl hb (Nat.le_refl _) (fun h _ => by simp at h <;> omega) (fun h _ => by simp at h <;> omega) (fun _ => ?_)
    first | done | rfl | (rw [e_]; done) | (rw [e_]; rfl)
  | succ r_ ih =>
    intro  i sF hi_  hs_ hF
    refine sameK_step a b  i hl hb (by omega) (fun h1 h2 => ?_) (fun h1 h2 => ?_) (fun h => by simp at h <;> omega)
    · exact False.elim (by
        have hb_ := hbad i (by omega)
        try rw [← hs_] at hb_
        exact hb_ (⟨h1, h2⟩))
    · exact ih  (i + 1) sF (by omega)  (by rw [iter_succ, ← hs_] <;> simp only [sameK_f, h2, if_true, Bool.false_eq_true, if_false]) (by rw [hF] <;> simp only [iter, sameK_f, h2, if_true, Bool.false_eq_true, if_false])
set_option maxRecDepth 100000 in
theorem sameK_spec (a b : List Key) (hl : a.length < 1099511627776) (h : a = b) : ACalls Try.prog 57 [(AV.sl .any 2 (List.map Key.row a)), (AV.sl .any 2 (List.map Key.row b))] ([] : Heap) ((AV.bool true), ([] : Heap)) := by
  have hb : a.length = b.length := by rw [h]
  refine spec (fn := Try.f57) (ann := sameK_ann) (t := (.reg [] [] [] (.reg [(1, ((AV.int .i64 ((a.length : Nat) : Int)), ([] : Heap))), (3, ((AV.int .i64 ((b.length : Nat) : Int)), ([] : Heap))), (4, ((AV.bool false), ([] : Heap)))] [] [] (.two .nil (.reg [(1, ((AV.int .i64 ((a.length : Nat) : Int)), ([] : Heap)))] [] [] (.loop (.exit 0) (mkF 26 [(0, (AV.sl .any 2 (List.map Key.row a))), (1, (AV.sl .any 2 (List.map Key.row b))), (12, (AV.int .i64 ((a.length : Nat) : Int))), (13, (AV.int .i64 ((a.length : Nat) : Int)))]) ([] : Heap) (.reg [] [] [] .nil))))))) (Nat.le_of_ble_eq_true (by kernel_rfl)) ⟨Try.func57, by kernel_rfl, by kernel_rfl, by kernel_rfl⟩ ?_
  refine Eq.mp (by kernel_rfl : ((Yes (.int .i64 ((List.length (List.map Key.row a) : Nat) : Int)) ([] : Heap) (AV.int .i64 ((a.length : Nat) : Int))) ∧ (Yes (.int .i64 ((List.length (List.map Key.row b) : Nat) : Int)) ([] : Heap) (AV.int .i64 ((b.length : Nat) : Int))) ∧ (Yes (AV.bool (((a.length : Nat) : Int) != ((b.length : Nat) : Int))) ([] : Heap) (AV.bool false)) ∧ (Yes (.int .i64 ((List.length (List.map Key.row a) : Nat) : Int)) ([] : Heap) (AV.int .i64 ((a.length : Nat) : Int))) ∧ (LoopTo (codeQ Try.prog (X sameK_ann) (loopOf Try.f57 0)) (some [0, 1, 12, 13]) (some [0, 1, 12, 13]) (mkF 26 [(0, (AV.sl .any 2 (List.map Key.row a))), (1, (AV.sl .any 2 (List.map Key.row b))), (12, (AV.int .i64 ((a.length : Nat) : Int))), (13, (AV.int .i64 0))]) ([] : Heap) (.exit 0) (mkF 26 [(0, (AV.sl .any 2 (List.map Key.row a))), (1, (AV.sl .any 2 (List.map Key.row b))), (12, (AV.int .i64 ((a.length : Nat) : Int))), (13, (AV.int .i64 ((a.length : Nat) : Int)))]) ([] : Heap)) ∧ (AV.bdd 0 (AV.bool true) = true ∧ obsB 0 ([] : Heap) = true) ∧ ((AV.bool true), ([] : Heap)) = ((AV.bool true), ([] : Heap))) = _) ?_
  refine And.intro (Yes.len _ _ _) ?_
  refine And.intro (Yes.len _ _ _) ?_
  refine And.intro (Yes.bool (by rw [hb]; simp)) ?_
  refine And.intro (Yes.len _ _ _) ?_
  refine And.intro ((sameK_loop a b hl hb (fun i hi => by subst h; simp [sameK_bad, Key.eqb_refl]) (List.length a) 0 () (by omega) rfl rfl)) ?_
  refine And.intro (by first | (simp [obsB, AV.bddss, AV.bdds, AV.bdd]; done) | (simp [obsB, AV.bddss, AV.bdds, AV.bdd, -List.map_append]; done) | simp [obsB, AV.bddss, AV.bdds, AV.bdd, -List.map_append, -List.map_set, -List.map_take, -List.map_drop, -List.map_cons, -List.map_map]) ?_
  rfl
theorem sameK_at (a b : List Key) (hl : a.length < 1099511627776) (h : a = b) (H : Heap) : ACalls Try.prog 57 [(AV.sl .any 2 (List.map Key.row a)), (AV.sl .any 2 (List.map Key.row b))] H ((AV.bool true), H) := (sameK_spec a b hl h).lift (by kernel_rfl) (by kernel_rfl) H
theorem fold_fmap' {α β : Type} (p : α → Bool) (f : α → β) (l : List α) : ∀ (out : List β) (k g : Nat),
    l.foldl (fun (s : List β × Nat × Nat) c => if p c = true then (s.1 ++ [f c], s.2.1 + 1, s.2.2 + 1) else s) (out, k, g) = (out ++ (l.filter p).map f, k + ((l.filter p).map f).length, g + ((l.filter p).map f).length) := by
  induction l with
  | nil => intro out k g; simp
  | cons c l ih =>
    intro out k g
    rw [List.foldl_cons]
    by_cases h : p c = true
    · rw [if_pos h, ih]; simp [List.filter_cons, h]; omega
    · rw [if_neg h, ih]; simp [List.filter_cons, h]
theorem iter_push {α : Type} (f : Nat → List α × Nat × Nat → List α × Nat × Nat) (h : Nat → List α × Nat × Nat → α) (hf : ∀ i s, f i s = (s.1 ++ [h i s], s.2.1 + 1, s.2.2 + 1)) (r : Nat) : ∀ (i : Nat) (s : List α × Nat × Nat),
    (iter f r i s).1.length = s.1.length + r ∧ (iter f r i s).2 = (s.2.1 + r, s.2.2 + r) := by
  induction r with
  | zero => intro i s; simp [iter]
  | succ r ih => intro i s; obtain ⟨h1, h2⟩ := ih (i + 1) (f i s); simp only [iter]; rw [h1, h2, hf]; simp; omega
end Go.Proofs.Ytpkgpldgoajphaa.AM

set_option maxRecDepth 100000
set_option linter.unusedVariables false
set_option linter.unusedSimpArgs false
namespace Go.Proofs.Ytpkgpldgoajphaa.AM
open Go Go.Proofs.Ytpkgpldgoajphaa
attribute [local irreducible] ACalls funT codeT codeQ LoopTo
attribute [local irreducible] Tp.card Tp.cardT Tp.next Tp.step Tp.cards Tp.cardsT Tp.key Tp.keyT sink insSort pickS pickL pickN pickK mostN cmpL lateE orderK sortK insK posK beforeK onceStep onceS onceK sortP lastS lastK cmpK
theorem half_nat {n h : Nat} (hn : n < 4611686018427387904) (hh : h = n / 2) : IntKind.i64.wrap (Int.fdiv (IntKind.u64.wrap ((n : Nat) : Int)) (2 ^ (min (Int.toNat 1) 64))) = ((h : Nat) : Int) := by
  have h1 : IntKind.u64.wrap ((n : Nat) : Int) = ((n : Nat) : Int) := by simp [IntKind.wrap, IntKind.signed, IntKind.bits]; omega
  have h2 : (2 : Int) ^ (min (Int.toNat 1) 64) = 2 := rfl
  rw [h1, h2, Int.fdiv_eq_ediv_of_nonneg _ (by omega), IntKind.wrap_i64]
  omega
section
variable {α : Type} [Inhabited α]
def ltF (cmp : α → α → Int) (x y : α) : Bool := decide (cmp x y < 0)
/-- Rows from a to m, and from m to b, merged. -/
def mAt (lt : α → α → Bool) (a m b : Nat) (l : List α) : List α := l.take a ++ (mg lt ((l.drop a).take (m - a)) ((l.drop m).take (b - m)) ++ l.drop b)
def shU (r k : Nat) (l : List α) : List α := iter (fun k l => (l.set k (nth l (k + 1))).set (k + 1) (nth l k)) r k l
def shD : Nat → Nat → List α → List α
  | 0, _, l => l
  | r + 1, k, l => shD r (k - 1) ((l.set k (nth l (k - 1))).set (k - 1) (nth l k))
end
def mEw_ann : Ann := { base := 1, fin := some 1, live := [(1, [0, 1, 2, 3, 10])], out := [(1, [0, 1, 2, 3, 10])] }
set_option maxRecDepth 100000 in
theorem mEw_step (a : Nat) (b : Nat) (k : Nat) (n : Nat) (g : Nat) (l : List Entry) (i : Nat) (hab : a + k ≤ b) (hb : b + k ≤ n) (hnb : n < 1048576) (hn : n = l.length) (hle_ : i ≤ k) {eX : Ex} {FX : Fr} {HX : Heap} (k1 : (decide (((i : Nat) : Int) < ((k : Nat) : Int))) = true → LoopTo (codeQ Try.prog (X mEw_ann) (loopOf Try.f143 0)) (some [0, 1, 2, 3, 10]) (some [0, 1, 2, 3, 10]) (mkF 38 [(0, (AV.osl 0 g 10 0 n)), (1, (AV.int .i64 ((a : Nat) : Int))), (2, (AV.int .i64 ((b : Nat) : Int))), (3, (AV.int .i64 ((k : Nat) : Int))), (10, (AV.int .i64 ((i + 1 : Nat) : Int)))]) ([⟨g, 10, (List.map Entry.row ((l.set (a + i) (nth l (b + i))).set (b + i) (nth l (a + i)))), none⟩] : Heap) eX FX HX) (k2 : (decide (((i : Nat) : Int) < ((k : Nat) : Int))) = false → ((.exit 0 : Ex), (mkF 38 [(0, (AV.osl 0 g 10 0 n)), (1, (AV.int .i64 ((a : Nat) : Int))), (2, (AV.int .i64 ((b : Nat) : Int))), (3, (AV.int .i64 ((k : Nat) : Int))), (10, (AV.int .i64 ((i : Nat) : Int)))]), ([⟨g, 10, (List.map Entry.row l), none⟩] : Heap)) = (eX, FX, HX)) : LoopTo (codeQ Try.prog (X mEw_ann) (loopOf Try.f143 0)) (some [0, 1, 2, 3, 10]) (some [0, 1, 2, 3, 10]) (mkF 38 [(0, (AV.osl 0 g 10 0 n)), (1, (AV.int .i64 ((a : Nat) : Int))), (2, (AV.int .i64 ((b : Nat) : Int))), (3, (AV.int .i64 ((k : Nat) : Int))), (10, (AV.int .i64 ((i : Nat) : Int)))]) ([⟨g, 10, (List.map Entry.row l), none⟩] : Heap) eX FX HX := by
  refine LoopTo.step (.reg [] [] [] (.two (.reg [(3, ((AV.int .i64 ((a + i : Nat) : Int)), ([⟨g, 10, (List.map Entry.row l), none⟩] : Heap))), (7, ((AV.int .i64 ((b + i : Nat) : Int)), ([⟨g, 10, (List.map Entry.row l), none⟩] : Heap))), (11, ((AV.int .i64 ((b + i : Nat) : Int)), ([⟨g, 10, (List.map Entry.row l), none⟩] : Heap))), (12, ((AV.obj 0 g (b + i) 0), ([⟨g, 10, (List.map Entry.row l), none⟩] : Heap))), (13, ((AV.agg (Entry.row (nth l (b + i)))), ([⟨g, 10, (List.map Entry.row l), none⟩] : Heap))), (17, ((AV.int .i64 ((a + i : Nat) : Int)), ([⟨g, 10, (List.map Entry.row l), none⟩] : Heap))), (18, ((AV.obj 0 g (a + i) 0), ([⟨g, 10, (List.map Entry.row l), none⟩] : Heap))), (19, ((AV.agg (Entry.row (nth l (a + i)))), ([⟨g, 10, (List.map Entry.row l), none⟩] : Heap))), (20, ((AV.obj 0 g (a + i) 0), ([⟨g, 10, (List.map Entry.row l), none⟩] : Heap))), (21, (AV.skip, ([⟨g, 10, (List.map Entry.row (l.set (a + i) (nth l (b + i)))), none⟩] : Heap))), (22, ((AV.obj 0 g (b + i) 0), ([⟨g, 10, (List.map Entry.row (l.set (a + i) (nth l (b + i)))), none⟩] : Heap))), (23, (AV.skip, ([⟨g, 10, (List.map Entry.row ((l.set (a + i) (nth l (b + i))).set (b + i) (nth l (a + i)))), none⟩] : Heap)))] [] [] (.reg [(1, ((AV.int .i64 ((i + 1 : Nat) : Int)), ([⟨g, 10, (List.map Entry.row ((l.set (a + i) (nth l (b + i))).set (b + i) (nth l (a + i)))), none⟩] : Heap)))] [] [] .nil)) .nil)) ?_
  refine Eq.mp (by kernel_rfl : (cond (decide (((i : Nat) : Int) < ((k : Nat) : Int))) ((Yes (.int .i64 (IntKind.i64.wrap (((a : Nat) : Int) + ((i : Nat) : Int)))) ([⟨g, 10, (List.map Entry.row l), none⟩] : Heap) (AV.int .i64 ((a + i : Nat) : Int))) ∧ (Yes (.int .i64 (IntKind.i64.wrap (((b : Nat) : Int) + ((i : Nat) : Int)))) ([⟨g, 10, (List.map Entry.row l), none⟩] : Heap) (AV.int .i64 ((b + i : Nat) : Int))) ∧ (Yes (.int .i64 (IntKind.i64.wrap (((b : Nat) : Int) + ((i : Nat) : Int)))) ([⟨g, 10, (List.map Entry.row l), none⟩] : Heap) (AV.int .i64 ((b + i : Nat) : Int))) ∧ (IdxOsl 0 g 10 10 0 n ((b + i : Nat) : Int) ([⟨g, 10, (List.map Entry.row l), none⟩] : Heap) (b + i)) ∧ (LoadTo tt 42 0 ([⟨g, 10, (List.map Entry.row l), none⟩] : Heap) (rowAt ([⟨g, 10, (List.map Entry.row l), none⟩] : Heap) 0 g (b + i)) = some ((AV.agg (Entry.row (nth l (b + i)))), ([⟨g, 10, (List.map Entry.row l), none⟩] : Heap))) ∧ (Yes (.int .i64 (IntKind.i64.wrap (((a : Nat) : Int) + ((i : Nat) : Int)))) ([⟨g, 10, (List.map Entry.row l), none⟩] : Heap) (AV.int .i64 ((a + i : Nat) : Int))) ∧ (IdxOsl 0 g 10 10 0 n ((a + i : Nat) : Int) ([⟨g, 10, (List.map Entry.row l), none⟩] : Heap) (a + i)) ∧ (LoadTo tt 42 0 ([⟨g, 10, (List.map Entry.row l), none⟩] : Heap) (rowAt ([⟨g, 10, (List.map Entry.row l), none⟩] : Heap) 0 g (a + i)) = some ((AV.agg (Entry.row (nth l (a + i)))), ([⟨g, 10, (List.map Entry.row l), none⟩] : Heap))) ∧ (IdxOsl 0 g 10 10 0 n ((a + i : Nat) : Int) ([⟨g, 10, (List.map Entry.row l), none⟩] : Heap) (a + i)) ∧ (StoreTo ([⟨g, 10, (List.map Entry.row l), none⟩] : Heap) 0 (a + i) 10 0 (rowAt ([⟨g, 10, (List.map Entry.row l), none⟩] : Heap) 0 g (a + i)) (AV.fit (AV.agg (Entry.row (nth l (b + i)))) 10) = some (AV.skip, ([⟨g, 10, (List.map Entry.row (l.set (a + i) (nth l (b + i)))), none⟩] : Heap))) ∧ (IdxOsl 0 g 10 10 0 n ((b + i : Nat) : Int) ([⟨g, 10, (List.map Entry.row (l.set (a + i) (nth l (b + i)))), none⟩] : Heap) (b + i)) ∧ (StoreTo ([⟨g, 10, (List.map Entry.row (l.set (a + i) (nth l (b + i)))), none⟩] : Heap) 0 (b + i) 10 0 (rowAt ([⟨g, 10, (List.map Entry.row (l.set (a + i) (nth l (b + i)))), none⟩] : Heap) 0 g (b + i)) (AV.fit (AV.agg (Entry.row (nth l (a + i)))) 10) = some (AV.skip, ([⟨g, 10, (List.map Entry.row ((l.set (a + i) (nth l (b + i))).set (b + i) (nth l (a + i)))), none⟩] : Heap))) ∧ (Yes (.int .i64 (IntKind.i64.wrap (((i : Nat) : Int) + 1))) ([⟨g, 10, (List.map Entry.row ((l.set (a + i) (nth l (b + i))).set (b + i) (nth l (a + i)))), none⟩] : Heap) (AV.int .i64 ((i + 1 : Nat) : Int))) ∧ LoopTo (codeQ Try.prog (X mEw_ann) (loopOf Try.f143 0)) (some [0, 1, 2, 3, 10]) (some [0, 1, 2, 3, 10]) (mkF 38 [(0, (AV.osl 0 g 10 0 n)), (1, (AV.int .i64 ((a : Nat) : Int))), (2, (AV.int .i64 ((b : Nat) : Int))), (3, (AV.int .i64 ((k : Nat) : Int))), (10, (AV.int .i64 ((i + 1 : Nat) : Int)))]) ([⟨g, 10, (List.map Entry.row ((l.set (a + i) (nth l (b + i))).set (b + i) (nth l (a + i)))), none⟩] : Heap) eX FX HX) (((.exit 0 : Ex), (mkF 38 [(0, (AV.osl 0 g 10 0 n)), (1, (AV.int .i64 ((a : Nat) : Int))), (2, (AV.int .i64 ((b : Nat) : Int))), (3, (AV.int .i64 ((k : Nat) : Int))), (10, (AV.int .i64 ((i : Nat) : Int)))]), ([⟨g, 10, (List.map Entry.row l), none⟩] : Heap)) = (eX, FX, HX))) = _) ?_
  refine cond_split (fun h1 => ?_) (fun h1 => ?_)
  · have h1' := h1
    try simp at h1'
    refine And.intro (Yes.add (by omega) (by omega) (by omega)) ?_
    refine And.intro (Yes.add (by omega) (by omega) (by omega)) ?_
    refine And.intro (Yes.add (by omega) (by omega) (by omega)) ?_
    refine And.intro (IdxOsl.mk _ (by omega) (by omega)) ?_
    refine And.intro (load_row (rowAt_map (row := Entry.row) (l := l) (k := 10) (room := none) (by kernel_rfl) (by first | omega | (simp; done) | (simp; omega))) (by kernel_rfl)) ?_
    refine And.intro (Yes.add (by omega) (by omega) (by omega)) ?_
    refine And.intro (IdxOsl.mk _ (by omega) (by omega)) ?_
    refine And.intro (load_row (rowAt_map (row := Entry.row) (l := l) (k := 10) (room := none) (by kernel_rfl) (by first | omega | (simp; done) | (simp; omega))) (by kernel_rfl)) ?_
    refine And.intro (IdxOsl.mk _ (by omega) (by omega)) ?_
    refine And.intro (store_row (us := (Entry.row (nth l (b + i)))) (rowAt_map (row := Entry.row) (l := l) (k := 10) (room := none) (by kernel_rfl) (by first | omega | (simp; done) | (simp; omega))) (by kernel_rfl) (by simp [Entry.row]) (by simp [setAt, fillAt, List.map_set, Entry.row])) ?_
    refine And.intro (IdxOsl.mk _ (by omega) (by omega)) ?_
    refine And.intro (store_row (us := (Entry.row (nth l (a + i)))) (rowAt_map (row := Entry.row) (l := l.set (a + i) (nth l (b + i))) (k := 10) (room := none) (by kernel_rfl) (by first | omega | (simp; done) | (simp; omega))) (by kernel_rfl) (by simp [Entry.row]) (by simp [setAt, fillAt, List.map_set, Entry.row])) ?_
    refine And.intro (Yes.add (by omega) (by omega) (by omega)) ?_
    exact k1 h1
  · have h1' := h1
    try simp at h1'
    exact k2 h1
def mEw_f (a : Nat) (b : Nat) (k : Nat) (n : Nat) (g : Nat) (i : Nat) (s : (List Entry)) : (List Entry) := ((s.set (a + i) (nth s (b + i))).set (b + i) (nth s (a + i)))
theorem mEw_loop (a : Nat) (b : Nat) (k : Nat) (n : Nat) (g : Nat) (hab : a + k ≤ b) (hb : b + k ≤ n) (hnb : n < 1048576)  (r_ : Nat) : ∀ (l : List Entry) (i : Nat) (sF : (List Entry)), i + r_ = k → n = l.length → sF = iter (mEw_f a b k n g) r_ i (l) →
    LoopTo (codeQ Try.prog (X mEw_ann) (loopOf Try.f143 0)) (some [0, 1, 2, 3, 10]) (some [0, 1, 2, 3, 10]) (mkF 38 [(0, (AV.osl 0 g 10 0 n)), (1, (AV.int .i64 ((a : Nat) : Int))), (2, (AV.int .i64 ((b : Nat) : Int))), (3, (AV.int .i64 ((k : Nat) : Int))), (10, (AV.int .i64 ((i : Nat) : Int)))]) ([⟨g, 10, (List.map Entry.row l), none⟩] : Heap) (.exit 0) (mkF 38 [(0, (AV.osl 0 g 10 0 n)), (1, (AV.int .i64 ((a : Nat) : Int))), (2, (AV.int .i64 ((b : Nat) : Int))), (3, (AV.int .i64 ((k : Nat) : Int))), (10, (AV.int .i64 ((k : Nat) : Int)))]) ([⟨g, 10, (List.map Entry.row sF), none⟩] : Heap) := by
  induction r_ with
  | zero =>
    intro l i sF hi_ hn  hF
    obtain rfl : k = i := by omega
    have e_ : sF = (l) := hF
    refine mEw_step a b k n g l k hab hb hnb hn (Nat.le_refl _) (fun h => by simp at h <;> omega) (fun _ => ?_)
    first | done | rfl | (rw [e_]; done) | (rw [e_]; rfl)
  | succ r_ ih =>
    intro l i sF hi_ hn  hF
    refine mEw_step a b k n g l i hab hb hnb hn (by omega) (fun h1 => ?_) (fun h => by simp at h <;> omega)
    · exact ih ((l.set (a + i) (nth l (b + i))).set (b + i) (nth l (a + i))) (i + 1) sF (by omega) (by first | omega | assumption | (simp; done) | (simp; omega) | (simp [*]; done) | (simp [*]; omega))  (by rw [hF] <;> simp only [iter, mEw_f, if_true, Bool.false_eq_true, if_false])
set_option maxRecDepth 100000 in
theorem mEw_spec (f : Nat) (xs : List AV) (a b k n g : Nat) (l : List Entry) (hxs : AV.bdds 1 xs = true) (hn : n = l.length) (hnb : n < 1048576) (hab : a + k ≤ b) (hb : b + k ≤ n) : ACalls Try.prog 143 [(AV.osl 0 g 10 0 n), (AV.int .i64 ((a : Nat) : Int)), (AV.int .i64 ((b : Nat) : Int)), (AV.int .i64 ((k : Nat) : Int)), (AV.func f xs)] ([⟨g, 10, (List.map Entry.row l), none⟩] : Heap) ((AV.tup []), ([⟨g, 10, (List.map Entry.row (swapL a b k l)), none⟩] : Heap)) := by
  refine spec (fn := Try.f143) (ann := mEw_ann) (t := (.reg [] [] [] (.loop (.exit 0) (mkF 38 [(0, (AV.osl 0 g 10 0 n)), (1, (AV.int .i64 ((a : Nat) : Int))), (2, (AV.int .i64 ((b : Nat) : Int))), (3, (AV.int .i64 ((k : Nat) : Int))), (10, (AV.int .i64 ((k : Nat) : Int)))]) ([⟨g, 10, (List.map Entry.row (swapL a b k l)), none⟩] : Heap) .nil))) (Nat.le_of_ble_eq_true (by kernel_rfl)) ⟨Try.func143, by kernel_rfl, by kernel_rfl, by kernel_rfl⟩ ?_
  refine Eq.mp (by kernel_rfl : ((LoopTo (codeQ Try.prog (X mEw_ann) (loopOf Try.f143 0)) (some [0, 1, 2, 3, 10]) (some [0, 1, 2, 3, 10]) (mkF 38 [(0, (AV.osl 0 g 10 0 n)), (1, (AV.int .i64 ((a : Nat) : Int))), (2, (AV.int .i64 ((b : Nat) : Int))), (3, (AV.int .i64 ((k : Nat) : Int))), (10, (AV.int .i64 0))]) ([⟨g, 10, (List.map Entry.row l), none⟩] : Heap) (.exit 0) (mkF 38 [(0, (AV.osl 0 g 10 0 n)), (1, (AV.int .i64 ((a : Nat) : Int))), (2, (AV.int .i64 ((b : Nat) : Int))), (3, (AV.int .i64 ((k : Nat) : Int))), (10, (AV.int .i64 ((k : Nat) : Int)))]) ([⟨g, 10, (List.map Entry.row (swapL a b k l)), none⟩] : Heap)) ∧ (AV.bdd 1 (AV.tup []) = true ∧ obsB 1 ([⟨g, 10, (List.map Entry.row (swapL a b k l)), none⟩] : Heap) = true) ∧ ((AV.tup []), ([⟨g, 10, (List.map Entry.row (swapL a b k l)), none⟩] : Heap)) = ((AV.tup []), ([⟨g, 10, (List.map Entry.row (swapL a b k l)), none⟩] : Heap))) = _) ?_
  refine And.intro ((mEw_loop a b k n g hab hb hnb k l 0 (swapL a b k l) (by omega) hn rfl)) ?_
  refine And.intro (by first | (simp [obsB, AV.bddss, AV.bdds, AV.bdd]; done) | (simp [obsB, AV.bddss, AV.bdds, AV.bdd, -List.map_append]; done) | simp [obsB, AV.bddss, AV.bdds, AV.bdd, -List.map_append, -List.map_set, -List.map_take, -List.map_drop, -List.map_cons, -List.map_map]) ?_
  rfl
theorem mEw_at (f : Nat) (xs : List AV) (a b k n g : Nat) (l : List Entry) (hxs : AV.bdds 1 xs = true) (hn : n = l.length) (hnb : n < 1048576) (hab : a + k ≤ b) (hb : b + k ≤ n) (H : Heap) : ACalls Try.prog 143 [(AV.osl 0 g 10 0 n), (AV.int .i64 ((a : Nat) : Int)), (AV.int .i64 ((b : Nat) : Int)), (AV.int .i64 ((k : Nat) : Int)), (AV.func f xs)] (([⟨g, 10, (List.map Entry.row l), none⟩] : Heap) ++ H) ((AV.tup []), ([⟨g, 10, (List.map Entry.row (swapL a b k l)), none⟩] : Heap) ++ H) := (mEw_spec f xs a b k n g l hxs hn hnb hab hb).ext (by simp [AV.bdds, AV.bdd, *]) (by kernel_rfl) (by first | (simp [obsB, AV.bddss, AV.bdds, AV.bdd]; done) | (simp [obsB, AV.bddss, AV.bdds, AV.bdd, -List.map_append]; done) | simp [obsB, AV.bddss, AV.bdds, AV.bdd, -List.map_append, -List.map_set, -List.map_take, -List.map_drop, -List.map_cons, -List.map_map]) (by first | (simp [obsB, AV.bddss, AV.bdds, AV.bdd]; done) | (simp [obsB, AV.bddss, AV.bdds, AV.bdd, -List.map_append]; done) | simp [obsB, AV.bddss, AV.bdds, AV.bdd, -List.map_append, -List.map_set, -List.map_take, -List.map_drop, -List.map_cons, -List.map_map]) (by kernel_rfl) H
def mEr_ann : Ann := { base := 1, fin := some 1, live := [(2, [0, 2, 4, 10, 11])], out := [(2, [0, 2, 4, 10, 11])] }
set_option maxRecDepth 100000 in
theorem mEr_step (f : Nat) (xs : List AV) (p n g : Nat) (i j : Nat) (l : List Entry) (hxs : AV.bdds 1 xs = true) (hn : n = l.length) (hnb : n < 1048576) (hi : 0 < i) (hj : 0 < j) (hip : i ≤ p) (hjp : p + j ≤ n) {eX : Ex} {FX : Fr} {HX : Heap} (k1 : (((i : Nat) : Int) != ((j : Nat) : Int)) = true → (decide (((i : Nat) : Int) > ((j : Nat) : Int))) = true → LoopTo (codeQ Try.prog (X mEr_ann) (loopOf Try.f138 0)) (some [0, 2, 4, 10, 11]) (some [0, 2, 4, 10, 11]) (mkF 58 [(0, (AV.osl 0 g 10 0 n)), (2, (AV.int .i64 ((p : Nat) : Int))), (4, (AV.func f xs)), (10, (AV.int .i64 ((i - j : Nat) : Int))), (11, (AV.int .i64 ((j : Nat) : Int)))]) ([⟨g, 10, (List.map Entry.row (swapL (p - i) p j l)), none⟩] : Heap) eX FX HX) (k2 : (((i : Nat) : Int) != ((j : Nat) : Int)) = true → (decide (((i : Nat) : Int) > ((j : Nat) : Int))) = false → LoopTo (codeQ Try.prog (X mEr_ann) (loopOf Try.f138 0)) (some [0, 2, 4, 10, 11]) (some [0, 2, 4, 10, 11]) (mkF 58 [(0, (AV.osl 0 g 10 0 n)), (2, (AV.int .i64 ((p : Nat) : Int))), (4, (AV.func f xs)), (10, (AV.int .i64 ((i : Nat) : Int))), (11, (AV.int .i64 ((j - i : Nat) : Int)))]) ([⟨g, 10, (List.map Entry.row (swapL (p - i) (p + j - i) i l)), none⟩] : Heap) eX FX HX) (k3 : (((i : Nat) : Int) != ((j : Nat) : Int)) = false → ((.exit 0 : Ex), (mkF 58 [(0, (AV.osl 0 g 10 0 n)), (2, (AV.int .i64 ((p : Nat) : Int))), (4, (AV.func f xs)), (10, (AV.int .i64 ((i : Nat) : Int))), (11, (AV.int .i64 ((j : Nat) : Int)))]), ([⟨g, 10, (List.map Entry.row l), none⟩] : Heap)) = (eX, FX, HX)) : LoopTo (codeQ Try.prog (X mEr_ann) (loopOf Try.f138 0)) (some [0, 2, 4, 10, 11]) (some [0, 2, 4, 10, 11]) (mkF 58 [(0, (AV.osl 0 g 10 0 n)), (2, (AV.int .i64 ((p : Nat) : Int))), (4, (AV.func f xs)), (10, (AV.int .i64 ((i : Nat) : Int))), (11, (AV.int .i64 ((j : Nat) : Int)))]) ([⟨g, 10, (List.map Entry.row l), none⟩] : Heap) eX FX HX := by
  refine LoopTo.step (.reg [] [] [] (.two (.reg [] [] [] (.two (.reg [(3, ((AV.int .i64 ((p - i : Nat) : Int)), ([⟨g, 10, (List.map Entry.row l), none⟩] : Heap))), (7, ((AV.tup []), ([⟨g, 10, (List.map Entry.row (swapL (p - i) p j l)), none⟩] : Heap)))] [] [] (.reg [(2, ((AV.int .i64 ((i - j : Nat) : Int)), ([⟨g, 10, (List.map Entry.row (swapL (p - i) p j l)), none⟩] : Heap)))] [] [] .nil)) (.reg [(3, ((AV.int .i64 ((p - i : Nat) : Int)), ([⟨g, 10, (List.map Entry.row l), none⟩] : Heap))), (6, ((AV.int .i64 ((p + j : Nat) : Int)), ([⟨g, 10, (List.map Entry.row l), none⟩] : Heap))), (8, ((AV.int .i64 ((p + j - i : Nat) : Int)), ([⟨g, 10, (List.map Entry.row l), none⟩] : Heap))), (11, ((AV.tup []), ([⟨g, 10, (List.map Entry.row (swapL (p - i) (p + j - i) i l)), none⟩] : Heap)))] [] [] (.reg [(2, ((AV.int .i64 ((j - i : Nat) : Int)), ([⟨g, 10, (List.map Entry.row (swapL (p - i) (p + j - i) i l)), none⟩] : Heap)))] [] [] .nil)))) .nil)) ?_
  refine Eq.mp (by kernel_rfl : (cond (((i : Nat) : Int) != ((j : Nat) : Int)) (cond (decide (((i : Nat) : Int) > ((j : Nat) : Int))) ((Yes (.int .i64 (IntKind.i64.wrap (((p : Nat) : Int) - ((i : Nat) : Int)))) ([⟨g, 10, (List.map Entry.row l), none⟩] : Heap) (AV.int .i64 ((p - i : Nat) : Int))) ∧ (ACalls Try.prog 143 [(AV.osl 0 g 10 0 n), (AV.int .i64 ((p - i : Nat) : Int)), (AV.int .i64 ((p : Nat) : Int)), (AV.int .i64 ((j : Nat) : Int)), (AV.func f xs)] ([⟨g, 10, (List.map Entry.row l), none⟩] : Heap) ((AV.tup []), ([⟨g, 10, (List.map Entry.row (swapL (p - i) p j l)), none⟩] : Heap))) ∧ (Yes (.int .i64 (IntKind.i64.wrap (((i : Nat) : Int) - ((j : Nat) : Int)))) ([⟨g, 10, (List.map Entry.row (swapL (p - i) p j l)), none⟩] : Heap) (AV.int .i64 ((i - j : Nat) : Int))) ∧ LoopTo (codeQ Try.prog (X mEr_ann) (loopOf Try.f138 0)) (some [0, 2, 4, 10, 11]) (some [0, 2, 4, 10, 11]) (mkF 58 [(0, (AV.osl 0 g 10 0 n)), (2, (AV.int .i64 ((p : Nat) : Int))), (4, (AV.func f xs)), (10, (AV.int .i64 ((i - j : Nat) : Int))), (11, (AV.int .i64 ((j : Nat) : Int)))]) ([⟨g, 10, (List.map Entry.row (swapL (p - i) p j l)), none⟩] : Heap) eX FX HX) ((Yes (.int .i64 (IntKind.i64.wrap (((p : Nat) : Int) - ((i : Nat) : Int)))) ([⟨g, 10, (List.map Entry.row l), none⟩] : Heap) (AV.int .i64 ((p - i : Nat) : Int))) ∧ (Yes (.int .i64 (IntKind.i64.wrap (((p : Nat) : Int) + ((j : Nat) : Int)))) ([⟨g, 10, (List.map Entry.row l), none⟩] : Heap) (AV.int .i64 ((p + j : Nat) : Int))) ∧ (Yes (.int .i64 (IntKind.i64.wrap (((p + j : Nat) : Int) - ((i : Nat) : Int)))) ([⟨g, 10, (List.map Entry.row l), none⟩] : Heap) (AV.int .i64 ((p + j - i : Nat) : Int))) ∧ (ACalls Try.prog 143 [(AV.osl 0 g 10 0 n), (AV.int .i64 ((p - i : Nat) : Int)), (AV.int .i64 ((p + j - i : Nat) : Int)), (AV.int .i64 ((i : Nat) : Int)), (AV.func f xs)] ([⟨g, 10, (List.map Entry.row l), none⟩] : Heap) ((AV.tup []), ([⟨g, 10, (List.map Entry.row (swapL (p - i) (p + j - i) i l)), none⟩] : Heap))) ∧ (Yes (.int .i64 (IntKind.i64.wrap (((j : Nat) : Int) - ((i : Nat) : Int)))) ([⟨g, 10, (List.map Entry.row (swapL (p - i) (p + j - i) i l)), none⟩] : Heap) (AV.int .i64 ((j - i : Nat) : Int))) ∧ LoopTo (codeQ Try.prog (X mEr_ann) (loopOf Try.f138 0)) (some [0, 2, 4, 10, 11]) (some [0, 2, 4, 10, 11]) (mkF 58 [(0, (AV.osl 0 g 10 0 n)), (2, (AV.int .i64 ((p : Nat) : Int))), (4, (AV.func f xs)), (10, (AV.int .i64 ((i : Nat) : Int))), (11, (AV.int .i64 ((j - i : Nat) : Int)))]) ([⟨g, 10, (List.map Entry.row (swapL (p - i) (p + j - i) i l)), none⟩] : Heap) eX FX HX)) (((.exit 0 : Ex), (mkF 58 [(0, (AV.osl 0 g 10 0 n)), (2, (AV.int .i64 ((p : Nat) : Int))), (4, (AV.func f xs)), (10, (AV.int .i64 ((i : Nat) : Int))), (11, (AV.int .i64 ((j : Nat) : Int)))]), ([⟨g, 10, (List.map Entry.row l), none⟩] : Heap)) = (eX, FX, HX))) = _) ?_
  refine cond_split (fun h1 => ?_) (fun h1 => ?_)
  · have h1' := h1
    try simp at h1'
    refine cond_split (fun h2 => ?_) (fun h2 => ?_)
    · have h2' := h2
      try simp at h2'
      refine And.intro (Yes.add (by omega) (by omega) (by omega)) ?_
      refine And.intro ((mEw_at f xs (p - i) p j n g l (by first | exact hxs | omega) (by first | exact hxs | omega) (by first | exact hxs | omega) (by first | exact hxs | omega) (by first | exact hxs | omega) ([] : Heap)).pre ⟨AV.wk_refl_any _, AV.wk_refl_any _, AV.wk_refl_any _, AV.wk_refl_any _, AV.wk_refl_any _, trivial⟩) ?_
      refine And.intro (Yes.add (by omega) (by omega) (by omega)) ?_
      exact k1 h1 h2
    · have h2' := h2
      try simp at h2'
      refine And.intro (Yes.add (by omega) (by omega) (by omega)) ?_
      refine And.intro (Yes.add (by omega) (by omega) (by omega)) ?_
      refine And.intro (Yes.add (by omega) (by omega) (by omega)) ?_
      refine And.intro ((mEw_at f xs (p - i) (p + j - i) i n g l (by first | exact hxs | omega) (by first | exact hxs | omega) (by first | exact hxs | omega) (by first | exact hxs | omega) (by first | exact hxs | omega) ([] : Heap)).pre ⟨AV.wk_refl_any _, AV.wk_refl_any _, AV.wk_refl_any _, AV.wk_refl_any _, AV.wk_refl_any _, trivial⟩) ?_
      refine And.intro (Yes.add (by omega) (by omega) (by omega)) ?_
      exact k2 h1 h2
  · have h1' := h1
    try simp at h1'
    exact k3 h1
theorem mEr_loop (f : Nat) (xs : List AV) (p n g : Nat) (hxs : AV.bdds 1 xs = true) (r : Nat) : ∀ (i j : Nat) (l : List Entry), i + j ≤ r + 1 → n = l.length → n < 1048576 → 0 < i → 0 < j → i ≤ p → p + j ≤ n →
    LoopTo (codeQ Try.prog (X mEr_ann) (loopOf Try.f138 0)) (some [0, 2, 4, 10, 11]) (some [0, 2, 4, 10, 11]) (mkF 58 [(0, (AV.osl 0 g 10 0 n)), (2, (AV.int .i64 ((p : Nat) : Int))), (4, (AV.func f xs)), (10, (AV.int .i64 ((i : Nat) : Int))), (11, (AV.int .i64 ((j : Nat) : Int)))]) ([⟨g, 10, (List.map Entry.row l), none⟩] : Heap) (.exit 0) (mkF 58 [(0, (AV.osl 0 g 10 0 n)), (2, (AV.int .i64 ((p : Nat) : Int))), (4, (AV.func f xs)), (10, (AV.int .i64 (((rotS p r i j l).2 : Nat) : Int))), (11, (AV.int .i64 (((rotS p r i j l).2 : Nat) : Int)))]) ([⟨g, 10, (List.map Entry.row ((rotS p r i j l).1)), none⟩] : Heap) := by
  induction r with
  | zero => intro i j l h1 hn hnb hi hj; omega
  | succ r ih =>
    intro i j l h1 hn hnb hi hj hip hjp
    refine mEr_step f xs p n g i j l hxs hn hnb hi hj hip hjp (fun h2 h3 => ?_) (fun h2 h3 => ?_) (fun h2 => ?_)
    · have h2' : i ≠ j := by simp at h2; omega
      have h3' : j < i := by simp at h3; omega
      simp only [rotS, if_neg h2', if_pos h3']
      exact ih (i - j) j _ (by omega) (by rw [swapL_len (by omega) (by omega)]; exact hn) hnb (by omega) hj (by omega) hjp
    · have h2' : i ≠ j := by simp at h2; omega
      have h3' : ¬ j < i := by simp at h3; omega
      simp only [rotS, if_neg h2', if_neg h3']
      exact ih i (j - i) _ (by omega) (by rw [swapL_len (by omega) (by omega)]; exact hn) hnb hi (by omega) hip (by omega)
    · have h2' : i = j := by simp at h2; omega
      simp only [rotS, if_pos h2']
      subst h2'
      rfl
set_option maxRecDepth 100000 in
theorem mEr_spec (f : Nat) (xs : List AV) (a p b n g : Nat) (l : List Entry) (hxs : AV.bdds 1 xs = true) (hn : n = l.length) (hnb : n < 1048576) (hap : a < p) (hpb : p < b) (hbn : b ≤ n) (hl2 : (rotS p (p - a + (b - p)) (p - a) (b - p) l).1.length = l.length) (hk : (rotS p (p - a + (b - p)) (p - a) (b - p) l).2 ≤ p - a) (hk2 : (rotS p (p - a + (b - p)) (p - a) (b - p) l).2 ≤ b - p) : ACalls Try.prog 138 [(AV.osl 0 g 10 0 n), (AV.int .i64 ((a : Nat) : Int)), (AV.int .i64 ((p : Nat) : Int)), (AV.int .i64 ((b : Nat) : Int)), (AV.func f xs)] ([⟨g, 10, (List.map Entry.row l), none⟩] : Heap) ((AV.tup []), ([⟨g, 10, (List.map Entry.row (rotL a p b l)), none⟩] : Heap)) := by
  refine spec (fn := Try.f138) (ann := mEr_ann) (t := (.reg [(2, ((AV.int .i64 ((p - a : Nat) : Int)), ([⟨g, 10, (List.map Entry.row l), none⟩] : Heap)))] [] [] (.reg [(2, ((AV.int .i64 ((b - p : Nat) : Int)), ([⟨g, 10, (List.map Entry.row l), none⟩] : Heap)))] [] [] (.loop (.exit 0) (mkF 58 [(0, (AV.osl 0 g 10 0 n)), (2, (AV.int .i64 ((p : Nat) : Int))), (4, (AV.func f xs)), (10, (AV.int .i64 (((rotS p (p - a + (b - p)) (p - a) (b - p) l).2 : Nat) : Int))), (11, (AV.int .i64 (((rotS p (p - a + (b - p)) (p - a) (b - p) l).2 : Nat) : Int)))]) ([⟨g, 10, (List.map Entry.row ((rotS p (p - a + (b - p)) (p - a) (b - p) l).1)), none⟩] : Heap) (.reg [(3, ((AV.int .i64 ((p - ((rotS p (p - a + (b - p)) (p - a) (b - p) l).2) : Nat) : Int)), ([⟨g, 10, (List.map Entry.row ((rotS p (p - a + (b - p)) (p - a) (b - p) l).1)), none⟩] : Heap))), (7, ((AV.tup []), ([⟨g, 10, (List.map Entry.row (swapL (p - ((rotS p (p - a + (b - p)) (p - a) (b - p) l).2)) p ((rotS p (p - a + (b - p)) (p - a) (b - p) l).2) ((rotS p (p - a + (b - p)) (p - a) (b - p) l).1))), none⟩] : Heap)))] [] [] .nil))))) (Nat.le_of_ble_eq_true (by kernel_rfl)) ⟨Try.func138, by kernel_rfl, by kernel_rfl, by kernel_rfl⟩ ?_
  refine Eq.mp (by kernel_rfl : ((Yes (.int .i64 (IntKind.i64.wrap (((p : Nat) : Int) - ((a : Nat) : Int)))) ([⟨g, 10, (List.map Entry.row l), none⟩] : Heap) (AV.int .i64 ((p - a : Nat) : Int))) ∧ (Yes (.int .i64 (IntKind.i64.wrap (((b : Nat) : Int) - ((p : Nat) : Int)))) ([⟨g, 10, (List.map Entry.row l), none⟩] : Heap) (AV.int .i64 ((b - p : Nat) : Int))) ∧ (LoopTo (codeQ Try.prog (X mEr_ann) (loopOf Try.f138 0)) (some [0, 2, 4, 10, 11]) (some [0, 2, 4, 10, 11]) (mkF 58 [(0, (AV.osl 0 g 10 0 n)), (2, (AV.int .i64 ((p : Nat) : Int))), (4, (AV.func f xs)), (10, (AV.int .i64 ((p - a : Nat) : Int))), (11, (AV.int .i64 ((b - p : Nat) : Int)))]) ([⟨g, 10, (List.map Entry.row l), none⟩] : Heap) (.exit 0) (mkF 58 [(0, (AV.osl 0 g 10 0 n)), (2, (AV.int .i64 ((p : Nat) : Int))), (4, (AV.func f xs)), (10, (AV.int .i64 (((rotS p (p - a + (b - p)) (p - a) (b - p) l).2 : Nat) : Int))), (11, (AV.int .i64 (((rotS p (p - a + (b - p)) (p - a) (b - p) l).2 : Nat) : Int)))]) ([⟨g, 10, (List.map Entry.row ((rotS p (p - a + (b - p)) (p - a) (b - p) l).1)), none⟩] : Heap)) ∧ (Yes (.int .i64 (IntKind.i64.wrap (((p : Nat) : Int) - (((rotS p (p - a + (b - p)) (p - a) (b - p) l).2 : Nat) : Int)))) ([⟨g, 10, (List.map Entry.row ((rotS p (p - a + (b - p)) (p - a) (b - p) l).1)), none⟩] : Heap) (AV.int .i64 ((p - ((rotS p (p - a + (b - p)) (p - a) (b - p) l).2) : Nat) : Int))) ∧ (ACalls Try.prog 143 [(AV.osl 0 g 10 0 n), (AV.int .i64 ((p - ((rotS p (p - a + (b - p)) (p - a) (b - p) l).2) : Nat) : Int)), (AV.int .i64 ((p : Nat) : Int)), (AV.int .i64 (((rotS p (p - a + (b - p)) (p - a) (b - p) l).2 : Nat) : Int)), (AV.func f xs)] ([⟨g, 10, (List.map Entry.row ((rotS p (p - a + (b - p)) (p - a) (b - p) l).1)), none⟩] : Heap) ((AV.tup []), ([⟨g, 10, (List.map Entry.row (swapL (p - ((rotS p (p - a + (b - p)) (p - a) (b - p) l).2)) p ((rotS p (p - a + (b - p)) (p - a) (b - p) l).2) ((rotS p (p - a + (b - p)) (p - a) (b - p) l).1))), none⟩] : Heap))) ∧ (AV.bdd 1 (AV.tup []) = true ∧ obsB 1 ([⟨g, 10, (List.map Entry.row (swapL (p - ((rotS p (p - a + (b - p)) (p - a) (b - p) l).2)) p ((rotS p (p - a + (b - p)) (p - a) (b - p) l).2) ((rotS p (p - a + (b - p)) (p - a) (b - p) l).1))), none⟩] : Heap) = true) ∧ ((AV.tup []), ([⟨g, 10, (List.map Entry.row (swapL (p - ((rotS p (p - a + (b - p)) (p - a) (b - p) l).2)) p ((rotS p (p - a + (b - p)) (p - a) (b - p) l).2) ((rotS p (p - a + (b - p)) (p - a) (b - p) l).1))), none⟩] : Heap)) = ((AV.tup []), ([⟨g, 10, (List.map Entry.row (rotL a p b l)), none⟩] : Heap))) = _) ?_
  refine And.intro (Yes.add (by omega) (by omega) (by omega)) ?_
  refine And.intro (Yes.add (by omega) (by omega) (by omega)) ?_
  refine And.intro ((mEr_loop f xs p n g hxs (p - a + (b - p)) (p - a) (b - p) l (by omega) hn hnb (by omega) (by omega) (by omega) (by omega))) ?_
  refine And.intro (Yes.add (by omega) (by omega) (by omega)) ?_
  refine And.intro ((mEw_at f xs (p - ((rotS p (p - a + (b - p)) (p - a) (b - p) l).2)) p ((rotS p (p - a + (b - p)) (p - a) (b - p) l).2) n g ((rotS p (p - a + (b - p)) (p - a) (b - p) l).1) (by first | exact hxs | omega) (by first | exact hxs | omega) (by first | exact hxs | omega) (by first | exact hxs | omega) (by first | exact hxs | omega) ([] : Heap)).pre ⟨AV.wk_refl_any _, AV.wk_refl_any _, AV.wk_refl_any _, AV.wk_refl_any _, AV.wk_refl_any _, trivial⟩) ?_
  refine And.intro (by first | (simp [obsB, AV.bddss, AV.bdds, AV.bdd]; done) | (simp [obsB, AV.bddss, AV.bdds, AV.bdd, -List.map_append]; done) | simp [obsB, AV.bddss, AV.bdds, AV.bdd, -List.map_append, -List.map_set, -List.map_take, -List.map_drop, -List.map_cons, -List.map_map]) ?_
  rfl
theorem mEr_at (f : Nat) (xs : List AV) (a p b n g : Nat) (l : List Entry) (hxs : AV.bdds 1 xs = true) (hn : n = l.length) (hnb : n < 1048576) (hap : a < p) (hpb : p < b) (hbn : b ≤ n) (hl2 : (rotS p (p - a + (b - p)) (p - a) (b - p) l).1.length = l.length) (hk : (rotS p (p - a + (b - p)) (p - a) (b - p) l).2 ≤ p - a) (hk2 : (rotS p (p - a + (b - p)) (p - a) (b - p) l).2 ≤ b - p) (H : Heap) : ACalls Try.prog 138 [(AV.osl 0 g 10 0 n), (AV.int .i64 ((a : Nat) : Int)), (AV.int .i64 ((p : Nat) : Int)), (AV.int .i64 ((b : Nat) : Int)), (AV.func f xs)] (([⟨g, 10, (List.map Entry.row l), none⟩] : Heap) ++ H) ((AV.tup []), ([⟨g, 10, (List.map Entry.row (rotL a p b l)), none⟩] : Heap) ++ H) := (mEr_spec f xs a p b n g l hxs hn hnb hap hpb hbn hl2 hk hk2).ext (by simp [AV.bdds, AV.bdd, *]) (by kernel_rfl) (by first | (simp [obsB, AV.bddss, AV.bdds, AV.bdd]; done) | (simp [obsB, AV.bddss, AV.bdds, AV.bdd, -List.map_append]; done) | simp [obsB, AV.bddss, AV.bdds, AV.bdd, -List.map_append, -List.map_set, -List.map_take, -List.map_drop, -List.map_cons, -List.map_map]) (by first | (simp [obsB, AV.bddss, AV.bdds, AV.bdd]; done) | (simp [obsB, AV.bddss, AV.bdds, AV.bdd, -List.map_append]; done) | simp [obsB, AV.bddss, AV.bdds, AV.bdd, -List.map_append, -List.map_set, -List.map_take, -List.map_drop, -List.map_cons, -List.map_map]) (by kernel_rfl) H
def sE_ann : Ann := { base := 1, fin := some 1, live := [(3, [0, 1, 4, 10, 11]), (9, [0, 10, 13]), (15, [0, 2, 4, 14, 15]), (21, [0, 14, 17]), (33, [0, 1, 2, 3, 4, 18, 19, 20, 21, 22])], out := [(3, [0, 1, 10]), (9, [0, 10, 13]), (15, [0, 2, 14]), (21, [0, 14, 17]), (33, [0, 1, 2, 3, 4, 18, 19, 20])] }
set_option maxRecDepth 100000 in
theorem sEa_step (cmp : Entry → Entry → Int) (f : Nat) (xs : List AV) (hc : ∀ (x y : Entry) (H : Heap), ACalls Try.prog f ([AV.agg (Entry.row x), AV.agg (Entry.row y)] ++ xs) H (AV.int .i64 (cmp x y), H)) (a n g : Nat) (l : List Entry) (lo hi : Nat) (hn : n = l.length) (hnb : n < 1048576) (ha : a < n) (hlh : lo ≤ hi) (hhi : hi ≤ n) {eX : Ex} {FX : Fr} {HX : Heap} (k1 : (decide (((lo : Nat) : Int) < ((hi : Nat) : Int))) = true → (decide ((cmp (nth l ((lo + hi) / 2)) (nth l a)) < 0)) = true → LoopTo (codeQ Try.prog (X sE_ann) (loopOf Try.f133 0)) (some [0, 1, 4, 10, 11]) (some [0, 1, 10]) (mkF 220 [(0, (AV.osl 0 g 10 0 n)), (1, (AV.int .i64 ((a : Nat) : Int))), (4, (AV.func f xs)), (10, (AV.int .i64 ((((lo + hi) / 2) + 1 : Nat) : Int))), (11, (AV.int .i64 ((hi : Nat) : Int)))]) ([⟨g, 10, (List.map Entry.row l), none⟩] : Heap) eX FX HX) (k2 : (decide (((lo : Nat) : Int) < ((hi : Nat) : Int))) = true → (decide ((cmp (nth l ((lo + hi) / 2)) (nth l a)) < 0)) = false → LoopTo (codeQ Try.prog (X sE_ann) (loopOf Try.f133 0)) (some [0, 1, 4, 10, 11]) (some [0, 1, 10]) (mkF 220 [(0, (AV.osl 0 g 10 0 n)), (1, (AV.int .i64 ((a : Nat) : Int))), (4, (AV.func f xs)), (10, (AV.int .i64 ((lo : Nat) : Int))), (11, (AV.int .i64 ((((lo + hi) / 2) : Nat) : Int)))]) ([⟨g, 10, (List.map Entry.row l), none⟩] : Heap) eX FX HX) (k3 : (decide (((lo : Nat) : Int) < ((hi : Nat) : Int))) = false → ((.exit 0 : Ex), (mkF 220 [(0, (AV.osl 0 g 10 0 n)), (1, (AV.int .i64 ((a : Nat) : Int))), (10, (AV.int .i64 ((lo : Nat) : Int)))]), ([⟨g, 10, (List.map Entry.row l), none⟩] : Heap)) = (eX, FX, HX)) : LoopTo (codeQ Try.prog (X sE_ann) (loopOf Try.f133 0)) (some [0, 1, 4, 10, 11]) (some [0, 1, 10]) (mkF 220 [(0, (AV.osl 0 g 10 0 n)), (1, (AV.int .i64 ((a : Nat) : Int))), (4, (AV.func f xs)), (10, (AV.int .i64 ((lo : Nat) : Int))), (11, (AV.int .i64 ((hi : Nat) : Int)))]) ([⟨g, 10, (List.map Entry.row l), none⟩] : Heap) eX FX HX := by
  refine LoopTo.step (.reg [] [] [] (.two (.reg [(2, ((AV.int .i64 ((lo + hi : Nat) : Int)), ([⟨g, 10, (List.map Entry.row l), none⟩] : Heap))), (5, ((AV.int .i64 ((((lo + hi) / 2) : Nat) : Int)), ([⟨g, 10, (List.map Entry.row l), none⟩] : Heap)))] [] [] (.reg [(3, ((AV.obj 0 g ((lo + hi) / 2) 0), ([⟨g, 10, (List.map Entry.row l), none⟩] : Heap))), (4, ((AV.agg (Entry.row (nth l ((lo + hi) / 2)))), ([⟨g, 10, (List.map Entry.row l), none⟩] : Heap))), (7, ((AV.obj 0 g a 0), ([⟨g, 10, (List.map Entry.row l), none⟩] : Heap))), (8, ((AV.agg (Entry.row (nth l a))), ([⟨g, 10, (List.map Entry.row l), none⟩] : Heap))), (9, ((AV.int .i64 (cmp (nth l ((lo + hi) / 2)) (nth l a))), ([⟨g, 10, (List.map Entry.row l), none⟩] : Heap)))] [] [] (.two (.reg [(1, ((AV.int .i64 ((((lo + hi) / 2) + 1 : Nat) : Int)), ([⟨g, 10, (List.map Entry.row l), none⟩] : Heap)))] [] [] .nil) (.reg [] [] [] .nil)))) .nil)) ?_
  refine Eq.mp (by kernel_rfl : (cond (decide (((lo : Nat) : Int) < ((hi : Nat) : Int))) ((Yes (.int .i64 (IntKind.i64.wrap (((lo : Nat) : Int) + ((hi : Nat) : Int)))) ([⟨g, 10, (List.map Entry.row l), none⟩] : Heap) (AV.int .i64 ((lo + hi : Nat) : Int))) ∧ (Yes (AV.int .i64 (IntKind.i64.wrap (Int.fdiv (IntKind.u64.wrap ((lo + hi : Nat) : Int)) (2 ^ (min (Int.toNat 1) 64))))) ([⟨g, 10, (List.map Entry.row l), none⟩] : Heap) (AV.int .i64 ((((lo + hi) / 2) : Nat) : Int))) ∧ (IdxOsl 0 g 10 10 0 n ((((lo + hi) / 2) : Nat) : Int) ([⟨g, 10, (List.map Entry.row l), none⟩] : Heap) ((lo + hi) / 2)) ∧ (LoadTo tt 42 0 ([⟨g, 10, (List.map Entry.row l), none⟩] : Heap) (rowAt ([⟨g, 10, (List.map Entry.row l), none⟩] : Heap) 0 g ((lo + hi) / 2)) = some ((AV.agg (Entry.row (nth l ((lo + hi) / 2)))), ([⟨g, 10, (List.map Entry.row l), none⟩] : Heap))) ∧ (IdxOsl 0 g 10 10 0 n ((a : Nat) : Int) ([⟨g, 10, (List.map Entry.row l), none⟩] : Heap) a) ∧ (LoadTo tt 42 0 ([⟨g, 10, (List.map Entry.row l), none⟩] : Heap) (rowAt ([⟨g, 10, (List.map Entry.row l), none⟩] : Heap) 0 g a) = some ((AV.agg (Entry.row (nth l a))), ([⟨g, 10, (List.map Entry.row l), none⟩] : Heap))) ∧ (ACalls Try.prog f ([(AV.agg (Entry.row (nth l ((lo + hi) / 2)))), (AV.agg (Entry.row (nth l a)))] ++ xs) ([⟨g, 10, (List.map Entry.row l), none⟩] : Heap) ((AV.int .i64 (cmp (nth l ((lo + hi) / 2)) (nth l a))), ([⟨g, 10, (List.map Entry.row l), none⟩] : Heap))) ∧ cond (decide ((cmp (nth l ((lo + hi) / 2)) (nth l a)) < 0)) ((Yes (.int .i64 (IntKind.i64.wrap (((((lo + hi) / 2) : Nat) : Int) + 1))) ([⟨g, 10, (List.map Entry.row l), none⟩] : Heap) (AV.int .i64 ((((lo + hi) / 2) + 1 : Nat) : Int))) ∧ LoopTo (codeQ Try.prog (X sE_ann) (loopOf Try.f133 0)) (some [0, 1, 4, 10, 11]) (some [0, 1, 10]) (mkF 220 [(0, (AV.osl 0 g 10 0 n)), (1, (AV.int .i64 ((a : Nat) : Int))), (4, (AV.func f xs)), (10, (AV.int .i64 ((((lo + hi) / 2) + 1 : Nat) : Int))), (11, (AV.int .i64 ((hi : Nat) : Int)))]) ([⟨g, 10, (List.map Entry.row l), none⟩] : Heap) eX FX HX) (LoopTo (codeQ Try.prog (X sE_ann) (loopOf Try.f133 0)) (some [0, 1, 4, 10, 11]) (some [0, 1, 10]) (mkF 220 [(0, (AV.osl 0 g 10 0 n)), (1, (AV.int .i64 ((a : Nat) : Int))), (4, (AV.func f xs)), (10, (AV.int .i64 ((lo : Nat) : Int))), (11, (AV.int .i64 ((((lo + hi) / 2) : Nat) : Int)))]) ([⟨g, 10, (List.map Entry.row l), none⟩] : Heap) eX FX HX)) (((.exit 0 : Ex), (mkF 220 [(0, (AV.osl 0 g 10 0 n)), (1, (AV.int .i64 ((a : Nat) : Int))), (10, (AV.int .i64 ((lo : Nat) : Int)))]), ([⟨g, 10, (List.map Entry.row l), none⟩] : Heap)) = (eX, FX, HX))) = _) ?_
  refine cond_split (fun h1 => ?_) (fun h1 => ?_)
  · have h1' := h1
    try simp at h1'
    refine And.intro (Yes.add (by omega) (by omega) (by omega)) ?_
    refine And.intro (Yes.int (half_nat (by omega) (rfl))) ?_
    refine And.intro (IdxOsl.mk _ (by omega) (by omega)) ?_
    refine And.intro (load_row (rowAt_map (row := Entry.row) (l := l) (k := 10) (room := none) (by kernel_rfl) (by first | omega | (simp; done) | (simp; omega))) (by kernel_rfl)) ?_
    refine And.intro (IdxOsl.mk _ (by omega) (by omega)) ?_
    refine And.intro (load_row (rowAt_map (row := Entry.row) (l := l) (k := 10) (room := none) (by kernel_rfl) (by first | omega | (simp; done) | (simp; omega))) (by kernel_rfl)) ?_
    refine And.intro (hc (nth l ((lo + hi) / 2)) (nth l a) _) ?_
    refine cond_split (fun h2 => ?_) (fun h2 => ?_)
    · have h2' := h2
      try simp at h2'
      refine And.intro (Yes.add (by omega) (by omega) (by omega)) ?_
      exact k1 h1 h2
    · have h2' := h2
      try simp at h2'
      exact k2 h1 h2
  · have h1' := h1
    try simp at h1'
    exact k3 h1
theorem sEa_loop (cmp : Entry → Entry → Int) (f : Nat) (xs : List AV) (hc : ∀ (x y : Entry) (H : Heap), ACalls Try.prog f ([AV.agg (Entry.row x), AV.agg (Entry.row y)] ++ xs) H (AV.int .i64 (cmp x y), H)) (a n g : Nat) (l : List Entry) (hn : n = l.length) (hnb : n < 1048576) (ha : a < n) (r : Nat) : ∀ (lo hi : Nat), hi - lo ≤ r → lo ≤ hi → hi ≤ n →
    LoopTo (codeQ Try.prog (X sE_ann) (loopOf Try.f133 0)) (some [0, 1, 4, 10, 11]) (some [0, 1, 10]) (mkF 220 [(0, (AV.osl 0 g 10 0 n)), (1, (AV.int .i64 ((a : Nat) : Int))), (4, (AV.func f xs)), (10, (AV.int .i64 ((lo : Nat) : Int))), (11, (AV.int .i64 ((hi : Nat) : Int)))]) ([⟨g, 10, (List.map Entry.row l), none⟩] : Heap) (.exit 0) (mkF 220 [(0, (AV.osl 0 g 10 0 n)), (1, (AV.int .i64 ((a : Nat) : Int))), (10, (AV.int .i64 (((bsr (fun c => decide (cmp (nth l c) (nth l a) < 0)) r lo hi) : Nat) : Int)))]) ([⟨g, 10, (List.map Entry.row l), none⟩] : Heap) := by
  induction r with
  | zero =>
    intro lo hi h1 h2 h3
    obtain rfl : lo = hi := by omega
    refine sEa_step cmp f xs hc a n g l lo lo hn hnb ha h2 h3 (fun h _ => by simp at h) (fun h _ => by simp at h) (fun _ => ?_)
    simp only [bsr]
  | succ r ih =>
    intro lo hi h1 h2 h3
    refine sEa_step cmp f xs hc a n g l lo hi hn hnb ha h2 h3 (fun h4 h5 => ?_) (fun h4 h5 => ?_) (fun h4 => ?_)
    · have h4' : lo < hi := by simp at h4; omega
      simp only [bsr, if_pos h4']
      rw [if_pos (by simpa using h5)]
      exact ih ((lo + hi) / 2 + 1) hi (by omega) (by omega) (by omega)
    · have h4' : lo < hi := by simp at h4; omega
      simp only [bsr, if_pos h4']
      rw [if_neg (by simpa using h5)]
      exact ih lo ((lo + hi) / 2) (by omega) (by omega) (by omega)
    · have h4' : ¬ lo < hi := by simp at h4; omega
      simp only [bsr, if_neg h4']
set_option maxRecDepth 100000 in
theorem sEb_step (cmp : Entry → Entry → Int) (f : Nat) (xs : List AV) (hc : ∀ (x y : Entry) (H : Heap), ACalls Try.prog f ([AV.agg (Entry.row x), AV.agg (Entry.row y)] ++ xs) H (AV.int .i64 (cmp x y), H)) (p n g : Nat) (l : List Entry) (lo hi : Nat) (hn : n = l.length) (hnb : n < 1048576) (ha : p < n) (hlh : lo ≤ hi) (hhi : hi ≤ n) {eX : Ex} {FX : Fr} {HX : Heap} (k1 : (decide (((lo : Nat) : Int) < ((hi : Nat) : Int))) = true → (!(decide ((cmp (nth l p) (nth l ((lo + hi) / 2))) < 0))) = true → LoopTo (codeQ Try.prog (X sE_ann) (loopOf Try.f133 2)) (some [0, 2, 4, 14, 15]) (some [0, 2, 14]) (mkF 220 [(0, (AV.osl 0 g 10 0 n)), (2, (AV.int .i64 ((p : Nat) : Int))), (4, (AV.func f xs)), (14, (AV.int .i64 ((((lo + hi) / 2) + 1 : Nat) : Int))), (15, (AV.int .i64 ((hi : Nat) : Int)))]) ([⟨g, 10, (List.map Entry.row l), none⟩] : Heap) eX FX HX) (k2 : (decide (((lo : Nat) : Int) < ((hi : Nat) : Int))) = true → (!(decide ((cmp (nth l p) (nth l ((lo + hi) / 2))) < 0))) = false → LoopTo (codeQ Try.prog (X sE_ann) (loopOf Try.f133 2)) (some [0, 2, 4, 14, 15]) (some [0, 2, 14]) (mkF 220 [(0, (AV.osl 0 g 10 0 n)), (2, (AV.int .i64 ((p : Nat) : Int))), (4, (AV.func f xs)), (14, (AV.int .i64 ((lo : Nat) : Int))), (15, (AV.int .i64 ((((lo + hi) / 2) : Nat) : Int)))]) ([⟨g, 10, (List.map Entry.row l), none⟩] : Heap) eX FX HX) (k3 : (decide (((lo : Nat) : Int) < ((hi : Nat) : Int))) = false → ((.exit 4 : Ex), (mkF 220 [(0, (AV.osl 0 g 10 0 n)), (2, (AV.int .i64 ((p : Nat) : Int))), (14, (AV.int .i64 ((lo : Nat) : Int)))]), ([⟨g, 10, (List.map Entry.row l), none⟩] : Heap)) = (eX, FX, HX)) : LoopTo (codeQ Try.prog (X sE_ann) (loopOf Try.f133 2)) (some [0, 2, 4, 14, 15]) (some [0, 2, 14]) (mkF 220 [(0, (AV.osl 0 g 10 0 n)), (2, (AV.int .i64 ((p : Nat) : Int))), (4, (AV.func f xs)), (14, (AV.int .i64 ((lo : Nat) : Int))), (15, (AV.int .i64 ((hi : Nat) : Int)))]) ([⟨g, 10, (List.map Entry.row l), none⟩] : Heap) eX FX HX := by
  refine LoopTo.step (.reg [] [] [] (.two (.reg [(2, ((AV.int .i64 ((lo + hi : Nat) : Int)), ([⟨g, 10, (List.map Entry.row l), none⟩] : Heap))), (5, ((AV.int .i64 ((((lo + hi) / 2) : Nat) : Int)), ([⟨g, 10, (List.map Entry.row l), none⟩] : Heap)))] [] [] (.reg [(3, ((AV.obj 0 g p 0), ([⟨g, 10, (List.map Entry.row l), none⟩] : Heap))), (4, ((AV.agg (Entry.row (nth l p))), ([⟨g, 10, (List.map Entry.row l), none⟩] : Heap))), (7, ((AV.obj 0 g ((lo + hi) / 2) 0), ([⟨g, 10, (List.map Entry.row l), none⟩] : Heap))), (8, ((AV.agg (Entry.row (nth l ((lo + hi) / 2)))), ([⟨g, 10, (List.map Entry.row l), none⟩] : Heap))), (9, ((AV.int .i64 (cmp (nth l p) (nth l ((lo + hi) / 2)))), ([⟨g, 10, (List.map Entry.row l), none⟩] : Heap)))] [] [] (.two (.reg [(1, ((AV.int .i64 ((((lo + hi) / 2) + 1 : Nat) : Int)), ([⟨g, 10, (List.map Entry.row l), none⟩] : Heap)))] [] [] .nil) (.reg [] [] [] .nil)))) .nil)) ?_
  refine Eq.mp (by kernel_rfl : (cond (decide (((lo : Nat) : Int) < ((hi : Nat) : Int))) ((Yes (.int .i64 (IntKind.i64.wrap (((lo : Nat) : Int) + ((hi : Nat) : Int)))) ([⟨g, 10, (List.map Entry.row l), none⟩] : Heap) (AV.int .i64 ((lo + hi : Nat) : Int))) ∧ (Yes (AV.int .i64 (IntKind.i64.wrap (Int.fdiv (IntKind.u64.wrap ((lo + hi : Nat) : Int)) (2 ^ (min (Int.toNat 1) 64))))) ([⟨g, 10, (List.map Entry.row l), none⟩] : Heap) (AV.int .i64 ((((lo + hi) / 2) : Nat) : Int))) ∧ (IdxOsl 0 g 10 10 0 n ((p : Nat) : Int) ([⟨g, 10, (List.map Entry.row l), none⟩] : Heap) p) ∧ (LoadTo tt 42 0 ([⟨g, 10, (List.map Entry.row l), none⟩] : Heap) (rowAt ([⟨g, 10, (List.map Entry.row l), none⟩] : Heap) 0 g p) = some ((AV.agg (Entry.row (nth l p))), ([⟨g, 10, (List.map Entry.row l), none⟩] : Heap))) ∧ (IdxOsl 0 g 10 10 0 n ((((lo + hi) / 2) : Nat) : Int) ([⟨g, 10, (List.map Entry.row l), none⟩] : Heap) ((lo + hi) / 2)) ∧ (LoadTo tt 42 0 ([⟨g, 10, (List.map Entry.row l), none⟩] : Heap) (rowAt ([⟨g, 10, (List.map Entry.row l), none⟩] : Heap) 0 g ((lo + hi) / 2)) = some ((AV.agg (Entry.row (nth l ((lo + hi) / 2)))), ([⟨g, 10, (List.map Entry.row l), none⟩] : Heap))) ∧ (ACalls Try.prog f ([(AV.agg (Entry.row (nth l p))), (AV.agg (Entry.row (nth l ((lo + hi) / 2))))] ++ xs) ([⟨g, 10, (List.map Entry.row l), none⟩] : Heap) ((AV.int .i64 (cmp (nth l p) (nth l ((lo + hi) / 2)))), ([⟨g, 10, (List.map Entry.row l), none⟩] : Heap))) ∧ cond (!(decide ((cmp (nth l p) (nth l ((lo + hi) / 2))) < 0))) ((Yes (.int .i64 (IntKind.i64.wrap (((((lo + hi) / 2) : Nat) : Int) + 1))) ([⟨g, 10, (List.map Entry.row l), none⟩] : Heap) (AV.int .i64 ((((lo + hi) / 2) + 1 : Nat) : Int))) ∧ LoopTo (codeQ Try.prog (X sE_ann) (loopOf Try.f133 2)) (some [0, 2, 4, 14, 15]) (some [0, 2, 14]) (mkF 220 [(0, (AV.osl 0 g 10 0 n)), (2, (AV.int .i64 ((p : Nat) : Int))), (4, (AV.func f xs)), (14, (AV.int .i64 ((((lo + hi) / 2) + 1 : Nat) : Int))), (15, (AV.int .i64 ((hi : Nat) : Int)))]) ([⟨g, 10, (List.map Entry.row l), none⟩] : Heap) eX FX HX) (LoopTo (codeQ Try.prog (X sE_ann) (loopOf Try.f133 2)) (some [0, 2, 4, 14, 15]) (some [0, 2, 14]) (mkF 220 [(0, (AV.osl 0 g 10 0 n)), (2, (AV.int .i64 ((p : Nat) : Int))), (4, (AV.func f xs)), (14, (AV.int .i64 ((lo : Nat) : Int))), (15, (AV.int .i64 ((((lo + hi) / 2) : Nat) : Int)))]) ([⟨g, 10, (List.map Entry.row l), none⟩] : Heap) eX FX HX)) (((.exit 4 : Ex), (mkF 220 [(0, (AV.osl 0 g 10 0 n)), (2, (AV.int .i64 ((p : Nat) : Int))), (14, (AV.int .i64 ((lo : Nat) : Int)))]), ([⟨g, 10, (List.map Entry.row l), none⟩] : Heap)) = (eX, FX, HX))) = _) ?_
  refine cond_split (fun h1 => ?_) (fun h1 => ?_)
  · have h1' := h1
    try simp at h1'
    refine And.intro (Yes.add (by omega) (by omega) (by omega)) ?_
    refine And.intro (Yes.int (half_nat (by omega) (rfl))) ?_
    refine And.intro (IdxOsl.mk _ (by omega) (by omega)) ?_
    refine And.intro (load_row (rowAt_map (row := Entry.row) (l := l) (k := 10) (room := none) (by kernel_rfl) (by first | omega | (simp; done) | (simp; omega))) (by kernel_rfl)) ?_
    refine And.intro (IdxOsl.mk _ (by omega) (by omega)) ?_
    refine And.intro (load_row (rowAt_map (row := Entry.row) (l := l) (k := 10) (room := none) (by kernel_rfl) (by first | omega | (simp; done) | (simp; omega))) (by kernel_rfl)) ?_
    refine And.intro (hc (nth l p) (nth l ((lo + hi) / 2)) _) ?_
    refine cond_split (fun h2 => ?_) (fun h2 => ?_)
    · have h2' := h2
      try simp at h2'
      refine And.intro (Yes.add (by omega) (by omega) (by omega)) ?_
      exact k1 h1 h2
    · have h2' := h2
      try simp at h2'
      exact k2 h1 h2
  · have h1' := h1
    try simp at h1'
    exact k3 h1
theorem sEb_loop (cmp : Entry → Entry → Int) (f : Nat) (xs : List AV) (hc : ∀ (x y : Entry) (H : Heap), ACalls Try.prog f ([AV.agg (Entry.row x), AV.agg (Entry.row y)] ++ xs) H (AV.int .i64 (cmp x y), H)) (p n g : Nat) (l : List Entry) (hn : n = l.length) (hnb : n < 1048576) (ha : p < n) (r : Nat) : ∀ (lo hi : Nat), hi - lo ≤ r → lo ≤ hi → hi ≤ n →
    LoopTo (codeQ Try.prog (X sE_ann) (loopOf Try.f133 2)) (some [0, 2, 4, 14, 15]) (some [0, 2, 14]) (mkF 220 [(0, (AV.osl 0 g 10 0 n)), (2, (AV.int .i64 ((p : Nat) : Int))), (4, (AV.func f xs)), (14, (AV.int .i64 ((lo : Nat) : Int))), (15, (AV.int .i64 ((hi : Nat) : Int)))]) ([⟨g, 10, (List.map Entry.row l), none⟩] : Heap) (.exit 4) (mkF 220 [(0, (AV.osl 0 g 10 0 n)), (2, (AV.int .i64 ((p : Nat) : Int))), (14, (AV.int .i64 (((bsr (fun c => !decide (cmp (nth l p) (nth l c) < 0)) r lo hi) : Nat) : Int)))]) ([⟨g, 10, (List.map Entry.row l), none⟩] : Heap) := by
  induction r with
  | zero =>
    intro lo hi h1 h2 h3
    obtain rfl : lo = hi := by omega
    refine sEb_step cmp f xs hc p n g l lo lo hn hnb ha h2 h3 (fun h _ => by simp at h) (fun h _ => by simp at h) (fun _ => ?_)
    simp only [bsr]
  | succ r ih =>
    intro lo hi h1 h2 h3
    refine sEb_step cmp f xs hc p n g l lo hi hn hnb ha h2 h3 (fun h4 h5 => ?_) (fun h4 h5 => ?_) (fun h4 => ?_)
    · have h4' : lo < hi := by simp at h4; omega
      simp only [bsr, if_pos h4']
      rw [if_pos (by simpa using h5)]
      exact ih ((lo + hi) / 2 + 1) hi (by omega) (by omega) (by omega)
    · have h4' : lo < hi := by simp at h4; omega
      simp only [bsr, if_pos h4']
      rw [if_neg (by simpa using h5)]
      exact ih lo ((lo + hi) / 2) (by omega) (by omega) (by omega)
    · have h4' : ¬ lo < hi := by simp at h4; omega
      simp only [bsr, if_neg h4']
set_option maxRecDepth 100000 in
theorem sEc_step (cmp : Entry → Entry → Int) (f : Nat) (xs : List AV) (hc : ∀ (x y : Entry) (H : Heap), ACalls Try.prog f ([AV.agg (Entry.row x), AV.agg (Entry.row y)] ++ xs) H (AV.int .i64 (cmp x y), H)) (a p b mid nn q n g : Nat) (l : List Entry) (lo hi : Nat) (hn : n = l.length) (hnb : n < 1048576) (hlh : lo ≤ hi) (hhi : hi ≤ n ∧ hi ≤ q + 1 ∧ q < n + lo) {eX : Ex} {FX : Fr} {HX : Heap} (k1 : (decide (((lo : Nat) : Int) < ((hi : Nat) : Int))) = true → (!(decide ((cmp (nth l (q - ((lo + hi) / 2))) (nth l ((lo + hi) / 2))) < 0))) = true → LoopTo (codeQ Try.prog (X sE_ann) (loopOf Try.f133 4)) (some [0, 1, 2, 3, 4, 18, 19, 20, 21, 22]) (some [0, 1, 2, 3, 4, 18, 19, 20]) (mkF 220 [(0, (AV.osl 0 g 10 0 n)), (1, (AV.int .i64 ((a : Nat) : Int))), (2, (AV.int .i64 ((p : Nat) : Int))), (3, (AV.int .i64 ((b : Nat) : Int))), (4, (AV.func f xs)), (18, (AV.int .i64 ((mid : Nat) : Int))), (19, (AV.int .i64 ((nn : Nat) : Int))), (20, (AV.int .i64 ((((lo + hi) / 2) + 1 : Nat) : Int))), (21, (AV.int .i64 ((hi : Nat) : Int))), (22, (AV.int .i64 ((q : Nat) : Int)))]) ([⟨g, 10, (List.map Entry.row l), none⟩] : Heap) eX FX HX) (k2 : (decide (((lo : Nat) : Int) < ((hi : Nat) : Int))) = true → (!(decide ((cmp (nth l (q - ((lo + hi) / 2))) (nth l ((lo + hi) / 2))) < 0))) = false → LoopTo (codeQ Try.prog (X sE_ann) (loopOf Try.f133 4)) (some [0, 1, 2, 3, 4, 18, 19, 20, 21, 22]) (some [0, 1, 2, 3, 4, 18, 19, 20]) (mkF 220 [(0, (AV.osl 0 g 10 0 n)), (1, (AV.int .i64 ((a : Nat) : Int))), (2, (AV.int .i64 ((p : Nat) : Int))), (3, (AV.int .i64 ((b : Nat) : Int))), (4, (AV.func f xs)), (18, (AV.int .i64 ((mid : Nat) : Int))), (19, (AV.int .i64 ((nn : Nat) : Int))), (20, (AV.int .i64 ((lo : Nat) : Int))), (21, (AV.int .i64 ((((lo + hi) / 2) : Nat) : Int))), (22, (AV.int .i64 ((q : Nat) : Int)))]) ([⟨g, 10, (List.map Entry.row l), none⟩] : Heap) eX FX HX) (k3 : (decide (((lo : Nat) : Int) < ((hi : Nat) : Int))) = false → ((.exit 8 : Ex), (mkF 220 [(0, (AV.osl 0 g 10 0 n)), (1, (AV.int .i64 ((a : Nat) : Int))), (2, (AV.int .i64 ((p : Nat) : Int))), (3, (AV.int .i64 ((b : Nat) : Int))), (4, (AV.func f xs)), (18, (AV.int .i64 ((mid : Nat) : Int))), (19, (AV.int .i64 ((nn : Nat) : Int))), (20, (AV.int .i64 ((lo : Nat) : Int)))]), ([⟨g, 10, (List.map Entry.row l), none⟩] : Heap)) = (eX, FX, HX)) : LoopTo (codeQ Try.prog (X sE_ann) (loopOf Try.f133 4)) (some [0, 1, 2, 3, 4, 18, 19, 20, 21, 22]) (some [0, 1, 2, 3, 4, 18, 19, 20]) (mkF 220 [(0, (AV.osl 0 g 10 0 n)), (1, (AV.int .i64 ((a : Nat) : Int))), (2, (AV.int .i64 ((p : Nat) : Int))), (3, (AV.int .i64 ((b : Nat) : Int))), (4, (AV.func f xs)), (18, (AV.int .i64 ((mid : Nat) : Int))), (19, (AV.int .i64 ((nn : Nat) : Int))), (20, (AV.int .i64 ((lo : Nat) : Int))), (21, (AV.int .i64 ((hi : Nat) : Int))), (22, (AV.int .i64 ((q : Nat) : Int)))]) ([⟨g, 10, (List.map Entry.row l), none⟩] : Heap) eX FX HX := by
  refine LoopTo.step (.reg [] [] [] (.two (.reg [(2, ((AV.int .i64 ((lo + hi : Nat) : Int)), ([⟨g, 10, (List.map Entry.row l), none⟩] : Heap))), (5, ((AV.int .i64 ((((lo + hi) / 2) : Nat) : Int)), ([⟨g, 10, (List.map Entry.row l), none⟩] : Heap)))] [] [] (.reg [(4, ((AV.int .i64 ((q - ((lo + hi) / 2) : Nat) : Int)), ([⟨g, 10, (List.map Entry.row l), none⟩] : Heap))), (5, ((AV.obj 0 g (q - ((lo + hi) / 2)) 0), ([⟨g, 10, (List.map Entry.row l), none⟩] : Heap))), (6, ((AV.agg (Entry.row (nth l (q - ((lo + hi) / 2))))), ([⟨g, 10, (List.map Entry.row l), none⟩] : Heap))), (9, ((AV.obj 0 g ((lo + hi) / 2) 0), ([⟨g, 10, (List.map Entry.row l), none⟩] : Heap))), (10, ((AV.agg (Entry.row (nth l ((lo + hi) / 2)))), ([⟨g, 10, (List.map Entry.row l), none⟩] : Heap))), (11, ((AV.int .i64 (cmp (nth l (q - ((lo + hi) / 2))) (nth l ((lo + hi) / 2)))), ([⟨g, 10, (List.map Entry.row l), none⟩] : Heap)))] [] [] (.two (.reg [(1, ((AV.int .i64 ((((lo + hi) / 2) + 1 : Nat) : Int)), ([⟨g, 10, (List.map Entry.row l), none⟩] : Heap)))] [] [] .nil) (.reg [] [] [] .nil)))) .nil)) ?_
  refine Eq.mp (by kernel_rfl : (cond (decide (((lo : Nat) : Int) < ((hi : Nat) : Int))) ((Yes (.int .i64 (IntKind.i64.wrap (((lo : Nat) : Int) + ((hi : Nat) : Int)))) ([⟨g, 10, (List.map Entry.row l), none⟩] : Heap) (AV.int .i64 ((lo + hi : Nat) : Int))) ∧ (Yes (AV.int .i64 (IntKind.i64.wrap (Int.fdiv (IntKind.u64.wrap ((lo + hi : Nat) : Int)) (2 ^ (min (Int.toNat 1) 64))))) ([⟨g, 10, (List.map Entry.row l), none⟩] : Heap) (AV.int .i64 ((((lo + hi) / 2) : Nat) : Int))) ∧ (Yes (.int .i64 (IntKind.i64.wrap (((q : Nat) : Int) - ((((lo + hi) / 2) : Nat) : Int)))) ([⟨g, 10, (List.map Entry.row l), none⟩] : Heap) (AV.int .i64 ((q - ((lo + hi) / 2) : Nat) : Int))) ∧ (IdxOsl 0 g 10 10 0 n ((q - ((lo + hi) / 2) : Nat) : Int) ([⟨g, 10, (List.map Entry.row l), none⟩] : Heap) (q - ((lo + hi) / 2))) ∧ (LoadTo tt 42 0 ([⟨g, 10, (List.map Entry.row l), none⟩] : Heap) (rowAt ([⟨g, 10, (List.map Entry.row l), none⟩] : Heap) 0 g (q - ((lo + hi) / 2))) = some ((AV.agg (Entry.row (nth l (q - ((lo + hi) / 2))))), ([⟨g, 10, (List.map Entry.row l), none⟩] : Heap))) ∧ (IdxOsl 0 g 10 10 0 n ((((lo + hi) / 2) : Nat) : Int) ([⟨g, 10, (List.map Entry.row l), none⟩] : Heap) ((lo + hi) / 2)) ∧ (LoadTo tt 42 0 ([⟨g, 10, (List.map Entry.row l), none⟩] : Heap) (rowAt ([⟨g, 10, (List.map Entry.row l), none⟩] : Heap) 0 g ((lo + hi) / 2)) = some ((AV.agg (Entry.row (nth l ((lo + hi) / 2)))), ([⟨g, 10, (List.map Entry.row l), none⟩] : Heap))) ∧ (ACalls Try.prog f ([(AV.agg (Entry.row (nth l (q - ((lo + hi) / 2))))), (AV.agg (Entry.row (nth l ((lo + hi) / 2))))] ++ xs) ([⟨g, 10, (List.map Entry.row l), none⟩] : Heap) ((AV.int .i64 (cmp (nth l (q - ((lo + hi) / 2))) (nth l ((lo + hi) / 2)))), ([⟨g, 10, (List.map Entry.row l), none⟩] : Heap))) ∧ cond (!(decide ((cmp (nth l (q - ((lo + hi) / 2))) (nth l ((lo + hi) / 2))) < 0))) ((Yes (.int .i64 (IntKind.i64.wrap (((((lo + hi) / 2) : Nat) : Int) + 1))) ([⟨g, 10, (List.map Entry.row l), none⟩] : Heap) (AV.int .i64 ((((lo + hi) / 2) + 1 : Nat) : Int))) ∧ LoopTo (codeQ Try.prog (X sE_ann) (loopOf Try.f133 4)) (some [0, 1, 2, 3, 4, 18, 19, 20, 21, 22]) (some [0, 1, 2, 3, 4, 18, 19, 20]) (mkF 220 [(0, (AV.osl 0 g 10 0 n)), (1, (AV.int .i64 ((a : Nat) : Int))), (2, (AV.int .i64 ((p : Nat) : Int))), (3, (AV.int .i64 ((b : Nat) : Int))), (4, (AV.func f xs)), (18, (AV.int .i64 ((mid : Nat) : Int))), (19, (AV.int .i64 ((nn : Nat) : Int))), (20, (AV.int .i64 ((((lo + hi) / 2) + 1 : Nat) : Int))), (21, (AV.int .i64 ((hi : Nat) : Int))), (22, (AV.int .i64 ((q : Nat) : Int)))]) ([⟨g, 10, (List.map Entry.row l), none⟩] : Heap) eX FX HX) (LoopTo (codeQ Try.prog (X sE_ann) (loopOf Try.f133 4)) (some [0, 1, 2, 3, 4, 18, 19, 20, 21, 22]) (some [0, 1, 2, 3, 4, 18, 19, 20]) (mkF 220 [(0, (AV.osl 0 g 10 0 n)), (1, (AV.int .i64 ((a : Nat) : Int))), (2, (AV.int .i64 ((p : Nat) : Int))), (3, (AV.int .i64 ((b : Nat) : Int))), (4, (AV.func f xs)), (18, (AV.int .i64 ((mid : Nat) : Int))), (19, (AV.int .i64 ((nn : Nat) : Int))), (20, (AV.int .i64 ((lo : Nat) : Int))), (21, (AV.int .i64 ((((lo + hi) / 2) : Nat) : Int))), (22, (AV.int .i64 ((q : Nat) : Int)))]) ([⟨g, 10, (List.map Entry.row l), none⟩] : Heap) eX FX HX)) (((.exit 8 : Ex), (mkF 220 [(0, (AV.osl 0 g 10 0 n)), (1, (AV.int .i64 ((a : Nat) : Int))), (2, (AV.int .i64 ((p : Nat) : Int))), (3, (AV.int .i64 ((b : Nat) : Int))), (4, (AV.func f xs)), (18, (AV.int .i64 ((mid : Nat) : Int))), (19, (AV.int .i64 ((nn : Nat) : Int))), (20, (AV.int .i64 ((lo : Nat) : Int)))]), ([⟨g, 10, (List.map Entry.row l), none⟩] : Heap)) = (eX, FX, HX))) = _) ?_
  refine cond_split (fun h1 => ?_) (fun h1 => ?_)
  · have h1' := h1
    try simp at h1'
    refine And.intro (Yes.add (by omega) (by omega) (by omega)) ?_
    refine And.intro (Yes.int (half_nat (by omega) (rfl))) ?_
    refine And.intro (Yes.add (by omega) (by omega) (by omega)) ?_
    refine And.intro (IdxOsl.mk _ (by omega) (by omega)) ?_
    refine And.intro (load_row (rowAt_map (row := Entry.row) (l := l) (k := 10) (room := none) (by kernel_rfl) (by first | omega | (simp; done) | (simp; omega))) (by kernel_rfl)) ?_
    refine And.intro (IdxOsl.mk _ (by omega) (by omega)) ?_
    refine And.intro (load_row (rowAt_map (row := Entry.row) (l := l) (k := 10) (room := none) (by kernel_rfl) (by first | omega | (simp; done) | (simp; omega))) (by kernel_rfl)) ?_
    refine And.intro (hc (nth l (q - ((lo + hi) / 2))) (nth l ((lo + hi) / 2)) _) ?_
    refine cond_split (fun h2 => ?_) (fun h2 => ?_)
    · have h2' := h2
      try simp at h2'
      refine And.intro (Yes.add (by omega) (by omega) (by omega)) ?_
      exact k1 h1 h2
    · have h2' := h2
      try simp at h2'
      exact k2 h1 h2
  · have h1' := h1
    try simp at h1'
    exact k3 h1
theorem sEc_loop (cmp : Entry → Entry → Int) (f : Nat) (xs : List AV) (hc : ∀ (x y : Entry) (H : Heap), ACalls Try.prog f ([AV.agg (Entry.row x), AV.agg (Entry.row y)] ++ xs) H (AV.int .i64 (cmp x y), H)) (a p b mid nn q n g : Nat) (l : List Entry) (hn : n = l.length) (hnb : n < 1048576) (r : Nat) : ∀ (lo hi : Nat), hi - lo ≤ r → lo ≤ hi → hi ≤ n ∧ hi ≤ q + 1 ∧ q < n + lo →
    LoopTo (codeQ Try.prog (X sE_ann) (loopOf Try.f133 4)) (some [0, 1, 2, 3, 4, 18, 19, 20, 21, 22]) (some [0, 1, 2, 3, 4, 18, 19, 20]) (mkF 220 [(0, (AV.osl 0 g 10 0 n)), (1, (AV.int .i64 ((a : Nat) : Int))), (2, (AV.int .i64 ((p : Nat) : Int))), (3, (AV.int .i64 ((b : Nat) : Int))), (4, (AV.func f xs)), (18, (AV.int .i64 ((mid : Nat) : Int))), (19, (AV.int .i64 ((nn : Nat) : Int))), (20, (AV.int .i64 ((lo : Nat) : Int))), (21, (AV.int .i64 ((hi : Nat) : Int))), (22, (AV.int .i64 ((q : Nat) : Int)))]) ([⟨g, 10, (List.map Entry.row l), none⟩] : Heap) (.exit 8) (mkF 220 [(0, (AV.osl 0 g 10 0 n)), (1, (AV.int .i64 ((a : Nat) : Int))), (2, (AV.int .i64 ((p : Nat) : Int))), (3, (AV.int .i64 ((b : Nat) : Int))), (4, (AV.func f xs)), (18, (AV.int .i64 ((mid : Nat) : Int))), (19, (AV.int .i64 ((nn : Nat) : Int))), (20, (AV.int .i64 (((bsr (fun c => !decide (cmp (nth l (q - c)) (nth l c) < 0)) r lo hi) : Nat) : Int)))]) ([⟨g, 10, (List.map Entry.row l), none⟩] : Heap) := by
  induction r with
  | zero =>
    intro lo hi h1 h2 h3
    obtain rfl : lo = hi := by omega
    refine sEc_step cmp f xs hc a p b mid nn q n g l lo lo hn hnb h2 h3 (fun h _ => by simp at h) (fun h _ => by simp at h) (fun _ => ?_)
    simp only [bsr]
  | succ r ih =>
    intro lo hi h1 h2 h3
    refine sEc_step cmp f xs hc a p b mid nn q n g l lo hi hn hnb h2 h3 (fun h4 h5 => ?_) (fun h4 h5 => ?_) (fun h4 => ?_)
    · have h4' : lo < hi := by simp at h4; omega
      simp only [bsr, if_pos h4']
      rw [if_pos (by simpa using h5)]
      exact ih ((lo + hi) / 2 + 1) hi (by omega) (by omega) (by omega)
    · have h4' : lo < hi := by simp at h4; omega
      simp only [bsr, if_pos h4']
      rw [if_neg (by simpa using h5)]
      exact ih lo ((lo + hi) / 2) (by omega) (by omega) (by omega)
    · have h4' : ¬ lo < hi := by simp at h4; omega
      simp only [bsr, if_neg h4']
set_option maxRecDepth 100000 in
theorem sEu_step (i : Nat) (n : Nat) (g : Nat) (l : List Entry) (kk : Nat) (hi1 : 1 ≤ i) (hin : i ≤ n) (hnb : n < 1048576) (hn : n = l.length) (hle_ : kk ≤ (i - 1)) {eX : Ex} {FX : Fr} {HX : Heap} (k1 : (decide (((kk : Nat) : Int) < ((i - 1 : Nat) : Int))) = true → LoopTo (codeQ Try.prog (X sE_ann) (loopOf Try.f133 1)) (some [0, 10, 13]) (some [0, 10, 13]) (mkF 220 [(0, (AV.osl 0 g 10 0 n)), (10, (AV.int .i64 ((i : Nat) : Int))), (13, (AV.int .i64 ((kk + 1 : Nat) : Int)))]) ([⟨g, 10, (List.map Entry.row ((l.set kk (nth l (kk + 1))).set (kk + 1) (nth l kk))), none⟩] : Heap) eX FX HX) (k2 : (decide (((kk : Nat) : Int) < ((i - 1 : Nat) : Int))) = false → ((.exit 2 : Ex), (mkF 220 [(0, (AV.osl 0 g 10 0 n)), (10, (AV.int .i64 ((i : Nat) : Int))), (13, (AV.int .i64 ((kk : Nat) : Int)))]), ([⟨g, 10, (List.map Entry.row l), none⟩] : Heap)) = (eX, FX, HX)) : LoopTo (codeQ Try.prog (X sE_ann) (loopOf Try.f133 1)) (some [0, 10, 13]) (some [0, 10, 13]) (mkF 220 [(0, (AV.osl 0 g 10 0 n)), (10, (AV.int .i64 ((i : Nat) : Int))), (13, (AV.int .i64 ((kk : Nat) : Int)))]) ([⟨g, 10, (List.map Entry.row l), none⟩] : Heap) eX FX HX := by
  refine LoopTo.step (.reg [(2, ((AV.int .i64 ((i - 1 : Nat) : Int)), ([⟨g, 10, (List.map Entry.row l), none⟩] : Heap)))] [] [] (.two (.reg [(4, ((AV.int .i64 ((kk + 1 : Nat) : Int)), ([⟨g, 10, (List.map Entry.row l), none⟩] : Heap))), (7, ((AV.int .i64 ((kk + 1 : Nat) : Int)), ([⟨g, 10, (List.map Entry.row l), none⟩] : Heap))), (8, ((AV.obj 0 g (kk + 1) 0), ([⟨g, 10, (List.map Entry.row l), none⟩] : Heap))), (9, ((AV.agg (Entry.row (nth l (kk + 1)))), ([⟨g, 10, (List.map Entry.row l), none⟩] : Heap))), (12, ((AV.obj 0 g kk 0), ([⟨g, 10, (List.map Entry.row l), none⟩] : Heap))), (13, ((AV.agg (Entry.row (nth l kk))), ([⟨g, 10, (List.map Entry.row l), none⟩] : Heap))), (14, ((AV.obj 0 g kk 0), ([⟨g, 10, (List.map Entry.row l), none⟩] : Heap))), (15, (AV.skip, ([⟨g, 10, (List.map Entry.row (l.set kk (nth l (kk + 1)))), none⟩] : Heap))), (16, ((AV.obj 0 g (kk + 1) 0), ([⟨g, 10, (List.map Entry.row (l.set kk (nth l (kk + 1)))), none⟩] : Heap))), (17, (AV.skip, ([⟨g, 10, (List.map Entry.row ((l.set kk (nth l (kk + 1))).set (kk + 1) (nth l kk))), none⟩] : Heap)))] [] [] (.reg [(1, ((AV.int .i64 ((kk + 1 : Nat) : Int)), ([⟨g, 10, (List.map Entry.row ((l.set kk (nth l (kk + 1))).set (kk + 1) (nth l kk))), none⟩] : Heap)))] [] [] .nil)) .nil)) ?_
  refine Eq.mp (by kernel_rfl : ((Yes (.int .i64 (IntKind.i64.wrap (((i : Nat) : Int) - 1))) ([⟨g, 10, (List.map Entry.row l), none⟩] : Heap) (AV.int .i64 ((i - 1 : Nat) : Int))) ∧ cond (decide (((kk : Nat) : Int) < ((i - 1 : Nat) : Int))) ((Yes (.int .i64 (IntKind.i64.wrap (((kk : Nat) : Int) + 1))) ([⟨g, 10, (List.map Entry.row l), none⟩] : Heap) (AV.int .i64 ((kk + 1 : Nat) : Int))) ∧ (Yes (.int .i64 (IntKind.i64.wrap (((kk : Nat) : Int) + 1))) ([⟨g, 10, (List.map Entry.row l), none⟩] : Heap) (AV.int .i64 ((kk + 1 : Nat) : Int))) ∧ (IdxOsl 0 g 10 10 0 n ((kk + 1 : Nat) : Int) ([⟨g, 10, (List.map Entry.row l), none⟩] : Heap) (kk + 1)) ∧ (LoadTo tt 42 0 ([⟨g, 10, (List.map Entry.row l), none⟩] : Heap) (rowAt ([⟨g, 10, (List.map Entry.row l), none⟩] : Heap) 0 g (kk + 1)) = some ((AV.agg (Entry.row (nth l (kk + 1)))), ([⟨g, 10, (List.map Entry.row l), none⟩] : Heap))) ∧ (IdxOsl 0 g 10 10 0 n ((kk : Nat) : Int) ([⟨g, 10, (List.map Entry.row l), none⟩] : Heap) kk) ∧ (LoadTo tt 42 0 ([⟨g, 10, (List.map Entry.row l), none⟩] : Heap) (rowAt ([⟨g, 10, (List.map Entry.row l), none⟩] : Heap) 0 g kk) = some ((AV.agg (Entry.row (nth l kk))), ([⟨g, 10, (List.map Entry.row l), none⟩] : Heap))) ∧ (IdxOsl 0 g 10 10 0 n ((kk : Nat) : Int) ([⟨g, 10, (List.map Entry.row l), none⟩] : Heap) kk) ∧ (StoreTo ([⟨g, 10, (List.map Entry.row l), none⟩] : Heap) 0 kk 10 0 (rowAt ([⟨g, 10, (List.map Entry.row l), none⟩] : Heap) 0 g kk) (AV.fit (AV.agg (Entry.row (nth l (kk + 1)))) 10) = some (AV.skip, ([⟨g, 10, (List.map Entry.row (l.set kk (nth l (kk + 1)))), none⟩] : Heap))) ∧ (IdxOsl 0 g 10 10 0 n ((kk + 1 : Nat) : Int) ([⟨g, 10, (List.map Entry.row (l.set kk (nth l (kk + 1)))), none⟩] : Heap) (kk + 1)) ∧ (StoreTo ([⟨g, 10, (List.map Entry.row (l.set kk (nth l (kk + 1)))), none⟩] : Heap) 0 (kk + 1) 10 0 (rowAt ([⟨g, 10, (List.map Entry.row (l.set kk (nth l (kk + 1)))), none⟩] : Heap) 0 g (kk + 1)) (AV.fit (AV.agg (Entry.row (nth l kk))) 10) = some (AV.skip, ([⟨g, 10, (List.map Entry.row ((l.set kk (nth l (kk + 1))).set (kk + 1) (nth l kk))), none⟩] : Heap))) ∧ (Yes (.int .i64 (IntKind.i64.wrap (((kk : Nat) : Int) + 1))) ([⟨g, 10, (List.map Entry.row ((l.set kk (nth l (kk + 1))).set (kk + 1) (nth l kk))), none⟩] : Heap) (AV.int .i64 ((kk + 1 : Nat) : Int))) ∧ LoopTo (codeQ Try.prog (X sE_ann) (loopOf Try.f133 1)) (some [0, 10, 13]) (some [0, 10, 13]) (mkF 220 [(0, (AV.osl 0 g 10 0 n)), (10, (AV.int .i64 ((i : Nat) : Int))), (13, (AV.int .i64 ((kk + 1 : Nat) : Int)))]) ([⟨g, 10, (List.map Entry.row ((l.set kk (nth l (kk + 1))).set (kk + 1) (nth l kk))), none⟩] : Heap) eX FX HX) (((.exit 2 : Ex), (mkF 220 [(0, (AV.osl 0 g 10 0 n)), (10, (AV.int .i64 ((i : Nat) : Int))), (13, (AV.int .i64 ((kk : Nat) : Int)))]), ([⟨g, 10, (List.map Entry.row l), none⟩] : Heap)) = (eX, FX, HX))) = _) ?_
  refine And.intro (Yes.add (by omega) (by omega) (by omega)) ?_
  refine cond_split (fun h1 => ?_) (fun h1 => ?_)
  · have h1' := h1
    try simp at h1'
    refine And.intro (Yes.add (by omega) (by omega) (by omega)) ?_
    refine And.intro (Yes.add (by omega) (by omega) (by omega)) ?_
    refine And.intro (IdxOsl.mk _ (by omega) (by omega)) ?_
    refine And.intro (load_row (rowAt_map (row := Entry.row) (l := l) (k := 10) (room := none) (by kernel_rfl) (by first | omega | (simp; done) | (simp; omega))) (by kernel_rfl)) ?_
    refine And.intro (IdxOsl.mk _ (by omega) (by omega)) ?_
    refine And.intro (load_row (rowAt_map (row := Entry.row) (l := l) (k := 10) (room := none) (by kernel_rfl) (by first | omega | (simp; done) | (simp; omega))) (by kernel_rfl)) ?_
    refine And.intro (IdxOsl.mk _ (by omega) (by omega)) ?_
    refine And.intro (store_row (us := (Entry.row (nth l (kk + 1)))) (rowAt_map (row := Entry.row) (l := l) (k := 10) (room := none) (by kernel_rfl) (by first | omega | (simp; done) | (simp; omega))) (by kernel_rfl) (by simp [Entry.row]) (by simp [setAt, fillAt, List.map_set, Entry.row])) ?_
    refine And.intro (IdxOsl.mk _ (by omega) (by omega)) ?_
    refine And.intro (store_row (us := (Entry.row (nth l kk))) (rowAt_map (row := Entry.row) (l := l.set kk (nth l (kk + 1))) (k := 10) (room := none) (by kernel_rfl) (by first | omega | (simp; done) | (simp; omega))) (by kernel_rfl) (by simp [Entry.row]) (by simp [setAt, fillAt, List.map_set, Entry.row])) ?_
    refine And.intro (Yes.add (by omega) (by omega) (by omega)) ?_
    exact k1 h1
  · have h1' := h1
    try simp at h1'
    exact k2 h1
def sEu_f (i : Nat) (n : Nat) (g : Nat) (kk : Nat) (s : (List Entry)) : (List Entry) := ((s.set kk (nth s (kk + 1))).set (kk + 1) (nth s kk))
theorem sEu_loop (i : Nat) (n : Nat) (g : Nat) (hi1 : 1 ≤ i) (hin : i ≤ n) (hnb : n < 1048576)  (r_ : Nat) : ∀ (l : List Entry) (kk : Nat) (sF : (List Entry)), kk + r_ = (i - 1) → n = l.length → sF = iter (sEu_f i n g) r_ kk (l) →
    LoopTo (codeQ Try.prog (X sE_ann) (loopOf Try.f133 1)) (some [0, 10, 13]) (some [0, 10, 13]) (mkF 220 [(0, (AV.osl 0 g 10 0 n)), (10, (AV.int .i64 ((i : Nat) : Int))), (13, (AV.int .i64 ((kk : Nat) : Int)))]) ([⟨g, 10, (List.map Entry.row l), none⟩] : Heap) (.exit 2) (mkF 220 [(0, (AV.osl 0 g 10 0 n)), (10, (AV.int .i64 ((i : Nat) : Int))), (13, (AV.int .i64 (((i - 1) : Nat) : Int)))]) ([⟨g, 10, (List.map Entry.row sF), none⟩] : Heap) := by
  induction r_ with
  | zero =>
    intro l kk sF hi_ hn  hF
    obtain rfl : (i - 1) = kk := by omega
    have e_ : sF = (l) := hF
    refine sEu_step i n g l (i - 1) hi1 hin hnb hn (Nat.le_refl _) (fun h => by simp at h <;> omega) (fun _ => ?_)
    first | done | rfl | (rw [e_]; done) | (rw [e_]; rfl)
  | succ r_ ih =>
    intro l kk sF hi_ hn  hF
    refine sEu_step i n g l kk hi1 hin hnb hn (by omega) (fun h1 => ?_) (fun h => by simp at h <;> omega)
    · exact ih ((l.set kk (nth l (kk + 1))).set (kk + 1) (nth l kk)) (kk + 1) sF (by omega) (by first | omega | assumption | (simp; done) | (simp; omega) | (simp [*]; done) | (simp [*]; omega))  (by rw [hF] <;> simp only [iter, sEu_f, if_true, Bool.false_eq_true, if_false])
theorem sEu_iter (i n g r k : Nat) (l : List Entry) : shU r k l = iter (sEu_f i n g) r k l := rfl
set_option maxRecDepth 100000 in
theorem sEd_step (i kk n g : Nat) (l : List Entry) (hn : n = l.length) (hnb : n < 1048576) (hk : kk < n) {eX : Ex} {FX : Fr} {HX : Heap} (k1 : (decide (((kk : Nat) : Int) > ((i : Nat) : Int))) = true → LoopTo (codeQ Try.prog (X sE_ann) (loopOf Try.f133 3)) (some [0, 14, 17]) (some [0, 14, 17]) (mkF 220 [(0, (AV.osl 0 g 10 0 n)), (14, (AV.int .i64 ((i : Nat) : Int))), (17, (AV.int .i64 ((kk - 1 : Nat) : Int)))]) ([⟨g, 10, (List.map Entry.row ((l.set kk (nth l (kk - 1))).set (kk - 1) (nth l kk))), none⟩] : Heap) eX FX HX) (k2 : (decide (((kk : Nat) : Int) > ((i : Nat) : Int))) = false → ((.exit 6 : Ex), (mkF 220 [(0, (AV.osl 0 g 10 0 n)), (14, (AV.int .i64 ((i : Nat) : Int))), (17, (AV.int .i64 ((kk : Nat) : Int)))]), ([⟨g, 10, (List.map Entry.row l), none⟩] : Heap)) = (eX, FX, HX)) : LoopTo (codeQ Try.prog (X sE_ann) (loopOf Try.f133 3)) (some [0, 14, 17]) (some [0, 14, 17]) (mkF 220 [(0, (AV.osl 0 g 10 0 n)), (14, (AV.int .i64 ((i : Nat) : Int))), (17, (AV.int .i64 ((kk : Nat) : Int)))]) ([⟨g, 10, (List.map Entry.row l), none⟩] : Heap) eX FX HX := by
  refine LoopTo.step (.reg [] [] [] (.two (.reg [(4, ((AV.int .i64 ((kk - 1 : Nat) : Int)), ([⟨g, 10, (List.map Entry.row l), none⟩] : Heap))), (7, ((AV.int .i64 ((kk - 1 : Nat) : Int)), ([⟨g, 10, (List.map Entry.row l), none⟩] : Heap))), (8, ((AV.obj 0 g (kk - 1) 0), ([⟨g, 10, (List.map Entry.row l), none⟩] : Heap))), (9, ((AV.agg (Entry.row (nth l (kk - 1)))), ([⟨g, 10, (List.map Entry.row l), none⟩] : Heap))), (12, ((AV.obj 0 g kk 0), ([⟨g, 10, (List.map Entry.row l), none⟩] : Heap))), (13, ((AV.agg (Entry.row (nth l kk))), ([⟨g, 10, (List.map Entry.row l), none⟩] : Heap))), (14, ((AV.obj 0 g kk 0), ([⟨g, 10, (List.map Entry.row l), none⟩] : Heap))), (15, (AV.skip, ([⟨g, 10, (List.map Entry.row (l.set kk (nth l (kk - 1)))), none⟩] : Heap))), (16, ((AV.obj 0 g (kk - 1) 0), ([⟨g, 10, (List.map Entry.row (l.set kk (nth l (kk - 1)))), none⟩] : Heap))), (17, (AV.skip, ([⟨g, 10, (List.map Entry.row ((l.set kk (nth l (kk - 1))).set (kk - 1) (nth l kk))), none⟩] : Heap)))] [] [] (.reg [(1, ((AV.int .i64 ((kk - 1 : Nat) : Int)), ([⟨g, 10, (List.map Entry.row ((l.set kk (nth l (kk - 1))).set (kk - 1) (nth l kk))), none⟩] : Heap)))] [] [] .nil)) .nil)) ?_
  refine Eq.mp (by kernel_rfl : (cond (decide (((kk : Nat) : Int) > ((i : Nat) : Int))) ((Yes (.int .i64 (IntKind.i64.wrap (((kk : Nat) : Int) - 1))) ([⟨g, 10, (List.map Entry.row l), none⟩] : Heap) (AV.int .i64 ((kk - 1 : Nat) : Int))) ∧ (Yes (.int .i64 (IntKind.i64.wrap (((kk : Nat) : Int) - 1))) ([⟨g, 10, (List.map Entry.row l), none⟩] : Heap) (AV.int .i64 ((kk - 1 : Nat) : Int))) ∧ (IdxOsl 0 g 10 10 0 n ((kk - 1 : Nat) : Int) ([⟨g, 10, (List.map Entry.row l), none⟩] : Heap) (kk - 1)) ∧ (LoadTo tt 42 0 ([⟨g, 10, (List.map Entry.row l), none⟩] : Heap) (rowAt ([⟨g, 10, (List.map Entry.row l), none⟩] : Heap) 0 g (kk - 1)) = some ((AV.agg (Entry.row (nth l (kk - 1)))), ([⟨g, 10, (List.map Entry.row l), none⟩] : Heap))) ∧ (IdxOsl 0 g 10 10 0 n ((kk : Nat) : Int) ([⟨g, 10, (List.map Entry.row l), none⟩] : Heap) kk) ∧ (LoadTo tt 42 0 ([⟨g, 10, (List.map Entry.row l), none⟩] : Heap) (rowAt ([⟨g, 10, (List.map Entry.row l), none⟩] : Heap) 0 g kk) = some ((AV.agg (Entry.row (nth l kk))), ([⟨g, 10, (List.map Entry.row l), none⟩] : Heap))) ∧ (IdxOsl 0 g 10 10 0 n ((kk : Nat) : Int) ([⟨g, 10, (List.map Entry.row l), none⟩] : Heap) kk) ∧ (StoreTo ([⟨g, 10, (List.map Entry.row l), none⟩] : Heap) 0 kk 10 0 (rowAt ([⟨g, 10, (List.map Entry.row l), none⟩] : Heap) 0 g kk) (AV.fit (AV.agg (Entry.row (nth l (kk - 1)))) 10) = some (AV.skip, ([⟨g, 10, (List.map Entry.row (l.set kk (nth l (kk - 1)))), none⟩] : Heap))) ∧ (IdxOsl 0 g 10 10 0 n ((kk - 1 : Nat) : Int) ([⟨g, 10, (List.map Entry.row (l.set kk (nth l (kk - 1)))), none⟩] : Heap) (kk - 1)) ∧ (StoreTo ([⟨g, 10, (List.map Entry.row (l.set kk (nth l (kk - 1)))), none⟩] : Heap) 0 (kk - 1) 10 0 (rowAt ([⟨g, 10, (List.map Entry.row (l.set kk (nth l (kk - 1)))), none⟩] : Heap) 0 g (kk - 1)) (AV.fit (AV.agg (Entry.row (nth l kk))) 10) = some (AV.skip, ([⟨g, 10, (List.map Entry.row ((l.set kk (nth l (kk - 1))).set (kk - 1) (nth l kk))), none⟩] : Heap))) ∧ (Yes (.int .i64 (IntKind.i64.wrap (((kk : Nat) : Int) - 1))) ([⟨g, 10, (List.map Entry.row ((l.set kk (nth l (kk - 1))).set (kk - 1) (nth l kk))), none⟩] : Heap) (AV.int .i64 ((kk - 1 : Nat) : Int))) ∧ LoopTo (codeQ Try.prog (X sE_ann) (loopOf Try.f133 3)) (some [0, 14, 17]) (some [0, 14, 17]) (mkF 220 [(0, (AV.osl 0 g 10 0 n)), (14, (AV.int .i64 ((i : Nat) : Int))), (17, (AV.int .i64 ((kk - 1 : Nat) : Int)))]) ([⟨g, 10, (List.map Entry.row ((l.set kk (nth l (kk - 1))).set (kk - 1) (nth l kk))), none⟩] : Heap) eX FX HX) (((.exit 6 : Ex), (mkF 220 [(0, (AV.osl 0 g 10 0 n)), (14, (AV.int .i64 ((i : Nat) : Int))), (17, (AV.int .i64 ((kk : Nat) : Int)))]), ([⟨g, 10, (List.map Entry.row l), none⟩] : Heap)) = (eX, FX, HX))) = _) ?_
  refine cond_split (fun h1 => ?_) (fun h1 => ?_)
  · have h1' := h1
    try simp at h1'
    refine And.intro (Yes.add (by omega) (by omega) (by omega)) ?_
    refine And.intro (Yes.add (by omega) (by omega) (by omega)) ?_
    refine And.intro (IdxOsl.mk _ (by omega) (by omega)) ?_
    refine And.intro (load_row (rowAt_map (row := Entry.row) (l := l) (k := 10) (room := none) (by kernel_rfl) (by first | omega | (simp; done) | (simp; omega))) (by kernel_rfl)) ?_
    refine And.intro (IdxOsl.mk _ (by omega) (by omega)) ?_
    refine And.intro (load_row (rowAt_map (row := Entry.row) (l := l) (k := 10) (room := none) (by kernel_rfl) (by first | omega | (simp; done) | (simp; omega))) (by kernel_rfl)) ?_
    refine And.intro (IdxOsl.mk _ (by omega) (by omega)) ?_
    refine And.intro (store_row (us := (Entry.row (nth l (kk - 1)))) (rowAt_map (row := Entry.row) (l := l) (k := 10) (room := none) (by kernel_rfl) (by first | omega | (simp; done) | (simp; omega))) (by kernel_rfl) (by simp [Entry.row]) (by simp [setAt, fillAt, List.map_set, Entry.row])) ?_
    refine And.intro (IdxOsl.mk _ (by omega) (by omega)) ?_
    refine And.intro (store_row (us := (Entry.row (nth l kk))) (rowAt_map (row := Entry.row) (l := l.set kk (nth l (kk - 1))) (k := 10) (room := none) (by kernel_rfl) (by first | omega | (simp; done) | (simp; omega))) (by kernel_rfl) (by simp [Entry.row]) (by simp [setAt, fillAt, List.map_set, Entry.row])) ?_
    refine And.intro (Yes.add (by omega) (by omega) (by omega)) ?_
    exact k1 h1
  · have h1' := h1
    try simp at h1'
    exact k2 h1
theorem sEd_loop (i n g : Nat) (hnb : n < 1048576) (r : Nat) : ∀ (kk : Nat) (l : List Entry), kk = i + r → n = l.length → kk < n →
    LoopTo (codeQ Try.prog (X sE_ann) (loopOf Try.f133 3)) (some [0, 14, 17]) (some [0, 14, 17]) (mkF 220 [(0, (AV.osl 0 g 10 0 n)), (14, (AV.int .i64 ((i : Nat) : Int))), (17, (AV.int .i64 ((kk : Nat) : Int)))]) ([⟨g, 10, (List.map Entry.row l), none⟩] : Heap) (.exit 6) (mkF 220 [(0, (AV.osl 0 g 10 0 n)), (14, (AV.int .i64 ((i : Nat) : Int))), (17, (AV.int .i64 ((i : Nat) : Int)))]) ([⟨g, 10, (List.map Entry.row (shD r kk l)), none⟩] : Heap) := by
  induction r with
  | zero =>
    intro kk l h1 hn hk
    obtain rfl : kk = i := by omega
    exact sEd_step kk kk n g l hn hnb hk (fun h => by simp at h) (fun _ => rfl)
  | succ r ih =>
    intro kk l h1 hn hk
    refine sEd_step i kk n g l hn hnb hk (fun _ => ?_) (fun h => by simp at h; omega)
    simp only [shD]
    exact ih (kk - 1) _ (by omega) (by simpa using hn) (by omega)
end Go.Proofs.Ytpkgpldgoajphaa.AM

set_option linter.unusedVariables false
set_option linter.unusedSimpArgs false
set_option linter.unusedSectionVars false
namespace Go.Proofs.Ytpkgpldgoajphaa.AM
open Go

section
variable {α : Type} [Inhabited α]
theorem swap1 (X : List α) (x y : α) (Z : List α) {k : Nat} (hk : k = X.length) : ((X ++ x :: y :: Z).set k (nth (X ++ x :: y :: Z) (k + 1))).set (k + 1) (nth (X ++ x :: y :: Z) k) = X ++ y :: x :: Z := by
  have := swapL_parts X [x] [] [y] Z (a := k) (b := k + 1) (n := 1) hk rfl rfl (by simp; omega)
  simpa [swapL, iter] using this
theorem shU_parts (x : α) (R : List α) : ∀ (X Y : List α) (k : Nat), k = X.length → shU R.length k (X ++ x :: (R ++ Y)) = X ++ (R ++ x :: Y) := by
  induction R with
  | nil => intro X Y k hk; rfl
  | cons y R ih =>
    intro X Y k hk
    have h1 : shU (y :: R).length k (X ++ x :: ((y :: R) ++ Y)) = shU R.length (k + 1) (((X ++ x :: y :: (R ++ Y)).set k (nth (X ++ x :: y :: (R ++ Y)) (k + 1))).set (k + 1) (nth (X ++ x :: y :: (R ++ Y)) k)) := rfl
    rw [h1, swap1 X x y (R ++ Y) hk]
    have := ih (X ++ [y]) Y (k + 1) (by simp [hk])
    simpa using this
theorem shD_parts (y : α) (r : Nat) : ∀ (X L Y : List α) (k : Nat), L.length = r → k = X.length + r → shD r k (X ++ (L ++ y :: Y)) = X ++ y :: (L ++ Y) := by
  induction r with
  | zero =>
    intro X L Y k hL hk
    obtain rfl : L = [] := List.eq_nil_of_length_eq_zero hL
    rfl
  | succ r ih =>
    intro X L Y k hL hk
    rcases List.eq_nil_or_concat L with rfl | ⟨L', z, rfl⟩
    · simp at hL
    · rw [List.concat_eq_append] at *
      have hL' : L'.length = r := by simpa using hL
      simp only [shD]
      have e0 : X ++ ((L' ++ [z]) ++ y :: Y) = (X ++ L') ++ z :: y :: Y := by simp
      obtain ⟨k', rfl⟩ : ∃ k', k = k' + 1 := ⟨k - 1, by omega⟩
      rw [e0, Nat.add_sub_cancel, List.set_comm _ _ (by omega), swap1 (X ++ L') z y Y (k := k') (by simp; omega)]
      have := ih X L' (z :: Y) k' hL' (by omega)
      simpa using this
theorem piece (A L Z : List α) {a k : Nat} (ha : a = A.length) (hk : k = L.length) : ((A ++ (L ++ Z)).drop a).take k = L := by
  subst ha hk
  rw [List.drop_append_of_le_length (Nat.le_refl _), List.drop_length, List.nil_append, List.take_append_of_le_length (Nat.le_refl _), List.take_length]
theorem mAt_parts (lt : α → α → Bool) (A L R B : List α) {a m b : Nat} (ha : a = A.length) (hm : m = A.length + L.length) (hb : b = A.length + L.length + R.length) : mAt lt a m b (A ++ (L ++ (R ++ B))) = A ++ (mg lt L R ++ B) := by
  unfold mAt
  have h1 : (A ++ (L ++ (R ++ B))).take a = A := by subst ha; rw [List.take_append_of_le_length (Nat.le_refl _), List.take_length]
  have h2 : ((A ++ (L ++ (R ++ B))).drop a).take (m - a) = L := piece A L (R ++ B) ha (by omega)
  have h3 : ((A ++ (L ++ (R ++ B))).drop m).take (b - m) = R := by
    have := piece (A ++ L) R B (a := m) (k := b - m) (by simp; omega) (by omega)
    simpa using this
  have h4 : (A ++ (L ++ (R ++ B))).drop b = B := by
    have e : A ++ (L ++ (R ++ B)) = (A ++ (L ++ R)) ++ B := by simp
    rw [e, List.drop_append_of_le_length (by simp; omega), List.drop_of_length_le (by simp; omega), List.nil_append]
  rw [h1, h2, h3, h4]
theorem sm1 (A L1 L2 R1 R2 B : List α) {l : List α} (hl : l = A ++ (L1 ++ (L2 ++ (R1 ++ (R2 ++ B))))) {s m e : Nat} (hs : s = A.length + L1.length) (hm : m = s + L2.length) (he : e = m + R1.length) :
    (if s < m ∧ m < e then rotL s m e l else l) = A ++ (L1 ++ (R1 ++ (L2 ++ (R2 ++ B)))) := by
  subst hl
  split
  · rename_i h
    have := rotL_parts (A ++ L1) L2 R1 (R2 ++ B) (a := s) (m := m) (b := e) (by simp; omega) (by simp; omega) (by simp; omega) (by omega) (by omega)
    simpa using this
  · rename_i h
    rcases Nat.eq_zero_or_pos L2.length with h1 | h1
    · obtain rfl : L2 = [] := List.eq_nil_of_length_eq_zero h1
      rfl
    · obtain rfl : R1 = [] := List.eq_nil_of_length_eq_zero (by omega)
      rfl
theorem sm2 (lt : α → α → Bool) (A L1 R1 Z : List α) {a s mid : Nat} (ha : a = A.length) (hs : s = a + L1.length) (hmid : mid = s + R1.length) :
    (if a < s ∧ s < mid then mAt lt a s mid (A ++ (L1 ++ (R1 ++ Z))) else A ++ (L1 ++ (R1 ++ Z))) = A ++ (mg lt L1 R1 ++ Z) := by
  split
  · exact mAt_parts lt A L1 R1 Z ha (by omega) (by omega)
  · rename_i h
    rcases Nat.eq_zero_or_pos L1.length with h1 | h1
    · obtain rfl : L1 = [] := List.eq_nil_of_length_eq_zero h1
      rw [mg_nil_l]; rfl
    · obtain rfl : R1 = [] := List.eq_nil_of_length_eq_zero (by omega)
      rw [mg_nil_r]; rfl
theorem sm3 (lt : α → α → Bool) (A M L2 R2 B : List α) {mid e b : Nat} (hm : mid = A.length + M.length) (he : e = mid + L2.length) (hb : b = e + R2.length) :
    (if mid < e ∧ e < b then mAt lt mid e b (A ++ (M ++ (L2 ++ (R2 ++ B)))) else A ++ (M ++ (L2 ++ (R2 ++ B)))) = A ++ (M ++ (mg lt L2 R2 ++ B)) := by
  have := sm2 lt (A ++ M) L2 R2 B (a := mid) (s := e) (mid := b) (by simp; omega) he hb
  simpa using this
theorem rot_facts (X U V Y : List α) {l : List α} (hl : l = X ++ (U ++ (V ++ Y))) {a m b : Nat} (ha : a = X.length) (hm : m = a + U.length) (hb : b = m + V.length) (h1 : 0 < U.length) (h2 : 0 < V.length) :
    (rotS m (m - a + (b - m)) (m - a) (b - m) l).1.length = l.length ∧ (rotS m (m - a + (b - m)) (m - a) (b - m) l).2 ≤ m - a ∧ (rotS m (m - a + (b - m)) (m - a) (b - m) l).2 ≤ b - m := by
  have e1 : m - a = U.length := by omega
  have e2 : b - m = V.length := by omega
  rw [e1, e2, hl]
  obtain ⟨_, k2, k3, k4, _⟩ := rotS_parts m _ (U.length + V.length) X U V Y U.length V.length (by omega) h1 h2 rfl rfl (by omega) rfl
  exact ⟨by rw [k4]; simp; omega, k2, k3⟩
end
end Go.Proofs.Ytpkgpldgoajphaa.AM
